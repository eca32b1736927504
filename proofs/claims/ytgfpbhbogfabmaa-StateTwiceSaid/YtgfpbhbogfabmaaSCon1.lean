/- A part of the proof: SCon1. -/
import Derived.Test.YtgfpbhbogfabmaaSTrees1
set_option linter.unusedVariables false
set_option linter.unusedSimpArgs false
set_option linter.unnecessarySimpa false
set_option linter.unusedSectionVars false
namespace Go.Proofs.Ytgfpbhbogfabmaa
open Go Go.Vm Go.Proofs
theorem c28 (a b c d : Int) : callE Try.prog NoPhi 28 [.agg [.int .i64 a, .int .i64 b], .agg [.int .i64 c, .int .i64 d]] = some (.int .i64 (ordP a b c d)) := by
  refine call_flat Try.f28 Try.func28 (by kernel_rfl) rfl ⟨_, e28 a b c d, ?_⟩
  simp only [TW, LcQ, true_and, Option.some.injEq, TV.int.injEq, v28, ordP]
  grind
theorem c49 (n : Int) : callE Try.prog NoPhi 49 [.int .i64 n] = some (.bool (begunS n)) := by
  refine call_flat Try.f49 Try.func49 (by kernel_rfl) rfl ⟨_, e49 n, ?_⟩
  simp only [TW, LcQ, v49, begunS]
  grind
theorem c26 (n : Int) : callE Try.prog NoPhi 26 [.int .i64 n] = some (.bool (idS n)) := by
  refine call_flat Try.f26 Try.func26 (by kernel_rfl) rfl ⟨_, e26 n, ?_⟩
  simp only [TW, LcQ, c49, idS, true_and]
  grind
theorem and_mask (m : Nat) (hm : m < 2 ^ 64) : (BitVec.ofInt 64 (m : Int) &&& BitVec.ofInt 64 1048575).toNat = m % 1048576 := by
  have h1 : BitVec.ofInt 64 (m : Int) = BitVec.ofNat 64 m := by simp
  have h2 : BitVec.ofInt 64 (1048575 : Int) = BitVec.ofNat 64 1048575 := by rfl
  rw [h1, h2, BitVec.toNat_and, BitVec.toNat_ofNat, BitVec.toNat_ofNat, Nat.mod_eq_of_lt hm]
  have := Nat.and_two_pow_sub_one_eq_mod m 20
  simpa using this
theorem idS_eq (n : Int) : idS n = (decide (1048576 < n) && decide (n < 34603008) && decide (n.tmod 1048576 ≠ 0)) := by
  unfold idS begunS
  by_cases h : 0 ≤ n ∧ n < 34603008
  · obtain ⟨m, rfl⟩ := Int.eq_ofNat_of_zero_le h.1
    rw [and_mask m (by omega), wrap64 _ (by omega) (by omega)]
    rw [Bool.eq_iff_iff]
    simp only [Bool.and_eq_true, decide_eq_true_eq, bne_iff_ne]
    have : (m : Int).tmod 1048576 = ((m % 1048576 : Nat) : Int) := by
      rw [Int.tmod_eq_emod_of_nonneg (by omega)]; rfl
    rw [this, Int.fdiv_eq_ediv_of_nonneg _ (by decide)]
    omega
  · have : (decide (1 ≤ n.fdiv (2 ^ 20)) && decide (n.fdiv (2 ^ 20) ≤ 32)) = false := by
      rw [Int.fdiv_eq_ediv_of_nonneg _ (by decide), Bool.eq_false_iff]
      simp only [ne_eq, Bool.and_eq_true, decide_eq_true_eq]
      omega
    rw [this]
    have : (decide (1048576 < n) && decide (n < 34603008)) = false := by
      rw [Bool.eq_false_iff]
      simp only [ne_eq, Bool.and_eq_true, decide_eq_true_eq]
      omega
    rw [this]; rfl
theorem c30 (n : Int) : callE Try.prog NoPhi 30 [.int .i64 n] = some (.bool (idS n)) := by
  refine call_flat Try.f30 Try.func30 (by kernel_rfl) rfl ⟨_, e30 n, ?_⟩
  simp +contextual [TW, LcQ, idS_eq]
  grind
theorem c27 (n : Int) : callE Try.prog NoPhi 27 [.int .i64 n] = some (.bool (fieldS n)) := by
  refine call_flat Try.f27 Try.func27 (by kernel_rfl) rfl ⟨_, e27 n, ?_⟩
  simp only [TW, LcQ, Option.some.injEq, TV.bool.injEq, fieldS]
  grind
theorem c31 (n : Int) : callE Try.prog NoPhi 31 [.int .i64 n] = some (.bool (fieldS n)) := by
  refine call_flat Try.f31 Try.func31 (by kernel_rfl) rfl ⟨_, e31 n, ?_⟩
  by_cases h1 : 1 ≤ n <;> by_cases h2 : n ≤ 4 <;> by_cases h3 : 8 ≤ n <;> by_cases h4 : n < 48 <;> simp [TW, LcQ, fieldS, h1, h2, h3, h4] <;> omega
theorem c32 (a b c d : Int) : callE Try.prog NoPhi 32 [.int .i64 a, .int .i64 b, .int .i64 c, .int .i64 d] = some (.bool (decide (ordP a b c d < 0))) := by
  refine call_flat Try.f32 Try.func32 (by kernel_rfl) rfl ⟨_, e32 a b c d, ?_⟩
  simp +contextual [TW, LcQ, ordP_lt]
theorem c29 (s : SlotR) : callE Try.prog NoPhi 29 [.agg s.row] = some (.agg [.int .i64 s.id, .int .i64 s.field]) := by
  refine call_flat Try.f29 Try.func29 (by kernel_rfl) rfl ⟨_, e29 s, ?_⟩
  simp [TW, LcQ]
theorem c7 (l : List SlotR) (hl : l.length ≤ 9223372036854775807) : callE Try.prog NoPhi 7 [.agg [.sl 3 (l.map SlotR.row)]] = some (.bool (smallS l)) := by
  refine call_loop Try.f7 hd7 30 Try.func7 (by kernel_rfl) rfl p7 rfl (fun x : Int × Nat => w7 l x.1 x.2) (fun x => x.2 ≤ l.length ∧ smallS l = smallGo (l.drop x.2) x.1) (fun x => l.length - x.2) ⟨_, e7 l, ?_⟩ (fun x nx ⟨hi, hs⟩ g => ⟨_, r7 l x.1 x.2 g nx, ?_⟩)
  · simp only [TW, LcQ, p7, true_and, List.length_map]
    exact ⟨(l.length, 0), by simp [w7], by simp, by simp [smallS]⟩
  · obtain ⟨n, i⟩ := x
    simp only at hi hs ⊢
    rw [hs]
    have hlt : i < l.length → l.drop i = l.getD i default :: l.drop (i + 1) := drop_getD
    have hge : ¬ i < l.length → l.drop i = [] := fun h => List.drop_eq_nil_of_le (by omega)
    have hstep : i < l.length → n ≤ 200 → ∃ j : Int × Nat, w7 l (IntKind.wrap .i64 (n + (l.getD i default).alts.length)) (i + 1) = w7 l j.1 j.2 ∧ (j.2 ≤ l.length ∧ smallGo (l.drop i) n = smallGo (l.drop j.2) j.1) ∧ l.length - j.2 < l.length - i := fun h h2 =>
      ⟨(IntKind.wrap .i64 (n + (l.getD i default).alts.length), i + 1), rfl, ⟨by simp only; omega, by rw [hlt h, smallGo, if_pos h2]⟩, by simp only; omega⟩
    have hres : i < l.length → 200 < n → smallGo (l.drop i) n = false := fun h h2 => by rw [hlt h, smallGo, if_neg (by omega)]
    have hend : ¬ i < l.length → smallGo (l.drop i) n = decide (n ≤ 200) := fun h => by rw [hge h]; rfl
    clear hs hlt hge
    generalize smallGo (l.drop i) n = R at *
    simp only [w7, List.length_map] at hstep
    by_cases h1 : i < l.length
    · by_cases h2 : n ≤ 200
      · have hst := hstep h1 h2
        simpa (disch := omega) [TW, LcQ, p7, w7, at_getD, -List.getD_eq_getElem?_getD, -Bool.default_bool, h1, h2] using hst
      · have := hres h1 (by omega)
        subst this
        simp [TW, LcQ, h1, h2]
    · have := hend h1
      subst this
      simp [TW, LcQ, h1]
def wtS (l : List SlotR) : Nat := (l.map fun s => s.alts.length + 2).sum
theorem wtS_drop (l : List SlotR) (i : Nat) (h : i < l.length) : wtS (l.drop i) = (l.getD i default).alts.length + 2 + wtS (l.drop (i + 1)) := by
  rw [drop_getD h]; simp [wtS]
inductive H8 where
  | a (i : Nat)
  | b (γ : Stamp) (i j : Nat)
/-- What holds of a slot ahead of its alternatives. -/
def headOk (l : List SlotR) (i : Nat) : Bool :=
  idS (l.getD i default).id && fieldS (l.getD i default).field && decide ((l.getD i default).alts.length ≠ 0) &&
  (i == 0 || decide (ordP (l.getD (i - 1) default).id (l.getD (i - 1) default).field (l.getD i default).id (l.getD i default).field < 0))
theorem slotOk_eq (l : List SlotR) (i : Nat) : slotOk l i = (headOk l i && allTo (altOk (l.getD i default).alts) (l.getD i default).alts.length) := rfl
def at8 : H8 → List Bool | .a .. => p8a | .b .. => p8b
def at9 : H8 → List Bool | .a .. => p9a | .b .. => p9b
def vals8 (l : List SlotR) : H8 → List TV
  | .a i => w8a l i
  | .b γ i j => w8b l γ (l.getD i default) i j
def vals9 (l : List SlotR) : H8 → List TV
  | .a i => w9a l i
  | .b γ i j => w9b l γ (l.getD i default) i j
def inv8 (l : List SlotR) : H8 → Prop
  | .a i => i ≤ l.length ∧ allTo (slotOk l) i = true
  | .b _ i j => i < l.length ∧ allTo (slotOk l) i = true ∧ headOk l i = true ∧ j ≤ (l.getD i default).alts.length ∧ allTo (altOk (l.getD i default).alts) j = true
def mu8 (l : List SlotR) : H8 → Nat
  | .a i => wtS (l.drop i)
  | .b _ i j => wtS (l.drop (i + 1)) + ((l.getD i default).alts.length - j) + 1
theorem state_false {l : List SlotR} {i : Nat} (h : i < l.length) (h1 : slotOk l i = false) : stateS l = false := allTo_false h h1
theorem bnd {l : List SlotR} (hb : ∀ s ∈ l, s.alts.length ≤ 9223372036854775807) (i : Nat) : (l.getD i default).alts.length ≤ 9223372036854775807 := by
  by_cases h : i < l.length
  · exact hb _ (getD_mem' h)
  · rw [show l.getD i default = default by simp [List.getD, show l.length ≤ i by omega]]; simp [default]
theorem c8 (l : List SlotR) (hl : l.length ≤ 9223372036854775807) (hb : ∀ s ∈ l, s.alts.length ≤ 9223372036854775807) : callE Try.prog NoPhi 8 [.agg [.sl 3 (l.map SlotR.row)]] = some (.bool (stateS l)) := by
  refine call_heads (ι := H8) Try.f8 hd8 76 Try.func8 (by kernel_rfl) rfl at8 (by rintro (_ | _) <;> rfl) (vals8 l) (inv8 l) (mu8 l) ⟨_, e8 l, ?_⟩ (fun x nx hx g => ?_)
  · simp only [TW, LcQ, true_and]
    exact ⟨.a 0, rfl, rfl, Nat.zero_le _, rfl⟩
  · rcases x with ⟨i⟩ | ⟨γ, i, j⟩
    · obtain ⟨hi, hall⟩ := hx
      refine ⟨_, r8a l i g nx, ?_⟩
      have hs := bnd hb i
      by_cases hlt : i < l.length
      · have hf : headOk l i = false → stateS l = false := fun h => state_false hlt (by rw [slotOk_eq, h]; rfl)
        have jB : ∀ γ, headOk l i = true → ∃ x, p8b = at8 x ∧ w8b l γ (l.getD i default) i 0 = vals8 l x ∧ inv8 l x ∧ mu8 l x < mu8 l (.a i) := fun γ h =>
          ⟨.b γ i 0, rfl, rfl, ⟨hlt, hall, h, Nat.zero_le _, rfl⟩, by have := wtS_drop l i hlt; simp only [mu8]; omega⟩
        have hk : headOk l i = (idS (l.getD i default).id && fieldS (l.getD i default).field && decide ((l.getD i default).alts.length ≠ 0) &&
          (i == 0 || decide (ordP (l.getD (i - 1) default).id (l.getD (i - 1) default).field (l.getD i default).id (l.getD i default).field < 0))) := rfl
        simp only [w8b, p8b, List.length_map] at jB
        have e29 := fun k : Nat => c29 (l.getD k default)
        simp only [SlotR.row] at e29
        rw [hk] at hf jB
        generalize stateS l = R at *
        simp only [Bool.and_eq_true, Bool.or_eq_true, decide_eq_true_eq, beq_iff_eq, Bool.and_eq_false_iff, Bool.or_eq_false_iff, decide_eq_false_iff_not, beq_eq_false_iff_ne, ne_eq, Int.natCast_zero, List.length_eq_zero_iff] at hf jB
        clear hk hall hs hb
        have jB' := jB (nx + 1 + 1 + 1 + 1, 0)
        clear jB
        rcases Nat.eq_zero_or_pos i with rfl | hpos
        · simp +contextual (disch := omega) [TW, LcQ, p8a, p8b, hlt, c26, c27, c28, e29, at_getD, -List.getD_eq_getElem?_getD, -Bool.default_bool]
          clear e29
          simp only [Int.natCast_zero] at jB'
          generalize (∃ x, [true, false, true, false, false, true, true, false, false, true, true, true, true, false] = at8 x ∧ _) = G at *
          grind
        · have hp : (0 : Int) < (i : Int) := by omega
          simp +contextual (disch := omega) [TW, LcQ, p8a, p8b, hlt, hp, hpos, c26, c27, c28, e29, at_getD, -List.getD_eq_getElem?_getD, -Bool.default_bool]
          clear e29
          generalize (∃ x, [true, false, true, false, false, true, true, false, false, true, true, true, true, false] = at8 x ∧ _) = G at *
          grind
      · have h1 : i = l.length := by omega
        subst h1
        have hR : stateS l = true := hall
        simp [TW, LcQ, hR]
    · obtain ⟨hi, hall, hh, hj, hal⟩ := hx
      refine ⟨_, r8b l γ (l.getD i default) i j g nx, ?_⟩
      have hs := bnd hb i
      by_cases hlt : j < (l.getD i default).alts.length
      · have hf : altOk (l.getD i default).alts j = false → stateS l = false := fun h => state_false hi (by rw [slotOk_eq, hh, allTo_false hlt h]; rfl)
        have jB : altOk (l.getD i default).alts j = true → ∃ x, p8b = at8 x ∧ w8b l γ (l.getD i default) i (j + 1) = vals8 l x ∧ inv8 l x ∧ mu8 l x < mu8 l (.b γ i j) := fun h =>
          ⟨.b γ i (j + 1), rfl, rfl, ⟨hi, hall, hh, by omega, by rw [allTo, hal, h]; rfl⟩, by simp only [mu8]; omega⟩
        have hk : altOk (l.getD i default).alts j = (idS ((l.getD i default).alts.getD j default).stamp && (j == 0 || decide (((l.getD i default).alts.getD (j - 1) default).stamp < ((l.getD i default).alts.getD j default).stamp))) := rfl
        simp only [w8b, p8b, List.length_map] at jB
        rw [hk] at hf jB
        clear hh hal
        generalize stateS l = R at *
        generalize l.getD i default = s at *
        simp +contextual (disch := omega) [TW, LcQ, p8a, p8b, hlt, c26, at_getD, -List.getD_eq_getElem?_getD, -Bool.default_bool]
        grind
      · have jA : ∃ x, p8a = at8 x ∧ w8a l (i + 1) = vals8 l x ∧ inv8 l x ∧ mu8 l x < mu8 l (.b γ i j) :=
          ⟨.a (i + 1), rfl, rfl, ⟨hi, by rw [allTo, hall, slotOk_eq, hh, show (l.getD i default).alts.length = j by omega, hal]; rfl⟩, by simp only [mu8]; omega⟩
        simp only [w8a, p8a, List.length_map] at jA
        simp +contextual (disch := omega) [TW, LcQ, p8a, p8b, hlt, at_getD, -List.getD_eq_getElem?_getD, -Bool.default_bool]
        simpa using jA
theorem c9 (l : List SlotR) (hl : l.length ≤ 9223372036854775807) (hb : ∀ s ∈ l, s.alts.length ≤ 9223372036854775807) : callE Try.prog NoPhi 9 [.agg [.sl 3 (l.map SlotR.row)]] = some (.bool (stateS l)) := by
  refine call_heads (ι := H8) Try.f9 hd9 93 Try.func9 (by kernel_rfl) rfl at9 (by rintro (_ | _) <;> rfl) (vals9 l) (inv8 l) (mu8 l) ⟨_, e9 l, ?_⟩ (fun x nx hx g => ?_)
  · simp only [TW, LcQ, true_and]
    exact ⟨.a 0, rfl, rfl, Nat.zero_le _, rfl⟩
  · rcases x with ⟨i⟩ | ⟨γ, i, j⟩
    · obtain ⟨hi, hall⟩ := hx
      refine ⟨_, r9a l i g nx, ?_⟩
      have hs := bnd hb i
      by_cases hlt : i < l.length
      · have hf : headOk l i = false → stateS l = false := fun h => state_false hlt (by rw [slotOk_eq, h]; rfl)
        have jB : ∀ γ, headOk l i = true → ∃ x, p9b = at9 x ∧ w9b l γ (l.getD i default) i 0 = vals9 l x ∧ inv8 l x ∧ mu8 l x < mu8 l (.a i) := fun γ h =>
          ⟨.b γ i 0, rfl, rfl, ⟨hlt, hall, h, Nat.zero_le _, rfl⟩, by have := wtS_drop l i hlt; simp only [mu8]; omega⟩
        have hk : headOk l i = (idS (l.getD i default).id && fieldS (l.getD i default).field && decide ((l.getD i default).alts.length ≠ 0) &&
          (i == 0 || decide (ordP (l.getD (i - 1) default).id (l.getD (i - 1) default).field (l.getD i default).id (l.getD i default).field < 0))) := rfl
        simp only [w9b, p9b, List.length_map] at jB
        rw [hk] at hf jB
        generalize stateS l = R at *
        simp only [Bool.and_eq_true, Bool.or_eq_true, decide_eq_true_eq, beq_iff_eq, Bool.and_eq_false_iff, Bool.or_eq_false_iff, decide_eq_false_iff_not, beq_eq_false_iff_ne, ne_eq, Int.natCast_zero, List.length_eq_zero_iff] at hf jB
        clear hk hall hs hb
        have jB' := jB (nx + 5 + 1 + 1 + 1 + 1 + 1, 0)
        clear jB
        rcases Nat.eq_zero_or_pos i with rfl | hpos
        · simp +contextual (disch := omega) [TW, LcQ, p9a, p9b, hlt, c30, c31, c32, at_getD, -List.getD_eq_getElem?_getD, -Bool.default_bool]
          simp only [Int.natCast_zero] at jB'
          generalize (∃ x, [true, false, true, false, false, true, false, false, true, true, true, true, false] = at9 x ∧ _) = G at *
          grind
        · have hp : (0 : Int) < (i : Int) := by omega
          simp +contextual (disch := omega) [TW, LcQ, p9a, p9b, hlt, hp, hpos, c30, c31, c32, at_getD, -List.getD_eq_getElem?_getD, -Bool.default_bool]
          generalize (∃ x, [true, false, true, false, false, true, false, false, true, true, true, true, false] = at9 x ∧ _) = G at *
          grind
      · have h1 : i = l.length := by omega
        subst h1
        have hR : stateS l = true := hall
        simp [TW, LcQ, hR]
    · obtain ⟨hi, hall, hh, hj, hal⟩ := hx
      refine ⟨_, r9b l γ (l.getD i default) i j g nx, ?_⟩
      have hs := bnd hb i
      by_cases hlt : j < (l.getD i default).alts.length
      · have hf : altOk (l.getD i default).alts j = false → stateS l = false := fun h => state_false hi (by rw [slotOk_eq, hh, allTo_false hlt h]; rfl)
        have jB : altOk (l.getD i default).alts j = true → ∃ x, p9b = at9 x ∧ w9b l γ (l.getD i default) i (j + 1) = vals9 l x ∧ inv8 l x ∧ mu8 l x < mu8 l (.b γ i j) := fun h =>
          ⟨.b γ i (j + 1), rfl, rfl, ⟨hi, hall, hh, by omega, by rw [allTo, hal, h]; rfl⟩, by simp only [mu8]; omega⟩
        have hk : altOk (l.getD i default).alts j = (idS ((l.getD i default).alts.getD j default).stamp && (j == 0 || decide (((l.getD i default).alts.getD (j - 1) default).stamp < ((l.getD i default).alts.getD j default).stamp))) := rfl
        simp only [w9b, p9b, List.length_map] at jB
        rw [hk] at hf jB
        clear hh hal
        generalize stateS l = R at *
        generalize l.getD i default = s at *
        simp +contextual (disch := omega) [TW, LcQ, p9a, p9b, hlt, c30, at_getD, -List.getD_eq_getElem?_getD, -Bool.default_bool]
        grind
      · have jA : ∃ x, p9a = at9 x ∧ w9a l (i + 1) = vals9 l x ∧ inv8 l x ∧ mu8 l x < mu8 l (.b γ i j) :=
          ⟨.a (i + 1), rfl, rfl, ⟨hi, by rw [allTo, hall, slotOk_eq, hh, show (l.getD i default).alts.length = j by omega, hal]; rfl⟩, by simp only [mu8]; omega⟩
        simp only [w9a, p9a, List.length_map] at jA
        simp +contextual (disch := omega) [TW, LcQ, p9a, p9b, hlt, at_getD, -List.getD_eq_getElem?_getD, -Bool.default_bool]
        simpa using jA
end Go.Proofs.Ytgfpbhbogfabmaa
