/- A part of the proof: PCon11. -/
import Derived.Test.YtaenniiaccflmaaPTrees8
set_option linter.unusedVariables false
set_option linter.unusedSimpArgs false
set_option linter.unnecessarySimpa false
set_option linter.unusedSectionVars false
namespace Go.Proofs.Ytaenniiaccflmaa
open Go Go.Vm Go.Proofs
theorem valid_ne {k : ByteArray} (h : validK k = true) : k ≠ ⟨#[]⟩ := fun e => by
  have := (valid_num h).2.1
  rw [e] at this
  exact absurd this (by decide)
abbrev ZK (l : List ByteArray) : List (Bool × ByteArray) := (keepS l).zip l
theorem ZK_len (l : List ByteArray) : (ZK l).length = l.length := by simp [keep_len]
theorem keep_stay (l : List ByteArray) : StayAsc ltK validK ⟨#[]⟩ (ZK l) := by
  have h := pick_stay (lt := ltK) validK ((bestK validK l).zip l) (mostS (bestK validK l)) ⟨#[]⟩ (fun p hp hb => by
    obtain ⟨i, hi, e⟩ := List.mem_iff_getElem.1 hp
    have hil : i < l.length := by simp at hi; omega
    have := (BK_bound l i hil).2.2
    rw [List.getElem_zip] at e
    rw [← e] at hb ⊢
    have e1 : (BK l).getD i default = (bestK validK l)[i]'(by simp at hi; omega) := by rw [at_getD]; rfl
    show validK (l[i]'hil) = true
    rw [at_getD]
    exact this (by rw [e1]; exact hb))
  have e : ((bestK validK l).zip l).map Prod.snd = l := by
    rw [List.map_snd_zip]
    unfold bestK; rw [bestL_len]; exact Nat.le_refl _
  rw [e] at h
  exact h
theorem stay_valid {V : ByteArray → Bool} : ∀ (r : List (Bool × ByteArray)) (last : ByteArray), StayAsc ltK V last r → ∀ p ∈ r, p.1 = true → V p.2 = true
  | (true, k) :: r, last, h, p, hp, hb => by
    rcases List.mem_cons.1 hp with rfl | hp
    · exact h.2.1
    · exact stay_valid r k h.2.2 p hp hb
  | (false, k) :: r, last, h, p, hp, hb => by
    rcases List.mem_cons.1 hp with rfl | hp
    · cases hb
    · exact stay_valid r last h p hp hb
theorem keep_valid (l : List ByteArray) (i : Nat) (h : i < l.length) (hs : (keepS l).getD i default = true) : validK (l.getD i default) = true := by
  have hk := keep_len l
  refine stay_valid (ZK l) _ (keep_stay l) ((keepS l).getD i default, l.getD i default) ?_ hs
  refine List.mem_iff_getElem.2 ⟨i, by simp [hk]; exact h, ?_⟩
  rw [List.getElem_zip, at_getD, at_getD]
theorem ZK_drop (l : List ByteArray) (i : Nat) (h : i < l.length) : (ZK l).drop i = ((keepS l).getD i default, l.getD i default) :: (ZK l).drop (i + 1) := by
  have hk := keep_len l
  rw [List.drop_eq_getElem_cons (by simp [hk]; exact h), List.getElem_zip, at_getD, at_getD]
def RK (l : List ByteArray) : Option (List ByteArray) := rekG betK (ZK l) ⟨#[]⟩
inductive H23 where
  | a (i : Nat) (γ δ : Stamp) (out : List ByteArray) (last : ByteArray)
  | b (i j : Nat) (γ δ : Stamp) (out : List ByteArray) (last hi : ByteArray)
def at23 : H23 → List Bool | .a .. => p23a | .b .. => p23b
def vals23 (l : List ByteArray) : H23 → List TV
  | .a i γ δ out last => w23a l γ δ (keepS l) out last i
  | .b i j γ δ out last hi => w23b l γ δ (keepS l) out last hi i j
def inv23 (l : List ByteArray) : H23 → Prop
  | .a i γ δ out last => i ≤ l.length ∧ out.length = i ∧ RK l = (rekG betK ((ZK l).drop i) last).map (out ++ ·)
  | .b i j γ δ out last hi => i < l.length ∧ (keepS l).getD i default = false ∧ i + 1 ≤ j ∧ j ≤ l.length ∧ out.length = i ∧ RK l = (rekG betK ((ZK l).drop i) last).map (out ++ ·) ∧ firstStay ((ZK l).drop (i + 1)) = (if hi.size = 0 then firstStay ((ZK l).drop j) else hi)
def mu23 (l : List ByteArray) : H23 → Nat
  | .a i γ δ out last => (l.length - i) * (l.length + 2)
  | .b i j γ δ out last hi => (l.length - i - 1) * (l.length + 2) + (l.length - j) + 1
theorem empty_of {s : ByteArray} (h : s.size = 0) : s = ⟨#[]⟩ := by
  rcases s with ⟨⟨s⟩⟩
  have : s = [] := List.length_eq_zero_iff.1 h
  rw [this]
theorem c23 (l : List ByteArray) (hl : l.length ≤ 400) : callE Try.prog NoPhi 23 [.sl 1 (l.map strRow)] = some (.own (0, 0) 9 1 ((rekS l).map strRow)) := by
  have hk := keep_len l
  have hrk : rekS l = (RK l).getD (spreadS l.length) := by unfold rekS; rw [if_pos hl]; rfl
  refine call_heads (ι := H23) Try.f23 hd23 68 Try.func23 (by kernel_rfl) rfl at23 (by rintro (_ | _) <;> rfl) (vals23 l) (inv23 l) (mu23 l) ⟨_, e23 l, ?_⟩ (fun x nx hx g => ?_)
  · have h21 := c21 l (by omega)
    have h4 : ¬ ((l.length : Int) > 400) := by omega
    simp only [TW, LcQ, List.length_map, h21, h4, decide_false]
    refine ⟨fun h => (by cases h), fun _ => ⟨trivial, trivial, .a 0 (8, 0) (10, 0) [] ⟨#[]⟩, rfl, ?_, Nat.zero_le _, rfl, ?_⟩⟩
    · simp [vals23, w23a]
    · simp [RK]
  · rcases x with ⟨i, γ, δ, out, last⟩ | ⟨i, j, γ, δ, out, last, hi⟩
    · obtain ⟨hi, hout, hR⟩ := hx
      refine ⟨_, r23a l γ δ (keepS l) out last i g nx, ?_⟩
      have hroom : roomy (out.length + 1) 16 = true := by simp [roomy]; omega
      by_cases hlt : i < l.length
      · have hz := ZK_drop l i hlt
        have hmg : (List.map boolRow (keepS l)).getD i default = boolRow ((keepS l).getD i default) := by simp [List.getD, hk, hlt]
        have hmg2 : (List.map strRow l).getD i default = strRow (l.getD i default) := by simp [List.getD, hlt]
        have hw : IntKind.wrap .i64 ((i : Int) + 1) = ((i + 1 : Nat) : Int) := by rw [wrap64 _ (by omega) (by omega)]; rfl
        have e : ∀ S : ByteArray, (out ++ [S]).map strRow = out.map strRow ++ [[.str S]] := fun S => by simp [strRow]
        have hmul : (l.length - (i + 1)) * (l.length + 2) + (l.length + 2) = (l.length - i) * (l.length + 2) := by
          rw [show l.length - i = (l.length - (i + 1)) + 1 by omega, Nat.add_mul, Nat.one_mul]
        have jA : ∀ δ', (keepS l).getD i default = true → ∃ x, p23a = at23 x ∧ w23a l γ δ' (keepS l) (out ++ [l.getD i default]) (l.getD i default) (i + 1) = vals23 l x ∧ inv23 l x ∧ mu23 l x < mu23 l (.a i γ δ out last) := fun δ' h =>
          ⟨.a (i + 1) γ δ' (out ++ [l.getD i default]) (l.getD i default), rfl, rfl, ⟨hlt, by simp; exact hout, by
            rw [hR, hz, h, rekG, Option.map_map]; congr 1; funext r; simp⟩, by simp only [mu23]; omega⟩
        have jB : (keepS l).getD i default = false → ∃ x, p23b = at23 x ∧ w23b l γ δ (keepS l) out last ⟨#[]⟩ i (i + 1) = vals23 l x ∧ inv23 l x ∧ mu23 l x < mu23 l (.a i γ δ out last) := fun h =>
          ⟨.b i (i + 1) γ δ out last ⟨#[]⟩, rfl, rfl, ⟨hlt, h, Nat.le_refl _, hlt, hout, hR, rfl⟩, by simp only [mu23]; rw [show l.length - i - 1 = l.length - (i + 1) by omega]; omega⟩
        simp only [w23a, w23b, p23a, p23b, e, List.length_map] at jA jB
        simp only [TW, LcQ, List.length_map, Nat.zero_add, hw, hroom]
        have hil : i < (keepS l).length := by omega
        simp +contextual (disch := omega) [at_getD, -List.getD_eq_getElem?_getD, -Bool.default_bool, hlt, hk, hmg, hmg2]
        exact ⟨jB, jA _⟩
      · have hge : l.length ≤ i := by omega
        have hres : rekS l = out := by
          rw [hrk, hR, List.drop_eq_nil_of_le (by rw [ZK_len]; exact hge)]; simp [rekG]
        have h1 : ¬ ((i : Int) < (l.length : Int)) := by omega
        simp only [TW, LcQ, List.length_map, h1, decide_false, hres]
        simp
    · obtain ⟨hil, hst, hij, hjl, hout, hR, hf⟩ := hx
      refine ⟨_, r23b l γ δ (keepS l) out last hi i j g nx, ?_⟩
      have hroom : roomy (out.length + 1) 16 = true := by simp [roomy]; omega
      have e : ∀ S : ByteArray, (out ++ [S]).map strRow = out.map strRow ++ [[.str S]] := fun S => by simp [strRow]
      have hw : IntKind.wrap .i64 ((i : Int) + 1) = ((i + 1 : Nat) : Int) := by rw [wrap64 _ (by omega) (by omega)]; rfl
      have hwj : IntKind.wrap .i64 ((j : Int) + 1) = ((j + 1 : Nat) : Int) := by rw [wrap64 _ (by omega) (by omega)]; rfl
      have hz := ZK_drop l i hil
      rw [hst] at hz
      have hmul : (l.length - (i + 1)) * (l.length + 2) = (l.length - i - 1) * (l.length + 2) := by rw [show l.length - (i + 1) = l.length - i - 1 by omega]
      have jN : hi = firstStay ((ZK l).drop (i + 1)) → (betK last hi).2 = 0 → ∀ δ', ∃ x, p23a = at23 x ∧ w23a l γ δ' (keepS l) (out ++ [(betK last hi).1]) (betK last hi).1 (i + 1) = vals23 l x ∧ inv23 l x ∧ mu23 l x < mu23 l (.b i j γ δ out last hi) := fun h h0 δ' =>
        ⟨.a (i + 1) γ δ' (out ++ [(betK last hi).1]) (betK last hi).1, rfl, rfl, ⟨hil, by simp; exact hout, by
          rw [hR, hz, rekG, ← h, if_pos h0, Option.map_map]; congr 1; funext r; simp⟩, by simp only [mu23]; omega⟩
      have hS : hi = firstStay ((ZK l).drop (i + 1)) → (betK last hi).2 ≠ 0 → rekS l = spreadS l.length := fun h h0 => by
        rw [hrk, hR, hz, rekG, ← h, if_neg h0]; rfl
      have c1 := c12 last hi
      have c2 := c16 (l.length : Int) (by omega)
      have eb : ((betK last hi).2 != 0) = !decide ((betK last hi).2 = 0) := by
        rw [Bool.eq_iff_iff]; simp
      have tail : hi = firstStay ((ZK l).drop (i + 1)) → ∀ δ', ((!decide ((betK last hi).2 = 0)) = true → some (TV.own (0, 0) 9 1 (List.map strRow (spreadS (l.length : Int)))) = some (TV.own (0, 0) 9 1 ((rekS l).map strRow))) ∧
          ((!decide ((betK last hi).2 = 0)) = false → ∃ x, p23a = at23 x ∧ w23a l γ δ' (keepS l) (out ++ [(betK last hi).1]) (betK last hi).1 (i + 1) = vals23 l x ∧ inv23 l x ∧ mu23 l x < mu23 l (.b i j γ δ out last hi)) := fun h δ' =>
        ⟨fun h0 => by rw [hS h (by simpa using h0)], fun h0 => jN h (by simpa using h0) δ'⟩
      have jT : j < l.length → hi.size = 0 → (keepS l).getD j default = true → ∃ x, p23b = at23 x ∧ w23b l γ δ (keepS l) out last (l.getD j default) i (j + 1) = vals23 l x ∧ inv23 l x ∧ mu23 l x < mu23 l (.b i j γ δ out last hi) := fun h h0 hs => by
        have hv := (valid_num (keep_valid l j h hs)).2.1
        refine ⟨.b i (j + 1) γ δ out last (l.getD j default), rfl, rfl, ⟨hil, hst, by omega, h, hout, hR, ?_⟩, by simp only [mu23]; omega⟩
        rw [hf, if_pos h0, if_neg (by omega), ZK_drop l j h, hs]; rfl
      have jF : j < l.length → hi.size = 0 → (keepS l).getD j default = false → ∃ x, p23b = at23 x ∧ w23b l γ δ (keepS l) out last hi i (j + 1) = vals23 l x ∧ inv23 l x ∧ mu23 l x < mu23 l (.b i j γ δ out last hi) := fun h h0 hs => by
        refine ⟨.b i (j + 1) γ δ out last hi, rfl, rfl, ⟨hil, hst, by omega, h, hout, hR, ?_⟩, by simp only [mu23]; omega⟩
        rw [hf, if_pos h0, if_pos h0, ZK_drop l j h, hs]; rfl
      have hdone : (hi.size ≠ 0 ∨ l.length ≤ j) → hi = firstStay ((ZK l).drop (i + 1)) := fun h => by
        by_cases h0 : hi.size = 0
        · have hge := h.elim (fun h => absurd h0 h) id
          rw [hf, if_pos h0, List.drop_eq_nil_of_le (by rw [ZK_len]; exact hge), empty_of h0]; rfl
        · rw [hf, if_neg h0]
      simp only [w23a, w23b, p23a, p23b, e, List.length_map] at tail jT jF
      simp only [TW, LcQ, List.length_map, Nat.zero_add, hw, hwj, hroom, c1, c2, eb, empty_iff]
      clear jN hS hR hf hmul hz e
      by_cases hlt : j < l.length
      · have hmg : (List.map boolRow (keepS l)).getD j default = boolRow ((keepS l).getD j default) := by simp [List.getD, hk, hlt]
        have hmg2 : (List.map strRow l).getD j default = strRow (l.getD j default) := by simp [List.getD, hlt]
        by_cases h0 : hi.size = 0
        · have jT' := jT hlt h0
          have jF' := jF hlt h0
          have hjl2 : j < (keepS l).length := by omega
          simp only [h0]
          clear tail jT jF hdone
          simp +contextual (disch := omega) [at_getD, -List.getD_eq_getElem?_getD, -Bool.default_bool, hlt, hk, hmg, hmg2]
          exact ⟨jT', jF'⟩
        · have ht := tail (hdone (.inl h0))
          simp only [h0]
          clear tail jT jF hdone
          simp [hlt, hk]
          exact ⟨fun h => by have := (ht (0, 0)).1 (by simpa using h); simpa using this, fun h => (ht _).2 (by simpa using h)⟩
      · have ht := tail (hdone (.inr (by omega)))
        clear tail jT jF hdone
        simp [hlt, hk]
        exact ⟨fun h => by have := (ht (0, 0)).1 (by simpa using h); simpa using this, fun h => (ht _).2 (by simpa using h)⟩
end Go.Proofs.Ytaenniiaccflmaa
