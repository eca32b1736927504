/- A part of the proof: SCon7. -/
import Derived.Test.YtgfpbhbogfabmaaSCon6
set_option linter.unusedVariables false
set_option linter.unusedSimpArgs false
set_option linter.unnecessarySimpa false
set_option linter.unusedSectionVars false
namespace Go.Proofs.Ytgfpbhbogfabmaa
open Go Go.Vm Go.Proofs
theorem wr_step (w : List CellR) (id field : Int) (k : Nat) (h : k < w.length) :
    wrK (w.take (k + 1)).reverse id field = if (w.getD k default).id = id ∧ (w.getD k default).field = field then some (w.getD k default).v else wrK (w.take k).reverse id field := by
  rw [List.take_succ_eq_append_getElem h, List.reverse_append, List.reverse_singleton, List.singleton_append, wrK_cons, at_getD w k h]
theorem c15 (w : List CellR) (id field : Int) (hn : w.length ≤ 1000000) :
    callE Try.prog NoPhi 15 [.sl 6 (w.map CellR.row), .int .i64 id, .int .i64 field] = some (.tup [.agg ((wrK w.reverse id field).getD default).row, .bool (wrK w.reverse id field).isSome]) := by
  refine call_loop Try.f15 hd15 38 Try.func15 (by kernel_rfl) rfl p15 rfl (fun k : Nat => w15 w id field ((k : Int) - 1)) (fun k => k ≤ w.length ∧ wrK w.reverse id field = wrK (w.take k).reverse id field) (fun k => k) ⟨_, e15 w id field, ?_⟩ (fun k nx ⟨hk, hv⟩ g => ⟨_, r15 w id field ((k : Int) - 1) g nx, ?_⟩)
  · simp only [TW, LcQ, p15, true_and, List.length_map]
    exact ⟨w.length, by rw [w15, wrap64 _ (by omega) (by omega)], Nat.le_refl _, by rw [List.take_length]⟩
  · rw [hv]
    cases k with
    | zero =>
      have h1 : ¬ (((0 : Nat) : Int) - 1 ≥ 0) := by omega
      simp only [TW, LcQ, h1, decide_false]
      simp [wrK, Val.row, default]
      try rfl
    | succ k =>
      have h0 : (((k + 1 : Nat) : Int) - 1) = (k : Int) := by omega
      have hwr : IntKind.wrap .i64 ((k : Int) - 1) = (k : Int) - 1 := wrap64 _ (by omega) (by omega)
      rw [wr_step w id field k (by omega)]
      have hlt : k < w.length := by omega
      rw [h0]
      simp only [TW, LcQ, p15, hwr]
      have jA : ¬ ((w.getD k default).id = id ∧ (w.getD k default).field = field) → ∃ j : Nat, w15 w id field ((k : Int) - 1) = w15 w id field ((j : Int) - 1) ∧ (j ≤ w.length ∧ wrK (w.take (k + 1)).reverse id field = wrK (w.take j).reverse id field) ∧ j < k + 1 := fun h =>
        ⟨k, rfl, ⟨by omega, by rw [wr_step w id field k hlt, if_neg h]⟩, by omega⟩
      rw [hv] at *
      by_cases h1 : (w.getD k default).id = id
      · by_cases h2 : (w.getD k default).field = field
        · simp (disch := omega) [at_getD, -List.getD_eq_getElem?_getD, -Bool.default_bool, h1, h2, hlt, Val.row]
        · have := jA (by rintro ⟨_, h⟩; exact h2 h)
          simp (disch := omega) [at_getD, -List.getD_eq_getElem?_getD, -Bool.default_bool, h1, h2, hlt]
          first | (simpa [w15] using this) | (simp [w15]; omega)
      · have := jA (by rintro ⟨h, _⟩; exact h1 h)
        simp (disch := omega) [at_getD, -List.getD_eq_getElem?_getD, -Bool.default_bool, h1, hlt]
        first | (simpa [w15] using this) | (simp [w15]; omega)
/-! ### Sorting what is sorted -/
theorem ascC_get {l : List CellR} (hl : l.Pairwise ltC) {i j : Nat} (hij : i < j) (hj : j < l.length) : ordP (l.getD i default).id (l.getD i default).field (l.getD j default).id (l.getD j default).field < 0 := by
  have := (List.pairwise_iff_getElem.1 hl) i j (by omega) hj hij
  rwa [at_getD l i (by omega), at_getD l j hj] at this
theorem ascC_not {l : List CellR} (hl : l.Pairwise ltC) {i j : Nat} (hij : i ≤ j) (hj : j < l.length) : ¬ ordP (l.getD j default).id (l.getD j default).field (l.getD i default).id (l.getD i default).field < 0 := by
  rcases Nat.eq_or_lt_of_le hij with rfl | h
  · rw [ordP_lt]; omega
  · have := ascC_get hl h hj
    rw [ordP_lt] at this ⊢; omega
inductive H75 where
  | a (i : Int)
  | b (i : Int)
def at75 : H75 → List Bool | .a .. => p75a | .b .. => p75b
def vals75 (l : List CellR) (a b : Int) : H75 → List TV
  | .a i => w75a l a b i
  | .b i => w75b l a b i i
def inv75 (a b : Int) : H75 → Prop
  | .a i => a + 1 ≤ i ∧ i ≤ max b (a + 1)
  | .b i => a + 1 ≤ i ∧ i < b
def mu75 (b : Int) : H75 → Nat
  | .a i => (2 * (b - i)).toNat
  | .b i => (2 * (b - i) - 1).toNat
theorem c75 (l : List CellR) (a b : Int) (hl : l.Pairwise ltC) (hn : l.length ≤ 1000000) (ha : 0 ≤ a) (ha2 : a ≤ 1000000) (hb : b ≤ l.length) :
    callE Try.prog NoPhi 75 [.sl 6 (l.map CellR.row), .int .i64 a, .int .i64 b, .fn 54 []] = some (.tup []) := by
  refine call_heads (ι := H75) Try.f75 hd75 53 Try.func75 (by kernel_rfl) rfl at75 (by rintro (_ | _) <;> rfl) (vals75 l a b) (inv75 a b) (mu75 b) ⟨_, e75 l a b, ?_⟩ (fun x nx hx g => ?_)
  · simp only [TW, LcQ, true_and]
    exact ⟨.a (a + 1), rfl, by rw [wrap64 _ (by omega) (by omega)]; rfl, by simp only [inv75]; omega⟩
  · rcases x with ⟨i⟩ | ⟨i⟩
    · refine ⟨_, r75a l a b i g nx, ?_⟩
      simp only [inv75] at hx
      by_cases hlt : i < b
      · have jB : ∃ x, p75b = at75 x ∧ w75b l a b i i = vals75 l a b x ∧ inv75 a b x ∧ mu75 b x < mu75 b (.a i) := ⟨.b i, rfl, rfl, by simp only [inv75]; omega, by simp only [mu75]; omega⟩
        simp only [w75b, p75b] at jB
        simp [TW, LcQ, hlt]
        simpa using jB
      · simp [TW, LcQ, hlt]
    · refine ⟨_, r75b l a b i i g nx, ?_⟩
      simp only [inv75] at hx
      obtain ⟨m, rfl⟩ : ∃ m : Nat, i = ((m + 1 : Nat) : Int) := ⟨(i - 1).toNat, by omega⟩
      have hw : IntKind.wrap .i64 (((m + 1 : Nat) : Int) - 1) = (m : Int) := by rw [wrap64 _ (by omega) (by omega)]; omega
      have hw2 : IntKind.wrap .i64 (((m + 1 : Nat) : Int) + 1) = ((m + 2 : Nat) : Int) := by rw [wrap64 _ (by omega) (by omega)]; omega
      have hord := ascC_not hl (show m ≤ m + 1 by omega) (by omega)
      have h54 := c54 (l.getD (m + 1) default) (l.getD m default)
      simp only [CellR.row] at h54
      have hgt : ((m + 1 : Nat) : Int) > a := by omega
      have hm0 : (0 : Int) ≤ ((m + 1 : Nat) : Int) := by omega
      have jA : ∃ x, p75a = at75 x ∧ w75a l a b ((m + 2 : Nat) : Int) = vals75 l a b x ∧ inv75 a b x ∧ mu75 b x < mu75 b (.b ((m + 1 : Nat) : Int)) := ⟨.a ((m + 2 : Nat) : Int), rfl, rfl, by simp only [inv75]; omega, by simp only [mu75]; omega⟩
      simp only [w75a, p75a] at jA
      simp only [TW, LcQ, hw, hw2, Int.toNat_natCast, hgt, hm0, decide_true, h54, hord, decide_false]
      generalize mu75 b (.b ((m + 1 : Nat) : Int)) = M at *
      simp (disch := omega) [at_getD, -List.getD_eq_getElem?_getD, -Bool.default_bool]
      simpa using jA
end Go.Proofs.Ytgfpbhbogfabmaa
