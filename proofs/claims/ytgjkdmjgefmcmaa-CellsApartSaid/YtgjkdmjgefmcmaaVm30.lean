/- Facts for the proofs over trees. -/
import Derived.Test.YtgjkdmjgefmcmaaVm29
set_option linter.unusedVariables false
set_option linter.unusedSimpArgs false
set_option linter.unnecessarySimpa false
set_option linter.unusedSectionVars false
namespace Go.Vm
theorem wrap64 (n : Int) (h1 : -9223372036854775808 ≤ n) (h2 : n ≤ 9223372036854775807) : IntKind.wrap .i64 n = n := by
  simp [IntKind.wrap, IntKind.bits, IntKind.signed]; split <;> omega
@[simp] theorem wrap_up (i : Nat) (h : (i : Int) < 9223372036854775807) : IntKind.wrap .i64 ((i : Int) + 1) = ((i + 1 : Nat) : Int) := by rw [wrap64 _ (by omega) (by omega)]; rfl
@[simp] theorem wrap_down (i : Nat) (h : 0 < i) (h : (i : Int) < 9223372036854775807) : IntKind.wrap .i64 ((i : Int) - 1) = ((i - 1 : Nat) : Int) := by rw [wrap64 _ (by omega) (by omega)]; omega
@[simp] theorem wrap_zero : IntKind.wrap .i64 0 = 0 := wrap64 _ (by omega) (by omega)
@[simp] theorem wrap_one : IntKind.wrap .i64 1 = 1 := wrap64 _ (by omega) (by omega)
@[simp] theorem zero_cast (j : Nat) : (0 : Int) = (j : Int) ↔ j = 0 := by omega
@[simp] theorem one_cast (j : Nat) : (1 : Int) = (j : Int) ↔ j = 1 := by omega
@[simp] theorem succ_cast (i j : Nat) : (i : Int) + 1 = (j : Int) ↔ j = i + 1 := by omega
@[simp] theorem cast_cast (i j : Nat) : (i : Int) = (j : Int) ↔ j = i := by omega
theorem at_getD {α : Type} [Inhabited α] (l : List α) (i : Nat) (h : i < l.length) : l[i] = l.getD i default := by simp [List.getD, h]
/-- All of the first ones are so. -/
def allTo (p : Nat → Bool) : Nat → Bool
  | 0 => true
  | i + 1 => allTo p i && p i
theorem allTo_iff {p : Nat → Bool} {n : Nat} : allTo p n = true ↔ ∀ i, i < n → p i = true := by
  induction n with
  | zero => simp [allTo]
  | succ n ih =>
    simp only [allTo, Bool.and_eq_true, ih]
    constructor
    · rintro ⟨h1, h2⟩ i hi
      rcases Nat.lt_or_ge i n with h | h
      · exact h1 i h
      · rw [show i = n by omega]; exact h2
    · exact fun h => ⟨fun i hi => h i (by omega), h n (by omega)⟩
theorem allTo_false {p : Nat → Bool} {n i : Nat} (h : i < n) (h1 : p i = false) : allTo p n = false := by
  rw [Bool.eq_false_iff]
  intro h2
  rw [allTo_iff.1 h2 i h] at h1; cases h1
end Go.Vm
