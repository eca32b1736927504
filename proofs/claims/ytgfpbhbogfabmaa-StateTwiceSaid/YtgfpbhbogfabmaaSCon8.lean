/- A part of the proof: SCon8. -/
import Derived.Test.YtgfpbhbogfabmaaSCon7
import Derived.Test.YtgfpbhbogfabmaaSTrees3
set_option linter.unusedVariables false
set_option linter.unusedSimpArgs false
set_option linter.unnecessarySimpa false
set_option linter.unusedSectionVars false
namespace Go.Proofs.Ytgfpbhbogfabmaa
open Go Go.Vm Go.Proofs
theorem wrapU64 (n : Int) (h1 : 0 ≤ n) (h2 : n < 18446744073709551616) : IntKind.wrap .u64 n = n := by
  simp [IntKind.wrap, IntKind.bits, IntKind.signed]; omega
theorem half_eq (i j : Nat) (h : i + j ≤ 4000000) : IntKind.wrap .i64 (Int.fdiv (IntKind.wrap .u64 (IntKind.wrap .i64 ((i : Int) + (j : Int)))) (2 ^ 1)) = (((i + j) / 2 : Nat) : Int) := by
  rw [wrap64 ((i : Int) + (j : Int)) (by omega) (by omega), wrapU64 ((i : Int) + (j : Int)) (by omega) (by omega), Int.fdiv_eq_ediv_of_nonneg _ (by decide)]
  have : ((i : Int) + (j : Int)) / 2 ^ 1 = (((i + j) / 2 : Nat) : Int) := by omega
  rw [this, wrap64 _ (by omega) (by omega)]
inductive H76 where
  | a (j : Nat)
  | b (i : Nat)
  | c
  | d (s : Nat)
  | e
def at76 : H76 → List Bool | .a .. => p76a | .b .. => p76b | .c => p76c | .d .. => p76d | .e => p76e
def r76r (a m b : Nat) : Nat := if m > (a + b) / 2 then (a + b) / 2 else m
def vals76 (l : List CellR) (a m b : Nat) : H76 → List TV
  | .a j => w76a l a m b m j
  | .b i => w76b l a m b i m
  | .c => w76c l a m b m a
  | .d s => w76d l a m b (((a + b) / 2 : Nat) : Int) (((a + b) / 2 + m : Nat) : Int) s (r76r a m b : Nat) (((a + b) / 2 + m - 1 : Nat) : Int)
  | .e => w76e l a m b m m
def inv76 (a m b : Nat) : H76 → Prop
  | .a j => m ≤ j ∧ j ≤ b ∧ m = a + 1
  | .b i => a ≤ i ∧ i ≤ m ∧ b = m + 1
  | .c => m = a + 1
  | .d s => s ≤ r76r a m b ∧ a ≤ s ∧ (a + b) / 2 + m ≤ b + s
  | .e => True
def mu76 (a m b : Nat) : H76 → Nat
  | .a j => j - m + 1
  | .b i => m - i + 1
  | .c => 0
  | .d s => r76r a m b - s
  | .e => 0
theorem c76 (l : List CellR) (hl : l.Pairwise ltC) (hn : l.length ≤ 1000000) : ∀ (N a m b : Nat), b - a ≤ N → a < m → m < b → b ≤ l.length →
    callE Try.prog NoPhi 76 [.sl 6 (l.map CellR.row), .int .i64 a, .int .i64 m, .int .i64 b, .fn 54 []] = some (.tup []) := by
  intro N
  induction N with
  | zero => intro a m b h1 h2 h3 h4; omega
  | succ N ih =>
    intro a m b h1 h2 h3 h4
    have hr : r76r a m b = if m > (a + b) / 2 then (a + b) / 2 else m := rfl
    refine call_heads (ι := H76) Try.f76 hd76 220 Try.func76 (by kernel_rfl) rfl at76 (by rintro (_ | _ | _ | _ | _) <;> rfl) (vals76 l a m b) (inv76 a m b) (mu76 a m b) ⟨_, e76 l a m b, ?_⟩ (fun x nx hx g => ?_)
    · have w1 : IntKind.wrap .i64 ((m : Int) - (a : Int)) = (m : Int) - (a : Int) := wrap64 _ (by omega) (by omega)
      have w2 : IntKind.wrap .i64 ((b : Int) - (m : Int)) = (b : Int) - (m : Int) := wrap64 _ (by omega) (by omega)
      have w3 : IntKind.wrap .i64 ((((a + b) / 2 : Nat) : Int) + (m : Int)) = (((a + b) / 2 + m : Nat) : Int) := by rw [wrap64 _ (by omega) (by omega)]; omega
      have w4 : IntKind.wrap .i64 ((((a + b) / 2 + m : Nat) : Int) - 1) = (((a + b) / 2 + m - 1 : Nat) : Int) := by rw [wrap64 _ (by omega) (by omega)]; omega
      simp only [TW, LcQ, w1, w2, half_eq a b (by omega), w3, w4, beq_iff_eq, beq_eq_false_iff_ne, true_and, decide_eq_true_eq, decide_eq_false_iff_not]
      refine ⟨fun h => ⟨.a b, rfl, rfl, by simp only [inv76]; omega⟩, fun h => ⟨fun h2 => ⟨.b a, rfl, rfl, by simp only [inv76]; omega⟩, fun h2 => ⟨rfl, fun h3 => ?_, fun h3 => ?_⟩⟩⟩
      · have h5 : m > (a + b) / 2 := by omega
        have hr2 : r76r a m b = (a + b) / 2 := by rw [hr, if_pos h5]
        have w5 : IntKind.wrap .i64 ((((a + b) / 2 + m : Nat) : Int) - (b : Int)) = (((a + b) / 2 + m - b : Nat) : Int) := by rw [wrap64 _ (by omega) (by omega)]; omega
        exact ⟨.d ((a + b) / 2 + m - b), rfl, by rw [w5]; simp only [vals76, w76d, hr2], by simp only [inv76]; omega⟩
      · have h5 : ¬ m > (a + b) / 2 := by omega
        have hr2 : r76r a m b = m := by rw [hr, if_neg h5]
        exact ⟨.d a, rfl, by simp only [vals76, w76d, hr2], by simp only [inv76]; omega⟩
    · rcases x with ⟨j⟩ | ⟨i⟩ | _ | ⟨s⟩ | _
      · simp only [inv76] at hx
        refine ⟨_, r76a l a m b m j g nx, ?_⟩
        by_cases hlt : m < j
        · have hm1 : m ≤ (m + j) / 2 := by omega
          have hm2 : (m + j) / 2 < j := by omega
          have hh := half_eq m j (by omega)
          simp only [TW, LcQ, hh]
          generalize (m + j) / 2 = h at *
          have hord := ascC_not hl (show a ≤ h by omega) (by omega)
          have h54 := c54 (l.getD h default) (l.getD a default)
          simp only [CellR.row] at h54
          have jA : ∃ x, p76a = at76 x ∧ w76a l a m b m h = vals76 l a m b x ∧ inv76 a m b x ∧ mu76 a m b x < mu76 a m b (.a j) := ⟨.a h, rfl, rfl, by simp only [inv76]; omega, by simp only [mu76]; omega⟩
          simp only [w76a, p76a] at jA
          simp only [Int.toNat_natCast, h54, hord, decide_false]
          generalize mu76 a m b (.a j) = M at *
          simp (disch := omega) [at_getD, -List.getD_eq_getElem?_getD, -Bool.default_bool, hlt]
          simpa using jA
        · have jA : ∃ x, p76c = at76 x ∧ w76c l a m b m a = vals76 l a m b x ∧ inv76 a m b x ∧ mu76 a m b x < mu76 a m b (.a j) := ⟨.c, rfl, rfl, by simp only [inv76]; omega, by simp only [mu76]; omega⟩
          simp only [w76c, p76c] at jA
          simp [TW, LcQ, hlt]
          simpa using jA
      · simp only [inv76] at hx
        refine ⟨_, r76b l a m b i m g nx, ?_⟩
        by_cases hlt : i < m
        · have hm1 : i ≤ (i + m) / 2 := by omega
          have hm2 : (i + m) / 2 < m := by omega
          have hh := half_eq i m (by omega)
          simp only [TW, LcQ, hh]
          generalize (i + m) / 2 = h at *
          have hord := ascC_not hl (show h ≤ m by omega) (by omega)
          have h54 := c54 (l.getD m default) (l.getD h default)
          simp only [CellR.row] at h54
          have hw : IntKind.wrap .i64 ((h : Int) + 1) = ((h + 1 : Nat) : Int) := by rw [wrap64 _ (by omega) (by omega)]; rfl
          have jA : ∃ x, p76b = at76 x ∧ w76b l a m b (h + 1 : Nat) m = vals76 l a m b x ∧ inv76 a m b x ∧ mu76 a m b x < mu76 a m b (.b i) := ⟨.b (h + 1), rfl, rfl, by simp only [inv76]; omega, by simp only [mu76]; omega⟩
          simp only [w76b, p76b] at jA
          simp only [Int.toNat_natCast, h54, hord, hw, decide_false]
          generalize mu76 a m b (.b i) = M at *
          simp (disch := omega) [at_getD, -List.getD_eq_getElem?_getD, -Bool.default_bool, hlt]
          simpa using jA
        · have h5 : i = m := by omega
          subst h5
          have jA : ∃ x, p76e = at76 x ∧ w76e l a i b i i = vals76 l a i b x ∧ inv76 a i b x ∧ mu76 a i b x < mu76 a i b (.b i) := ⟨.e, rfl, rfl, trivial, by simp only [mu76]; omega⟩
          simp only [w76e, p76e] at jA
          simp [TW, LcQ]
          simpa using jA
      · simp only [inv76] at hx
        refine ⟨_, r76c l a m b m a g nx, ?_⟩
        have hw : IntKind.wrap .i64 ((m : Int) - 1) = (a : Int) := by rw [wrap64 _ (by omega) (by omega)]; omega
        simp [TW, LcQ, hw]
      · simp only [inv76] at hx
        refine ⟨_, r76d l a m b (((a + b) / 2 : Nat) : Int) (((a + b) / 2 + m : Nat) : Int) s (r76r a m b : Nat) (((a + b) / 2 + m - 1 : Nat) : Int) g nx, ?_⟩
        have hmid1 : a < (a + b) / 2 := by omega
        have hmid2 : (a + b) / 2 < b := by omega
        have hmb : m > (a + b) / 2 → (a + b) / 2 + m - (a + b) / 2 = m := by omega
        obtain ⟨mid, hmid⟩ : ∃ mid, mid = (a + b) / 2 := ⟨_, rfl⟩
        rw [← hmid] at hx hmid1 hmid2 hr ⊢
        have hrle : r76r a m b ≤ m ∧ r76r a m b ≤ mid := by rw [hr]; split <;> omega
        by_cases hlt : s < r76r a m b
        · have hm1 : s ≤ (s + r76r a m b) / 2 := by omega
          have hm2 : (s + r76r a m b) / 2 < r76r a m b := by omega
          have hh := half_eq s (r76r a m b) (by omega)
          obtain ⟨r, hre⟩ : ∃ r, r = r76r a m b := ⟨_, rfl⟩
          rw [← hre] at hr hm1 hm2 hh hlt hx hrle ⊢
          simp only [TW, LcQ, hh]
          generalize (s + r) / 2 = c at *
          have hp : c ≤ mid + m - 1 - c := by
            split at hr <;> omega
          have hw1 : IntKind.wrap .i64 (((mid + m - 1 : Nat) : Int) - (c : Int)) = ((mid + m - 1 - c : Nat) : Int) := by rw [wrap64 _ (by omega) (by omega)]; omega
          have hw2 : IntKind.wrap .i64 ((c : Int) + 1) = ((c + 1 : Nat) : Int) := by rw [wrap64 _ (by omega) (by omega)]; rfl
          have hpl : mid + m - 1 - c < l.length := by omega
          have hord := ascC_not hl hp hpl
          have h54 := c54 (l.getD (mid + m - 1 - c) default) (l.getD c default)
          simp only [CellR.row] at h54
          have jA : ∃ x, p76d = at76 x ∧ w76d l a m b (mid : Nat) (mid + m : Nat) (c + 1 : Nat) (r : Nat) (mid + m - 1 : Nat) = vals76 l a m b x ∧ inv76 a m b x ∧ mu76 a m b x < mu76 a m b (.d s) :=
            ⟨.d (c + 1), rfl, by simp only [vals76, ← hmid, ← hre], by simp only [inv76, ← hmid, ← hre]; omega, by simp only [mu76, ← hre]; omega⟩
          simp only [w76d, p76d] at jA
          have hcl : c < l.length := by omega
          simp only [Int.toNat_natCast, hw1, hw2, h54, hord, decide_false]
          generalize mu76 a m b (.d s) = M at *
          generalize mid + m - 1 - c = pc at *
          simp (disch := omega) [at_getD, -List.getD_eq_getElem?_getD, -Bool.default_bool, hlt, hcl, hpl]
          simpa using jA
        · have hs : s = r76r a m b := by omega
          rw [← hs] at hr hrle ⊢
          by_cases hm : m > mid
          · rw [if_pos hm] at hr
            have hw1 : IntKind.wrap .i64 (((mid + m : Nat) : Int) - (s : Int)) = (m : Int) := by rw [wrap64 _ (by omega) (by omega)]; omega
            have hc := ih mid m b (by omega) (by omega) h3 h4
            have q1 : s < m := by omega
            have q2 : a < s := by omega
            have q3 : mid < m := hm
            subst hr
            simp only [TW, LcQ, hw1, hc]
            simp [q1, q2, h3]
          · rw [if_neg hm] at hr
            have hw1 : IntKind.wrap .i64 (((mid + m : Nat) : Int) - (s : Int)) = (mid : Int) := by rw [wrap64 _ (by omega) (by omega)]; omega
            subst hr
            by_cases h6 : s < mid
            · have hc := ih a s mid (by omega) h2 h6 (by omega)
              simp only [TW, LcQ, hw1, hc]
              simp [h2, h6]
            · simp only [TW, LcQ, hw1]
              simp [h2, h6]
      · refine ⟨_, r76e l a m b m m g nx, ?_⟩
        simp [TW, LcQ]
end Go.Proofs.Ytgfpbhbogfabmaa
