/- A part of the proof: SCon9. -/
import Derived.Test.YtgfpbhbogfabmaaSCon8
import Derived.Test.YtgfpbhbogfabmaaSClo
set_option linter.unusedVariables false
set_option linter.unusedSimpArgs false
set_option linter.unnecessarySimpa false
set_option linter.unusedSectionVars false
namespace Go.Proofs.Ytgfpbhbogfabmaa
open Go Go.Vm Go.Proofs
inductive H65 where
  | a (a : Nat)
  | b (q : Nat)
  | c (q a : Nat)
def at65 : H65 → List Bool | .a .. => p65a | .b .. => p65b | .c .. => p65c
def vals65 (l : List CellR) : H65 → List TV
  | .a a => w65a l (l.length : Nat) 20 (a : Nat) (a + 20 : Nat)
  | .b q => w65b l (l.length : Nat) (q : Nat)
  | .c q a => w65c l (l.length : Nat) (q : Nat) (a : Nat) (a + 2 * q : Nat)
def inv65 (n : Nat) : H65 → Prop
  | .a a => a ≤ n
  | .b q => 20 ≤ q ∧ q ≤ 2 * n + 20
  | .c q a => 20 ≤ q ∧ q < n ∧ a ≤ n
def mu65 (n : Nat) : H65 → Nat
  | .a a => 4000000 * 4000000 + 1 + (n - a)
  | .b q => (4000000 - q) * 4000000
  | .c q a => (4000000 - q) * 4000000 - 1 - a
theorem c65 (l : List CellR) (hl : l.Pairwise ltC) (hn : l.length ≤ 1000000) : callE Try.prog NoPhi 65 [.sl 6 (l.map CellR.row), .int .i64 (l.length : Nat), .fn 54 []] = some (.tup []) := by
  refine call_heads (ι := H65) Try.f65 hd65 63 Try.func65 (by kernel_rfl) rfl at65 (by rintro (_ | _ | _) <;> rfl) (vals65 l) (inv65 l.length) (mu65 l.length) ⟨_, e65 l (l.length : Nat), ?_⟩ (fun x nx hx g => ?_)
  · simp only [TW, LcQ, true_and]
    exact ⟨.a 0, rfl, rfl, Nat.zero_le _⟩
  · rcases x with ⟨a⟩ | ⟨q⟩ | ⟨q, a⟩
    · simp only [inv65] at hx
      refine ⟨_, r65a l (l.length : Nat) 20 (a : Nat) (a + 20 : Nat) g nx, ?_⟩
      have hw : IntKind.wrap .i64 (((a + 20 : Nat) : Int) + 20) = ((a + 20 + 20 : Nat) : Int) := by rw [wrap64 _ (by omega) (by omega)]; rfl
      by_cases hlt : a + 20 ≤ l.length
      · have hc := c75 l (a : Nat) (a + 20 : Nat) hl hn (by omega) (by omega) (by omega)
        have jA : ∃ x, p65a = at65 x ∧ w65a l (l.length : Nat) 20 (a + 20 : Nat) (a + 20 + 20 : Nat) = vals65 l x ∧ inv65 l.length x ∧ mu65 l.length x < mu65 l.length (.a a) := ⟨.a (a + 20), rfl, rfl, hlt, by simp only [mu65]; omega⟩
        have hle : ((a + 20 : Nat) : Int) ≤ (l.length : Int) := by omega
        simp only [w65a, p65a] at jA
        simp only [TW, LcQ, hw, hc, hle, decide_true, true_and, true_implies]
        exact ⟨jA, fun h => (by cases h)⟩
      · have hc := c75 l (a : Nat) (l.length : Nat) hl hn (by omega) (by omega) (by omega)
        have jA : ∃ x, p65b = at65 x ∧ w65b l (l.length : Nat) 20 = vals65 l x ∧ inv65 l.length x ∧ mu65 l.length x < mu65 l.length (.a a) := ⟨.b 20, rfl, rfl, by simp only [inv65]; omega, by simp only [mu65]; omega⟩
        have hle : ¬ ((a + 20 : Nat) : Int) ≤ (l.length : Int) := by omega
        simp only [w65b, p65b] at jA
        simp only [TW, LcQ, hw, hc, hle, decide_false, true_and, true_implies]
        exact ⟨fun h => (by cases h), jA⟩
    · simp only [inv65] at hx
      refine ⟨_, r65b l (l.length : Nat) (q : Nat) g nx, ?_⟩
      by_cases hlt : q < l.length
      · have hw : IntKind.wrap .i64 (2 * (q : Int)) = ((0 + 2 * q : Nat) : Int) := by rw [wrap64 _ (by omega) (by omega)]; omega
        have jA : ∃ x, p65c = at65 x ∧ w65c l (l.length : Nat) (q : Nat) 0 (0 + 2 * q : Nat) = vals65 l x ∧ inv65 l.length x ∧ mu65 l.length x < mu65 l.length (.b q) := ⟨.c q 0, rfl, rfl, by simp only [inv65]; omega, by simp only [mu65]; omega⟩
        have hle : (q : Int) < (l.length : Int) := by omega
        simp only [w65c, p65c] at jA
        simp only [TW, LcQ, hw, hle, decide_true, true_and, true_implies]
        exact ⟨jA, fun h => (by cases h)⟩
      · have hle : ¬ (q : Int) < (l.length : Int) := by omega
        simp only [TW, LcQ, hle, decide_false]
        exact ⟨fun h => (by cases h), fun _ => trivial⟩
    · simp only [inv65] at hx
      refine ⟨_, r65c l (l.length : Nat) (q : Nat) (a : Nat) (a + 2 * q : Nat) g nx, ?_⟩
      have hw1 : IntKind.wrap .i64 ((a : Int) + (q : Int)) = ((a + q : Nat) : Int) := by rw [wrap64 _ (by omega) (by omega)]; rfl
      have hw2 : IntKind.wrap .i64 (2 * (q : Int)) = ((2 * q : Nat) : Int) := by rw [wrap64 _ (by omega) (by omega)]; omega
      have hw3 : IntKind.wrap .i64 (((a + 2 * q : Nat) : Int) + ((2 * q : Nat) : Int)) = ((a + 2 * q + 2 * q : Nat) : Int) := by rw [wrap64 _ (by omega) (by omega)]; rfl
      have hw4 : IntKind.wrap .i64 ((q : Int) * 2) = ((q * 2 : Nat) : Int) := by rw [wrap64 _ (by omega) (by omega)]; omega
      have jB : ∃ x, p65b = at65 x ∧ w65b l (l.length : Nat) (q * 2 : Nat) = vals65 l x ∧ inv65 l.length x ∧ mu65 l.length x < mu65 l.length (.c q a) := ⟨.b (q * 2), rfl, rfl, by simp only [inv65]; omega, by simp only [mu65]; omega⟩
      simp only [w65b, p65b] at jB
      by_cases hlt : a + 2 * q ≤ l.length
      · have hc := c76 l hl hn _ a (a + q) (a + 2 * q) (Nat.le_refl _) (by omega) (by omega) (by omega)
        have jA : ∃ x, p65c = at65 x ∧ w65c l (l.length : Nat) (q : Nat) (a + 2 * q : Nat) (a + 2 * q + 2 * q : Nat) = vals65 l x ∧ inv65 l.length x ∧ mu65 l.length x < mu65 l.length (.c q a) := ⟨.c q (a + 2 * q), rfl, rfl, by simp only [inv65]; omega, by simp only [mu65]; omega⟩
        have hle : ((a + 2 * q : Nat) : Int) ≤ (l.length : Int) := by omega
        simp only [w65c, p65c] at jA
        simp only [TW, LcQ, hw1, hw2, hw3, hc, hle, decide_true, true_and, true_implies]
        exact ⟨jA, fun h => (by cases h)⟩
      · have hle : ¬ ((a + 2 * q : Nat) : Int) ≤ (l.length : Int) := by omega
        by_cases h2 : a + q < l.length
        · have hc := c76 l hl hn _ a (a + q) l.length (Nat.le_refl _) (by omega) (by omega) (by omega)
          have hle2 : ((a + q : Nat) : Int) < (l.length : Int) := by omega
          simp only [TW, LcQ, hw1, hw2, hw3, hw4, hc, hle, hle2, decide_true, decide_false, true_and, true_implies]
          exact ⟨fun h => (by cases h), ⟨jB, fun h => (by cases h)⟩⟩
        · have hle2 : ¬ ((a + q : Nat) : Int) < (l.length : Int) := by omega
          simp only [TW, LcQ, hw1, hw2, hw3, hw4, hle, hle2, decide_true, decide_false, true_and, true_implies]
          exact ⟨fun h => (by cases h), ⟨fun h => (by cases h), jB⟩⟩
theorem c53 (l : List CellR) (hl : l.Pairwise ltC) (hn : l.length ≤ 1000000) : callE Try.prog NoPhi 53 [.sl 6 (l.map CellR.row), .fn 54 []] = some (.tup []) := by
  refine call_flat Try.f53 Try.func53 (by kernel_rfl) rfl ⟨_, e53 l, ?_⟩
  have := c65 l hl hn
  simp only [TW, LcQ, List.length_map, this, true_and]
theorem putC_snoc : ∀ (l : List CellR) (c : CellR), (∀ d ∈ l, ordP d.id d.field c.id c.field < 0) → putC l c = l ++ [c]
  | [], c, _ => rfl
  | d :: l, c, h => by
    rw [putC, if_pos (h d (by simp)), putC_snoc l c fun x hx => h x (by simp [hx])]; rfl
theorem last_asc (w : List CellR) (hw : w.Pairwise ltC) : lastS w = w := by
  have key : ∀ (w pre : List CellR), (pre ++ w).Pairwise ltC → w.foldl putC pre = pre ++ w := by
    intro w
    induction w with
    | nil => intro pre _; simp
    | cons c w ih =>
      intro pre h
      have h1 := (List.pairwise_append.1 h).2.2
      rw [List.foldl_cons, putC_snoc pre c (fun d hd => h1 d hd c (by simp)), ih _ (by simpa using h)]
      simp
  have := key w [] (by simpa using hw)
  simpa [lastS] using this
theorem c37 (l : List CellR) (hl : l.Pairwise ltC) (hn : l.length ≤ 1000000) : callE Try.prog NoPhi 37 [.sl 6 (l.map CellR.row)] = some (.own (0, 0) 44 6 ((lastS l).map CellR.row)) := by
  rw [last_asc l hl]
  refine call_loop Try.f37 hd37 46 Try.func37 (by kernel_rfl) rfl p37 rfl (fun x : Stamp × Nat => w37 l x.1 x.2 x.2) (fun x => x.2 ≤ l.length) (fun x => l.length - x.2) ⟨_, e37 l, ?_⟩ (fun x nx hi g => ⟨_, r37 l x.1 x.2 x.2 g nx, ?_⟩)
  · have h1 := c52 (l.map CellR.row) (by simpa using hn)
    have h2 := c53 l hl hn
    simp only [TW, LcQ, h1, List.drop_zero, List.take_length, take_map_len, List.length_map, h2, p37, true_and]
    exact ⟨((3, 0), 0), by simp [w37], Nat.zero_le _⟩
  · obtain ⟨γ, i⟩ := x
    simp only at hi ⊢
    by_cases hlt : i < l.length
    · have hw : IntKind.wrap .i64 ((i : Int) + 1) = ((i + 1 : Nat) : Int) := by rw [wrap64 _ (by omega) (by omega)]; rfl
      have jA : ∃ j : Stamp × Nat, w37 l γ (i + 1) (i + 1) = w37 l j.1 j.2 j.2 ∧ j.2 ≤ l.length ∧ l.length - j.2 < l.length - i := ⟨(γ, i + 1), rfl, hlt, by simp only; omega⟩
      have hset : (l.map CellR.row).set i (CellR.row (l.getD i default)) = l.map CellR.row := by
        rw [← List.map_set]
        congr 1
        rw [← at_getD l i hlt]
        exact List.set_getElem_self hlt
      simp only [CellR.row] at hset
      simp only [w37, List.length_map] at jA
      rcases Nat.eq_zero_or_pos i with h0 | h0
      · subst h0
        simp only [TW, LcQ, hw, p37, Nat.zero_add, List.length_map]
        simp (disch := omega) [at_getD, -List.getD_eq_getElem?_getD, -Bool.default_bool, hlt, hset]
        simpa [w37, CellR.row] using jA
      · have hw2 : IntKind.wrap .i64 ((i : Int) - 1) = ((i - 1 : Nat) : Int) := by rw [wrap64 _ (by omega) (by omega)]; omega
        have h38 := c38 (l.getD i default)
        have h38' := c38 (l.getD (i - 1) default)
        simp only [CellR.row] at h38 h38'
        have hasc := ascC_get hl (show i - 1 < i by omega) hlt
        have hne : ((l.getD (i - 1) default).id == (l.getD i default).id && ((l.getD (i - 1) default).field == (l.getD i default).field && true)) = false := by
          rw [ordP_lt] at hasc
          rw [Bool.eq_false_iff]
          simp only [ne_eq, Bool.and_eq_true, beq_iff_eq, Bool.and_true]
          omega
        have hp : (0 : Int) < (i : Int) := by omega
        simp only [TW, LcQ, hw, hw2, p37, Nat.zero_add, List.length_map, Int.toNat_natCast, h38, h38', hne]
        simp (disch := omega) [at_getD, -List.getD_eq_getElem?_getD, -Bool.default_bool, hlt, hset, hp]
        have hlt2 : i - 1 < l.length := by omega
        have h0' : ¬ i = 0 := by omega
        simpa [w37, CellR.row, hlt2, h0, h0'] using jA
    · have : i = l.length := by omega
      subst this
      simp [TW, LcQ]
end Go.Proofs.Ytgfpbhbogfabmaa
