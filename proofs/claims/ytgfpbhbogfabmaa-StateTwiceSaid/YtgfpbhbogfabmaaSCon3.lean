/- A part of the proof: SCon3. -/
import Derived.Test.YtgfpbhbogfabmaaSCon1
import Derived.Test.YtgfpbhbogfabmaaSTrees2
set_option linter.unusedVariables false
set_option linter.unusedSimpArgs false
set_option linter.unnecessarySimpa false
set_option linter.unusedSectionVars false
namespace Go.Proofs.Ytgfpbhbogfabmaa
open Go Go.Vm Go.Proofs
theorem mod_lt (x n : Int) (h : 1 ≤ n) : 0 ≤ modS x n ∧ modS x n < n := by
  unfold modS; rw [if_neg (by omega)]; exact ⟨Int.emod_nonneg _ (by omega), Int.emod_lt_of_pos _ (by omega)⟩
theorem mod_eq (x n : Int) (h : 1 ≤ n) (h2 : n ≤ 4611686018427387904) : Int.tmod (IntKind.wrap .i64 (Int.tmod x n + n)) n = modS x n := by
  have h3 := Int.tmod_lt_of_pos x (show 0 < n by omega)
  have h4 : -n < Int.tmod x n := by
    have := Int.lt_tmod_of_pos x (show 0 < n by omega); exact this
  rw [wrap64 _ (by omega) (by omega), Int.tmod_eq_emod_of_nonneg (by omega), modS, if_neg (by omega), Int.add_emod_right]
  have h5 : (n * x.tdiv n + x.tmod n) % n = x.tmod n % n := by rw [Int.add_comm, Int.add_mul_emod_self_left]
  rw [Int.mul_tdiv_add_tmod] at h5
  exact h5.symm
theorem c44 (x n : Int) (h2 : n ≤ 4611686018427387904) : callE Try.prog NoPhi 44 [.int .i64 x, .int .i64 n] = some (.int .i64 (modS x n)) := by
  refine call_flat Try.f44 Try.func44 (by kernel_rfl) rfl ⟨_, e44 x n, ?_⟩
  by_cases h : n < 1
  · simp [TW, LcQ, h, modS]
  · have := mod_eq x n (by omega) h2
    simp [TW, LcQ, h, this]; omega
theorem c17 (x n : Int) (h1 : 1 ≤ n) (h2 : n ≤ 1000000) : callE Try.prog NoPhi 17 [.int .i64 x, .int .i64 n] = some (.int .i64 (idN x n)) := by
  refine call_flat Try.f17 Try.func17 (by kernel_rfl) rfl ⟨_, e17 x n, ?_⟩
  have e1 := mod_lt x 3 (by omega)
  have e2 := mod_lt (IntKind.wrap .i64 (x.tdiv 3)) n h1
  simp (disch := omega) only [TW, LcQ, c44, true_and, idN]
  generalize modS (IntKind.wrap .i64 (x.tdiv 3)) n = u at *
  generalize modS x 3 = v at *
  have : (2 : Int) ^ 20 = 1048576 := by decide
  rw [this]
  simp (disch := omega) [wrap64]
theorem c34 (x : Int) : callE Try.prog NoPhi 34 [.int .i64 x] = some (.int .i64 (fieldN x)) := by
  refine call_flat Try.f34 Try.func34 (by kernel_rfl) rfl ⟨_, e34 x, ?_⟩
  have e2 := mod_lt (IntKind.wrap .i64 (x.tdiv 5)) 3 (by omega)
  have e3 : modS x 5 = x % 5 := by simp [modS]
  simp (disch := omega) only [TW, LcQ, c44, true_and, fieldN, e3]
  generalize modS (IntKind.wrap .i64 (x.tdiv 5)) 3 = u at *
  simp +contextual (disch := omega) [wrap64]
theorem c35 (a b c : Int) : callE Try.prog NoPhi 35 [.int .i64 a, .int .i64 b, .int .i64 c] = some (.agg (valN a b c).row) := by
  refine call_flat Try.f35 Try.func35 (by kernel_rfl) rfl ⟨_, e35 a b c, ?_⟩
  simp (disch := omega) [TW, LcQ, c44, valN, Val.row]
theorem c38 (c : CellR) : callE Try.prog NoPhi 38 [.agg c.row] = some (.agg [.int .i64 c.id, .int .i64 c.field]) := by
  refine call_flat Try.f38 Try.func38 (by kernel_rfl) rfl ⟨_, e38 c, ?_⟩
  simp [TW, LcQ]
theorem c39 (c : CellR) (n : Int) : callE Try.prog NoPhi 39 [.agg c.row, .int .i64 n] = some (.agg (oneS n c).row) := by
  refine call_flat Try.f39 Try.func39 (by kernel_rfl) rfl ⟨_, e39 c n, ?_⟩
  simp [TW, LcQ, oneS, SlotR.row, AltR.row]
theorem c54 (a b : CellR) : callE Try.prog NoPhi 54 [.agg a.row, .agg b.row] = some (.int .i64 (ordP a.id a.field b.id b.field)) := by
  refine call_flat Try.f54 Try.func54 (by kernel_rfl) rfl ⟨_, e54 a b, ?_⟩
  have h1 := c38 a; have h2 := c38 b
  simp only [CellR.row] at h1 h2
  simp [TW, LcQ, h1, h2, c28]
end Go.Proofs.Ytgfpbhbogfabmaa
