/- A part of the proof: Con5. -/
import Derived.Test.YtgjkdmjgefmcmaaTrees2
import Derived.Test.YtgjkdmjgefmcmaaVm31
set_option linter.unusedVariables false
set_option linter.unusedSimpArgs false
set_option linter.unnecessarySimpa false
set_option linter.unusedSectionVars false
namespace Go.Proofs.Ytgjkdmjgefmcmaa
open Go Go.Vm Go.Proofs
theorem c9 (a b : List CellR) : callE Try.prog NoPhi 9 [.sl 6 (a.map CellR.row), .sl 6 (b.map CellR.row)] = some (.bool (decide (a.length ≤ 200) && decide (b.length ≤ 200))) := by
  refine call_flat Try.f9 Try.func9 (by kernel_rfl) rfl ⟨_, e9 a b, ?_⟩
  have h : ∀ n : Nat, decide ((n : Int) ≤ 200) = decide (n ≤ 200) := fun n => by rw [Bool.eq_iff_iff]; simp; omega
  simp only [TW, LcQ, List.length_map, h]
  simp +contextual
  omega
theorem c9b (a : List CellR) : callE Try.prog NoPhi 9 [.sl 6 (a.map CellR.row), .sl 6 []] = some (.bool (decide (a.length ≤ 200))) := by
  have := c9 a []
  simpa using this
theorem c10 : callE Try.prog NoPhi 10 [] = some (.bool true) := callE_some.2 ⟨200, by kernel_rfl⟩
theorem l3 (l : List CellR) : callE Try.prog NoPhi 3 [.sl 6 (l.map CellR.row)] = some (.bool true) := by
  refine call_flat Try.f3 Try.func3 (by kernel_rfl) rfl ⟨_, e3 l, ?_⟩
  simp +contextual (disch := omega) [TW, LcQ, c9b, c10, c11, c12, c13, c14]
theorem l8 (l : List CellR) (id field : Int) : callE Try.prog NoPhi 8 [.sl 6 (l.map CellR.row), .int .i64 id, .int .i64 field] = some (.bool true) := by
  refine call_flat Try.f8 Try.func8 (by kernel_rfl) rfl ⟨_, e8 l id field, ?_⟩
  simp only [TW, LcQ, v_eq]
  have h : ∀ l : List CellR, ∀ n, (ofS l n).length ≤ l.length := fun l n => List.length_filter_le _ _
  have h' := h l id
  simp +contextual (disch := omega) [c9b, c10, c20, c22, c23, c24, c15]
/-- The shape of a cell. -/
def cellT : TSh := .field 1 (.int .i64) (.field 1 (.int .i64) (.field 4 (.field 1 (.int .i64) (.field 1 .bool (.field 1 .str (.field 1 (.int .i64) .fin)))) .fin))
theorem cell_row {r : List TV} (h : TyS cellT r) : ∃ c : CellR, r = c.row := by
  simp only [cellT, TyS] at h
  obtain ⟨_, _, rfl, _, ⟨a, rfl, _⟩, _, _, rfl, _, ⟨b, rfl, _⟩, _, _, rfl, _, ⟨_, _, rfl, _, ⟨c, rfl, _⟩, _, _, rfl, _, ⟨d, rfl⟩, _, _, rfl, _, ⟨e, rfl, _⟩, _, _, rfl, _, ⟨f, rfl, _⟩, rfl⟩, rfl⟩ := h
  exact ⟨⟨a, b, ⟨c, d, e, f⟩⟩, rfl⟩
theorem cells_arg {v : TV} (h : TyS (.slice 6 cellT) [v]) : ∃ l : List CellR, v = .sl 6 (l.map CellR.row) := by
  obtain ⟨xs, h1, _, h3⟩ := h
  obtain ⟨l, rfl⟩ := rows_map CellR.row xs fun r hr => cell_row (h3 r hr)
  exact ⟨l, by simpa using h1⟩
theorem int_arg {v : TV} (h : TyS (.int .i64) [v]) : ∃ n : Int, v = .int .i64 n := by
  obtain ⟨n, h1, _⟩ := h
  exact ⟨n, by simpa using h1⟩
theorem mixed : Try.prog.follows .mixedOrders = true := by kernel_rfl
theorem own : ownKnob Try.prog.godebug = none := by kernel_rfl
theorem noPhi_ok : ∀ f args r, NoPhi f args = some r → Ctr Try.prog f args r := fun _ _ _ h => by cases h
end Go.Proofs.Ytgjkdmjgefmcmaa
