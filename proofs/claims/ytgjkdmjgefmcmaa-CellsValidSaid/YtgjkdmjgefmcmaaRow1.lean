/- CellsValid: for every list the law returns true and the list reads as before; no condition. -/
import Derived.Test.YtgjkdmjgefmcmaaCon5
import Derived.ProofKit
set_option linter.unusedVariables false
set_option linter.unusedSimpArgs false
set_option linter.unnecessarySimpa false
set_option linter.unusedSectionVars false
namespace Go.Proofs.Ytgjkdmjgefmcmaa
open Go Go.Vm Go.Proofs
open Go.ChangeShapes Go.WideShapes Go.ChangeAt Go.RowKit
theorem noPhi_ok : ∀ f args r, NoPhi f args = some r → Ctr Try.prog f args r := fun _ _ _ h => by cases h
theorem law3 : ∀ tvs, ArgsT Try.prog 6 Try.f3.params.toList tvs → callE Try.prog NoPhi 3 tvs = some (.bool true) := by
  intro tvs h
  have h := ArgsT_shape _ _ _ _ h
  rw [show (Try.f3.params.toList.map fun t => (aggT Try.prog t, shapeT Try.prog 6 t)) = [(false, .slice 6 cellT)] by kernel_rfl] at h
  obtain ⟨v, _, rfl, h1, rfl⟩ := h
  obtain ⟨l, rfl⟩ := cells_arg h1
  exact l3 l
set_option maxRecDepth 100000 in
theorem cellsValid_lifted (os : Os) (started : os.Started) (H : Type) (enc : TypeId × Value → H) :
    ReturnsInHanded {} Try.checked os 3 .any (Rows.cellsValidSpec.pre6 enc Try.prog Try.f3 Rows.cellsValidRow.domain false) (Rows.cellsValidSpec.post enc Try.prog Try.f3 false true false false) := by
  refine returnsInHanded_of_change (C := Try.checked) own started (by kernel_rfl) Try.func3
    (ChangeSpec.witness6 (enc := enc) (C := Try.checked) false ⟨#[], #[.slice none 0 0], []⟩ 8 (by kernel_rfl) (by kernel_rfl) (by kernel_rfl) (by kernel_rfl)) ?_
  intro W base args ds gs before hval hW hcnd _
  refine law_contract (P := Try.prog) mixed noPhi_ok (d := 6) (fn := Try.f3) (by kernel_rfl) rfl (fun ds hd => ?_) law3 hval hW
  match ds, hd with
  | [d], _ => rfl
theorem cellsValid_holds : Rows.CellsValidSaid :=
  OpenClaim.holds_of_wide 3 Try.f3 rfl rfl rfl rfl rfl rfl rfl ⟨rfl, rfl, rfl, rfl, rfl⟩ rfl rfl rfl rfl rfl (by kernel_rfl) Try.func3 (by kernel_rfl)
    (of_decide_eq_true (by kernel_rfl)) (by unfold Func.isWrapper; first | (rw [if_pos (by decide +kernel)]; kernel_rfl) | (rw [if_neg (by decide +kernel)]; exact ⟨rfl, rfl⟩))
    (fun os started H enc _ => cellsValid_lifted os started H enc)
end Go.Proofs.Ytgjkdmjgefmcmaa
