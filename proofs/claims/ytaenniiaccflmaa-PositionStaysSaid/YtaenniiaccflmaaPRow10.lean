/- PositionStays: for every list of strings the law returns true and the list reads as before; no condition. -/
import Derived.Test.YtaenniiaccflmaaPCon14
import Derived.ProofKit
set_option linter.unusedVariables false
namespace Go.Proofs.Ytaenniiaccflmaa
open Go Go.Vm Go.Proofs
open Go.ChangeShapes Go.WideShapes Go.ChangeAt Go.RowKit
theorem law10 : ∀ tvs, ArgsT Try.prog 6 Try.f10.params.toList tvs → callE Try.prog NoPhi 10 tvs = some (.bool true) := by
  intro tvs h
  have h := ArgsT_shape _ _ _ _ h
  rw [show (Try.f10.params.toList.map fun t => (aggT Try.prog t, shapeT Try.prog 6 t)) = [(false, .slice 1 .str)] by kernel_rfl] at h
  obtain ⟨v0, _, rfl, h0, rfl⟩ := h
  obtain ⟨x0, rfl, y0⟩ := strs_arg h0
  exact l10 x0 y0
set_option maxRecDepth 100000 in
theorem positionStays_lifted (os : Os) (started : os.Started) (H : Type) (enc : TypeId × Value → H) :
    ReturnsInHanded {} Try.checked os 10 .any (Rows.positionStaysSpec.pre6 enc Try.prog Try.f10 Rows.positionStaysRow.domain false) (Rows.positionStaysSpec.post enc Try.prog Try.f10 false true false false) := by
  refine returnsInHanded_of_change (C := Try.checked) own started (by kernel_rfl) Try.func10
    (ChangeSpec.witness6 (enc := enc) (C := Try.checked) false ⟨#[], #[.slice none 0 0], []⟩ 8 (by kernel_rfl) (by kernel_rfl) (by kernel_rfl) (by kernel_rfl)) ?_
  intro W base args ds gs before hval hW hcnd _
  refine law_contract (P := Try.prog) mixed noPhi_ok (d := 6) (fn := Try.f10) (by kernel_rfl) rfl (fun ds hd => ?_) law10 hval hW
  match ds, hd with
  | [d0], _ => rfl
theorem positionStays_holds : Rows.PositionStaysSaid :=
  OpenClaim.holds_of_wide 10 Try.f10 rfl rfl rfl rfl rfl rfl rfl ⟨rfl, rfl, rfl, rfl, rfl⟩ rfl rfl rfl rfl rfl (by kernel_rfl) Try.func10 (by kernel_rfl)
    (of_decide_eq_true (by kernel_rfl)) (by unfold Func.isWrapper; first | (rw [if_pos (by decide +kernel)]; kernel_rfl) | (rw [if_neg (by decide +kernel)]; exact ⟨rfl, rfl⟩))
    (fun os started H enc _ => positionStays_lifted os started H enc)
end Go.Proofs.Ytaenniiaccflmaa
