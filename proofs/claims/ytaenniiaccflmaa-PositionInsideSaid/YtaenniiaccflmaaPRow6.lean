/- PositionInside: for any two strings the law returns true; no condition. -/
import Derived.Test.YtaenniiaccflmaaPCon10
import Derived.ProofKit
set_option linter.unusedVariables false
namespace Go.Proofs.Ytaenniiaccflmaa
open Go Go.Vm Go.Proofs
open Go.ChangeShapes Go.WideShapes Go.ChangeAt Go.RowKit
theorem law6 : ∀ tvs, ArgsT Try.prog 6 Try.f6.params.toList tvs → callE Try.prog NoPhi 6 tvs = some (.bool true) := by
  intro tvs h
  have h := ArgsT_shape _ _ _ _ h
  rw [show (Try.f6.params.toList.map fun t => (aggT Try.prog t, shapeT Try.prog 6 t)) = [(false, .str), (false, .str)] by kernel_rfl] at h
  obtain ⟨v0, _, rfl, h0, v1, _, rfl, h1, rfl⟩ := h
  obtain ⟨x0, rfl, y0⟩ := str_arg h0
  obtain ⟨x1, rfl, y1⟩ := str_arg h1
  exact l6 x0 y0 x1 y1
set_option maxRecDepth 100000 in
theorem positionInside_lifted (os : Os) (started : os.Started) (H : Type) (enc : TypeId × Value → H) :
    ReturnsInHanded {} Try.checked os 6 .any (Rows.positionInsideSpec.pre6 enc Try.prog Try.f6 Rows.positionInsideRow.domain false) (Rows.positionInsideSpec.post enc Try.prog Try.f6 false true false false) := by
  refine returnsInHanded_of_change (C := Try.checked) own started (by kernel_rfl) Try.func6
    (ChangeSpec.witness6 (enc := enc) (C := Try.checked) false ⟨#[], #[.string { data := #[] }, .string { data := #[] }], []⟩ 8 (by kernel_rfl) (by kernel_rfl) (by kernel_rfl) (by kernel_rfl)) ?_
  intro W base args ds gs before hval hW hcnd _
  refine law_contract (P := Try.prog) mixed noPhi_ok (d := 6) (fn := Try.f6) (by kernel_rfl) rfl (fun ds hd => ?_) law6 hval hW
  match ds, hd with
  | [d0, d1], _ => rfl
theorem positionInside_holds : Rows.PositionInsideSaid :=
  OpenClaim.holds_of_wide 6 Try.f6 rfl rfl rfl rfl rfl rfl rfl ⟨rfl, rfl, rfl, rfl, rfl⟩ rfl rfl rfl rfl rfl (by kernel_rfl) Try.func6 (by kernel_rfl)
    (of_decide_eq_true (by kernel_rfl)) (by unfold Func.isWrapper; first | (rw [if_pos (by decide +kernel)]; kernel_rfl) | (rw [if_neg (by decide +kernel)]; exact ⟨rfl, rfl⟩))
    (fun os started H enc _ => positionInside_lifted os started H enc)
end Go.Proofs.Ytaenniiaccflmaa
