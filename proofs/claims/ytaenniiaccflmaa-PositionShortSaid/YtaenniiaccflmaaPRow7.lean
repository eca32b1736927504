/- PositionShort: for any three strings the law returns true; no condition. -/
import Derived.Test.YtaenniiaccflmaaPCon10
import Derived.ProofKit
set_option linter.unusedVariables false
namespace Go.Proofs.Ytaenniiaccflmaa
open Go Go.Vm Go.Proofs
open Go.ChangeShapes Go.WideShapes Go.ChangeAt Go.RowKit
theorem law7 : ∀ tvs, ArgsT Try.prog 6 Try.f7.params.toList tvs → callE Try.prog NoPhi 7 tvs = some (.bool true) := by
  intro tvs h
  have h := ArgsT_shape _ _ _ _ h
  rw [show (Try.f7.params.toList.map fun t => (aggT Try.prog t, shapeT Try.prog 6 t)) = [(false, .str), (false, .str), (false, .str)] by kernel_rfl] at h
  obtain ⟨v0, _, rfl, h0, v1, _, rfl, h1, v2, _, rfl, h2, rfl⟩ := h
  obtain ⟨x0, rfl, y0⟩ := str_arg h0
  obtain ⟨x1, rfl, y1⟩ := str_arg h1
  obtain ⟨x2, rfl, y2⟩ := str_arg h2
  exact l7 x0 y0 x1 y1 x2 y2
set_option maxRecDepth 100000 in
theorem positionShort_lifted (os : Os) (started : os.Started) (H : Type) (enc : TypeId × Value → H) :
    ReturnsInHanded {} Try.checked os 7 .any (Rows.positionShortSpec.pre6 enc Try.prog Try.f7 Rows.positionShortRow.domain false) (Rows.positionShortSpec.post enc Try.prog Try.f7 false true false false) := by
  refine returnsInHanded_of_change (C := Try.checked) own started (by kernel_rfl) Try.func7
    (ChangeSpec.witness6 (enc := enc) (C := Try.checked) false ⟨#[], #[.string { data := #[] }, .string { data := #[] }, .string { data := #[] }], []⟩ 8 (by kernel_rfl) (by kernel_rfl) (by kernel_rfl) (by kernel_rfl)) ?_
  intro W base args ds gs before hval hW hcnd _
  refine law_contract (P := Try.prog) mixed noPhi_ok (d := 6) (fn := Try.f7) (by kernel_rfl) rfl (fun ds hd => ?_) law7 hval hW
  match ds, hd with
  | [d0, d1, d2], _ => rfl
theorem positionShort_holds : Rows.PositionShortSaid :=
  OpenClaim.holds_of_wide 7 Try.f7 rfl rfl rfl rfl rfl rfl rfl ⟨rfl, rfl, rfl, rfl, rfl⟩ rfl rfl rfl rfl rfl (by kernel_rfl) Try.func7 (by kernel_rfl)
    (of_decide_eq_true (by kernel_rfl)) (by unfold Func.isWrapper; first | (rw [if_pos (by decide +kernel)]; kernel_rfl) | (rw [if_neg (by decide +kernel)]; exact ⟨rfl, rfl⟩))
    (fun os started H enc _ => positionShort_lifted os started H enc)
end Go.Proofs.Ytaenniiaccflmaa
