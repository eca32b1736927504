/- StateValid: for every state the law returns true and the state reads as before; no condition. -/
import Derived.Test.YtgfpbhbogfabmaaSCon2
import Derived.ProofKit
set_option linter.unusedVariables false
namespace Go.Proofs.Ytgfpbhbogfabmaa
open Go Go.Vm Go.Proofs
open Go.ChangeShapes Go.WideShapes Go.ChangeAt Go.RowKit
theorem law3 : ∀ tvs, ArgsT Try.prog 8 Try.f3.params.toList tvs → callE Try.prog NoPhi 3 tvs = some (.bool true) := by
  intro tvs h
  have h := ArgsT_shape _ _ _ _ h
  rw [show (Try.f3.params.toList.map fun t => (aggT Try.prog t, shapeT Try.prog 8 t)) = [(true, stateT)] by kernel_rfl] at h
  obtain ⟨v0, _, rfl, h0, rfl⟩ := h
  obtain ⟨x0, rfl, y0⟩ := state_arg h0
  exact l3 x0 y0
set_option maxRecDepth 100000 in
theorem stateValid_lifted (os : Os) (started : os.Started) (H : Type) (enc : TypeId × Value → H) :
    ReturnsInHanded {} Try.checked os 3 .any (Rows.stateValidSpec.pre6 enc Try.prog Try.f3 Rows.stateValidRow.domain false) (Rows.stateValidSpec.post enc Try.prog Try.f3 false true false false) := by
  refine returnsInHanded_of_change (C := Try.checked) own started (by kernel_rfl) Try.func3
    (ChangeSpec.witness6 (enc := enc) (C := Try.checked) false ⟨#[], #[.agg #[.slice none 0 0]], []⟩ 8 (by kernel_rfl) (by kernel_rfl) (by kernel_rfl) (by kernel_rfl)) ?_
  intro W base args ds gs before hval hW hcnd _
  refine law_contract (P := Try.prog) mixed noPhi_ok (d := 8) (fn := Try.f3) (by kernel_rfl) rfl (fun ds hd => ?_) law3 hval hW
  match ds, hd with
  | [d0], _ => rfl
theorem stateValid_holds : Rows.StateValidSaid :=
  OpenClaim.holds_of_wide 3 Try.f3 rfl rfl rfl rfl rfl rfl rfl ⟨rfl, rfl, rfl, rfl, rfl⟩ rfl rfl rfl rfl rfl (by kernel_rfl) Try.func3 (by kernel_rfl)
    (of_decide_eq_true (by kernel_rfl)) (by unfold Func.isWrapper; first | (rw [if_pos (by decide +kernel)]; kernel_rfl) | (rw [if_neg (by decide +kernel)]; exact ⟨rfl, rfl⟩))
    (fun os started H enc _ => stateValid_lifted os started H enc)
end Go.Proofs.Ytgfpbhbogfabmaa
