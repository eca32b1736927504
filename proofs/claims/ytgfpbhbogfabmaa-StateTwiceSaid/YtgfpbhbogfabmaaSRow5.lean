/- StateTwice: for any three lists of marks the law returns true and they read as before; no condition. -/
import Derived.Test.YtgfpbhbogfabmaaSCon12
import Derived.ProofKit
set_option linter.unusedVariables false
namespace Go.Proofs.Ytgfpbhbogfabmaa
open Go Go.Vm Go.Proofs
open Go.ChangeShapes Go.WideShapes Go.ChangeAt Go.RowKit
theorem law5 : ∀ tvs, ArgsT Try.prog 8 Try.f5.params.toList tvs → Ctr Try.prog 5 tvs (.bool true) := by
  intro tvs h
  have h := ArgsT_shape _ _ _ _ h
  rw [show (Try.f5.params.toList.map fun t => (aggT Try.prog t, shapeT Try.prog 8 t)) = [(false, .slice 3 markT), (false, .slice 3 markT), (false, .slice 3 markT)] by kernel_rfl] at h
  obtain ⟨v0, _, rfl, h0, v1, _, rfl, h1, v2, _, rfl, h2, rfl⟩ := h
  obtain ⟨x0, rfl, y0⟩ := marks_arg h0
  obtain ⟨x1, rfl, y1⟩ := marks_arg h1
  obtain ⟨x2, rfl, y2⟩ := marks_arg h2
  exact l5 x0 y0 x1 y1 x2 y2
set_option maxRecDepth 100000 in
theorem stateTwice_lifted (os : Os) (started : os.Started) (H : Type) (enc : TypeId × Value → H) :
    ReturnsInHanded {} Try.checked os 5 .any (Rows.stateTwiceSpec.pre6 enc Try.prog Try.f5 Rows.stateTwiceRow.domain false) (Rows.stateTwiceSpec.post enc Try.prog Try.f5 false true false false) := by
  refine returnsInHanded_of_change (C := Try.checked) own started (by kernel_rfl) Try.func5
    (ChangeSpec.witness6 (enc := enc) (C := Try.checked) false ⟨#[], #[.slice none 0 0, .slice none 0 0, .slice none 0 0], []⟩ 8 (by kernel_rfl) (by kernel_rfl) (by kernel_rfl) (by kernel_rfl)) ?_
  intro W base args ds gs before hval hW hcnd _
  refine law_ctr (P := Try.prog) (d := 8) (fn := Try.f5) (by kernel_rfl) rfl (fun ds hd => ?_) law5 hval hW
  match ds, hd with
  | [d0, d1, d2], _ => rfl
theorem stateTwice_holds : Rows.StateTwiceSaid :=
  OpenClaim.holds_of_wide 5 Try.f5 rfl rfl rfl rfl rfl rfl rfl ⟨rfl, rfl, rfl, rfl, rfl⟩ rfl rfl rfl rfl rfl (by kernel_rfl) Try.func5 (by kernel_rfl)
    (of_decide_eq_true (by kernel_rfl)) (by unfold Func.isWrapper; first | (rw [if_pos (by decide +kernel)]; kernel_rfl) | (rw [if_neg (by decide +kernel)]; exact ⟨rfl, rfl⟩))
    (fun os started H enc _ => stateTwice_lifted os started H enc)
end Go.Proofs.Ytgfpbhbogfabmaa
