/- The row of a law, from the contract of its function. -/
import Derived.Test.YtgfpbhbogfabmaaVm33
import Derived.Test.YtgfpbhbogfabmaaVm23
set_option linter.unusedVariables false
set_option linter.unusedSimpArgs false
set_option linter.unnecessarySimpa false
set_option linter.unusedSectionVars false
namespace Go.Vm
open Go.ChangeShapes Go.WideShapes Go.ChangeAt Go.RowKit
section
variable {P : Program} {H : Type} {enc : TypeId × Value → H} {w : World}
/-- The contract of a law's row, from the contract of its function. -/
theorem law_ctr {d : Nat} {f : FuncId} {fn : Func} (hk : lawOk P d fn = true)
    {s : ChangeSpec} (hvars : s.vars = []) (hfn : ∀ ds : List (DataW H), ds.length = fn.params.toList.length → s.fn H ds = { results := [.lit (.bool true)], args := ds })
    (hlaw : ∀ tvs, ArgsT P d fn.params.toList tvs → Ctr P f tvs (.bool true))
    {W : World} {base : Nat} {args : Array Value} {ds gs : List (DataW H)} {before : List MemPlace} {apart fresh handsOn : Bool}
    (hval : ∀ (j : Nat) t v, fn.params[j]? = some t → args[j]? = some v → Value.okWide P W .any base t v) (hW : DataW.Whole enc P fn.params.toList s.vars apart W args.toList ds gs before) :
    Calls P f args W fun e W' => ∃ v, e = .returned v ∧ s.post enc P fn apart fresh handsOn false W args v W' := by
  have hW0 := hW
  simp only [lawOk, Bool.and_eq_true, List.all_eq_true, decide_eq_true_eq] at hk
  obtain ⟨⟨hlo, hps⟩, hrt⟩ := hk
  obtain ⟨p, q, hA, hV, rfl, hfz, hnd⟩ := hW
  rw [hvars] at hV
  obtain ⟨rfl, rfl⟩ := trodVars_none hV
  obtain ⟨hdl, tvs, r1, r2⟩ := open_args (d := d) (fun t ht => (hps t ht).1.1) (fun j t v h1 h2 => hval j t v (by simpa using h1) (by simpa using h2)) hA
  have hc := hlaw tvs r2
  refine Calls.mono (hc.2 W args (Old W) (fun _ h => h) r1) ?_
  rintro e W' ⟨v, rfl, hkept, η, _, _, hrep⟩
  simp only [imp, impOne, Rep, RepP] at hrep
  subst hrep
  have hb : Below W.heap.size W W' := ⟨hkept.os, hkept.tape, hkept.output, hkept.size, hkept.block⟩
  have hlt : ∀ x ∈ p ++ [], x.block < W.heap.size := fun x hx => hW0.lt x hx
  have hsf : s.fn H (ds ++ []) = { results := [.lit (.bool true)], args := ds } := by rw [List.append_nil]; exact hfn ds hdl
  refine ⟨_, rfl, ds, [], p ++ [], [], p, [], hW0, ?_, ?_, ?_, hb.frame _, fun h => by cases h⟩
  · rw [hsf]
    split at hrt
    · rename_i t hts
      have hsz : fn.resultTypes.size = 1 := by rw [← Array.length_toList, hts]; rfl
      rw [hts, hsz]
      exact ⟨[], [], shut_bool (boolT_und hrt) true, rfl, rfl⟩
    · cases hrt
  · rw [hsf]
    exact trodAll_below hlo hb (fun t ht => ⟨(hps t ht).1.2, (hps t ht).2⟩) (fun x hx => hlt x (by simp [hx])) hA
  · rw [hsf, hvars]
    show DataW.TrodVars enc P W' _ [] _ []
    rfl
end
end Go.Vm
