/- Running code, piece by piece. -/
import Derived.Test.YtgfpbhbogfabmaaVm23
set_option linter.unusedVariables false
set_option linter.unusedSimpArgs false
set_option linter.unnecessarySimpa false
set_option linter.unusedSectionVars false
namespace Go.Vm
section
variable {P : Program} {call : FuncId → List TV → Option TV} {rs : List Nat} {s s' s1 : List TV} {n : Nat} {Q : Ex → St → Prop} {a b c : Code} {id : Nat} {ops : Array Oper} {o : Oper} {l : List Oper} {r : TV × List Cmd} {x : Operand} {t : Bool}

theorem ops_nil : opsFrom P call rs ops n [] s = some s := rfl
theorem ops_cons (h : (gOp P call rs ops n o).eval s = some r) (hs : after s o.dst r = s1) (hr : opsFrom P call rs ops (n + 1) l s1 = some s') : opsFrom P call rs ops n (o :: l) s = some s' := by
  subst hs
  simp only [opsFrom, h, hr]
theorem region_text (h : opsFrom P call rs l.toArray n l s = some s') : region P call rs l.toArray false ⟨s, n⟩ = some ⟨s', n + l.length⟩ := by
  simp only [region, Bool.false_eq_true, if_false, h, Option.map_some, List.size_toArray]
theorem W_ops_then (h : opsFrom P call rs l.toArray n l s = some s') (hq : W P call rs b ⟨s', n + l.length⟩ Q) : W P call rs (.seq (.region id l.toArray false) b) ⟨s, n⟩ Q :=
  W_seq.2 (W_region.2 (by rw [region_text h]; exact hq))
theorem W_ops (h : opsFrom P call rs l.toArray n l s = some s') (hq : Q .normal ⟨s', n + l.length⟩) : W P call rs (.region id l.toArray false) ⟨s, n⟩ Q :=
  W_region.2 (by rw [region_text h]; exact hq)
theorem W_seq_seq {σ : St} (h : W P call rs (.seq a (.seq b c)) σ Q) : W P call rs (.seq (.seq a b) c) σ Q := by
  rw [W_seq] at h ⊢
  rw [W_seq]
  refine h.mono fun e σ hq => ?_
  cases e with
  | normal =>
    simp only [thenQ] at hq ⊢
    rw [W_seq] at hq
    exact hq
  | exit id => exact hq
  | ret => exact hq
theorem W_ite {σ : St} (ht : (ev x).eval σ.s = some (.bool t)) (h1 : t = true → W P call rs a σ Q) (h2 : t = false → W P call rs b σ Q) : W P call rs (.cond x a b) σ Q := by
  rw [W_cond ht]
  cases t
  · exact h2 rfl
  · exact h1 rfl
theorem W_ite_then {σ : St} (ht : (ev x).eval σ.s = some (.bool t)) (h1 : t = true → W P call rs (.seq a c) σ Q) (h2 : t = false → W P call rs (.seq b c) σ Q) : W P call rs (.seq (.cond x a b) c) σ Q := by
  rw [W_seq, W_cond ht, ← W_seq]
  cases t
  · exact h2 rfl
  · exact h1 rfl
theorem W_ret_then {σ : St} (h : Q .ret σ) : W P call rs (.seq .ret c) σ Q := W_seq.2 (W_ret.2 h)
theorem W_exit_then {σ : St} (h : Q (.exit id) σ) : W P call rs (.seq (.exit id) c) σ Q := W_seq.2 (W_exit.2 h)
theorem W_skip_then {σ : St} (h : W P call rs c σ Q) : W P call rs (.seq .skip c) σ Q := W_seq.2 (W_skip.2 h)
theorem W_block_then {σ : St} (h : W P call rs a σ (blockQ id (thenQ (fun σ' => W P call rs c σ' Q) Q))) : W P call rs (.seq (.block id a) c) σ Q := W_seq.2 (W_block.2 h)
theorem bodyOf_mk {f : FuncId} {fn : Func} {c : Code} (hf : P.funcs[f]? = some fn) (hb : fn.body = some c) (hd : (fn.name != "runtime.NumGoroutine" && dstOk fn.ntmps c) = true) : bodyOf P f = some (fn, c) := by
  simp only [bodyOf, hf, hb, hd, if_true]
end
end Go.Vm
