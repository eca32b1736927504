/- Built-ins that only read, conversions, calls. -/
import Derived.Test.YtgfpbhbogfabmaaVm11
set_option linter.unusedVariables false
set_option linter.unusedSimpArgs false
set_option linter.unnecessarySimpa false
set_option linter.unusedSectionVars false
namespace Go.Vm

/-- What a function gives, as the evaluator says it. -/
def outOneT : TV → Bool
  | .own .. => true
  | .agg cs => cs.all pureT
  | t => pureT t
def outT : TV → Bool
  | .tup vs => vs.all outOneT
  | t => outOneT t
def Out (I : Nat → Prop) (w w' : World) (r : TV) (v : Value) : Prop :=
  ∃ η, (fpT η (imp 0 r)).Nodup ∧ (∀ b ∈ fpT η (imp 0 r), w.heap.size ≤ b ∧ b < w'.heap.size) ∧
    Rep η (fun b => I b ∨ (w.heap.size ≤ b ∧ b < w'.heap.size ∧ b ∉ fpT η (imp 0 r))) w' (imp 0 r) v
/-- THE CONTRACT OF A FUNCTION: its arguments as such, its answer. -/
def Ctr (P : Program) (f : FuncId) (args : List TV) (r : TV) : Prop :=
  outT r = true ∧ ∀ (w : World) (vs : Array Value) (I : Nat → Prop), (∀ b, I b → b < w.heap.size) → RepAs I w args vs.toList →
    Calls P f vs w fun e w' => ∃ v, e = .returned v ∧ Kept (fun b => b < w.heap.size) w w' ∧ Out I w w' r v
def Enters (P : Program) (f : FuncId) : Prop := ∃ fn, P.funcs[f]? = some fn ∧ fn.body.isSome = true ∧ fn.name ≠ "runtime.NumGoroutine"
def CallsOk (P : Program) (call : FuncId → List TV → Option TV) : Prop := ∀ f args r, call f args = some r → Enters P f ∧ Ctr P f args r

section
variable {P : Program} {K : Nat → Prop} {w0 : World} {U : Nat → Prop} {s : List TV} {a : Act} {w : World} {η : Stamp → Value} {N : Nat}

theorem run_callFunc {f : FuncId} (h : Enters P f) (args : Array Value) : (callFunc f args).run P w = .ok (.enter f args) w := by
  obtain ⟨fn, h1, h2, h3⟩ := h
  simp [callFunc, h1, h3]
  intro hb; rw [hb] at h2; cases h2

theorem one_or_tup (t : TV) : (∃ vs, t = .tup vs) ∨ (outT t = outOneT t ∧ (∀ n, imp n t = impOne (n, 0) t) ∧ freshR t = freshOne t) := by
  cases t <;> first | exact .inl ⟨_, rfl⟩ | exact .inr ⟨rfl, fun _ => rfl, rfl⟩

theorem outOne_imp {n : Nat} {t : TV} (h : outOneT t = true) (c : Nat) : stT (fun m => m = n) (impOne (n, c) t) := by
  cases t <;> simp [outOneT, pureT] at h <;> simp [impOne, stT]
  rename_i cs
  induction cs with
  | nil => simp [stL]
  | cons x xs ih =>
    simp only [List.mem_cons, forall_eq_or_imp] at h
    simp only [stL]
    refine ⟨?_, ih h.2⟩
    have := h.1
    cases x <;> simp [pureT] at this <;> simp [stT]
theorem outAll_imp {n : Nat} : ∀ {ts : List TV} (_ : ts.all outOneT = true) (c : Nat), stL (fun m => m = n) (impAll n c ts)
  | [], _, _ => by simp [impAll, stL]
  | t :: ts, h, c => by
    simp only [List.all_cons, Bool.and_eq_true] at h
    simp only [impAll, stL]
    exact ⟨outOne_imp h.1 c, outAll_imp h.2 (c + 1)⟩
theorem outT_imp {n : Nat} {t : TV} (h : outT t = true) : stT (fun m => m = n) (imp n t) := by
  rcases one_or_tup t with ⟨vs, rfl⟩ | ⟨e1, e2, _⟩
  · simp only [outT] at h; simp only [imp, stT]; exact outAll_imp h 0
  · rw [e2]; rw [e1] at h; exact outOne_imp h 0

/-- A pure value says nothing of stamps. -/
theorem pure_shift {η η' : Stamp → Value} {I : Nat → Prop} {t : TV} {v : Value} (hp : pureT t = true) (h : Rep η I w t v) : Rep η' I w t v := Rep_pure (RepP_of hp h)
theorem pures_shift {η η' : Stamp → Value} {I : Nat → Prop} : ∀ {ts : List TV} {vs : List Value}, ts.all pureT = true → RepCells η I w ts vs → RepCells η' I w ts vs
  | [], _, _, h => h
  | t :: ts, vs, hp, h => by
    simp only [List.all_cons, Bool.and_eq_true] at hp
    simp only [RepCells] at h ⊢
    obtain ⟨v, us, e, hc, h1, h2⟩ := h
    exact ⟨v, us, e, hc, pure_shift hp.1 h1, pures_shift hp.2 h2⟩
theorem impOne_shift {η η' : Stamp → Value} {I : Nat → Prop} {n c : Nat} {t : TV} {v : Value} (ho : outOneT t = true) (hη : η' (n, c) = η (0, c)) (h : Rep η I w (impOne (0, c) t) v) :
    Rep η' I w (impOne (n, c) t) v ∧ fpT η' (impOne (n, c) t) = fpT η (impOne (0, c) t) := by
  cases t with
  | own g e z xs => simp only [impOne, Rep, fpT] at h ⊢; rw [hη]; exact ⟨h, rfl⟩
  | agg cs =>
    simp only [outOneT] at ho
    simp only [impOne, Rep, fpT] at h ⊢
    obtain ⟨arr, h1, h2⟩ := h
    refine ⟨⟨arr, h1, pures_shift ho h2⟩, ?_⟩
    have : ∀ (η : Stamp → Value) (cs : List TV), cs.all pureT = true → fpL η cs = [] := by
      intro η cs
      induction cs with
      | nil => intro _; rfl
      | cons x xs ih =>
        intro hp
        simp only [List.all_cons, Bool.and_eq_true] at hp
        have h1 := hp.1
        simp only [fpL, ih hp.2, List.append_nil]
        cases x <;> simp [pureT] at h1 <;> simp [fpT]
    rw [this η' cs ho, this η cs ho]
  | int k m => exact ⟨pure_shift (t := .int k m) rfl h, by simp [impOne, fpT]⟩
  | bool b => exact ⟨pure_shift (t := .bool b) rfl h, by simp [impOne, fpT]⟩
  | str b => exact ⟨pure_shift (t := .str b) rfl h, by simp [impOne, fpT]⟩
  | sl z xs => exact ⟨pure_shift (t := .sl z xs) rfl h, by simp [impOne, fpT]⟩
  | _ => simp [outOneT, pureT] at ho
theorem impAll_shift {η η' : Stamp → Value} {I : Nat → Prop} {n : Nat} : ∀ {ts : List TV} (c : Nat) {vs : List Value}, ts.all outOneT = true → (∀ c, η' (n, c) = η (0, c)) → RepVals η I w (impAll 0 c ts) vs →
    RepVals η' I w (impAll n c ts) vs ∧ fpL η' (impAll n c ts) = fpL η (impAll 0 c ts)
  | [], _, _, _, _, h => ⟨h, rfl⟩
  | t :: ts, c, vs, ho, hη, h => by
    simp only [List.all_cons, Bool.and_eq_true] at ho
    simp only [impAll, RepVals, fpL] at h ⊢
    obtain ⟨v, us, e, h1, h2⟩ := h
    have s1 := impOne_shift ho.1 (hη c) h1
    have s2 := impAll_shift (c + 1) ho.2 hη h2
    exact ⟨⟨v, us, e, s1.1, s2.1⟩, by rw [s1.2, s2.2]⟩
theorem imp_shift {η η' : Stamp → Value} {I : Nat → Prop} {n : Nat} {t : TV} {v : Value} (ho : outT t = true) (hη : ∀ c, η' (n, c) = η (0, c)) (h : Rep η I w (imp 0 t) v) :
    Rep η' I w (imp n t) v ∧ fpT η' (imp n t) = fpT η (imp 0 t) := by
  rcases one_or_tup t with ⟨vs, rfl⟩ | ⟨e1, e2, _⟩
  · simp only [outT] at ho
    simp only [imp, Rep, fpT] at h ⊢
    obtain ⟨arr, h1, h2⟩ := h
    have := impAll_shift 0 ho hη h2
    exact ⟨⟨arr, h1, this.1⟩, this.2⟩
  · rw [e2] at h ⊢; rw [e2]; rw [e1] at ho; exact impOne_shift ho (hη 0) h

/-! A fresh result leans on no memory but its own. -/
theorem scalar_any {I I' : Nat → Prop} {t : TV} {v : Value} (h : scalar t = true) (hr : RepP I w t v) : RepP I' w t v := by
  cases t <;> simp [scalar] at h <;> simpa [RepP] using hr
theorem flatRow_any {I I' : Nat → Prop} {b : Nat} : ∀ {r : List TV} {o : Nat}, r.all scalar = true → RepRow I w b o r → RepRow I' w b o r
  | [], _, _, _ => by simp [RepRow]
  | t :: ts, o, h, hr => by
    simp only [List.all_cons, Bool.and_eq_true] at h
    simp only [RepRow] at hr ⊢
    obtain ⟨⟨u, h1, h2⟩, h3⟩ := hr
    exact ⟨⟨u, h1, scalar_any h.1 h2⟩, flatRow_any h.2 h3⟩
theorem flatRows_any {I I' : Nat → Prop} {b z : Nat} : ∀ {xs : List (List TV)} {o : Nat}, flatRows xs = true → RepRows I w b o z xs → RepRows I' w b o z xs
  | [], _, _, _ => by simp [RepRows]
  | r :: rs, o, h, hr => by
    simp only [flatRows, List.all_cons, Bool.and_eq_true] at h
    simp only [RepRows] at hr ⊢
    exact ⟨hr.1, flatRow_any h.1 hr.2.1, flatRows_any (by simpa [flatRows] using h.2) hr.2.2⟩
theorem freshCells_any {I I' : Nat → Prop} : ∀ {ts : List TV} {vs : List Value}, ts.all scalar = true → RepCells η I w ts vs → RepCells η I' w ts vs
  | [], _, _, h => h
  | t :: ts, vs, hs, h => by
    simp only [List.all_cons, Bool.and_eq_true] at hs
    simp only [RepCells] at h ⊢
    obtain ⟨v, us, e, hc, h1, h2⟩ := h
    refine ⟨v, us, e, hc, ?_, freshCells_any hs.2 h2⟩
    have := hs.1
    cases t <;> simp [scalar] at this <;> simpa [Rep, RepP] using h1
theorem freshOne_any {I I' : Nat → Prop} {n c : Nat} {t : TV} {v : Value} (h : freshOne t = true) (hr : Rep η I w (impOne (n, c) t) v) : Rep η I' w (impOne (n, c) t) v := by
  cases t with
  | own g e z xs =>
    simp only [freshOne] at h
    simp only [impOne, Rep] at hr ⊢
    refine ⟨hr.1, hr.2.imp id ?_⟩
    rintro ⟨b, cap, cur, lo, hi, h1, h2, h3, h4, h5, h6, h7⟩
    exact ⟨b, cap, cur, lo, hi, h1, h2, h3, h4, h5, h6, flatRows_any h h7⟩
  | agg cs =>
    simp only [freshOne] at h
    simp only [impOne, Rep] at hr ⊢
    obtain ⟨arr, h1, h2⟩ := hr
    exact ⟨arr, h1, freshCells_any h h2⟩
  | int k m => simpa [impOne, Rep, RepP] using hr
  | bool k => simpa [impOne, Rep, RepP] using hr
  | str k => simpa [impOne, Rep, RepP] using hr
  | _ => simp [freshOne, scalar] at h
theorem freshAll_any {I I' : Nat → Prop} {n : Nat} : ∀ {ts : List TV} (c : Nat) {vs : List Value}, ts.all freshOne = true → RepVals η I w (impAll n c ts) vs → RepVals η I' w (impAll n c ts) vs
  | [], _, _, _, h => h
  | t :: ts, c, vs, hs, h => by
    simp only [List.all_cons, Bool.and_eq_true] at hs
    simp only [impAll, RepVals] at h ⊢
    obtain ⟨v, us, e, h1, h2⟩ := h
    exact ⟨v, us, e, freshOne_any hs.1 h1, freshAll_any (c + 1) hs.2 h2⟩
theorem fresh_any {I I' : Nat → Prop} {n : Nat} {t : TV} {v : Value} (h : freshR t = true) (hr : Rep η I w (imp n t) v) : Rep η I' w (imp n t) v := by
  rcases one_or_tup t with ⟨vs, rfl⟩ | ⟨_, e2, e3⟩
  · simp only [freshR] at h
    simp only [imp, Rep] at hr ⊢
    obtain ⟨arr, h1, h2⟩ := hr
    exact ⟨arr, h1, freshAll_any 0 h h2⟩
  · rw [e3] at h; rw [e2] at hr ⊢; exact freshOne_any h hr

theorem evArgs_rep (h : Sim K w0 U (get s) (vsOf a) w η) : ∀ {xs : List Operand} {ts : List TypeId} {vs : List TV}, (evArgs P xs ts).eval s = some vs → RepVals η (Imm η (get s) w) w vs (xs.map a.eval)
  | [], _, vs, hv => by
    simp only [evArgs, LK.eval_pure, Option.some.injEq] at hv
    subst hv
    simp [RepVals]
  | x :: xs, ts, vs, hv => by
    simp only [evArgs, LK.eval_bind, LK.eval_pure, Option.bind_eq_some_iff, Option.some.injEq] at hv
    obtain ⟨t, ht, us, hus, rfl⟩ := hv
    have hr := (ev_rep h ht).1
    refine ⟨_, _, rfl, ?_, evArgs_rep h hus⟩
    split
    · simpa [Rep, RepP] using hr
    · exact hr

theorem enters_of {f : FuncId} : True := trivial

variable (call : FuncId → List TV → Option TV) (rs : List Nat) (n : Nat)
section
variable (h : Sim K w0 U (get s) (vsOf a) w η) (hn : ¬ U n) (hd : a.defers = []) (hN : a.tmps.size = N) {o : Oper} (hdst : ∀ x, o.dst = some x → x < N) {r : TV × List Cmd}
  (hs : (aOp P call rs n o).eval s = some r)
include h hn hd hN hdst hs

theorem run_builtin {c : Call} {b : Builtin} (ho : o.op = .call c) (hc : c.callee = .builtin b) :
    (execOp a.eval o).run P w = (builtin b c.argTypes o.type (c.args.map fun | .const _ => true | _ => false) (c.args.map a.eval)).run P w := by
  simp only [execOp, ho, resolve, hc, Sem.run_bind, Sem.run_pure, Result.andThen_ok, invoke]
  rfl

theorem call_ok (hcall : CallsOk P call) {c : Call} {fo : Operand} (ho : o.op = .call c) (hc : c.callee = .value fo) : Shows P K w0 N (addU U n) s o r a w := by
  simp only [aOp, ho, hc, LK.eval_bind, Option.bind_eq_some_iff, callOp] at hs
  obtain ⟨tf, htf, vs, hvs, as, has, hs⟩ := hs
  split at hs
  · rename_i f caps
    simp only [LK.eval_optT, Option.bind_eq_some_iff] at hs
    obtain ⟨res, hres, hs⟩ := hs
    · have hr : ∃ k, r = (imp n res, k) ∧ k.all Cmd.isFrz = true ∧ (freshR res = true ∨ k = lent vs) := by
        split at hs
        · rename_i he
          simp only [LK.eval_pure, Option.some.injEq] at hs
          exact ⟨[], hs.symm, rfl, .inr he.symm⟩
        · simp only [LK.eval_iteB] at hs
          split at hs
          · rename_i hf
            simp only [LK.eval_pure, Option.some.injEq] at hs
            exact ⟨[], hs.symm, rfl, .inl hf⟩
          · simp only [LK.eval_pure, Option.some.injEq] at hs
            exact ⟨_, hs.symm, lent_frz vs, .inr rfl⟩
      obtain ⟨k, rfl, hkf, hkor⟩ := hr
      have hrf := (ev_rep h htf).1
      simp only [Rep] at hrf
      obtain ⟨rfl, hfv⟩ := hrf
      rw [List.append_nil] at hres
      obtain ⟨hent, hout, hctr⟩ := hcall f as res hres
      have hargs := evArgs_rep h hvs
      have hlf := lent_frz vs
      have hA := resArgs_rep h has hargs (Covers.refl hlf)
      have h1 := Sim.frzs (lent vs) hlf h
      have hcl := hctr w (c.args.map a.eval) (Imm η (get ((lent vs).foldl Cmd.app s)) w) (fun b hb => hb.1) (by simpa using hA)
      intro next Q hnext
      have hrun : (execOp a.eval o).run P w = .ok (.enter f (c.args.map a.eval)) w := by
        simp [execOp, ho, resolve, hc, hfv, Deferred.ofValue, invoke, run_callFunc hent]
      unfold Oper.wp
      rw [hrun]
      simp only [Oper.upon]
      refine Calls.mono hcl ?_
      rintro e w' ⟨v, rfl, hk, η0, o1, o2, o3⟩
      have hη : ∀ g : Stamp, U g.1 → (fun g : Stamp => if g.1 = n then η0 (0, g.2) else η g) g = η g := fun g hg => by
        have : g.1 ≠ n := fun e => hn (e ▸ hg)
        simp [this]
      have hsh := imp_shift (η' := fun g : Stamp => if g.1 = n then η0 (0, g.2) else η g) (n := n) hout (fun c => by simp) o3
      have gen : ∀ (k : List Cmd), k.all Cmd.isFrz = true → (freshR res = true ∨ k = lent vs) →
          ∃ η', Sim K w0 (addU U n) (get (after s o.dst (imp n res, k))) (fun i => if o.dst = some i then v else vsOf a i) w' η' := by
        intro k hkf hor
        have hs1 := Sim.frzs k hkf h
        refine ⟨_, hs1.put2 (addU_old n) hη none .undef o.dst (imp n res) v (fun i => by rw [after_get]; simp) ⟨hk.os, hk.tape, hk.output, hk.size, fun b hb => hk.block b hb.1⟩ (fun hx => by simp at hx)
          (stT.mono (fun m e => by rw [e]; exact addU_new n) _ (outT_imp hout)) (fun _ hx => by simp at hx) (fun b hb => .inl (o2 b (by rw [hsh.2] at hb; exact hb))) (fun hx => by simp at hx) (by rw [hsh.2]; exact o1) (fun hx => by simp at hx)
          (fun _ _ _ _ hx => by simp at hx) (fun I' hI hI2 j hj => ?_)⟩
        have hnew : ∀ b, w.heap.size ≤ b ∧ b < w'.heap.size ∧ b ∉ fpT η0 (imp 0 res) → I' b := by
          rintro b ⟨b1, b2, b3⟩
          rw [hI2]
          refine ⟨b2, fun i hi => ?_, fun c hc => ?_⟩
          · rw [after_get] at hi
            split at hi
            · rw [hsh.2] at hi; exact b3 hi
            · rw [fpT.congr hη _ (hs1.st i)] at hi
              have := (hs1.fpK i b hi).2
              omega
          · rw [hη (0, c) hs1.u0] at hc
            have := h.klt b (h.rzK c b hc)
            have := h.kept.size
            omega
        rcases hor with hfr | rfl
        · exact fresh_any hfr hsh.1
        · refine Rep.mono (U := fun _ => True) (fun _ _ => rfl) (fun b hb => ?_) (fun _ _ => rfl) _ _ (stT.mono (fun _ _ => trivial) _ (outT_imp (n := n) hout)) (fun _ _ => rfl) hsh.1
          rcases hb with hb | hb
          · exact hI b hb
          · exact hnew b hb
      refine hnext _ _ ⟨by rw [put_defers, hd], by rw [put_size, hN], ?_⟩
      have hvv : vsOf (a.put o.dst v) = fun i => if o.dst = some i then v else vsOf a i := funext fun i => vsOf_put a o.dst v i (fun x hx => hN ▸ hdst x hx)
      rw [hvv]
      exact gen k hkf hkor
  · simp at hs
end
end
end Go.Vm
