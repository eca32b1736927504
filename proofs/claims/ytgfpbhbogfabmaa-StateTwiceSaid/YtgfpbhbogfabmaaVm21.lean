/- Results; functions. -/
import Derived.Test.YtgfpbhbogfabmaaVm20
set_option linter.unusedVariables false
set_option linter.unusedSimpArgs false
set_option linter.unnecessarySimpa false
set_option linter.unusedSectionVars false
namespace Go.Vm

theorem resOne_pure {s : List TV} {t t' : TV} (h : (resOne t).eval s = some t') : pureT t' = true := by
  unfold resOne at h
  split at h
  · simp only [LK.eval_bind, LK.eval_pure, Option.bind_eq_some_iff, Option.some.injEq] at h
    obtain ⟨_, _, rfl⟩ := h
    rfl
  · simp only [LK.eval_pure, Option.some.injEq] at h; subst h; rfl
  · split at h
    · simp only [LK.eval_pure, Option.some.injEq] at h; subst h; assumption
    · simp at h
theorem resAll_pure {s : List TV} : ∀ {ts ts' : List TV}, (resAll ts).eval s = some ts' → ts'.all pureT = true
  | [], _, h => by simp only [resAll, LK.eval_pure, Option.some.injEq] at h; subst h; rfl
  | t :: ts, _, h => by
    simp only [resAll, LK.eval_bind, LK.eval_pure, Option.bind_eq_some_iff, Option.some.injEq] at h
    obtain ⟨t', h1, us, h2, rfl⟩ := h
    rw [List.all_cons, resOne_pure h1, resAll_pure h2]; rfl
theorem pure_out {t : TV} (h : pureT t = true) : outOneT t = true ∧ (∀ g, impOne g t = t) ∧ (∀ η, fpT η t = []) := by
  cases t <;> simp [pureT] at h <;> simp [outOneT, pureT, impOne, fpT]

section
variable {P : Program} {K : Nat → Prop} {w0 : World} {U : Nat → Prop} {s : List TV} {a : Act} {w : World} {η : Stamp → Value}

def resRun (a : Act) : ResultVar → Sem Value
  | .tmp t => pure (a.tmps.getD t undef)
  | .cell x t => do loadVar t (← asAddr (a.tmps.getD x undef))

theorem ownLT {k : List Cmd} (hk : k.all Cmd.isFrz = true) {p : Nat} (hp : (k.map Cmd.slot).contains p = false) : get (k.foldl Cmd.app s) p = get s p :=
  apps_far (by simpa using hp)

theorem outOne_ok (h : Sim K w0 U (get s) (vsOf a) w η) {k : List Cmd} {η' : Stamp → Value} {c : Nat} {r : ResultVar} {t : TV} {os : List Nat} {k0 : List Cmd}
    (hr : outOne P s r = some (t, os, k0)) (hk : Covers k k0) (hos : ∀ p ∈ os, (k.map Cmd.slot).contains p = false) (hη : ∀ x, r = .tmp x → η' (0, c) = vsOf a x) :
    outOneT t = true ∧ ∃ v, (resRun a r).run P w = .ok v w ∧ Rep η' (Imm η (get (k.foldl Cmd.app s)) w) w (impOne (0, c) t) v ∧
      fpT η' (impOne (0, c) t) = os.flatMap fun p => fpT η (get (k.foldl Cmd.app s) p) := by
  have hI : ∀ b, Imm η (get s) w b → Imm η (get (k.foldl Cmd.app s)) w b := fun b => imm_frzs k hk.1
  cases r with
  | tmp x =>
    have hx := h.rep x
    have hrun : (resRun a (.tmp x)).run P w = .ok (vsOf a x) w := rfl
    simp only [outOne] at hr
    split at hr
    · rename_i g e z xs hg
      simp only [Option.some.injEq, Prod.mk.injEq] at hr
      obtain ⟨rfl, rfl, rfl⟩ := hr
      rw [hg] at hx
      simp only [Rep] at hx
      have hsl := ownLT (s := s) hk.1 (hos x (by simp))
      refine ⟨rfl, _, hrun, ?_, ?_⟩
      · simp only [impOne, Rep]
        exact ⟨(hη x rfl).symm, imm_own (P := fun _ => True) hx.2 hI⟩
      · simp only [impOne, fpT, hη x rfl, List.flatMap_cons, List.flatMap_nil, List.append_nil, hsl, hg, hx.1]
    · rename_i cs hg
      simp only [Option.map_eq_some_iff, Prod.mk.injEq] at hr
      obtain ⟨cs', h1, rfl, rfl, rfl⟩ := hr
      rw [hg] at hx
      simp only [Rep] at hx
      obtain ⟨arr, hv, h2⟩ := hx
      have h3 := resAll_rep h h1 (Rep_borsFrom (p := x) 0 h2) hk
      have h4 := h3.cells (η := η') (U := U)
      refine ⟨by simpa [outOneT] using resAll_pure h1, _, hrun, ?_, ?_⟩
      · simp only [impOne, Rep, hv]; exact ⟨arr, rfl, h4.1⟩
      · simp [impOne, fpT, h4.2.1]
    · simp only [Option.map_eq_some_iff, Prod.mk.injEq] at hr
      obtain ⟨x', h1, rfl, rfl, rfl⟩ := hr
      have hv := (ev_rep h (x := .tmp x) (t := view x (get s x)) (by simp [ev])).1
      have h2 := resOne_rep h h1 hv hk
      have h3 := pure_out h2.2
      refine ⟨h3.1, _, hrun, ?_, ?_⟩
      · rw [h3.2.1]; exact Rep_pure h2.1
      · rw [h3.2.1, h3.2.2]; rfl
  | cell x T =>
    simp only [outOne] at hr
    split at hr
    · rename_i hok
      split at hr
      · rename_i g cs hg
        split at hr
        · rename_i cs' h1
          split at hr
          · rename_i hsz
            simp only [Option.some.injEq, Prod.mk.injEq] at hr
            obtain ⟨rfl, rfl, rfl⟩ := hr
            have hx := h.rep x
            rw [hg] at hx
            simp only [Rep] at hx
            obtain ⟨_, b, cur, e, hv, hh, hcs⟩ := hx
            have h3 := resAll_rep h h1 (Rep_borsFrom (p := x) 0 hcs) hk
            have h4 := h3.cells (η := η') (U := U)
            have hl := h3.len
            have hld := run_loadAt (P := P) (w := w) hok (b := b) (o := 0) (vs := cur.toList) (by rw [hl, hsz]) (fun j u hj => by simp at hj; simp [World.cell?, hh, hj])
            have hrun : (resRun a (.cell x T)).run P w = .ok (if aggT P T then .agg cur.toList.toArray else cur.toList.getD 0 undef) w := by
              have : a.tmps.getD x undef = .pointer (some ⟨b, 0, none⟩) := hv
              simp only [Instr.loadAt, Instr.sureAddr, Sem.run_bind, Sem.run_pure, Result.andThen_ok] at hld
              simp only [resRun, this, asAddr, Sem.run_bind, Sem.run_pure, Result.andThen_ok]
              exact hld
            refine ⟨?_, _, hrun, ?_⟩
            · split
              · simpa [outOneT] using resAll_pure h1
              · have := resAll_pure h1
                obtain ⟨_, _, h0, h1'⟩ := okT_spec hok
                cases cs' with
                | nil => simp at hsz; exact absurd hsz.symm h0
                | cons y ys => simp only [List.all_cons, Bool.and_eq_true] at this; exact (pure_out this.1).1
            · cases hagg : aggT P T with
              | true =>
                simp only [if_true, impOne, Rep, fpT]
                exact ⟨⟨_, rfl, by simpa using h4.1⟩, by simp [h4.2.1]⟩
              | false =>
                simp only [Bool.false_eq_true, if_false]
                obtain ⟨_, _, h0, h1'⟩ := okT_spec hok
                cases cs' with
                | nil => simp at hsz; exact absurd hsz.symm h0
                | cons y ys =>
                  have hp := resAll_pure h1
                  simp only [List.all_cons, Bool.and_eq_true] at hp
                  have hp := pure_out hp.1
                  simp only [RepPs] at h3
                  obtain ⟨v, vs', hvs, h5, h6⟩ := h3
                  simp only [Vm.get]
                  rw [hp.2.1, hp.2.2, hvs]
                  exact ⟨by simpa using Rep_pure h5, rfl⟩
          · cases hr
        · cases hr
      · cases hr
    · cases hr

theorem outs_ok (h : Sim K w0 U (get s) (vsOf a) w η) {k : List Cmd} {η' : Stamp → Value} : ∀ (rs : List ResultVar) (c : Nat) {ts : List TV} {os : List Nat} {k0 : List Cmd},
    outs P s rs = some (ts, os, k0) → Covers k k0 → (∀ p ∈ os, (k.map Cmd.slot).contains p = false) → (∀ i x, rs[i]? = some (.tmp x) → η' (0, c + i) = vsOf a x) →
    ts.all outOneT = true ∧ ∃ vs, (rs.mapM (resRun a)).run P w = .ok vs w ∧ RepVals η' (Imm η (get (k.foldl Cmd.app s)) w) w (impAll 0 c ts) vs ∧
      fpL η' (impAll 0 c ts) = os.flatMap (fun p => fpT η (get (k.foldl Cmd.app s) p)) ∧ vs.length = ts.length
  | [], c, ts, os, k0, hr, _, _, _ => by
    simp only [outs, Option.some.injEq, Prod.mk.injEq] at hr
    obtain ⟨rfl, rfl, rfl⟩ := hr
    exact ⟨rfl, [], rfl, by simp [impAll, RepVals], by simp [impAll, fpL], rfl⟩
  | r :: rs, c, ts, os, k0, hr, hk, hos, hη => by
    simp only [outs] at hr
    split at hr
    · rename_i t o k1 ts' os' ks h1 h2
      simp only [Option.some.injEq, Prod.mk.injEq] at hr
      obtain ⟨rfl, rfl, rfl⟩ := hr
      obtain ⟨a1, v, a2, a3, a4⟩ := outOne_ok (η' := η') (c := c) h h1 hk.left (fun p hp => hos p (by simp [hp])) (fun x hx => hη 0 x (by simp [hx]))
      obtain ⟨b1, vs, b2, b3, b4, b5⟩ := outs_ok h rs (c + 1) h2 hk.right (fun p hp => hos p (by simp [hp])) (fun i x hx => by have := hη (i + 1) x (by simpa using hx); rwa [show c + (i + 1) = c + 1 + i by omega] at this)
      refine ⟨by rw [List.all_cons, a1, b1]; rfl, v :: vs, ?_, ?_, ?_, by simp [b5]⟩
      · simp [List.mapM_cons, a2, b2]
      · simp only [impAll, RepVals]; exact ⟨v, vs, rfl, a3, b3⟩
      · simp only [impAll, fpL, a4, b4, List.flatMap_append]
    · cases hr

def oneVal : List Value → Value
  | [v] => v
  | vs => .tuple vs.toArray
theorem results_run (fn : Func) (a : Act) (w : World) {vs : List Value} (h : (fn.results.toList.mapM (resRun a)).run P w = .ok vs w) :
    (results fn a.tmps).run P w = .ok (oneVal vs) w := by
  have : (fn.results.mapM (resRun a)).run P w = .ok vs.toArray w := by
    rw [Array.mapM_eq_mapM_toList]
    simp [h]
  have e : results fn a.tmps = (do let vs ← fn.results.mapM (resRun a); pure (if h : vs.size = 1 then vs[0] else .tuple vs)) := rfl
  rw [e, Sem.run_bind, this]
  simp only [Result.andThen_ok, Sem.run_pure]
  match vs with
  | [] => rfl
  | [v] => rfl
  | v :: u :: vs => simp [oneVal]
end

/-- A result leaves its function. -/
theorem outR_ok {P : Program} {w : World} {m : Nat} {I : Nat → Prop} (hm : ∀ b, m.testBit b = true ↔ b < w.heap.size ∧ ¬ I b) {U : Nat → Prop} {s : List TV} {a : Act} {w' : World} {η : Stamp → Value}
    (h : Sim (fun b => b < w.heap.size) { w with drawn := m } U (get s) (vsOf a) w' η) {fn : Func} {r : TV} (hr : outR P s fn.results.toList = some r) :
    outT r = true ∧ ∃ v, (results fn a.tmps).run P w' = .ok v w' ∧ Out I w w' r v := by
  unfold outR at hr
  split at hr
  · rename_i ts os ks ho
    split at hr
    · rename_i hck
      simp only [Option.some.injEq] at hr
      simp only [Bool.and_eq_true, decide_eq_true_eq, List.all_eq_true, Bool.not_eq_true'] at hck
      have hfz : ∀ (rs : List ResultVar) {ts : List TV} {os : List Nat} {ks : List Cmd}, outs P s rs = some (ts, os, ks) → ks.all Cmd.isFrz = true := by
        intro rs
        induction rs with
        | nil => intro ts os ks h; simp only [outs, Option.some.injEq, Prod.mk.injEq] at h; obtain ⟨_, _, rfl⟩ := h; rfl
        | cons r rs ih =>
          intro ts os ks h
          simp only [outs] at h
          split at h
          · rename_i t o k1 ts' os' ks' h1 h2
            simp only [Option.some.injEq, Prod.mk.injEq] at h
            obtain ⟨_, _, rfl⟩ := h
            rw [List.all_append, ih h2, Bool.and_true]
            cases r with
            | tmp x =>
              simp only [outOne] at h1
              split at h1
              · simp only [Option.some.injEq, Prod.mk.injEq] at h1; obtain ⟨_, _, rfl⟩ := h1; rfl
              · simp only [Option.map_eq_some_iff, Prod.mk.injEq] at h1; obtain ⟨_, _, _, _, rfl⟩ := h1; exact lentAll_frz _
              · simp only [Option.map_eq_some_iff, Prod.mk.injEq] at h1; obtain ⟨_, _, _, _, rfl⟩ := h1; exact lentOne_frz _
            | cell x T =>
              simp only [outOne] at h1
              split at h1
              · split at h1
                · split at h1
                  · split at h1
                    · simp only [Option.some.injEq, Prod.mk.injEq] at h1; obtain ⟨_, _, rfl⟩ := h1; exact lentAll_frz _
                    · cases h1
                  · cases h1
                · cases h1
              · cases h1
          · cases h
      have hkf := hfz _ ho
      let η' : Stamp → Value := fun g => match fn.results.toList[g.2]? with | some (.tmp x) => vsOf a x | _ => undef
      obtain ⟨b1, vs, b2, b3, b4, b5⟩ := outs_ok (η' := η') h fn.results.toList 0 ho (Covers.refl hkf) (fun p hp => hck.2 p hp) (fun i x hx => by simp only [η', Nat.zero_add, hx])
      have hs' := Sim.frzs ks hkf h
      have hnd : (fpL η' (impAll 0 0 ts)).Nodup := by
        rw [b4]
        have : ∀ os : List Nat, os.Nodup → (os.flatMap fun p => fpT η (get (ks.foldl Cmd.app s) p)).Nodup := by
          intro os
          induction os with
          | nil => intro _; simp
          | cons p os ih =>
            intro hn
            simp only [List.nodup_cons] at hn
            rw [List.flatMap_cons, List.nodup_append]
            refine ⟨hs'.nd p, ih hn.2, fun x hx y hy => ?_⟩
            rw [List.mem_flatMap] at hy
            obtain ⟨q, hq, hy⟩ := hy
            rintro rfl
            exact hn.1 (hs'.dj p q x hx hy ▸ hq)
        exact this os hck.1
      have hnew : ∀ b ∈ fpL η' (impAll 0 0 ts), w.heap.size ≤ b ∧ b < w'.heap.size := by
        intro b hb
        rw [b4, List.mem_flatMap] at hb
        obtain ⟨p, _, hb⟩ := hb
        have := hs'.fpK p b hb
        exact ⟨by have := this.1; omega, this.2⟩
      have hImm : ∀ b, Imm η (get (ks.foldl Cmd.app s)) w' b → I b ∨ (w.heap.size ≤ b ∧ b < w'.heap.size ∧ b ∉ fpL η' (impAll 0 0 ts)) := by
        rintro b ⟨i1, i2, i3⟩
        rcases Nat.lt_or_ge b w.heap.size with hlt | hge
        · left
          by_cases hIb : I b
          · exact hIb
          · obtain ⟨c, hc⟩ := (hs'.rz b).2 ((hm b).2 ⟨hlt, hIb⟩)
            exact absurd hc (i3 c)
        · right
          refine ⟨hge, i1, fun hb => ?_⟩
          rw [b4, List.mem_flatMap] at hb
          obtain ⟨p, _, hb⟩ := hb
          exact i2 p hb
      have hst : stL (fun _ => True) (impAll 0 0 ts) := by
        have := outT_imp (n := 0) (t := .tup ts) (by simpa [outT] using b1)
        simp only [imp, stT] at this
        exact stT.mono (t := .tup (impAll 0 0 ts)) (fun _ _ => trivial) (by simpa [stT] using this) |> fun h => by simpa [stT] using h
      have hrep := RepVals.mono (U := fun _ => True) (η := η') (η' := η') (w := w') (w' := w') (fun _ _ => rfl) hImm (fun _ _ => rfl) _ _ hst (fun _ _ => rfl) b3
      have hres := results_run (P := P) fn a w' b2
      subst hr
      match ts, vs, b5, b1, hnd, hnew, hrep, hres with
      | [], [], _, _, hnd, hnew, hrep, hres =>
        refine ⟨rfl, _, hres, η', by simpa [imp, oneOrTup, fpT] using hnd, by simp [imp, oneOrTup, fpT, impAll, fpL], ?_⟩
        simp only [imp, oneOrTup, Rep, impAll, RepVals]
        exact ⟨#[], rfl, rfl⟩
      | [t], [v], _, b1, hnd, hnew, hrep, hres =>
        simp only [List.all_cons, List.all_nil, Bool.and_true] at b1
        simp only [impAll, fpL, List.append_nil, RepVals] at hnd hnew hrep
        obtain ⟨v', vs', he, h1, _⟩ := hrep
        cases he
        have hto : (∃ vs, t = .tup vs) → False := by rintro ⟨vs, rfl⟩; simp [outOneT, pureT] at b1
        rcases one_or_tup t with ht | ⟨e1, e2, _⟩
        · exact (hto ht).elim
        · refine ⟨by simpa [oneOrTup, e1] using b1, _, hres, η', ?_⟩
          simp only [oneOrTup, e2]
          exact ⟨hnd, hnew, h1⟩
      | t :: u :: ts, v :: v2 :: vs, _, b1, hnd, hnew, hrep, hres =>
        refine ⟨by simpa [oneOrTup, outT] using b1, _, hres, η', ?_⟩
        simp only [oneOrTup, imp, fpT, Rep]
        exact ⟨hnd, hnew, _, rfl, by simpa using hrep⟩
    · cases hr
  · cases hr

section
variable {P : Program}

theorem bodyOf_spec {f : FuncId} {fn : Func} {c : Code} (h : bodyOf P f = some (fn, c)) : Enters P f ∧ P.funcs[f]? = some fn ∧ fn.body = some c ∧ dstOk fn.ntmps c = true := by
  unfold bodyOf at h
  split at h
  · rename_i fn' hf
    split at h
    · rename_i c' hc
      split at h
      · rename_i hk
        simp only [Option.some.injEq, Prod.mk.injEq] at h
        obtain ⟨rfl, rfl⟩ := h
        simp only [Bool.and_eq_true, bne_iff_ne, ne_eq] at hk
        exact ⟨⟨fn', hf, by simp [hc], hk.1⟩, hf, hc, hk.2⟩
      · cases h
    · cases h
  · cases h

/-- WHAT THE EVALUATOR SAYS OF A FUNCTION IS SO. -/
theorem body_ctr (hm : P.follows .mixedOrders = true) {call : FuncId → List TV → Option TV} (hcall : CallsOk P call) {n : Nat} {f : FuncId} {args : List TV} {r : TV} {fn : Func} {c : Code}
    (hb : bodyOf P f = some (fn, c)) (hl : args.length ≤ fn.ntmps) (h : outOf P fn (run P call (resSlots fn.results.toList) n c (start fn args)) = some r) : Enters P f ∧ Ctr P f args r := by
  obtain ⟨he, hf, hbd, hd⟩ := bodyOf_spec hb
  have key : ∀ (w : World) (vs : Array Value) (I : Nat → Prop), (∀ b, I b → b < w.heap.size) → RepAs I w args vs.toList → ∀ (Q : TV → World → Value → Prop), True →
      (outT r = true) ∨ True := fun _ _ _ _ _ _ _ => .inr trivial
  unfold outOf at h
  split at h
  · cases h
  · rename_i e σ' hne hrun
    have hout : ∀ (w : World) (vs : Array Value) (I : Nat → Prop), (∀ b, I b → b < w.heap.size) → RepAs I w args vs.toList →
        Calls P f vs w fun e w' => ∃ v, e = .returned v ∧ Kept (fun b => b < w.heap.size) w w' ∧ Out I w w' r v := by
      intro w vs I hI hA
      obtain ⟨m, hmask⟩ := mask_of (fun b => ¬ I b) w.heap.size
      have hg := start_good (P := P) hI (fn := fn) hl hA hmask
      refine calls_of_wp hf hbd ((run_ok call _ hcall hm n c _ _ _ hrun hd _ _ w hg fun a' w' hg' => ?_).1)
      obtain ⟨η, hs⟩ := hg'.sim
      obtain ⟨_, v, hv, ho⟩ := outR_ok hmask hs h
      have hk : Kept (fun b => b < w.heap.size) w w' := ⟨hs.kept.os, hs.kept.tape, hs.kept.output, hs.kept.size, hs.kept.block⟩
      have hp : a'.defers = [] ∧ ∃ v, (results fn a'.tmps).run P w' = .ok v w' ∧ ∃ v', Ending.returned v = .returned v' ∧ Kept (fun b => b < w.heap.size) w w' ∧ Out I w w' r v' :=
        ⟨hg'.defers, v, hv, v, rfl, hk, ho⟩
      cases e with
      | normal => exact hp
      | exit id => exact absurd rfl (hne id)
      | ret => exact hp
    refine ⟨he, ?_, hout⟩
    -- the form of the answer
    have hs : outs P σ'.s fn.results.toList ≠ none := by
      intro hn; unfold outR at h; rw [hn] at h; cases h
    unfold outR at h
    split at h
    · rename_i ts os ks ho
      split at h
      · simp only [Option.some.injEq] at h
        have hall : ∀ (rs : List ResultVar) {ts : List TV} {os : List Nat} {ks : List Cmd}, outs P σ'.s rs = some (ts, os, ks) → ts.all outOneT = true := by
          intro rs
          induction rs with
          | nil => intro ts os ks h; simp only [outs, Option.some.injEq, Prod.mk.injEq] at h; obtain ⟨rfl, _, _⟩ := h; rfl
          | cons r rs ih =>
            intro ts os ks h
            simp only [outs] at h
            split at h
            · rename_i t o k1 ts' os' ks' h1 h2
              simp only [Option.some.injEq, Prod.mk.injEq] at h
              obtain ⟨rfl, _, _⟩ := h
              rw [List.all_cons, ih h2, Bool.and_true]
              cases r with
              | tmp x =>
                simp only [outOne] at h1
                split at h1
                · simp only [Option.some.injEq, Prod.mk.injEq] at h1; obtain ⟨rfl, _, _⟩ := h1; rfl
                · simp only [Option.map_eq_some_iff, Prod.mk.injEq] at h1; obtain ⟨_, h3, rfl, _, _⟩ := h1; simpa [outOneT] using resAll_pure h3
                · simp only [Option.map_eq_some_iff, Prod.mk.injEq] at h1; obtain ⟨_, h3, rfl, _, _⟩ := h1; exact (pure_out (resOne_pure h3)).1
              | cell x T =>
                simp only [outOne] at h1
                split at h1
                · rename_i hok
                  split at h1
                  · split at h1
                    · rename_i cs' h3
                      split at h1
                      · rename_i hsz
                        simp only [Option.some.injEq, Prod.mk.injEq] at h1
                        obtain ⟨rfl, _, _⟩ := h1
                        have hp := resAll_pure h3
                        split
                        · simpa [outOneT] using hp
                        · obtain ⟨_, _, h0, _⟩ := okT_spec hok
                          cases cs' with
                          | nil => simp at hsz; exact absurd hsz.symm h0
                          | cons y ys => simp only [List.all_cons, Bool.and_eq_true] at hp; exact (pure_out hp.1).1
                      · cases h1
                    · cases h1
                  · cases h1
                · cases h1
            · cases h
        have := hall _ ho
        subst h
        match ts, this with
        | [], _ => rfl
        | [t], h1 =>
          simp only [List.all_cons, List.all_nil, Bool.and_true] at h1
          rcases one_or_tup t with ⟨vs, rfl⟩ | ⟨e1, _⟩
          · simp [outOneT, pureT] at h1
          · simpa [oneOrTup, e1] using h1
        | t :: u :: ts, h1 => simpa [oneOrTup, outT] using h1
      · cases h
    · cases h
  · cases h

/-- All calls. -/
theorem callF_ok (hm : P.follows .mixedOrders = true) {Φ : FuncId → List TV → Option TV} (hΦ : ∀ f args r, Φ f args = some r → Ctr P f args r) : ∀ n, CallsOk P (callF P Φ n)
  | 0, f, args, r, h => by simp [callF] at h
  | n + 1, f, args, r, h => by
    simp only [callF] at h
    split at h
    · cases h
    · rename_i fn c hb
      split at h
      · rename_i r' hr'
        cases h
        exact ⟨(bodyOf_spec hb).1, hΦ _ _ _ hr'⟩
      · split at h
        · rename_i hl
          exact body_ctr hm (callF_ok hm hΦ n) hb hl h
        · cases h
end
end Go.Vm
