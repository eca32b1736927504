/- Operations that only read, one by one. -/
import Derived.Test.YtgfpbhbogfabmaaVm6
import Derived.Laws.Slices
import Derived.Laws.BytesString
set_option linter.unusedVariables false
set_option linter.unusedSimpArgs false
set_option linter.unnecessarySimpa false
set_option linter.unusedSectionVars false
namespace Go.Vm
section
variable {P : Program} {K : Nat → Prop} {w0 : World} {U : Nat → Prop} {s : List TV} {a : Act} {w : World} {η : Stamp → Value} {N : Nat}

theorem okT_spec {t : TypeId} (h : okT P t = true) : (∃ d, P.underlying t = some d) ∧ (∃ i, P.info? t = some i) ∧ szT P t ≠ 0 ∧ (aggT P t = false → szT P t = 1) := by
  simp only [okT, Bool.and_eq_true, Bool.or_eq_true, bne_iff_ne, ne_eq, beq_iff_eq, Option.isSome_iff_exists] at h
  obtain ⟨⟨⟨d, hd⟩, h2⟩, h3⟩ := h
  exact ⟨⟨d, hd⟩, underlying_info hd, h2, fun ha => h3.resolve_left (by simp [ha])⟩

/-- Loading cells. -/
theorem run_loadAt {t : TypeId} (hk : okT P t = true) {b o : Nat} {vs : List Value} (hl : vs.length = szT P t) (hc : ∀ j u, vs[j]? = some u → w.cell? ⟨b, o + j, none⟩ = some u) :
    (Instr.loadAt t (.pointer (some ⟨b, o, none⟩))).run P w = .ok (if aggT P t then .agg vs.toArray else vs.getD 0 undef) w := by
  obtain ⟨⟨d, hd⟩, ⟨i, hi⟩, _, h1⟩ := okT_spec hk
  simp only [Instr.loadAt, Instr.sureAddr, loadVar, Sem.run_bind, Sem.run_pure, Result.andThen_ok, run_isAgg hd]
  cases ha : aggT P t with
  | true =>
    have hlc := run_loadCells_list (P := P) w ⟨b, o, none⟩ vs (fun j v hj => by rw [cell_add]; exact hc j v hj)
    simp only [if_true, Sem.run_bind, run_sizeOf hi, Result.andThen_ok, ← hl, hlc, Sem.run_pure]
  | false =>
    have := h1 ha
    match vs, hl, hc with
    | [u], _, hc =>
      have := hc 0 u rfl
      simp only [Nat.add_zero] at this
      simp [run_load, this]
    | [], hl, _ => simp at hl; omega
    | _ :: _ :: _, hl, _ => simp at hl; omega

theorem cellAt_rep {I : Nat → Prop} {cs : List TV} {vs : List Value} {off n : Nat} {g : Bool} {t : TV} (h : (cellAt cs off g n).eval s = some t) (hr : RepCells η I w cs vs) (hst : stL U cs) (hn : g = false → n = 1)
    (hf : fpL η cs = []) :
    off + n ≤ vs.length ∧ (∀ v, v = (if g then Value.agg ((vs.drop off).take n).toArray else ((vs.drop off).take n).getD 0 undef) → Rep η I w t v) ∧ stT U t ∧ fpT η t = [] := by
  have hl := hr.len
  have sub : ∀ (cs : List TV) (n : Nat), fpL η cs = [] → fpL η (cs.take n) = [] ∧ fpL η (cs.drop n) = [] := fun cs n h => by
    have := fpL_append (η := η) (cs.take n) (cs.drop n)
    rw [List.take_append_drop, h] at this
    exact List.append_eq_nil_iff.1 this.symm
  unfold cellAt at h
  cases g with
  | true =>
    simp only [if_true, LK.eval_ite, LK.eval_cond, LK.eval_pure, LK.eval_fail] at h
    split at h
    · cases h
      refine ⟨by omega, fun v hv => ?_, ?_, ?_⟩
      · simp only [if_true] at hv; subst hv
        exact ⟨_, rfl, by simpa using (hr.drop off).take n⟩
      · simp only [stT]; exact stL_take _ _ (stL_drop _ _ hst)
      · simp only [fpT]; exact (sub _ _ (sub _ _ hf).2).1
    · cases h
  | false =>
    have := hn rfl
    subst this
    simp only [Bool.false_eq_true, if_false, LK.eval_ite, LK.eval_cond, LK.eval_pure, LK.eval_fail] at h
    split at h
    · rename_i hlt
      cases h
      obtain ⟨u, h1, h2, h3⟩ := hr.at hlt
      refine ⟨by omega, fun v hv => ?_, stL_get hst, ?_⟩
      · simp only [Bool.false_eq_true, if_false] at hv
        have : vs.drop off = u :: vs.drop (off + 1) := by
          have hlt' : off < vs.length := by omega
          rw [List.drop_eq_getElem_cons hlt']
          congr 1
          rw [List.getElem?_eq_getElem hlt'] at h1; exact Option.some.inj h1
        rw [this] at hv
        simp at hv
        subst hv; exact h3
      · cases hq : fpT η (get cs off) with
        | nil => rfl
        | cons b l =>
          have := fpL_get (η := η) (cs := cs) (i := off) (b := b) (by rw [hq]; simp)
          rw [hf] at this; cases this
    · cases h

theorem RepPs.cells {I : Nat → Prop} : ∀ {ts : List TV} {vs : List Value}, RepPs I w ts vs → RepCells η I w ts vs ∧ fpL η ts = [] ∧ stL U ts
  | [], vs, h => by simp only [RepPs] at h; simp [RepCells, h, fpL, stL]
  | t :: ts, vs, ⟨v, vs', e, h1, h2⟩ => by
    have ih := h2.cells
    have hp : fpT η t = [] ∧ stT U t := by cases t <;> first | (simp [fpT, stT]; done) | (simp [RepP] at h1)
    simp only [RepCells, fpL, stL, hp.1, ih.2.1, List.append_nil, true_and]
    exact ⟨⟨v, vs', e, h1.cellV, Rep_pure h1, ih.1⟩, hp.2, ih.2.2⟩

variable (call : FuncId → List TV → Option TV) (rs : List Nat) (n : Nat)

section
variable (h : Sim K w0 U (get s) (vsOf a) w η) (hd : a.defers = []) (hN : a.tmps.size = N) {o : Oper} (hdst : ∀ x, o.dst = some x → x < N) {r : TV × List Cmd}
  (hs : (aOp P call rs n o).eval s = some r)
include h hd hN hdst hs

/-- What an address points into. -/
theorem load_ok {T : TypeId} {x : Operand} (ho : o.op = .load T x) : Shows P K w0 N (addU U n) s o r a w := by
  simp only [aOp, ho, LK.eval_bind, LK.eval_guard, LK.eval_sure, Option.bind_eq_some_iff] at hs
  obtain ⟨_, hk, t, ht, hs⟩ := hs
  have hk : okT P T = true := by split at hk <;> simp_all
  obtain ⟨_, _, _, h1⟩ := okT_spec hk
  have hr := ev_rep h ht
  split at hs
  · rename_i p g off
    simp only [LK.eval_bind, LK.eval_pure, Option.bind_eq_some_iff, Option.some.injEq, boxCells, LK.eval_look] at hs
    obtain ⟨cs, hb, u, hu, rfl⟩ := hs
    have hp := h.rep p
    have hst := h.st p
    split at hb
    · rename_i g' cs' e1
      simp only [LK.eval_ite, LK.eval_cond, LK.eval_ret, LK.eval_fail] at hb
      split at hb
      · rename_i hg
        subst hg
        cases hb
        rw [e1] at hp hst
        simp only [Rep, stT] at hp hst hr
        obtain ⟨_, b, cur, e, h2, h3, h4⟩ := hp
        obtain ⟨⟨b', h5, h6⟩, _⟩ := hr
        have hbb : vsOf a p = η g := by assumption
        rw [hbb] at h2
        rw [h2] at h5
        cases h5
        have hc := cellAt_rep (vs := cur.toList) hu (Rep_borsFrom (p := p) 0 h4) (stL_borsFrom 0 hst.2) h1 (fpL_borsFrom _ _)
        refine Shows.quiet h hd hN hdst (v := if aggT P T then .agg ((cur.toList.drop off).take (szT P T)).toArray else ((cur.toList.drop off).take (szT P T)).getD 0 undef) ?_ hc.2.2.2 hc.2.2.1 (hc.2.1 _ rfl) n
        simp only [execOp, ho, Sem.run_bind, h6, Sem.run_pure]
        rw [run_loadAt (vs := (cur.toList.drop off).take (szT P T)) hk (by simp; have := hc.1; simp at this; omega) ?_]
        · rfl
        · intro j u' hj
          have hj' : cur[off + j]? = some u' := by
            rw [List.getElem?_take] at hj
            split at hj
            · simpa [List.getElem?_drop] using hj
            · cases hj
          simp [World.cell?, h3, hj']
      · cases hb
    · simp at hb
  · rename_i p c g e z i j
    simp only [LK.eval_bind, LK.eval_pure, Option.bind_eq_some_iff, Option.some.injEq] at hs
    obtain ⟨xs, hc, hs⟩ := hs
    have ho' := content_rep h hc
    simp only [Rep] at hr
    obtain ⟨⟨b, m, cc, h5, hi, h6⟩, _⟩ := hr
    simp only [LK.eval_optR, Option.bind_eq_some_iff] at hs
    obtain ⟨row, hrow, hs⟩ := hs
    · simp only [LK.eval_bind, LK.eval_pure, Option.bind_eq_some_iff, Option.some.injEq] at hs
      obtain ⟨u, hu, rfl⟩ := hs
      rcases ho'.1 with ⟨rfl, _⟩ | ⟨b', cap, cur, lo, hi', h7, h8, _, _, _, _, h9⟩
      · simp at hrow
      · rw [h7] at h5; cases h5
        have hlen := (List.getElem?_eq_some_iff.1 hrow).1
        have h10 := h9.drop i (by omega)
        rw [List.drop_eq_getElem_cons hlen] at h10
        simp only [RepRows] at h10
        have hrow' : xs[i] = row := by rw [List.getElem?_eq_getElem hlen] at hrow; exact Option.some.inj hrow
        rw [hrow'] at h10
        obtain ⟨hz, h11, _⟩ := h10
        obtain ⟨vs, h12, h13⟩ := h11.vals
        have hcl := h12.cells (η := η) (U := U)
        have hcc := cellAt_rep (vs := vs) hu hcl.1 hcl.2.2 h1 hcl.2.1
        refine Shows.quiet h hd hN hdst (v := if aggT P T then .agg ((vs.drop j).take (szT P T)).toArray else ((vs.drop j).take (szT P T)).getD 0 undef) ?_ hcc.2.2.2 hcc.2.2.1 (hcc.2.1 _ rfl) n
        simp only [execOp, ho, Sem.run_bind, h6, Sem.run_pure]
        rw [run_loadAt (vs := (vs.drop j).take (szT P T)) hk (by simp; have := hcc.1; omega) ?_]
        · rfl
        · intro k u' hk'
          have hk'' : vs[j + k]? = some u' := by
            rw [List.getElem?_take] at hk'
            split at hk'
            · simpa [List.getElem?_drop] using hk'
            · cases hk'
          have := h13 (j + k) u' hk''
          rwa [show 0 + i * z + (j + k) = i * z + j + k by omega] at this
  · rename_i row j
    simp only [LK.eval_bind, LK.eval_pure, Option.bind_eq_some_iff, Option.some.injEq] at hs
    obtain ⟨u, hu, rfl⟩ := hs
    simp only [Rep] at hr
    obtain ⟨⟨b, o', h5, h11, h6⟩, _⟩ := hr
    obtain ⟨vs, h12, h13⟩ := h11.vals
    have hcl := h12.cells (η := η) (U := U)
    have hcc := cellAt_rep (vs := vs) hu hcl.1 hcl.2.2 h1 hcl.2.1
    refine Shows.quiet h hd hN hdst (v := if aggT P T then .agg ((vs.drop j).take (szT P T)).toArray else ((vs.drop j).take (szT P T)).getD 0 undef) ?_ hcc.2.2.2 hcc.2.2.1 (hcc.2.1 _ rfl) n
    simp only [execOp, ho, Sem.run_bind, h6, Sem.run_pure]
    rw [run_loadAt (vs := (vs.drop j).take (szT P T)) hk (by simp; have := hcc.1; omega) ?_]
    · rfl
    · intro k u' hk'
      have hk'' : vs[j + k]? = some u' := by
        rw [List.getElem?_take] at hk'
        split at hk'
        · simpa [List.getElem?_drop] using hk'
        · cases hk'
      have := h13 (j + k) u' hk''
      rwa [show o' + (j + k) = o' + j + k by omega] at this
  · simp at hs

theorem pick_ok {c x y : Operand} (ho : o.op = .pick c x y) : Shows P K w0 N (addU U n) s o r a w := by
  simp only [aOp, ho, LK.eval_bind, Option.bind_eq_some_iff] at hs
  obtain ⟨t, ht, hs⟩ := hs
  have hr := ev_rep h ht
  split at hs
  · rename_i b
    simp only [LK.eval_iteB] at hs
    cases b
    · simp only [Bool.false_eq_true, if_false, LK.eval_bind, LK.eval_pure, Option.bind_eq_some_iff, Option.some.injEq] at hs
      obtain ⟨u, hu, rfl⟩ := hs
      have hru := ev_rep h hu
      simp only [Rep, RepP] at hr
      exact Shows.quiet h hd hN hdst (by simp [execOp, ho, hr.1, asBool]) (ev_fp hu) hru.2 hru.1 n
    · simp only [if_true, LK.eval_bind, LK.eval_pure, Option.bind_eq_some_iff, Option.some.injEq] at hs
      obtain ⟨u, hu, rfl⟩ := hs
      have hru := ev_rep h hu
      simp only [Rep, RepP] at hr
      exact Shows.quiet h hd hN hdst (by simp [execOp, ho, hr.1, asBool]) (ev_fp hu) hru.2 hru.1 n
  · simp at hs

theorem nilCheck_ok {x : Operand} (ho : o.op = .nilCheck x) : Shows P K w0 N (addU U n) s o r a w := by
  simp only [aOp, ho, LK.eval_bind, Option.bind_eq_some_iff] at hs
  obtain ⟨t, ht, hs⟩ := hs
  have hr := ev_rep h ht
  split at hs
  · simp only [LK.eval_pure, Option.some.injEq] at hs
    subst hs
    have hr' := hr.1
    simp only [Rep] at hr'
    obtain ⟨b, h1, h2⟩ := hr'
    refine Shows.quiet h hd hN hdst (v := a.eval x) ?_ (ev_fp ht) hr.2 hr.1 n
    simp [execOp, ho, h2]
  · simp at hs

theorem binOp_ok {op : BinOp} {T yT : TypeId} {x y : Operand} (ho : o.op = .binOp op T x y yT) : Shows P K w0 N (addU U n) s o r a w := by
  simp only [aOp, ho, LK.eval_bind, LK.eval_ofOption, eval_binK, eval_convK, LK.eval_pure, Option.bind_eq_some_iff, Option.some.injEq] at hs
  obtain ⟨tx, hx, ty, hy, _, hg, t, ht, rfl⟩ := hs
  have hrx := (ev_rep h hx).1
  have hry := (ev_rep h hy).1
  have key : scalar t = true ∧ (do eqGuard op T x y (a.eval x) (a.eval y); binOp op T (a.eval x) (a.eval y) : Sem Value).run P w = .ok (conc t) w := by
    have hg' := LK.sure_some.1 hg
    cases tx with
    | agg cs =>
      simp only [binGd, Bool.and_eq_true, Bool.not_eq_true'] at hg'
      exact bin_agg ht T x y hrx hry hg'.1.1 hg'.1.2 hg'.2
    | int k m =>
      obtain ⟨e1, e2, e3⟩ := bin_run (P := P) ht T x y w rfl (fun b hb => by cases hb)
      rw [conc_rep rfl hrx, conc_rep e2 hry]; exact ⟨e1, e3⟩
    | str u =>
      obtain ⟨e1, e2, e3⟩ := bin_run (P := P) ht T x y w rfl (fun b hb => by cases hb)
      rw [conc_rep rfl hrx, conc_rep e2 hry]; exact ⟨e1, e3⟩
    | bool b =>
      simp only [binGd, Bool.and_eq_true, Bool.not_eq_true'] at hg'
      obtain ⟨e1, e2, e3⟩ := bin_run (P := P) ht T x y w rfl (fun b' hb => by cases hb; exact hg')
      rw [conc_rep rfl hrx, conc_rep e2 hry]; exact ⟨e1, e3⟩
    | _ => unfold bin at ht; split at ht <;> simp_all
  refine Shows.quiet h hd hN hdst (v := conc t) ?_ (scalar_fp (U := U) key.1).1 (scalar_fp (η := η) key.1).2 (rep_conc key.1) n
  simp only [execOp, ho]
  rw [Sem.run_bind, key.2]
  rfl

theorem unOp_ok {op : UnOp} {T : TypeId} {x : Operand} (ho : o.op = .unOp op T x) : Shows P K w0 N (addU U n) s o r a w := by
  simp only [aOp, ho, LK.eval_bind, LK.eval_ofOption, eval_binK, eval_convK, LK.eval_pure, Option.bind_eq_some_iff, Option.some.injEq] at hs
  obtain ⟨tx, hx, t, ht, rfl⟩ := hs
  have hrx := (ev_rep h hx).1
  have key : scalar t = true ∧ (Op.unary op (a.eval x)).run P w = .ok (conc t) w := by
    unfold un at ht
    split at ht
    · cases ht; simp only [Rep, RepP] at hrx; rw [hrx]; exact ⟨rfl, by simp [Op.unary, conc]⟩
    · cases ht; simp only [Rep, RepP] at hrx; rw [hrx]; exact ⟨rfl, by simp [Op.unary, conc, Op.intArith]⟩
    · cases ht
  refine Shows.quiet h hd hN hdst (v := conc t) ?_ (scalar_fp (U := U) key.1).1 (scalar_fp (η := η) key.1).2 (rep_conc key.1) n
  simp only [execOp, ho]
  rw [Sem.run_bind, key.2]
  rfl
end
end
end Go.Vm
