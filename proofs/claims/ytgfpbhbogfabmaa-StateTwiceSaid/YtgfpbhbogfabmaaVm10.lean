/- Operations that turn slots, or write (1): move, extract, assign, alloc, box. -/
import Derived.Test.YtgfpbhbogfabmaaVm9
set_option linter.unusedVariables false
set_option linter.unusedSimpArgs false
set_option linter.unnecessarySimpa false
set_option linter.unusedSectionVars false
namespace Go.Vm
section
variable {P : Program} {K : Nat → Prop} {w0 : World} {U : Nat → Prop} {s : List TV} {a : Act} {w : World} {η : Stamp → Value} {N : Nat}

theorem evRaw_rep (h : Sim K w0 U (get s) (vsOf a) w η) {x : Operand} {t : TV} (ht : (evRaw x).eval s = some t) :
    Rep η (Imm η (get s) w) w t (a.eval x) ∧ stT U t ∧ (fpT η t).Nodup ∧ ((∃ i, x = .tmp i ∧ t = get s i) ∨ fpT η t = []) := by
  cases x with
  | tmp i =>
    simp only [evRaw, LK.eval_look, LK.eval_ret, Option.some.injEq] at ht
    subst ht
    exact ⟨h.rep i, h.st i, h.nd i, .inl ⟨i, rfl, rfl⟩⟩
  | const v => have := ev_rep h (x := .const v) ht; have hf := ev_fp (η := η) (x := .const v) ht; exact ⟨this.1, this.2, by rw [hf]; exact List.nodup_nil, .inr hf⟩
  | func f => have := ev_rep h (x := .func f) ht; have hf := ev_fp (η := η) (x := .func f) ht; exact ⟨this.1, this.2, by rw [hf]; exact List.nodup_nil, .inr hf⟩
  | global g => have := ev_rep h (x := .global g) ht; have hf := ev_fp (η := η) (x := .global g) ht; exact ⟨this.1, this.2, by rw [hf]; exact List.nodup_nil, .inr hf⟩

theorem fpL_cells (t : TV) : fpL η (cellsT t) = fpT η t := by cases t <;> simp [cellsT, fpL, fpT]
theorem stL_cells {t : TV} (h : stT U t) : stL U (cellsT t) := by cases t <;> simp_all [cellsT, stL, stT]
theorem fp_modNth : ∀ (vs : List TV) (i : Nat), i < vs.length → ∃ l1 l2, fpL η vs = l1 ++ fpT η (get vs i) ++ l2 ∧ fpL η (modNth (fun _ => .undef) vs i) = l1 ++ l2
  | [], _, h => by simp at h
  | t :: ts, 0, _ => ⟨[], fpL η ts, by simp [fpL, get], by simp [modNth, fpL, fpT]⟩
  | t :: ts, i + 1, h => by
    obtain ⟨l1, l2, e1, e2⟩ := fp_modNth ts i (by simpa using h)
    exact ⟨fpT η t ++ l1, l2, by simp [fpL, get, e1], by simp [modNth, fpL, e2]⟩
theorem st_modNth : ∀ (vs : List TV) (i : Nat), stL U vs → stL U (modNth (fun _ => .undef) vs i)
  | [], _, h => h
  | t :: ts, 0, h => by simp only [stL, modNth] at h ⊢; exact ⟨by simp [stT], h.2⟩
  | t :: ts, i + 1, h => by simp only [stL, modNth] at h ⊢; exact ⟨h.1, st_modNth ts i h.2⟩
theorem repV_modNth {I : Nat → Prop} : ∀ (ts : List TV) (i : Nat) {vs : List Value}, RepVals η I w ts vs → RepVals η I w (modNth (fun _ => .undef) ts i) vs
  | [], _, _, h => h
  | t :: ts, 0, vs, h => by
    simp only [RepVals, modNth] at h ⊢
    obtain ⟨v, vs', e, _, h⟩ := h
    exact ⟨v, vs', e, by simp [Rep], h⟩
  | t :: ts, i + 1, vs, h => by
    simp only [RepVals, modNth] at h ⊢
    obtain ⟨v, vs', e, h1, h⟩ := h
    exact ⟨v, vs', e, h1, repV_modNth ts i h⟩
theorem repC_modNth {I : Nat → Prop} : ∀ (ts : List TV) (i : Nat) {vs : List Value}, RepCells η I w ts vs → RepCells η I w (modNth (fun _ => .undef) ts i) vs
  | [], _, _, h => h
  | t :: ts, 0, vs, h => by
    simp only [RepCells, modNth] at h ⊢
    obtain ⟨v, vs', e, h0, _, h⟩ := h
    exact ⟨v, vs', e, h0, by simp [Rep], h⟩
  | t :: ts, i + 1, vs, h => by
    simp only [RepCells, modNth] at h ⊢
    obtain ⟨v, vs', e, h0, h1, h⟩ := h
    exact ⟨v, vs', e, h0, h1, repC_modNth ts i h⟩
/-- A place that is emptied. -/
theorem modPlace_rep {I : Nat → Prop} {t : TV} {c : Nat} {v : Value} (h : Rep η I w t v) : Rep η I w (modPlace (fun _ => .undef) c t) v := by
  cases t with
  | box g cs =>
    simp only [Rep, modPlace] at h ⊢
    obtain ⟨h1, b, cur, e, h2, h3, h4⟩ := h
    exact ⟨h1, b, cur, e, h2, h3, repC_modNth _ _ h4⟩
  | agg cs =>
    simp only [Rep, modPlace] at h ⊢
    obtain ⟨arr, h1, h2⟩ := h
    exact ⟨arr, h1, repC_modNth _ _ h2⟩
  | tup cs =>
    simp only [Rep, modPlace] at h ⊢
    obtain ⟨arr, h1, h2⟩ := h
    exact ⟨arr, h1, repV_modNth _ _ h2⟩
  | _ => simp [modPlace, Rep]
theorem modPlace_st {t : TV} {c : Nat} (h : stT U t) : stT U (modPlace (fun _ => .undef) c t) := by
  cases t with
  | box g cs => simp only [stT, modPlace] at h ⊢; exact ⟨h.1, st_modNth _ _ h.2⟩
  | agg cs => simp only [stT, modPlace] at h ⊢; exact st_modNth _ _ h
  | tup cs => simp only [stT, modPlace] at h ⊢; exact st_modNth _ _ h
  | _ => simp [modPlace, stT]
theorem modNth_sub : ∀ (vs : List TV) (i : Nat), (fpL η (modNth (fun _ => .undef) vs i)).Sublist (fpL η vs)
  | [], _ => by simp [modNth]
  | t :: ts, 0 => by simp only [modNth, fpL, fpT, List.nil_append]; exact List.sublist_append_right _ _
  | t :: ts, i + 1 => by simp only [modNth, fpL]; exact List.Sublist.append (List.Sublist.refl _) (modNth_sub ts i)
theorem modPlace_sub (t : TV) (c : Nat) : (fpT η (modPlace (fun _ => .undef) c t)).Sublist (fpT η t) := by
  cases t with
  | box g cs => simp only [fpT, modPlace]; exact List.Sublist.append (List.Sublist.refl _) (modNth_sub _ _)
  | agg cs => simp only [fpT, modPlace]; exact modNth_sub _ _
  | tup cs => simp only [fpT, modPlace]; exact modNth_sub _ _
  | _ => simp [modPlace, fpT]
/-- What is at a place is not in what is left. -/
theorem modPlace_out {p c : Nat} {g : Stamp} {e z : Nat} {xs : List (List TV)} (hc : (content p c g e z).eval s = some xs) (hn : (fpT η (get s p)).Nodup) :
    ∀ b ∈ blkOf (η g), b ∉ fpT η (modPlace (fun _ => .undef) c (get s p)) := by
  have key : ∀ cs : List TV, (ownRows g e z (get cs c)).eval s = some xs → (fpL η cs).Nodup → ∀ b ∈ blkOf (η g), b ∉ fpL η (modNth (fun _ => .undef) cs c) ∧ b ∈ fpL η cs := by
    intro cs ho hn b hb
    have ho := ownRows_rep ho
    have hlt : c < cs.length := by
      rcases Nat.lt_or_ge c cs.length with h | h
      · exact h
      · rw [get_of_ge _ _ h] at ho; cases ho
    obtain ⟨l1, l2, e1, e2⟩ := fp_modNth (η := η) cs c hlt
    have hb' : b ∈ fpT η (get cs c) := by rw [ho]; simpa [fpT] using hb
    rw [e2]
    rw [e1] at hn ⊢
    have h1 := List.nodup_append.1 hn
    have h2 := List.nodup_append.1 h1.1
    refine ⟨fun hm => ?_, by simp [hb']⟩
    rcases List.mem_append.1 hm with hm | hm
    · exact h2.2.2 b hm b hb' rfl
    · exact h1.2.2 b (by simp [hb']) b hm rfl
  intro b hb
  simp only [content, LK.eval_look] at hc
  split at hc
  · rename_i g' cs hp
    rw [hp] at hn ⊢
    simp only [fpT, modPlace] at hn ⊢
    have h1 := List.nodup_append.1 hn
    have hk := key _ hc h1.2.1 b hb
    intro hm
    rcases List.mem_append.1 hm with hm | hm
    · exact h1.2.2 b hm b hk.2 rfl
    · exact hk.1 hm
  · rename_i cs hp
    rw [hp] at hn ⊢
    simp only [fpT, modPlace] at hn ⊢
    exact (key _ hc hn b hb).1
  · rename_i cs hp
    rw [hp] at hn ⊢
    simp only [fpT, modPlace] at hn ⊢
    exact (key _ hc hn b hb).1
  · have ho := ownRows_rep hc
    rw [ho]
    simp [modPlace, fpT]

theorem kept_self (w : World) (K : Nat → Prop) : Kept K w w := Kept.refl _ _

/-- A stamp that is new. -/
def setη (η : Stamp → Value) (n : Nat) (v : Value) : Stamp → Value := fun g => if g = (n, 0) then v else η g
theorem setη_old {n : Nat} {v : Value} (hn : ¬ U n) : ∀ g : Stamp, U g.1 → setη η n v g = η g := fun g hg => by
  unfold setη
  split
  · rename_i e; rw [e] at hg; exact absurd hg hn
  · rfl
theorem setη_new (n : Nat) (v : Value) : setη η n v (n, 0) = v := by simp [setη]
theorem addU_new (n : Nat) : addU U n n := .inr rfl
theorem addU_old (n : Nat) : ∀ m, U m → addU U n m := fun _ h => .inl h

variable (call : FuncId → List TV → Option TV) (rs : List Nat) (n : Nat)
section
variable (h : Sim K w0 U (get s) (vsOf a) w η) (hn : ¬ U n) (hd : a.defers = []) (hN : a.tmps.size = N) {o : Oper} (hdst : ∀ x, o.dst = some x → x < N) {r : TV × List Cmd}
  (hs : (aOp P call rs n o).eval s = some r)
include h hd hN hdst hs

theorem move_ok {x : Operand} (ho : o.op = .move x) : Shows P K w0 N (addU U n) s o r a w := by
  simp only [aOp, ho, LK.eval_bind, Option.bind_eq_some_iff] at hs
  obtain ⟨t, ht, hs⟩ := hs
  split at hs
  · rename_i vs
    split at hs
    · rename_i i
      simp only [LK.eval_pure, Option.some.injEq] at hs
      subst hs
      simp only [evRaw, LK.eval_look, LK.eval_ret, Option.some.injEq] at ht
      refine Shows.value hd hN hdst (v := a.eval (.tmp i)) (w' := w) (by simp [execOp, ho]) ⟨η, ?_⟩
      have hg : ∀ j, get (after s o.dst (TV.tup vs, [.set i .undef])) j = if o.dst = some j then .tup vs else if some i = some j then .undef else get s j := fun j => by
        rw [after_get]; simp [Cmd.app, get_put]
      refine h.put2 (U' := addU U n) (addU_old n) (fun _ _ => rfl) (some i) .undef o.dst (.tup vs) _ hg (kept_self _ _) (fun _ => by simp [stT]) (by rw [← ht]; exact stT.mono (addU_old n) _ (h.st i)) (fun _ _ b hb => by simp [fpT] at hb)
        (fun b hb => .inr ⟨i, rfl, by rw [ht]; exact hb⟩) (fun _ => by simp [fpT]) (by rw [← ht]; exact h.nd i) (fun _ b hb => by simp [fpT] at hb) (fun _ _ _ _ _ _ => by simp [Rep]) (fun I' hI _ j hj => ?_)
      rw [← ht]
      exact Rep.mono (U := U) (fun _ _ => rfl) hI (fun _ _ => rfl) _ _ (h.st i) (fun _ _ => rfl) (h.rep i)
    · simp at hs
  · simp only [LK.eval_bind, LK.eval_pure, Option.bind_eq_some_iff, Option.some.injEq] at hs
    obtain ⟨u, hu, rfl⟩ := hs
    have hr := ev_rep h hu
    exact Shows.quiet h hd hN hdst (v := a.eval x) (by simp [execOp, ho]) (ev_fp hu) hr.2 hr.1 n

theorem extract_ok {x : Operand} {i : Nat} (ho : o.op = .extract x i) : Shows P K w0 N (addU U n) s o r a w := by
  simp only [aOp, ho] at hs
  split at hs
  · rename_i t
    simp only [LK.eval_look] at hs
    split at hs
    · rename_i vs hv
      simp only [LK.eval_ite, LK.eval_cond, LK.eval_fail] at hs
      split at hs
      · rename_i hi
        have hr := h.rep t
        have hst := h.st t
        rw [hv] at hr hst
        simp only [Rep, stT] at hr hst
        obtain ⟨arr, h1, h2⟩ := hr
        obtain ⟨v, h3, h4⟩ := h2.at hi
        have hst' := stL_get (i := i) hst
        have run : (execOp a.eval o).run P w = .ok (.value v) w := by
          have : a.eval (.tmp t) = .tuple arr := h1
          have h3' : arr[i]? = some v := by simpa using h3
          simp [execOp, ho, Instr.extract, this, h3']
        have taken : (∃ t', r = (t', [.kill t i]) ∧ get vs i = t') → Shows P K w0 N (addU U n) s o r a w := by
          rintro ⟨t', rfl, e⟩
          refine Shows.value hd hN hdst run ⟨η, ?_⟩
          have hg : ∀ j, get (after s o.dst (t', [.kill t i])) j = if o.dst = some j then t' else if some t = some j then .tup (modNth (fun _ => .undef) vs i) else get s j := fun j => by
            rw [after_get]; simp [Cmd.app, get_put, hv, modPlace]
          obtain ⟨l1, l2, e1, e2⟩ := fp_modNth (η := η) vs i hi
          have hnd := h.nd t
          rw [hv] at hnd
          simp only [fpT, e1] at hnd
          have n1 := List.nodup_append.1 hnd
          have n2 := List.nodup_append.1 n1.1
          rw [e] at e1 n1 n2 hst' h4
          refine h.put2 (U' := addU U n) (addU_old n) (fun _ _ => rfl) (some t) (.tup (modNth (fun _ => .undef) vs i)) o.dst t' v hg (kept_self _ _)
            (fun _ => by simp only [stT]; exact stL.mono (addU_old n) _ (st_modNth _ _ hst)) (stT.mono (addU_old n) _ hst') (fun j hj b hb => .inr (.inl ?_)) (fun b hb => .inr ⟨t, rfl, ?_⟩) (fun _ => ?_) n2.2.1 (fun _ b hb hb' => ?_) (fun I' hI _ j hj _ => ?_) (fun I' hI _ j hj => ?_)
          · cases hj; rw [hv]; simp only [fpT, e2] at hb ⊢; rw [e1]; simp only [List.mem_append] at hb ⊢; rcases hb with hb | hb <;> simp [hb]
          · rw [hv]; simp only [fpT]; rw [e1]; simp [hb]
          · simp only [fpT, e2]; exact List.nodup_append.2 ⟨n2.1, n1.2.1, fun a ha b hb => n1.2.2 a (by simp [ha]) b hb⟩
          · simp only [fpT, e2, List.mem_append] at hb
            rcases hb with hb | hb
            · exact n2.2.2 b hb b hb' rfl
            · exact n1.2.2 b (by simp [hb']) b hb rfl
          · cases hj
            show Rep η I' w _ (vsOf a t)
            rw [h1]
            simp only [Rep]
            exact ⟨arr, rfl, RepVals.mono (U := U) (fun _ _ => rfl) hI (fun _ _ => rfl) _ _ (st_modNth _ _ hst) (fun _ _ => rfl) (repV_modNth _ _ h2)⟩
          · exact Rep.mono (U := U) (fun _ _ => rfl) hI (fun _ _ => rfl) _ _ hst' (fun _ _ => rfl) h4
        unfold exOne at hs
        split at hs
        · rename_i e; simp only [LK.eval_pure, Option.some.injEq] at hs; exact taken ⟨_, hs.symm, e⟩
        · rename_i cs e
          cases hp : cs.all pureT with
          | true =>
            rw [hp] at hs
            simp only [cond_true, LK.eval_pure, Option.some.injEq] at hs
            subst hs
            rw [e] at h4 hst'
            refine Shows.quiet h hd hN hdst run ?_ hst' h4 n
            have : ∀ cs : List TV, cs.all pureT = true → fpL η cs = [] := by
              intro cs
              induction cs with
              | nil => intro _; rfl
              | cons x xs ih =>
                intro hp
                simp only [List.all_cons, Bool.and_eq_true] at hp
                have h1 := hp.1
                simp only [fpL, ih hp.2, List.append_nil]
                cases x <;> simp [pureT] at h1 <;> simp [fpT]
            simp only [fpT]
            exact this cs hp
          | false =>
            rw [hp] at hs
            simp only [cond_false, LK.eval_pure, Option.some.injEq] at hs
            exact taken ⟨_, hs.symm, e⟩
        · rename_i e
          simp only [LK.eval_pure, Option.some.injEq] at hs
          subst hs
          rw [e] at h4 hst'
          exact Shows.quiet h hd hN hdst run (by simp [fpT]) hst' h4 n
        · simp only [LK.eval_ite, LK.eval_cond, LK.eval_pure, LK.eval_fail] at hs
          split at hs
          · rename_i hp
            cases hs
            refine Shows.quiet h hd hN hdst run ?_ hst' h4 n
            generalize get vs i = q at hp
            cases q <;> simp [pureT] at hp <;> simp [fpT]
          · cases hs
      · cases hs
    · simp at hs
  · simp at hs
end
end
end Go.Vm
