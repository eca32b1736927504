/- Operations that turn slots, or write (2): assign, alloc, box, build. -/
import Derived.Test.YtgfpbhbogfabmaaVm10
set_option linter.unusedVariables false
set_option linter.unusedSimpArgs false
set_option linter.unnecessarySimpa false
set_option linter.unusedSectionVars false
namespace Go.Vm
section
variable {P : Program} {K : Nat → Prop} {w0 : World} {U : Nat → Prop} {s : List TV} {a : Act} {w : World} {η : Stamp → Value} {N : Nat}

theorem zeroT_spec {t : TypeId} {cs : List TV} (h : zeroT P t = some cs) : ∃ i v, P.info? t = some i ∧ i.zero = some v ∧ isZero cs v.cells.toList = true ∧ cs.length = szT P t := by
  unfold zeroT at h
  split at h
  · rename_i h1 h2
    split at h
    · rename_i h3
      cases h
      simp only [Bool.and_eq_true, beq_iff_eq] at h3
      obtain ⟨i, hi, hz⟩ := Option.bind_eq_some_iff.1 h2
      exact ⟨i, _, hi, hz, h3.1, h3.2⟩
    · cases h
  · cases h
theorem bytes_eq {a b : ByteArray} (h : a.data.toList = b.data.toList) : a = b := by
  obtain ⟨⟨a⟩⟩ := a
  obtain ⟨⟨b⟩⟩ := b
  simp at h; rw [h]
theorem isZero_rep {I : Nat → Prop} : ∀ {cs : List TV} {vs : List Value}, isZero cs vs = true → RepCells η I w cs vs ∧ fpL η cs = [] ∧ stL U cs ∧ cs.any owns = false
  | [], [], _ => by simp [RepCells, fpL, stL]
  | [], _ :: _, h => by simp [isZero] at h
  | t :: ts, [], h => by cases t <;> simp [isZero] at h
  | t :: ts, v :: vs, h => by
    have key : isZero ts vs = true → Rep η I w t v → cellV v = true → fpT η t = [] → stT U t → owns t = false → RepCells η I w (t :: ts) (v :: vs) ∧ fpL η (t :: ts) = [] ∧ stL U (t :: ts) ∧ (t :: ts).any owns = false := by
      intro h1 h2 h3 h4 h5 h6
      have ih := isZero_rep (I := I) h1
      exact ⟨⟨v, vs, rfl, h3, h2, ih.1⟩, by simp [fpL, h4, ih.2.1], ⟨h5, ih.2.2.1⟩, by simp [h6, ih.2.2.2]⟩
    cases t with
    | int k m =>
      cases v with
      | int k' m' =>
        simp only [isZero, Bool.and_eq_true, beq_iff_eq] at h
        obtain ⟨⟨rfl, rfl⟩, h⟩ := h
        exact key h (by simp [Rep, RepP]) rfl (by simp [fpT]) (by simp [stT]) rfl
      | _ => simp [isZero] at h
    | bool b =>
      cases v with
      | bool b' =>
        simp only [isZero, Bool.and_eq_true, beq_iff_eq] at h
        obtain ⟨rfl, h⟩ := h
        exact key h (by simp [Rep, RepP]) rfl (by simp [fpT]) (by simp [stT]) rfl
      | _ => simp [isZero] at h
    | str b =>
      cases v with
      | string b' =>
        simp only [isZero, Bool.and_eq_true, beq_iff_eq] at h
        obtain ⟨h0, h⟩ := h
        obtain rfl := bytes_eq h0
        exact key h (by simp [Rep, RepP]) rfl (by simp [fpT]) (by simp [stT]) rfl
      | _ => simp [isZero] at h
    | nil z =>
      cases v with
      | slice A len c =>
        cases A with
        | some _ => simp [isZero] at h
        | none =>
          cases len with
          | succ _ => simp [isZero] at h
          | zero =>
            cases c with
            | succ _ => simp [isZero] at h
            | zero => simp only [isZero] at h; exact key h (by simp [Rep, RepP]) rfl (by simp [fpT]) (by simp [stT]) rfl
      | _ => simp [isZero] at h
    | _ => simp [isZero] at h

/-- A new block. -/
theorem heap_alloc_size (w : World) (o : Obj) : (w.alloc o).heap.size = w.heap.size + 1 := by simp
theorem kept_alloc (w : World) (o : Obj) {K : Nat → Prop} (hK : ∀ b, K b → b < w.heap.size) : Kept K w (w.alloc o) :=
  ⟨rfl, rfl, rfl, by simp, fun b hb => heap_alloc_old w o b (hK b hb)⟩

theorem run_mapM_list {α β : Type} (f : α → Sem β) (g : α → β) : ∀ (l : List α), (∀ x ∈ l, (f x).run P w = .ok (g x) w) → (l.mapM f).run P w = .ok (l.map g) w
  | [], _ => by simp
  | x :: l, hf => by
    rw [List.mapM_cons]
    simp only [Sem.run_bind, hf x (by simp), Result.andThen_ok, run_mapM_list f g l (fun y hy => hf y (by simp [hy])), Sem.run_pure, List.map_cons]
theorem run_mapM {α β : Type} (f : α → Sem β) (g : α → β) (l : Array α) (hf : ∀ x ∈ l.toList, (f x).run P w = .ok (g x) w) : (l.mapM f).run P w = .ok (l.map g) w := by
  rw [Array.mapM_eq_mapM_toList]
  simp only [Sem.run_map, run_mapM_list f g _ hf, Result.andThen_ok]
  congr 1
  apply Array.ext'
  simp

/-- Cells written into cells. -/
theorem fold_set (off : Nat) : ∀ (vs : List Value) (k : Nat) (cs : Array Value), off + k + vs.length ≤ cs.size →
    ((vs.zipIdx k).foldl (fun cs x => cs.setIfInBounds (off + x.2) x.1) cs).toList = cs.toList.take (off + k) ++ vs ++ cs.toList.drop (off + k + vs.length)
  | [], k, cs, _ => by simp
  | v :: vs, k, cs, hl => by
    simp only [List.length_cons] at hl
    simp only [List.zipIdx_cons, List.foldl_cons]
    rw [fold_set off vs (k + 1) _ (by simp; omega)]
    have := list_seg_step cs.toList (off + k) v vs (by simp; omega)
    simpa [Array.toList_setIfInBounds, Nat.add_assoc] using this

variable (call : FuncId → List TV → Option TV) (rs : List Nat) (n : Nat)

theorem stealCells_ne {src : Option Nat} {t : TV} {q : List TV × List Cmd} (hq : (stealCells src t).eval s = some q) : (∀ vs, t ≠ .tup vs) ∧ t ≠ .undef := by
  have : ∀ t, (t = .undef ∨ ∃ vs, t = .tup vs) → (stealCells src t).eval s = none := by
    rintro t (rfl | ⟨vs, rfl⟩) <;> simp [stealCells, cellsT, keepAll, keepOne, frzOne, pureT]
  exact ⟨fun vs e => (by rw [this t (.inr ⟨vs, e⟩)] at hq; cases hq), fun e => (by rw [this t (.inl e)] at hq; cases hq)⟩

/-- The fields that are laid. -/
theorem fill_ok {T : TypeId} {fs : Array Field} (hu : P.underlying T = some (.struct fs)) : ∀ {ps : List (Nat × TV)} {pv : List (Nat × Value)} {cs cs' : List TV} {vs : Array Value},
    ps.map (·.1) = pv.map (·.1) → (∀ (j : Nat) (x : Nat × TV) (y : Nat × Value), ps[j]? = some x → pv[j]? = some y → RepCells η (Imm η (get s) w) w (cellsT x.2) y.2.cells.toList ∧ stL U (cellsT x.2) ∧ fpL η (cellsT x.2) = []) →
    layFields P T cs ps = some cs' → RepCells η (Imm η (get s) w) w cs vs.toList → stL U cs → fpL η cs = [] →
    ∃ vs', Instr.fill ((fs.map fun f => (f.offset, szT P f.type))[·]?) vs pv = some vs' ∧ RepCells η (Imm η (get s) w) w cs' vs'.toList ∧ stL U cs' ∧ fpL η cs' = []
  | [], pv, cs, cs', vs, hm, _, hl, hr, hst, hf => by
    have : pv = [] := by simpa using hm.symm
    subst this
    simp only [layFields, Option.some.injEq] at hl
    subst hl
    exact ⟨vs, rfl, hr, hst, hf⟩
  | (i, t) :: ps, [], cs, cs', vs, hm, _, hl, hr, hst, hf => by simp at hm
  | (i, t) :: ps, (i', v) :: pv, cs, cs', vs, hm, hp, hl, hr, hst, hf => by
    simp only [List.map_cons, List.cons.injEq] at hm
    obtain ⟨rfl, hm⟩ := hm
    have h0 := hp 0 (i, t) (i, v) rfl rfl
    simp only [layFields] at hl
    split at hl
    · rename_i off ft hft
      split at hl
      · rename_i hc
        obtain ⟨fs', fx, hu', hfx, rfl, rfl⟩ := fieldT_und hft
        rw [hu] at hu'
        cases hu'
        have hlen := h0.1.len
        have hlen2 := hr.len
        have hsz : v.cells.size = szT P fx.type := by rw [← hc.1, ← hlen]; simp
        have hvs : vs.size = cs.length := by rw [← hlen2]; simp
        have e1 : (fs.map fun f => (f.offset, szT P f.type))[i]? = some (fx.offset, szT P fx.type) := by simp [hfx]
        have sub : ∀ (cs : List TV) (n : Nat), fpL η cs = [] → fpL η (cs.take n) = [] ∧ fpL η (cs.drop n) = [] := fun cs n h => by
          have := fpL_append (η := η) (cs.take n) (cs.drop n)
          rw [List.take_append_drop, h] at this
          exact List.append_eq_nil_iff.1 this.symm
        have efold := fold_set fx.offset v.cells.toList 0 vs (by simp; omega)
        simp only [Nat.add_zero] at efold
        obtain ⟨vs', f1, f2⟩ := fill_ok hu hm (fun j x y hx hy => hp (j + 1) x y hx hy) hl
          (vs := v.cells.zipIdx.foldl (fun cs x => cs.setIfInBounds (fx.offset + x.2) x.1) vs) (by
            rw [← Array.foldl_toList, Array.toList_zipIdx, efold]
            have hvl : v.cells.toList.length = szT P fx.type := by simpa using hsz
            rw [hvl]
            exact ((hr.take _).append h0.1).append (hr.drop _))
          (by rw [stL_append, stL_append]; exact ⟨⟨stL_take _ _ hst, h0.2.1⟩, stL_drop _ _ hst⟩) (by rw [fpL_append, fpL_append, (sub _ _ hf).1, h0.2.2, (sub _ _ hf).2]; rfl)
        refine ⟨vs', ?_, f2⟩
        simp only [Instr.fill, e1]
        rw [if_neg (by simp [hsz]; omega)]
        exact f1
      · cases hl
    · cases hl

theorem evParts_rep (h : Sim K w0 U (get s) (vsOf a) w η) : ∀ {l : List (Nat × Operand)} {ps : List (Nat × TV)}, (evParts l).eval s = some ps →
    ps.map (·.1) = (l.map fun x => (x.1, a.eval x.2)).map (·.1) ∧ (∀ (j : Nat) (x : Nat × TV) (y : Nat × Value), ps[j]? = some x → (l.map fun x => (x.1, a.eval x.2))[j]? = some y → Rep η (Imm η (get s) w) w x.2 y.2 ∧ stT U x.2 ∧ fpT η x.2 = [])
  | [], ps, hp => by
    simp only [evParts, LK.eval_pure, Option.some.injEq] at hp
    subst hp
    simp
  | (i, x) :: l, ps, hp => by
    simp only [evParts, LK.eval_bind, LK.eval_pure, Option.bind_eq_some_iff, Option.some.injEq] at hp
    obtain ⟨t, ht, ts, hts, rfl⟩ := hp
    obtain ⟨i1, i2⟩ := evParts_rep h hts
    refine ⟨by simp [i1], fun j x' y hx hy => ?_⟩
    cases j with
    | zero =>
      simp at hx hy
      subst hx; subst hy
      have := ev_rep h ht
      exact ⟨this.1, this.2, ev_fp ht⟩
    | succ j => exact i2 j x' y (by simpa using hx) (by simpa using hy)

/-- A new variable, of cells that are taken over. -/
theorem newBox_sim (h : Sim K w0 U (get s) (vsOf a) w η) (hn : ¬ U n) {cs : List TV} {us : Array Value} {e : TypeId} {d : Option Nat} {tk : Option Nat} {f' : Nat → TV}
    (hf' : ∀ i, f' i = if d = some i then .box (n, 0) cs else if tk = some i then .undef else get s i)
    (hr : RepCells η (Imm η (get s) w) w cs us.toList) (hst : stL U cs) (hnd : (fpL η cs).Nodup) (hfp : ∀ b ∈ fpL η cs, ∃ i, tk = some i ∧ b ∈ fpT η (get s i)) :
    ∃ η', Sim K w0 (addU U n) f' (fun i => if d = some i then .pointer (some ⟨w.heap.size, 0, none⟩) else vsOf a i) (w.alloc (.cells us e)) η' := by
  refine ⟨setη η n (.pointer (some ⟨w.heap.size, 0, none⟩)), ?_⟩
  have hη := setη_old (η := η) (v := .pointer (some ⟨w.heap.size, 0, none⟩)) hn
  have hlt : ∀ b ∈ fpL η cs, b < w.heap.size := fun b hb => by obtain ⟨i, _, hb'⟩ := hfp b hb; exact (h.fpK i b hb').2
  have hfpl : fpL (setη η n (.pointer (some ⟨w.heap.size, 0, none⟩))) cs = fpL η cs := fpL.congr hη _ hst
  have hfb : fpT (setη η n (.pointer (some ⟨w.heap.size, 0, none⟩))) (.box (n, 0) cs) = w.heap.size :: fpL η cs := by simp [fpT, setη_new, blkOf, hfpl]
  refine h.put2 (addU_old n) hη tk .undef d (.box (n, 0) cs) _ hf' (kept_alloc _ _ fun b hb => hb.1) (fun _ => by simp [stT]) ?_ (fun _ _ b hb => by simp [fpT] at hb) (fun b hb => ?_) (fun _ => by simp [fpT]) ?_ (fun _ b hb => by simp [fpT] at hb)
    (fun _ _ _ _ _ _ => by simp [Rep]) (fun I' hI _ j hj => ?_)
  · simp only [stT]; exact ⟨addU_new n, stL.mono (addU_old n) _ hst⟩
  · rw [hfb] at hb
    rcases List.mem_cons.1 hb with rfl | hb
    · exact .inl ⟨Nat.le_refl _, by simp⟩
    · exact .inr (hfp b hb)
  · rw [hfb]
    exact List.nodup_cons.2 ⟨fun hb => by have := hlt _ hb; omega, hnd⟩
  · simp only [Rep]
    refine ⟨(setη_new n _).symm, w.heap.size, us, e, rfl, heap_alloc_new w _, ?_⟩
    refine RepCells.mono (U := U) hη hI (fun b hb => heap_alloc_old w _ b hb.1) _ _ hst (fun b hb => heap_alloc_old w _ b (hlt b hb)) hr

section
variable (h : Sim K w0 U (get s) (vsOf a) w η) (hn : ¬ U n) (hd : a.defers = []) (hN : a.tmps.size = N) {o : Oper} (hdst : ∀ x, o.dst = some x → x < N) {r : TV × List Cmd}
  (hs : (aOp P call rs n o).eval s = some r)
include h hn hd hN hdst hs

theorem alloc_ok {T : TypeId} (ho : o.op = .alloc T) : Shows P K w0 N (addU U n) s o r a w := by
  simp only [aOp, ho] at hs
  split at hs
  · rename_i cs hz
    simp only [LK.eval_pure, Option.some.injEq] at hs
    subst hs
    obtain ⟨i, v, hi, hv, h1, h2⟩ := zeroT_spec hz
    have hz' := isZero_rep (η := η) (I := Imm η (get s) w) (w := w) (U := U) h1
    refine Shows.value hd hN hdst (v := .pointer (some ⟨w.heap.size, 0, none⟩)) (w' := w.alloc (.cells v.cells T)) ?_ ?_
    · simp [execOp, ho, Instr.alloc, zeroValue, typeInfo, hi, hv, newVar, newRow]
    · exact newBox_sim n h hn (tk := none) (fun i => by rw [after_get]; simp) hz'.1 hz'.2.2.1 (by rw [hz'.2.1]; exact List.nodup_nil) (fun b hb => by rw [hz'.2.1] at hb; cases hb)
  · simp at hs

/-- What is taken of an operand. -/
theorem steal_op {x : Operand} {t : TV} (ht : (evRaw x).eval s = some t) {cs : List TV} {k : List Cmd} (hq : (stealCells (srcOf x) t).eval s = some (cs, k)) :
    ∃ k1 tk, Taken η U s w (srcOf x) t cs k (a.eval x).cells.toList k1 tk ∧ Sim K w0 U (get (k1.foldl Cmd.app s)) (vsOf a) w η ∧
      (∀ b ∈ fpL η cs, ∃ i, tk = some i ∧ b ∈ fpT η (get (k1.foldl Cmd.app s) i)) ∧ (fpL η cs).Nodup := by
  have hr := evRaw_rep h ht
  have hne := stealCells_ne hq
  obtain ⟨k1, tk, T⟩ := stealCells_rep h hq (rep_cells hr.1 hne.1 hne.2) (stL_cells hr.2.1) (by rw [fpL_cells]; exact hr.2.2.1)
  refine ⟨k1, tk, T, Sim.frzs k1 T.frz h, fun b hb => ?_, T.nd (by rw [fpL_cells]; exact hr.2.2.1)⟩
  obtain ⟨i, hi, hb'⟩ := T.fp b hb
  obtain ⟨e1, e2⟩ := T.tkEq i hi
  refine ⟨i, hi, ?_⟩
  rw [fpL_cells] at hb'
  rw [e2]
  rcases hr.2.2.2 with ⟨j, rfl, rfl⟩ | hf
  · simp only [srcOf, Option.some.injEq] at e1; rw [← e1]; exact hb'
  · rw [hf] at hb'; cases hb'

theorem box_ok {T : TypeId} {x : Operand} (ho : o.op = .box T x) : Shows P K w0 N (addU U n) s o r a w := by
  have hs0 := hs
  simp only [aOp, ho, LK.eval_bind, LK.eval_pure, Option.bind_eq_some_iff, Option.some.injEq] at hs
  obtain ⟨t, ht, ⟨cs, k⟩, hq, _, hg, rfl⟩ := hs
  obtain ⟨k1, tk, hT, h1, hfp, hnd⟩ := steal_op call rs n h hn hd hN hdst hs0 ht hq
  refine Shows.value hd hN hdst (v := .pointer (some ⟨w.heap.size, 0, none⟩)) (w' := w.alloc (.cells (a.eval x).cells T)) ?_ ?_
  · simp [execOp, ho, Instr.box, newVar, newRow]
  · exact newBox_sim n h1 hn (tk := tk) (fun i => by rw [after_get, hT.cmds]) hT.cells hT.st hnd hfp

theorem build_ok {T : TypeId} {parts : Array (Nat × Operand)} (ho : o.op = .build T parts) : Shows P K w0 N (addU U n) s o r a w := by
  simp only [aOp, ho, LK.eval_bind, LK.eval_ofOption, Option.bind_eq_some_iff] at hs
  obtain ⟨_, hk, cs, hz, ps, hps, _, hok, hs⟩ := hs
  have hk := LK.sure_some.1 hk
  have hok := LK.sure_some.1 hok
  unfold bldOk at hk
  split at hk
  · rename_i fs hu
    split at hs
    · rename_i cs' hl
      simp only [LK.eval_pure, Option.some.injEq] at hs
      subst hs
      obtain ⟨i, v, hi, hv, h1, h2⟩ := zeroT_spec hz
      have hz' := isZero_rep (η := η) (I := Imm η (get s) w) (w := w) (U := U) h1
      obtain ⟨p1, p2⟩ := evParts_rep h hps
      obtain ⟨vs', f1, f2, f3, f4⟩ := fill_ok hu p1 (fun j x y hx hy => by
        obtain ⟨q1, q2, q3⟩ := p2 j x y hx hy
        have hv := List.all_eq_true.1 hok x (List.mem_of_getElem? hx)
        exact ⟨rep_cells q1 (fun vs e => by rw [e] at hv; cases hv) (fun e => by rw [e] at hv; cases hv), stL_cells q2, by rw [fpL_cells]; exact q3⟩) hl hz'.1 hz'.2.2.1 hz'.2.1
      refine Shows.quiet h hd hN hdst (v := .agg vs') ?_ (by simpa [fpT] using f4) (by simpa [stT] using f3) (by simp only [Rep]; exact ⟨vs', rfl, f2⟩) n
      have hpl : (fs.mapM fun f => do pure (f.offset, ← sizeOf f.type) : Sem _).run P w = .ok (fs.map fun f => (f.offset, szT P f.type)) w := by
        refine run_mapM _ _ fs fun x hx => ?_
        obtain ⟨ii, hii⟩ := Option.isSome_iff_exists.1 (List.all_eq_true.1 hk x hx)
        simp [run_sizeOf hii]
      simp only [execOp, ho, Instr.build, Sem.run_bind, zeroValue, typeInfo, run_program, Result.andThen_ok, hi, Sem.run_pure, hv, run_underlying hu, hpl]
      have : (Array.map (fun (x : Nat × Operand) => (x.1, a.eval x.2)) parts).toList = parts.toList.map fun x => (x.1, a.eval x.2) := by simp
      rw [this, f1]
      rfl
    · simp at hs
  · cases hk

theorem assign_ok {x : Operand} (ho : o.op = .assign x) : Shows P K w0 N (addU U n) s o r a w := by
  have hs0 := hs
  have run : (execOp a.eval o).run P w = .ok (.value (a.eval x)) w := by simp [execOp, ho]
  simp only [aOp, ho, LK.eval_bind, Option.bind_eq_some_iff] at hs
  obtain ⟨t, ht, hs⟩ := hs
  have hr := evRaw_rep h ht
  split at hs
  · rename_i cs0
    simp only [LK.eval_bind, LK.eval_pure, Option.bind_eq_some_iff, Option.some.injEq] at hs
    obtain ⟨⟨cs, k⟩, hq, rfl⟩ := hs
    obtain ⟨k1, tk, hT, h1, hfp, hnd⟩ := steal_op call rs n h hn hd hN hdst hs0 ht hq
    have hr' := hr.1
    simp only [Rep] at hr'
    obtain ⟨arr, he, _⟩ := hr'
    refine Shows.value hd hN hdst run ⟨η, ?_⟩
    refine h1.put2 (addU_old n) (fun _ _ => rfl) tk .undef o.dst (.agg cs) (a.eval x) (fun i => by rw [after_get, hT.cmds]) (kept_self _ _) (fun _ => by simp [stT]) (by simp only [stT]; exact stL.mono (addU_old n) _ hT.st)
      (fun _ _ b hb => by simp [fpT] at hb) (fun b hb => .inr (hfp b (by simpa [fpT] using hb))) (fun _ => by simp [fpT]) (by simpa [fpT] using hnd) (fun _ b hb => by simp [fpT] at hb) (fun _ _ _ _ _ _ => by simp [Rep]) (fun I' hI _ j hj => ?_)
    simp only [Rep]
    have := hT.cells
    rw [he] at this
    exact ⟨arr, he, RepCells.mono (U := U) (fun _ _ => rfl) hI (fun _ _ => rfl) _ _ hT.st (fun _ _ => rfl) this⟩
  · split at hs
    · rename_i e he
      simp only [LK.eval_pure, Option.some.injEq] at hs
      subst hs
      have hr' := hr.1
      simp only [Rep, RepP] at hr'
      refine Shows.value hd hN hdst run ⟨setη η n (.slice none 0 0), ?_⟩
      refine h.put2 (addU_old n) (setη_old hn) none .undef o.dst (.own (n, 0) e (szT P e) []) (a.eval x) (fun i => by rw [after_get]; simp) (kept_self _ _) (fun hx => by simp at hx) (by simp only [stT]; exact addU_new n)
        (fun _ hx => by simp at hx) (fun b hb => by simp [fpT, setη_new, blkOf] at hb) (fun hx => by simp at hx) (by simp [fpT, setη_new, blkOf]) (fun hx => by simp at hx) (fun _ _ _ _ hx => by simp at hx) (fun I' hI _ j hj => ?_)
      simp only [Rep, hr', setη_new, true_and]
      exact .inl ⟨rfl, rfl⟩
    · simp at hs
  · rename_i p g off
    simp only [LK.eval_pure, Option.some.injEq] at hs
    subst hs
    exact Shows.quiet h hd hN hdst run (by simp [fpT]) hr.2.1 hr.1 n
  · simp only [LK.eval_pure, Option.some.injEq] at hs
    subst hs
    exact Shows.quiet h hd hN hdst run (by simp [fpT]) hr.2.1 hr.1 n
  · rename_i n1 n2 n3 n4
    have frz : ∀ {t' : TV} {k : List Cmd}, (frzOne t).eval s = some (t', k) → r = (t', k) → Shows P K w0 N (addU U n) s o r a w := by
      intro t' k hq hrr
      subst hrr
      obtain ⟨e1, e2⟩ := frzOne_eq hq
      have hk : k.all Cmd.isFrz = true := by rw [e2]; exact lentOne_frz t
      have hp := resOne_rep h e1 hr.1 (k := k) (by rw [← e2]; exact Covers.refl hk)
      have h1 := Sim.frzs k hk h
      have hfp : fpT η t' = [] ∧ stT U t' := by cases t' <;> simp_all [pureT, fpT, stT]
      exact Shows.value hd hN hdst run ⟨η, h1.quiet (addU_old n) o.dst hfp.1 (stT.mono (addU_old n) _ hfp.2) (Rep_pure hp.1) hfp.2⟩
    generalize isRes rs o.dst = mv at hs
    unfold stealOne at hs
    split at hs
    · rename_i g' e z xs
      split at hs
      · rename_i i hsrc
        simp only [LK.eval_pure, Option.some.injEq] at hs
        subst hs
        have hx : x = .tmp i := by cases x <;> simp [srcOf] at hsrc; rw [hsrc]
        subst hx
        simp only [evRaw, LK.eval_look, LK.eval_ret, Option.some.injEq] at ht
        refine Shows.value hd hN hdst run ⟨η, ?_⟩
        refine h.put2 (addU_old n) (fun _ _ => rfl) (some i) .undef o.dst (.own g' e z xs) (a.eval (.tmp i)) (fun j => by rw [after_get]; simp [Cmd.app, get_put]) (kept_self _ _) (fun _ => by simp [stT]) (stT.mono (addU_old n) _ hr.2.1)
          (fun _ _ b hb => by simp [fpT] at hb) (fun b hb => .inr ⟨i, rfl, by rw [ht]; exact hb⟩) (fun _ => by simp [fpT]) hr.2.2.1 (fun _ b hb => by simp [fpT] at hb) (fun _ _ _ _ _ _ => by simp [Rep]) (fun I' hI _ j hj => ?_)
        exact Rep.mono (U := U) (fun _ _ => rfl) hI (fun _ _ => rfl) _ _ hr.2.1 (fun _ _ => rfl) hr.1
      · simp at hs
    · rename_i p pc g' e z off len
      simp only [LK.eval_ite, LK.eval_cond] at hs
      by_cases hc : off = 0 ∧ (mv || o.dst == some p) = true
      · rw [if_pos hc] at hs
        simp only [LK.eval_bind, LK.eval_pure, Option.bind_eq_some_iff, Option.some.injEq] at hs
        obtain ⟨xs, hxs, rfl⟩ := hs
        have hr' := hr.1
        simp only [Rep] at hr'
        have hct := content_rep h hxs
        have hoff : off = 0 := hc.1
        subst hoff
        obtain ⟨A, m, cap, A', cap', b1, b2, b3, b4, b5, b6, b7⟩ := hr'
        have hAA : A' = A := b6 rfl
        subst hAA
        have hblk : ∀ b ∈ blkOf (a.eval x), b ∈ blkOf (η g') := by rw [b3, b1]; cases A' <;> simp [blkOf]
        have hlen : xs.length = m := by
          rcases hct.1 with ⟨rfl, e0⟩ | ⟨b, cap, cur, lo, hi, e0, _⟩
          · rw [b1] at e0; injection e0 with _ e0 _; simp [e0]
          · rw [b1] at e0; injection e0 with _ e0 _; exact e0.symm
        refine Shows.value hd hN hdst run ⟨setη η n (a.eval x), ?_⟩
        have hfpo : fpT (setη η n (a.eval x)) (.own (n, 0) e z (xs.take len)) = blkOf (a.eval x) := by simp [fpT, setη_new]
        have hsp := modPlace_sub (η := η) (get s p) pc
        have hη := setη_old (η := η) (v := a.eval x) hn
        have hfm : fpT (setη η n (a.eval x)) (modPlace (fun _ => .undef) pc (get s p)) = fpT η (modPlace (fun _ => .undef) pc (get s p)) := fpT.congr hη _ (modPlace_st (h.st p))
        refine h.put2 (addU_old n) hη (some p) (modPlace (fun _ => .undef) pc (get s p)) o.dst (.own (n, 0) e z (xs.take len)) (a.eval x) (fun j => ?_) (kept_self _ _)
          (fun _ => stT.mono (addU_old n) _ (modPlace_st (h.st p))) (by simp only [stT]; exact addU_new n) (fun j hj b hb => .inr (.inl ?_)) (fun b hb => .inr ⟨p, rfl, ?_⟩) (fun _ => ?_) ?_ (fun _ b hb hb' => ?_) (fun I' hI _ j hj _ => ?_) (fun I' hI _ j hj => ?_)
        · rw [after_get]; simp only [List.foldl_cons, List.foldl_nil, Cmd.app, get_put, Option.some.injEq]
        · cases hj; rw [hfm] at hb; exact hsp.subset hb
        · rw [hfpo] at hb; exact hct.2.1 b (hblk b hb)
        · rw [hfm]; exact hsp.nodup (h.nd p)
        · rw [hfpo, b3]; cases A' <;> simp [blkOf]
        · rw [hfm] at hb
          rw [hfpo] at hb'
          exact modPlace_out hxs (h.nd p) b (hblk b hb') hb
        · cases hj
          exact Rep.mono (U := U) hη hI (fun _ _ => rfl) _ _ (modPlace_st (h.st p)) (fun _ _ => rfl) (modPlace_rep (h.rep p))
        · simp only [Rep, setη_new, true_and]
          rcases hct.1 with ⟨rfl, e0⟩ | ⟨b, capo, cur, lo, hi, e0, e1, e2, e3, e4, e5, e6⟩
          · left
            rw [b1] at e0
            injection e0 with eA em ec
            subst eA; subst em; subst ec
            exact ⟨by simp, by rw [b3]; congr 1 <;> omega⟩
          · right
            rw [b1] at e0
            injection e0 with eA em ec
            subst eA; subst ec
            have hl : (xs.take len).length = len := by simp; omega
            refine ⟨b, cap', cur, lo, hi, by rw [b3, hl], e1, by omega, by omega, ?_, fun i hi => e5 i ?_, ?_⟩
            · exact Nat.le_trans (Nat.mul_le_mul_right z (by omega)) e4
            · exact Nat.lt_of_lt_of_le hi (Nat.mul_le_mul_right z (by omega))
            · exact RepRows.mono hI (fun _ _ => rfl) rfl _ _ (e6.take len)
      · rw [if_neg hc] at hs
        exact frz (t' := r.1) (k := r.2) hs rfl
    · exact absurd rfl (n2 _)
    · exact frz (t' := r.1) (k := r.2) hs rfl
end
end
end Go.Vm
