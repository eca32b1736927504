/- Built-ins that only read; conversions; stores. -/
import Derived.Test.YtgfpbhbogfabmaaVm12
import Derived.Lib.ConvBytes
set_option linter.unusedVariables false
set_option linter.unusedSimpArgs false
set_option linter.unnecessarySimpa false
set_option linter.unusedSectionVars false
namespace Go.Vm
section
variable {P : Program} {K : Nat → Prop} {w0 : World} {U : Nat → Prop} {s : List TV} {a : Act} {w : World} {η : Stamp → Value} {N : Nat}

/-- Cells written into a block that is not frozen there. -/
theorem run_storeCells_gen (g o : Nat) (t : TypeId) (fz : Nat × Nat) : ∀ (vs : List Value) (i : Nat) (cur : Array Value) (w : World), w.heap[g]? = some (.cells cur t fz) → o + i + vs.length ≤ cur.size →
    (∀ j, o + i ≤ j → j < o + i + vs.length → ¬ (fz.1 ≤ j ∧ j < fz.2)) → (∀ v ∈ vs, cellV v = true) →
    (storeCells ⟨g, o, none⟩ vs i).run P w = .ok () (w.setRow g (cur.toList.take (o + i) ++ vs ++ cur.toList.drop (o + i + vs.length)).toArray)
  | [], i, cur, w, hg, _, _, _ => by
    simp only [storeCells, List.append_nil, List.length_nil, Nat.add_zero, List.take_append_drop, Array.toArray_toList]
    rw [setRow_self w g cur t fz hg]
    rfl
  | v :: rest, i, cur, w, hg, hl, hz, h1 => by
    have hi : o + i < cur.size := by simp at hl; omega
    have hcell : w.cell? ⟨g, o + i, none⟩ = some cur[o + i] := by simp [World.cell?, hg, hi]
    have hfro : w.frozen? ⟨g, o + i, none⟩ = false := by
      have := hz (o + i) (Nat.le_refl _) (by simp)
      obtain ⟨lo, hi'⟩ := fz
      simp only [World.frozen?, hg]
      simp only [not_and, Nat.not_lt] at this
      simp only [Bool.and_eq_false_iff, decide_eq_false_iff_not, Nat.not_le, Nat.not_lt]
      omega
    have hst : (store ((⟨g, o, none⟩ : Addr).add i) v).run P w = .ok () (w.setRow g (cur.setIfInBounds (o + i) v)) := by
      rw [cell_add, run_store P w _ v _ (oneCell_of (h1 v (by simp))), hcell]
      simp [hfro, setCell_eq_setRow w g (o + i) cur t fz v hg]
    have ih := run_storeCells_gen g o t fz rest (i + 1) (cur.setIfInBounds (o + i) v) (w.setRow g (cur.setIfInBounds (o + i) v)) (setRow_heap w g cur _ t _ hg) (by simp at hl ⊢; omega)
      (fun j h2 h3 => hz j (by omega) (by simp at h3 ⊢; omega)) (fun x hx => h1 x (by simp [hx]))
    simp only [storeCells, Sem.run_bind, hst, Result.andThen_ok, ih, setRow_setRow]
    congr 3
    have e := list_seg_step cur.toList (o + i) v rest (by simp at hl ⊢; omega)
    simpa [Array.toList_setIfInBounds, Nat.add_assoc] using e

theorem kept_setRow (w : World) (g : Nat) (cs : Array Value) {K : Nat → Prop} (hK : ¬ K g) : Kept K w (w.setRow g cs) :=
  ⟨rfl, rfl, rfl, by simp, fun b hb => setRow_other w g b cs fun e => hK (e ▸ hb)⟩

theorem list_one {α : Type} {xs : Array α} {x : α} (h : xs.toList = [x]) : xs = #[x] := by
  obtain ⟨l⟩ := xs
  simp at h; rw [h]
theorem list_two {α : Type} {xs : Array α} {x y : α} (h : xs.toList = [x, y]) : xs = #[x, y] := by
  obtain ⟨l⟩ := xs
  simp at h; rw [h]

variable (call : FuncId → List TV → Option TV) (rs : List Nat) (n : Nat)
section
variable (h : Sim K w0 U (get s) (vsOf a) w η) (hn : ¬ U n) (hd : a.defers = []) (hN : a.tmps.size = N) {o : Oper} (hdst : ∀ x, o.dst = some x → x < N) {r : TV × List Cmd}
  (hs : (aOp P call rs n o).eval s = some r)
include h hn hd hN hdst hs

theorem elemArg {c : Call} (hq : ((c.argTypes[0]?).bind (elemT P)).isSome = true) : ∃ t e, c.argTypes[0]? = some t ∧ P.underlying t = some (.slice e) := by
  obtain ⟨e, he⟩ := Option.isSome_iff_exists.1 hq
  obtain ⟨t, ht, he⟩ := Option.bind_eq_some_iff.1 he
  exact ⟨t, e, ht, elemT_und he⟩

theorem len_ok {c : Call} {x : Operand} (ho : o.op = .call c) (hc : c.callee = .builtin .len) (hx : c.args.toList = [x]) : Shows P K w0 N (addU U n) s o r a w := by
  have hrun := run_builtin call rs n h hn hd hN hdst hs ho hc
  have hs0 := hs
  simp only [aOp, ho, hc, hx, builtinOp, LK.eval_bind, Option.bind_eq_some_iff] at hs
  obtain ⟨t, ht, hs⟩ := hs
  have hr := (ev_rep h ht).1
  have hargs := list_one hx
  split at hs
  · rename_i str
    simp only [LK.eval_ite, LK.eval_cond, LK.eval_pure, LK.eval_fail] at hs
    split at hs
    · rename_i hg
      cases hs
      simp only [Rep, RepP] at hr
      cases hT : c.argTypes[0]? with
      | none => simp [hT] at hg
      | some T =>
        simp only [hT, Option.map_some, Option.getD_some] at hg
        have hu := strT_und hg
        exact Shows.quiet h hd hN hdst (v := .int .i64 str.size) (by rw [hrun]; simp [builtin, Builtin.len_, hargs, hT, run_underlying hu, hr, goInt]) (by simp [fpT]) (by simp [stT]) (by simp [Rep, RepP]) n
    · cases hs
  · rename_i z xs
    simp only [LK.eval_ite, LK.eval_cond, LK.eval_pure, LK.eval_fail] at hs
    split at hs
    · rename_i hg
      cases hs
      obtain ⟨T, e, hT, hu⟩ := elemArg call rs n h hn hd hN hdst hs0 hg
      simp only [Rep, RepP] at hr
      obtain ⟨A, cp, hv, _⟩ := hr
      exact Shows.quiet h hd hN hdst (v := .int .i64 xs.length) (by rw [hrun]; simp [builtin, Builtin.len_, hargs, hT, run_underlying hu, hv, goInt]) (by simp [fpT]) (by simp [stT]) (by simp [Rep, RepP]) n
    · cases hs
  · rename_i len
    simp only [LK.eval_ite, LK.eval_cond, LK.eval_pure, LK.eval_fail] at hs
    split at hs
    · rename_i hg
      cases hs
      obtain ⟨T, e, hT, hu⟩ := elemArg call rs n h hn hd hN hdst hs0 hg
      simp only [Rep] at hr
      obtain ⟨A, m, cap, A', cap', _, _, hv, _⟩ := hr
      exact Shows.quiet h hd hN hdst (v := .int .i64 len) (by rw [hrun]; simp [builtin, Builtin.len_, hargs, hT, run_underlying hu, hv, goInt]) (by simp [fpT]) (by simp [stT]) (by simp [Rep, RepP]) n
    · cases hs
  · simp only [LK.eval_ite, LK.eval_cond, LK.eval_pure, LK.eval_fail] at hs
    split at hs
    · rename_i hg
      cases hs
      obtain ⟨T, e, hT, hu⟩ := elemArg call rs n h hn hd hN hdst hs0 hg
      simp only [Rep, RepP] at hr
      exact Shows.quiet h hd hN hdst (v := .int .i64 0) (by rw [hrun]; simp [builtin, Builtin.len_, hargs, hT, run_underlying hu, hr, goInt]) (by simp [fpT]) (by simp [stT]) (by simp [Rep, RepP]) n
    · cases hs
  · simp at hs

theorem max_ok {c : Call} {x y : Operand} (ho : o.op = .call c) (hc : c.callee = .builtin .max) (hx : c.args.toList = [x, y]) : Shows P K w0 N (addU U n) s o r a w := by
  have hrun := run_builtin call rs n h hn hd hN hdst hs ho hc
  simp only [aOp, ho, hc, hx, builtinOp, LK.eval_bind, LK.eval_ofOption, LK.eval_pure, Option.bind_eq_some_iff, Option.some.injEq] at hs
  obtain ⟨t1, h1, t2, h2, t, ht, rfl⟩ := hs
  have hr1 := (ev_rep h h1).1
  have hr2 := (ev_rep h h2).1
  have hargs := list_two hx
  unfold maxInt at ht
  split at ht
  · rename_i k x' k' y'
    split at ht
    · rename_i hk
      cases ht
      simp only [Rep, RepP] at hr1 hr2
      exact Shows.quiet h hd hN hdst (v := .int k (if y' > x' then y' else x')) (by rw [hrun]; simp [builtin, Builtin.max_, hargs, hr1, hr2, Builtin.max2]) (by simp [fpT]) (by simp [stT]) (by simp [Rep, RepP]) n
    · cases ht
  · rename_i x' y'
    cases ht
    simp only [Rep, RepP] at hr1 hr2
    refine Shows.quiet h hd hN hdst (v := .string (if !Op.bytesLess x'.toList y'.toList then x' else y')) ?_ (by simp [fpT]) (by simp [stT]) (by simp [Rep, RepP]) n
    rw [hrun]
    simp [builtin, Builtin.max_, hargs, hr1, hr2, Builtin.max2, Op.stringOp, asBool]
  · cases ht

theorem min_ok {c : Call} {x y : Operand} (ho : o.op = .call c) (hc : c.callee = .builtin .min) (hx : c.args.toList = [x, y]) : Shows P K w0 N (addU U n) s o r a w := by
  have hrun := run_builtin call rs n h hn hd hN hdst hs ho hc
  simp only [aOp, ho, hc, hx, builtinOp, LK.eval_bind, LK.eval_ofOption, LK.eval_pure, Option.bind_eq_some_iff, Option.some.injEq] at hs
  obtain ⟨t1, h1, t2, h2, t, ht, rfl⟩ := hs
  have hr1 := (ev_rep h h1).1
  have hr2 := (ev_rep h h2).1
  have hargs := list_two hx
  unfold minInt at ht
  split at ht
  · rename_i k x' k' y'
    split at ht
    · rename_i hk
      cases ht
      simp only [Rep, RepP] at hr1 hr2
      exact Shows.quiet h hd hN hdst (v := .int k (if y' < x' then y' else x')) (by rw [hrun]; simp [builtin, Builtin.min_, hargs, hr1, hr2, Builtin.min2]) (by simp [fpT]) (by simp [stT]) (by simp [Rep, RepP]) n
    · cases ht
  · cases ht

/-- A store into a variable. -/
theorem store_ref_ok {T : TypeId} {x y : Operand} (ho : o.op = .store T x y) {p : Nat} {g : Stamp} {off : Nat} (hx : (ev x).eval s = some (.ref p g off)) : Shows P K w0 N (addU U n) s o r a w := by
  have hs0 := hs
  simp only [aOp, ho, LK.eval_bind, hx, Option.bind_eq_some_iff, Option.bind_some, LK.eval_pure, Option.some.injEq, boxCells, LK.eval_look] at hs
  obtain ⟨_, hk, t, ht, ⟨cs', k⟩, hq, cs, hcs, _, hg, rfl⟩ := hs
  have hk := LK.sure_some.1 hk
  have hg := LK.sure_some.1 hg
  simp only [Bool.and_eq_true, decide_eq_true_eq, Option.isNone_iff_eq_none] at hk hg
  obtain ⟨hk, hdn⟩ := hk
  obtain ⟨⟨hg1, hg2⟩, hg3⟩ := hg
  obtain ⟨_, ⟨inf, hinf⟩, _, _⟩ := okT_spec hk
  obtain ⟨k1, tk, hT, h1, hfp, hnd⟩ := steal_op call rs n h hn hd hN hdst hs0 ht hq
  have hpk : (k.map Cmd.slot).contains p = false := by
    cases hc : (k.map Cmd.slot).contains p with
    | false => rfl
    | true =>
      rw [List.contains_iff_mem] at hc
      obtain ⟨c, hc1, hc2⟩ := List.mem_map.1 hc
      have := List.all_eq_true.1 hg3 c hc1
      simp [hc2] at this
  have hp1 : (k1.map Cmd.slot).contains p = false := by
    cases hc : (k1.map Cmd.slot).contains p with
    | false => rfl
    | true => rw [hT.slots p hc] at hpk; cases hpk
  have hgp : get (k1.foldl Cmd.app s) p = get s p := by rw [get_frz_eq k1 hT.frz, hp1]; simp
  have htp : ∀ i, tk = some i → i ≠ p := by
    rintro i rfl rfl
    rw [hT.tkSlot i rfl] at hpk; cases hpk
  split at hcs
  · rename_i g' cs0 hbox
    simp only [LK.eval_ite, LK.eval_cond, LK.eval_ret, LK.eval_fail] at hcs
    split at hcs
    · rename_i hgg
      subst hgg
      cases hcs
      have hrp := h1.rep p
      have hsp := h1.st p
      have hnp := h1.nd p
      rw [hgp, hbox] at hrp hsp hnp
      simp only [Rep, stT, fpT] at hrp hsp hnp
      obtain ⟨e1, b, cur, e, e2, e3, e4⟩ := hrp
      have hra := (ev_rep h hx).1
      simp only [Rep] at hra
      obtain ⟨b', e5, e6⟩ := hra
      rw [← e1, e2] at e5
      cases e5
      have hbl : blkOf (η g) = [b] := by rw [← e1, e2]; rfl
      have hcl := hT.cells.len
      have hcl4 := e4.len
      have hsz : (a.eval y).cells.size = szT P T := by rw [← hg1, ← hcl]; simp
      have hlen : off + (a.eval y).cells.toList.length ≤ cur.size := by have : cur.toList.length = cs.length := hcl4; simp at this ⊢; omega
      have hcv : ∀ v ∈ (a.eval y).cells.toList, cellV v = true := by
        have : ∀ {cs : List TV} {us : List Value} {I : Nat → Prop}, RepCells η I w cs us → ∀ v ∈ us, cellV v = true := by
          intro cs
          induction cs with
          | nil => intro us I hr v hv; simp only [RepCells] at hr; simp [hr] at hv
          | cons c cs ih =>
            intro us I hr v hv
            simp only [RepCells] at hr
            obtain ⟨u, us', rfl, hc, _, hr⟩ := hr
            rcases List.mem_cons.1 hv with rfl | hv
            · exact hc
            · exact ih hr v hv
        exact this hT.cells
      have hst := run_storeCells_gen (P := P) b off e (0, 0) (a.eval y).cells.toList 0 cur w e3 (by simpa using hlen) (fun j _ _ => by simp) hcv
      simp only [Nat.add_zero] at hst
      refine Shows.skip hd hN hdst (w' := w.setRow b (cur.toList.take off ++ (a.eval y).cells.toList ++ cur.toList.drop (off + (a.eval y).cells.toList.length)).toArray) ?_ ⟨η, ?_⟩
      · simp only [execOp, ho, Instr.storeAt, Instr.sureAddr, e6, Sem.run_bind, Sem.run_pure, Result.andThen_ok, storeVar, run_sizeOf hinf, hsz, ne_eq, not_true_eq_false, if_false, hst]
      · have hfun : (fun i => if o.dst = some i then undef else vsOf a i) = fun i => if tk = some i then (match tk with | some i => vsOf a i | none => undef) else vsOf a i := by
          funext i
          rw [hdn]
          simp only [reduceCtorEq, if_false]
          split
          · rename_i e; subst e; rfl
          · rfl
        rw [hfun]
        have hnl := List.nodup_append.1 hnp
        have hfl : fpL η (cs.take off) ++ fpL η (cs.drop off) = fpL η cs := by rw [← fpL_append, List.take_append_drop]
        have hfl2 : fpL η ((cs.drop off).take (szT P T)) ++ fpL η ((cs.drop off).drop (szT P T)) = fpL η (cs.drop off) := by rw [← fpL_append, List.take_append_drop]
        rw [List.drop_drop] at hfl2
        have hsub : ∀ b', b' ∈ fpL η (cs.take off) ∨ b' ∈ fpL η (cs.drop (off + szT P T)) → b' ∈ fpL η cs := fun b' hb' => by
          rw [← hfl, ← hfl2]
          simp only [List.mem_append]
          rcases hb' with hb' | hb'
          · exact .inl hb'
          · exact .inr (.inr hb')
        have hdis : ∀ b' ∈ fpL η cs', b' ∉ b :: fpL η cs := fun b' hb' hb2 => by
          obtain ⟨i, hi, hb3⟩ := hfp b' hb'
          refine htp i hi (h1.dj i p b' hb3 ?_)
          rw [hgp, hbox]
          simpa [fpT, hbl] using hb2
        have hkeepn : (fpL η (cs.take off) ++ fpL η (cs.drop (off + szT P T))).Nodup := by
          have : (fpL η (cs.take off) ++ fpL η (cs.drop (off + szT P T))).Sublist (fpL η cs) := by
            rw [← hfl, ← hfl2]
            exact List.Sublist.append (List.Sublist.refl _) (List.sublist_append_right _ _)
          exact this.nodup hnl.2.1
        have hfnew : fpL η (cs.take off ++ cs' ++ cs.drop (off + szT P T)) = fpL η (cs.take off) ++ fpL η cs' ++ fpL η (cs.drop (off + szT P T)) := by rw [fpL_append, fpL_append]
        refine h1.put2 (addU_old n) (fun _ _ => rfl) (some p) (.box g (cs.take off ++ cs' ++ cs.drop (off + szT P T))) tk .undef _ (fun i => ?_) (kept_setRow _ _ _ ?_)
          (fun _ => ?_) (by simp [stT]) (fun i hi b' hb' => .inr ?_) (fun b' hb' => by simp [fpT] at hb') (fun _ => ?_) (by simp [fpT]) (fun _ b' _ hb' => by simp [fpT] at hb') (fun I' hI hI2 i hi hti => ?_) (fun _ _ _ _ _ => by simp [Rep])
        · rw [after_get, hdn]
          simp only [reduceCtorEq, if_false, List.foldl_append, List.foldl_cons, List.foldl_nil, Cmd.app, get_put, hT.cmds, Option.some.injEq]
          by_cases hpi : p = i
          · subst hpi
            have : ¬ (tk = some p) := fun e => htp p e rfl
            simp [this]
          · simp [hpi]
        · rintro ⟨_, hb⟩
          exact hb p rfl (by rw [hgp, hbox]; simp [fpT, hbl])
        · simp only [stT]
          refine ⟨.inl hsp.1, stL.mono (addU_old n) _ ?_⟩
          rw [stL_append, stL_append]
          exact ⟨⟨stL_take _ _ hsp.2, hT.st⟩, stL_drop _ _ hsp.2⟩
        · cases hi
          simp only [fpT, hbl, hfnew, List.mem_append, List.mem_cons, List.not_mem_nil, or_false] at hb'
          rcases hb' with rfl | (hb' | hb') | hb'
          · left; rw [hgp, hbox]; simp [fpT, hbl]
          · left; rw [hgp, hbox]; simp only [fpT, List.mem_append]; exact .inr (hsub b' (.inl hb'))
          · right; exact hfp b' hb'
          · left; rw [hgp, hbox]; simp only [fpT, List.mem_append]; exact .inr (hsub b' (.inr hb'))
        · simp only [fpT, hbl, hfnew]
          rw [hbl] at hnl
          have hk2 := List.nodup_append.1 hkeepn
          refine List.nodup_append.2 ⟨by simp, List.nodup_append.2 ⟨List.nodup_append.2 ⟨hk2.1, hnd, fun x hx y hy e => ?_⟩, hk2.2.1, fun x hx y hy e => ?_⟩, fun x hx y hy e => ?_⟩
          · subst e; exact hdis x hy (by simp [hsub x (.inl hx)])
          · subst e
            rcases List.mem_append.1 hx with hx | hx
            · exact hk2.2.2 x hx x hy rfl
            · exact hdis x hx (by simp [hsub x (.inr hy)])
          · subst e
            simp only [List.mem_cons, List.not_mem_nil, or_false] at hx
            subst hx
            simp only [List.mem_append] at hy
            rcases hy with (hy | hy) | hy
            · exact hnl.2.2 x (by simp) x (hsub x (.inl hy)) rfl
            · exact hdis x hy (by simp)
            · exact hnl.2.2 x (by simp) x (hsub x (.inr hy)) rfl
        · cases hi
          simp only [Rep]
          have hnoB : ∀ b', b' ∈ fpL η cs ∨ b' ∈ fpL η cs' ∨ Imm η (get (k1.foldl Cmd.app s)) w b' → b' ≠ b := by
            rintro b' (hb' | hb' | hb') rfl
            · exact hnl.2.2 b' (by simp [hbl]) b' hb' rfl
            · exact hdis b' hb' (by simp)
            · exact hb'.2.1 p (by rw [hgp, hbox]; simp [fpT, hbl])
          have hold : ∀ b', b' ≠ b → (w.setRow b (cur.toList.take off ++ (a.eval y).cells.toList ++ cur.toList.drop (off + (a.eval y).cells.toList.length)).toArray).heap[b']? = w.heap[b']? := fun b' hb' => setRow_other w b b' _ hb'
          have m1 : RepCells η I' (w.setRow b (cur.toList.take off ++ (a.eval y).cells.toList ++ cur.toList.drop (off + (a.eval y).cells.toList.length)).toArray) cs cur.toList :=
            RepCells.mono (U := U) (fun _ _ => rfl) hI (fun b' hb' => hold b' (hnoB b' (.inr (.inr hb')))) _ _ hsp.2 (fun b' hb' => hold b' (hnoB b' (.inl hb'))) e4
          have m2 : RepCells η I' (w.setRow b (cur.toList.take off ++ (a.eval y).cells.toList ++ cur.toList.drop (off + (a.eval y).cells.toList.length)).toArray) cs' (a.eval y).cells.toList :=
            RepCells.mono (U := U) (fun _ _ => rfl) hI (fun b' hb' => hold b' (hnoB b' (.inr (.inr hb')))) _ _ hT.st (fun b' hb' => hold b' (hnoB b' (.inr (.inl hb')))) hT.cells
          refine ⟨e1, b, _, e, e2, setRow_heap w b cur _ e (0, 0) e3, ?_⟩
          have hl2 : (a.eval y).cells.toList.length = szT P T := by simpa using hsz
          generalize w.setRow b (cur.toList.take off ++ (a.eval y).cells.toList ++ cur.toList.drop (off + (a.eval y).cells.toList.length)).toArray = W at m1 m2 ⊢
          rw [hl2]
          simpa using ((m1.take off).append m2).append (m1.drop (off + szT P T))
    · cases hcs
  · simp at hcs
end
end
end Go.Vm
