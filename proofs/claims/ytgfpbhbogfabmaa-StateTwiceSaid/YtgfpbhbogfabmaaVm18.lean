/- Stores into rows, copy; every operation. -/
import Derived.Test.YtgfpbhbogfabmaaVm17
set_option linter.unusedVariables false
set_option linter.unusedSimpArgs false
set_option linter.unnecessarySimpa false
set_option linter.unusedSectionVars false
namespace Go.Vm
section
variable {P : Program} {K : Nat → Prop} {w0 : World} {U : Nat → Prop} {s : List TV} {a : Act} {w : World} {η : Stamp → Value} {N : Nat}

theorem RepPs.take {I : Nat → Prop} : ∀ (n : Nat) {ts : List TV} {vs : List Value}, RepPs I w ts vs → RepPs I w (ts.take n) (vs.take n)
  | 0, _, _, _ => by simp [RepPs]
  | n + 1, [], vs, h => by simp only [RepPs] at h; subst h; simp [RepPs]
  | n + 1, t :: ts, vs, h => by
    simp only [RepPs, List.take_succ_cons] at h ⊢
    obtain ⟨v, us, rfl, h1, h⟩ := h
    exact ⟨v, us.take n, rfl, h1, h.take n⟩
theorem RepPs.drop {I : Nat → Prop} : ∀ (n : Nat) {ts : List TV} {vs : List Value}, RepPs I w ts vs → RepPs I w (ts.drop n) (vs.drop n)
  | 0, _, _, h => by simpa using h
  | n + 1, [], vs, h => by simp only [RepPs] at h; subst h; simp [RepPs]
  | n + 1, t :: ts, vs, h => by
    simp only [RepPs, List.drop_succ_cons] at h ⊢
    obtain ⟨v, us, rfl, h1, h⟩ := h
    exact h.drop n
theorem RepVs.set {I : Nat → Prop} {z : Nat} {r : List TV} {rv : List Value} (hz : r.length = z) (hr : RepPs I w r rv) : ∀ (i : Nat) {xs : List (List TV)} {vs : List Value}, RepVs I w z xs vs → i < xs.length →
    RepVs I w z (xs.set i r) (vs.take (i * z) ++ rv ++ vs.drop ((i + 1) * z))
  | _, [], _, _, hi => by simp at hi
  | 0, x :: xs, vs, h, _ => by
    simp only [RepVs, List.set_cons_zero] at h ⊢
    obtain ⟨v, us, rfl, h1, h2, h3⟩ := h
    refine ⟨rv, us, ?_, hz, hr, h3⟩
    have : v.length = z := by rw [h2.len, h1]
    simp [← this]
  | i + 1, x :: xs, vs, h, hi => by
    simp only [RepVs, List.set_cons_succ] at h ⊢
    obtain ⟨v, us, rfl, h1, h2, h3⟩ := h
    have hv : v.length = z := by rw [h2.len, h1]
    refine ⟨v, _, ?_, h1, h2, RepVs.set hz hr i h3 (by simpa using hi)⟩
    have e1 : (v ++ us).take ((i + 1) * z) = v ++ us.take (i * z) := by
      rw [List.take_append, List.take_of_length_le (by rw [hv, Nat.succ_mul]; omega), hv, show (i + 1) * z - z = i * z by rw [Nat.succ_mul]; omega]
    have e2 : (v ++ us).drop ((i + 1 + 1) * z) = us.drop ((i + 1) * z) := by
      rw [List.drop_append, List.drop_eq_nil_of_le (by rw [hv, Nat.succ_mul]; omega), hv, show (i + 1 + 1) * z - z = (i + 1) * z by rw [Nat.succ_mul]; omega]; simp
    rw [e1, e2]; simp
theorem RepVs.row {I : Nat → Prop} {z : Nat} : ∀ (i : Nat) {xs : List (List TV)} {vs : List Value} {r : List TV}, RepVs I w z xs vs → xs[i]? = some r → r.length = z ∧ RepPs I w r ((vs.drop (i * z)).take z)
  | _, [], _, _, _, hi => by simp at hi
  | 0, x :: xs, vs, r, h, hi => by
    simp only [RepVs] at h
    obtain ⟨v, us, rfl, h1, h2, h3⟩ := h
    simp at hi
    subst hi
    have : v.length = z := by rw [h2.len, h1]
    exact ⟨h1, by simpa [← this] using h2⟩
  | i + 1, x :: xs, vs, r, h, hi => by
    simp only [RepVs] at h
    obtain ⟨v, us, rfl, h1, h2, h3⟩ := h
    have hv : v.length = z := by rw [h2.len, h1]
    have := RepVs.row i h3 (by simpa using hi)
    refine ⟨this.1, ?_⟩
    have e2 : (v ++ us).drop ((i + 1) * z) = us.drop (i * z) := by
      rw [List.drop_append, List.drop_eq_nil_of_le (by rw [hv, Nat.succ_mul]; omega), hv, show (i + 1) * z - z = i * z by rw [Nat.succ_mul]; omega]; simp
    rw [e2]; exact this.2

/-- Rows written over: the slot's slice takes other rows of the same length, its block other cells. -/
theorem rewrite_sim {n : Nat} (h : Sim K w0 U (get s) (vsOf a) w η) {p : Nat} {g : Stamp} {e z : Nat} {xs xs' : List (List TV)} (hp : get s p = .own g e z xs) {d : Option Nat} {t : TV} {v : Value} (hdp : d ≠ some p)
    {b m cap : Nat} {cur cur' : Array Value} {lo hi : Nat} (hηg : η g = .slice (some ⟨b, 0, none⟩) m cap) (hb : w.heap[b]? = some (.cells cur e (lo, hi))) (hsize : cur'.size = cur.size) (hlen : xs'.length = xs.length)
    {vals : List Value} (hr : RepVs (Imm η (get s) w) w z xs' vals) (hv : ∀ (j : Nat) (u : Value), vals[j]? = some u → cur'[j]? = some u) (ht : scalar t = true) (htv : v = conc t) {f' : Nat → TV}
    (hf' : ∀ i, f' i = if d = some i then t else if some p = some i then .own g e z xs' else get s i) :
    Sim K w0 (addU U n) f' (fun i => if d = some i then v else vsOf a i) (w.setRow b cur') η := by
  have hrp := h.rep p
  have hsp := h.st p
  rw [hp] at hrp hsp
  simp only [Rep] at hrp
  obtain ⟨hvp, hown⟩ := hrp
  have hbp : b ∈ fpT η (get s p) := by rw [hp]; simp [fpT, hηg, blkOf]
  obtain ⟨st1, st2⟩ := scalar_fp (η := η) (U := addU U n) ht
  refine h.put2 (addU_old n) (fun _ _ => rfl) (some p) (.own g e z xs') d t v hf' (kept_setRow _ _ _ fun hk => hk.2 p rfl hbp) (fun _ => stT.mono (addU_old n) _ (by simpa [stT] using hsp)) st2
    (fun i hi b' hb' => .inr (.inl ?_)) (fun b' hb' => by rw [st1] at hb'; cases hb') (fun _ => by simp [fpT, hηg, blkOf]) (by rw [st1]; exact List.nodup_nil) (fun _ b' _ hb' => by rw [st1] at hb'; cases hb') (fun I' hI _ i hi _ => ?_) (fun I' hI _ i hi => by rw [htv]; exact rep_conc ht)
  · cases hi; rw [hp]; simpa [fpT] using hb'
  · cases hi
    simp only [Rep]
    refine ⟨hvp, ?_⟩
    rcases hown with ⟨rfl, e0⟩ | ⟨b', capo, curo, lo', hi', e0, e1, e2, e3, e4, e5, e6⟩
    · rw [hvp, hηg] at e0; cases e0
    · rw [hvp, hηg] at e0
      injection e0 with eA em ec
      have : b = b' := by injection eA with eA; injection eA
      subst this
      rw [hb] at e1
      injection e1 with e1
      injection e1 with e1a e1b e1c
      subst e1a
      injection e1c with e1c1 e1c2
      subst e1c1; subst e1c2
      refine .inr ⟨b, capo, cur', lo, hi, by rw [hvp, hηg, hlen, em, ec], setRow_heap w b cur cur' e (lo, hi) hb, by omega, e3, by rw [hsize]; exact e4, e5, ?_⟩
      refine RepRows.of (hr.mono hI fun b' hb' => setRow_other w b b' cur' fun e => hb'.2.1 p (e ▸ hbp)) (fun j u hj => ?_)
      have := hv j u hj
      simp [World.cell?, setRow_heap w b cur cur' e (lo, hi) hb, this]

variable (call : FuncId → List TV → Option TV) (rs : List Nat) (n : Nat)
section
variable (h : Sim K w0 U (get s) (vsOf a) w η) (hn : ¬ U n) (hd : a.defers = []) (hN : a.tmps.size = N) {o : Oper} (hdst : ∀ x, o.dst = some x → x < N) {r : TV × List Cmd}
  (hs : (aOp P call rs n o).eval s = some r)
include h hn hd hN hdst hs

theorem store_elt_ok {T : TypeId} {x y : Operand} (ho : o.op = .store T x y) {p c : Nat} {g : Stamp} {e z i j : Nat} (hx : (ev x).eval s = some (.elt p c g e z i j)) : Shows P K w0 N (addU U n) s o r a w := by
  simp only [aOp, ho, LK.eval_bind, hx, Option.bind_eq_some_iff, Option.bind_some] at hs
  obtain ⟨_, hk, t, ht, ⟨cs', k⟩, hq, xs, hxs, hs⟩ := hs
  have hk := LK.sure_some.1 hk
  simp only [Bool.and_eq_true, Option.isNone_iff_eq_none] at hk
  obtain ⟨hk, hdn⟩ := hk
  obtain ⟨_, ⟨inf, hinf⟩, _, _⟩ := okT_spec hk
  simp only [LK.eval_optR, Option.bind_eq_some_iff] at hs
  obtain ⟨row, hrow, hs⟩ := hs
  · simp only [LK.eval_bind, LK.eval_pure, Option.bind_eq_some_iff, Option.some.injEq] at hs
    obtain ⟨_, hg, rfl⟩ := hs
    have hg := LK.sure_some.1 hg
    simp only [Bool.and_eq_true, decide_eq_true_eq] at hg
    obtain ⟨⟨rfl, hcl, hjr⟩, hkp⟩ := hg
    simp only [contentS, LK.eval_look] at hxs
    have hp := ownRows_rep hxs
    obtain ⟨_, rfl⟩ := frzAll_eq hq
    have hkf := lentAll_frz (cellsT t)
    have hfr := frzCells_rep (x := y) h (ev_rep h ht).1 hq (Covers.refl hkf)
    have h1 := Sim.frzs _ hkf h
    have hpk : (((cellsT t).flatMap lentOne).map Cmd.slot).contains p = false := by
      cases hc : (((cellsT t).flatMap lentOne).map Cmd.slot).contains p with
      | false => rfl
      | true =>
        rw [List.contains_iff_mem] at hc
        obtain ⟨c, hc1, hc2⟩ := List.mem_map.1 hc
        have := List.all_eq_true.1 hkp c hc1
        simp [hc2] at this
    have hgp : get (((cellsT t).flatMap lentOne).foldl Cmd.app s) p = .own g e z xs := by rw [get_frz_eq _ hkf, hpk]; simpa using hp
    have hra := (ev_rep h hx).1
    simp only [Rep] at hra
    obtain ⟨b, m, cp, hηg, him, hva⟩ := hra
    have hrp := h1.rep p
    rw [hgp] at hrp
    simp only [Rep] at hrp
    obtain ⟨hvp, hown⟩ := hrp
    rcases hown with ⟨rfl, _⟩ | ⟨b', capo, cur, lo, hi, e0, e1, e2, e3, e4, e5, e6⟩
    · simp at hrow
    · rw [hvp, hηg] at e0
      injection e0 with eA em ec
      have : b = b' := by injection eA with eA; injection eA
      subst this
      obtain ⟨vs, v1, v2⟩ := e6.vals
      have hv2 : ∀ (j : Nat) (u : Value), vs[j]? = some u → cur[j]? = some u := fun j u hj => by have := v2 j u hj; simpa [World.cell?, e1] using this
      obtain ⟨hrz, hrr⟩ := RepVs.row i v1 hrow
      have hil := (List.getElem?_eq_some_iff.1 hrow).1
      have hvl := v1.len
      have hul : (a.eval y).cells.toList.length = szT P T := by rw [hfr.2.len, hcl]
      have hset := RepVs.set (I := Imm η (get (((cellsT t).flatMap lentOne).foldl Cmd.app s)) w) (w := w) (z := z) (r := row.take j ++ cs' ++ row.drop (j + szT P T)) (by simp; omega)
        (((hrr.take j).append hfr.2).append (hrr.drop (j + szT P T))) i v1 hil
      have hiz : i * z + z ≤ vs.length := by rw [hvl, ← Nat.succ_mul]; exact Nat.mul_le_mul_right _ (by omega)
      have hcapz : vs.length ≤ capo * z := by rw [hvl]; exact Nat.mul_le_mul_right _ e2
      have hvals : vs.take (i * z) ++ (((vs.drop (i * z)).take z).take j ++ (a.eval y).cells.toList ++ ((vs.drop (i * z)).take z).drop (j + szT P T)) ++ vs.drop ((i + 1) * z) =
          vs.take (i * z + j) ++ (a.eval y).cells.toList ++ vs.drop (i * z + j + szT P T) := by
        have A : vs.take (i * z) ++ ((vs.drop (i * z)).take z).take j = vs.take (i * z + j) := by
          rw [List.take_take, Nat.min_eq_left (by omega), ← List.take_add]
        have B : ((vs.drop (i * z)).take z).drop (j + szT P T) ++ vs.drop ((i + 1) * z) = vs.drop (i * z + j + szT P T) := by
          have := List.take_append_drop (z - (j + szT P T)) (vs.drop (i * z + (j + szT P T)))
          rw [List.drop_drop] at this
          rw [List.drop_take, List.drop_drop, show (i + 1) * z = i * z + (j + szT P T) + (z - (j + szT P T)) by rw [Nat.succ_mul]; omega, this, Nat.add_assoc]
        rw [← A, ← B]
        simp [List.append_assoc]
      rw [hvals] at hset
      have hst := run_storeCells_gen (P := P) b (i * z + j) e (lo, hi) (a.eval y).cells.toList 0 cur w e1 (by rw [hul]; omega) (fun q hq1 hq2 => e5 q (by rw [hul] at hq2; omega)) hfr.2.cell
      simp only [Nat.add_zero] at hst
      generalize hcur' : (cur.toList.take (i * z + j) ++ (a.eval y).cells.toList ++ cur.toList.drop (i * z + j + (a.eval y).cells.toList.length)).toArray = cur' at hst
      have hsize : cur'.size = cur.size := by rw [← hcur']; simp; have := hul; simp at this; omega
      refine Shows.skip hd hN hdst (w' := w.setRow b cur') ?_ ⟨η, ?_⟩
      · have hsz2 : (a.eval y).cells.size = szT P T := by simpa using hul
        simp only [execOp, ho, Instr.storeAt, Instr.sureAddr, hva, Sem.run_bind, Sem.run_pure, Result.andThen_ok, storeVar, run_sizeOf hinf, hsz2, ne_eq, not_true_eq_false, if_false, hst]
      · have hfun : (fun i => if o.dst = some i then undef else vsOf a i) = (fun i => if (none : Option Nat) = some i then Value.bool true else vsOf a i) := by funext q; rw [hdn]; simp
        rw [hfun]
        refine rewrite_sim (n := n) h1 hgp (d := none) (t := .bool true) (v := .bool true) (by simp) hηg e1 hsize (xs' := xs.set i (row.take j ++ cs' ++ row.drop (j + szT P T))) (by simp) hset (fun q u hq => ?_) rfl rfl (fun q => ?_)
        · rw [← hcur']
          simp only [List.getElem?_toArray]
          rw [hul]
          rw [List.append_assoc] at hq ⊢
          rw [List.getElem?_append] at hq ⊢
          have l1 : (vs.take (i * z + j)).length = i * z + j := by simp; omega
          have l2 : (cur.toList.take (i * z + j)).length = i * z + j := by simp; omega
          rw [l1] at hq
          rw [l2]
          split at hq
          · rename_i hlt
            rw [if_pos hlt, List.getElem?_take, if_pos hlt]
            have := hv2 q u (get_of_take hq)
            simpa using this
          · rename_i hge
            rw [if_neg hge]
            rw [List.getElem?_append] at hq ⊢
            rw [hul] at hq ⊢
            split at hq
            · rename_i hlt; rw [if_pos hlt]; exact hq
            · rename_i hge2
              rw [if_neg hge2]
              rw [List.getElem?_drop] at hq ⊢
              have := hv2 _ u hq
              simpa using this
        · rw [after_get, hdn]
          simp only [reduceCtorEq, if_false, List.foldl_append, List.foldl_cons, List.foldl_nil, Cmd.app, get_put, Option.some.injEq]

theorem store_ok {T : TypeId} {x y : Operand} (ho : o.op = .store T x y) : Shows P K w0 N (addU U n) s o r a w := by
  have hs0 := hs
  simp only [aOp, ho, LK.eval_bind, Option.bind_eq_some_iff] at hs
  obtain ⟨_, _, t, ht, hs⟩ := hs
  split at hs
  · exact store_ref_ok call rs n h hn hd hN hdst hs0 ho ht
  · exact store_elt_ok call rs n h hn hd hN hdst hs0 ho ht
  · simp at hs

theorem copy_ok {c : Call} {x y : Operand} (ho : o.op = .call c) (hc : c.callee = .builtin .copy) (hx : c.args.toList = [x, y]) : Shows P K w0 N (addU U n) s o r a w := by
  have hrun := run_builtin call rs n h hn hd hN hdst hs ho hc
  simp only [aOp, ho, hc, hx, builtinOp, LK.eval_bind, LK.eval_ofOption, Option.bind_eq_some_iff] at hs
  obtain ⟨e, ⟨T, hT, he⟩, ty, hy, new, hnew, tx, hx', hs⟩ := hs
  have hu := elemT_und he
  have hargs := list_two hx
  obtain ⟨news, hsrc⟩ := srcRows_rep (P := P) h hy hnew
  split at hs
  · rename_i p pc g e' z' off len
    simp only [LK.eval_bind, LK.eval_pure, Option.bind_eq_some_iff, Option.some.injEq, contentS, LK.eval_look] at hs
    obtain ⟨xs, hxs, _, hg, rfl⟩ := hs
    have hg := LK.guard_some.1 hg
    simp only [Bool.and_eq_true, decide_eq_true_eq, bne_iff_ne] at hg
    obtain ⟨⟨⟨rfl, q1, q2⟩, hdp⟩, hk⟩ := hg
    obtain ⟨_, ⟨inf, hinf⟩, _, _⟩ := okT_spec hk
    have hsz : inf.size = szT P e := by simp [szT, hinf]
    have q1 := q1.symm
    subst q1
    have q2 := q2.symm
    subst q2
    have hp := ownRows_rep hxs
    have hrx := (ev_rep h hx').1
    simp only [Rep] at hrx
    obtain ⟨A, m, cap, A', cap', b1, b2, b3, b4, b5, b6, b7⟩ := hrx
    have hrp := h.rep p
    rw [hp] at hrp
    simp only [Rep] at hrp
    obtain ⟨hvp, hown⟩ := hrp
    have hl := hsrc.len
    have hmm : Nat.min new.length len = min new.length len := rfl
    have hcells := hsrc.cellsTo w (min new.length len) rfl (Nat.min_le_left _ _)
    have hrun2 : ∀ w', (match A' with | some ad => (storeCells ad (news.take (min new.length len * szT P e))).run P w | none => .ok () w) = .ok () w' →
        (execOp a.eval o).run P w = .ok (.value (.int .i64 ((min new.length len : Nat) : Int))) w' := by
      intro w' hst
      rw [hrun]
      cases A' with
      | none =>
        simp only at hst
        cases hst
        simp [builtin, Builtin.copy_, hargs, hT, run_underlying hu, b3, hl, hmm, sizeOf, typeInfo, hinf, hsz, hcells, goInt]
        try omega
      | some ad =>
        simp only at hst
        simp [builtin, Builtin.copy_, hargs, hT, run_underlying hu, b3, hl, hmm, sizeOf, typeInfo, hinf, hsz, hcells, goInt, hst]
        try omega
    have hlen : xs.length = m := by
      rcases hown with ⟨rfl, e0⟩ | ⟨b, capo, cur, lo, hi, e0, _⟩
      · rw [hvp, b1] at e0; injection e0 with _ e0 _; simp [e0]
      · rw [hvp, b1] at e0; injection e0 with _ e0 _; exact e0.symm
    rcases b7 with b7 | ⟨b, rfl, rfl⟩
    · subst b7
      have hz : min new.length 0 = 0 := by omega
      simp only [hz, Nat.zero_mul, List.take_zero, List.append_nil, Nat.add_zero, List.take_append_drop] at hrun2 ⊢
      refine Shows.value hd hN hdst (hrun2 w (by cases A' <;> rfl)) ⟨η, ?_⟩
      have hq := h.quiet (U' := addU U n) (addU_old n) o.dst (t := .int .i64 ((0 : Nat) : Int)) (v := .int .i64 ((0 : Nat) : Int)) (by simp [fpT]) (by simp [stT]) (by simp [Rep, RepP]) (by simp [stT])
      have he : get (after s o.dst (.int .i64 ((0 : Nat) : Int), [.set p (.own g e (szT P e) xs)])) = get (putD s o.dst (.int .i64 ((0 : Nat) : Int))) := by
        funext i
        rw [after_get, get_putD]
        simp only [List.foldl_cons, List.foldl_nil, Cmd.app, get_put]
        by_cases hpi : p = i
        · subst hpi; simp [hp]
        · simp [hpi]
      rw [he]; exact hq
    · rcases hown with ⟨rfl, e0⟩ | ⟨b', capo, cur, lo, hi, e0, e1, e2, e3, e4, e5, e6⟩
      · rw [hvp, b1] at e0; cases e0
      · rw [hvp, b1] at e0
        injection e0 with eA em ec
        have : b = b' := by injection eA with eA; injection eA
        subst this
        subst ec
        obtain ⟨vs, v1, v2⟩ := e6.vals
        have hv2 : ∀ (j : Nat) (u : Value), vs[j]? = some u → cur[j]? = some u := fun j u hj => by have := v2 j u hj; simpa [World.cell?, e1] using this
        generalize hm : min new.length len = mm at *
        have hmml : mm ≤ len := by omega
        have hmmn : mm ≤ new.length := by omega
        have hnl := hsrc.rep.len
        have hvl := v1.len
        have hul : (news.take (mm * szT P e)).length = mm * szT P e := by rw [List.length_take, hnl]; exact Nat.min_eq_left (Nat.mul_le_mul_right _ hmmn)
        have hfit : off * szT P e + mm * szT P e ≤ cap * szT P e := by rw [← Nat.add_mul]; exact Nat.mul_le_mul_right _ (by omega)
        have hst := run_storeCells_gen (P := P) b (off * szT P e) e (lo, hi) (news.take (mm * szT P e)) 0 cur w e1 (by rw [hul]; omega) (fun q hq1 hq2 => e5 q (by rw [hul] at hq2; omega)) (fun v hv => hsrc.rep.cell v (List.mem_of_mem_take hv))
        simp only [Nat.add_zero, hul] at hst
        generalize hcur' : (cur.toList.take (off * szT P e) ++ news.take (mm * szT P e) ++ cur.toList.drop (off * szT P e + mm * szT P e)).toArray = cur' at hst
        have hsize : cur'.size = cur.size := by rw [← hcur']; simp; have := hul; simp at this; omega
        have hov : off * szT P e + mm * szT P e ≤ vs.length := by rw [hvl, ← Nat.add_mul]; exact Nat.mul_le_mul_right _ (by omega)
        refine Shows.value hd hN hdst (hrun2 _ hst) ⟨η, ?_⟩
        have hset : RepVs (Imm η (get s) w) w (szT P e) (xs.take off ++ new.take mm ++ xs.drop (off + mm)) (vs.take (off * szT P e) ++ news.take (mm * szT P e) ++ vs.drop ((off + mm) * szT P e)) :=
          ((v1.take off).append (hsrc.rep.take mm)).append (v1.drop (off + mm))
        refine rewrite_sim (n := n) h hp (d := o.dst) (t := .int .i64 mm) (v := .int .i64 mm) hdp b1 e1 hsize (xs' := xs.take off ++ new.take mm ++ xs.drop (off + mm)) (by simp; omega) hset (fun q u hq => ?_) rfl rfl (fun q => ?_)
        · rw [← hcur']
          simp only [List.getElem?_toArray]
          rw [List.append_assoc] at hq ⊢
          rw [List.getElem?_append] at hq ⊢
          have l1 : (vs.take (off * szT P e)).length = off * szT P e := by simp; omega
          have l2 : (cur.toList.take (off * szT P e)).length = off * szT P e := by simp; omega
          rw [l1] at hq
          rw [l2]
          split at hq
          · rename_i hlt
            rw [if_pos hlt, List.getElem?_take, if_pos hlt]
            have := hv2 q u (get_of_take hq)
            simpa using this
          · rename_i hge
            rw [if_neg hge]
            rw [List.getElem?_append] at hq ⊢
            rw [hul] at hq ⊢
            split at hq
            · rename_i hlt; rw [if_pos hlt]; exact hq
            · rename_i hge2
              rw [if_neg hge2]
              rw [List.getElem?_drop] at hq ⊢
              rw [Nat.add_mul] at hq
              have := hv2 _ u hq
              simpa using this
        · rw [after_get]
          simp only [List.foldl_cons, List.foldl_nil, Cmd.app, get_put, Option.some.injEq]
  · simp at hs

/-- EVERY OPERATION THAT THE EVALUATOR CARRIES OUT DOES THE SAME IN THE MODEL. -/
theorem aOp_shows (hcall : CallsOk P call) : Shows P K w0 N (addU U n) s o r a w := by
  cases ho : o.op with
  | move x => exact move_ok call rs n h hd hN hdst hs ho
  | assign x => exact assign_ok call rs n h hn hd hN hdst hs ho
  | pick c x y => exact pick_ok call rs n h hd hN hdst hs ho
  | alloc T => exact alloc_ok call rs n h hn hd hN hdst hs ho
  | box T x => exact box_ok call rs n h hn hd hN hdst hs ho
  | build T parts => exact build_ok call rs n h hn hd hN hdst hs ho
  | buildSlice T l parts => exact buildSlice_ok call rs n h hn hd hN hdst hs ho
  | load T x => exact load_ok call rs n h hd hN hdst hs ho
  | store T x y => exact store_ok call rs n h hn hd hN hdst hs ho
  | nilCheck x => exact nilCheck_ok call rs n h hd hN hdst hs ho
  | binOp op T x y yT => exact binOp_ok call rs n h hd hN hdst hs ho
  | unOp op T x => exact unOp_ok call rs n h hd hN hdst hs ho
  | convert a b x => exact convert_ok call rs n h hn hd hN hdst hs ho
  | makeSlice T l c => exact makeSlice_ok call rs n h hn hd hN hdst hs ho
  | slice T x lo hi mx => exact slice_ok call rs n h hd hN hdst hs ho
  | fieldAddr T x f => exact fieldAddr_ok call rs n h hd hN hdst hs ho
  | field T x f => exact field_ok call rs n h hd hN hdst hs ho
  | indexAddr T x i => exact indexAddr_ok call rs n h hd hN hdst hs ho
  | index T x i => exact index_ok call rs n h hd hN hdst hs ho
  | extract x i => exact extract_ok call rs n h hd hN hdst hs ho
  | call c =>
    cases hc : c.callee with
    | value f => exact call_ok call rs n h hn hd hN hdst hs hcall ho hc
    | invoke x m => simp only [aOp, ho, hc, LK.eval_fail] at hs; cases hs
    | builtin b =>
      have hs0 := hs
      simp only [aOp, ho, hc] at hs
      unfold builtinOp at hs
      split at hs
      · rename_i hx; exact len_ok call rs n h hn hd hN hdst hs0 ho hc hx
      · rename_i hx; exact append_ok call rs n h hn hd hN hdst hs0 ho hc hx
      · rename_i hx; exact copy_ok call rs n h hn hd hN hdst hs0 ho hc hx
      · rename_i hx; exact max_ok call rs n h hn hd hN hdst hs0 ho hc hx
      · rename_i hx; exact min_ok call rs n h hn hd hN hdst hs0 ho hc hx
      · simp at hs
  | _ => simp only [aOp, ho, LK.eval_fail] at hs; cases hs
end
end
end Go.Vm
