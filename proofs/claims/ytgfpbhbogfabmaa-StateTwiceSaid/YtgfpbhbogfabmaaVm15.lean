/- append, make, composite slices. -/
import Derived.Test.YtgfpbhbogfabmaaVm14
set_option linter.unusedVariables false
set_option linter.unusedSimpArgs false
set_option linter.unnecessarySimpa false
set_option linter.unusedSectionVars false
namespace Go.Vm
section
variable {P : Program} {K : Nat → Prop} {w0 : World} {U : Nat → Prop} {s : List TV} {a : Act} {w : World} {η : Stamp → Value} {N : Nat}

/-- What is borrowed from the start. -/
theorem bor_start (h : Sim K w0 U (get s) (vsOf a) w η) {p c : Nat} {g : Stamp} {e z len : Nat} {v : Value} (hr : BorC (η g) v z 0 len) {xs : List (List TV)} (hc : (content p c g e z).eval s = some xs) :
    len ≤ xs.length ∧ ((xs = [] ∧ v = .slice none 0 0) ∨ ∃ b cap cap' cur lo hi vs, v = .slice (some ⟨b, 0, none⟩) len cap' ∧ η g = .slice (some ⟨b, 0, none⟩) xs.length cap ∧ len ≤ cap' ∧ cap' ≤ cap ∧ cap ≤ 9223372036854775807 ∧
      w.heap[b]? = some (.cells cur e (lo, hi)) ∧ cap * z ≤ cur.size ∧ (∀ i, i < cap * z → ¬ (lo ≤ i ∧ i < hi)) ∧ RepVs (Imm η (get s) w) w z xs vs ∧ (∀ (j : Nat) (u : Value), vs[j]? = some u → cur[j]? = some u) ∧ xs.length ≤ cap) := by
  obtain ⟨A, m, cap, A', cap', b1, b2, b3, b4, b5, b6, b7⟩ := hr
  have hct := content_rep h hc
  have hAA : A' = A := b6 rfl
  subst hAA
  rcases hct.1 with ⟨rfl, e0⟩ | ⟨b, cap0, cur, lo, hi, e0, e1, e2, e3, e4, e5, e6⟩
  · rw [b1] at e0
    injection e0 with eA em ec
    subst eA; subst em; subst ec
    refine ⟨by simp; omega, .inl ⟨rfl, ?_⟩⟩
    rw [b3]; congr 1 <;> omega
  · rw [b1] at e0
    injection e0 with eA em ec
    subst eA; subst em; subst ec
    obtain ⟨vs, v1, v2⟩ := e6.vals
    refine ⟨by omega, .inr ⟨b, cap, cap', cur, lo, hi, vs, b3, b1, b4, by omega, e3, e1, e4, e5, v1, fun j u hj => ?_, e2⟩⟩
    have := v2 j u hj
    simpa [World.cell?, e1] using this

theorem isZero_len : ∀ {cs : List TV} {vs : List Value}, isZero cs vs = true → vs.length = cs.length := fun h => (isZero_rep (η := fun _ => undef) (I := fun _ => True) (w := default) (U := fun _ => True) h).1.len

variable (call : FuncId → List TV → Option TV) (rs : List Nat) (n : Nat)
section
variable (h : Sim K w0 U (get s) (vsOf a) w η) (hn : ¬ U n) (hd : a.defers = []) (hN : a.tmps.size = N) {o : Oper} (hdst : ∀ x, o.dst = some x → x < N) {r : TV × List Cmd}
  (hs : (aOp P call rs n o).eval s = some r)
include h hn hd hN hdst hs

theorem append_ok {c : Call} {x y : Operand} (ho : o.op = .call c) (hc : c.callee = .builtin .append) (hx : c.args.toList = [x, y]) : Shows P K w0 N (addU U n) s o r a w := by
  have hrun := run_builtin call rs n h hn hd hN hdst hs ho hc
  simp only [aOp, ho, hc, hx, builtinOp, LK.eval_bind, LK.eval_ofOption, Option.bind_eq_some_iff] at hs
  obtain ⟨e, ⟨T, hT, he⟩, _, hg1, _, hg2, ty, hy, new, hnew, tx, hx', hs⟩ := hs
  have hg1 := LK.sure_some.1 hg1
  have hg2 := LK.sure_some.1 hg2
  have hu := elemT_und he
  have hargs := list_two hx
  obtain ⟨U2, hU2, hu2⟩ : ∃ U2, c.argTypes[1]? = some U2 ∧ ((∃ e', P.underlying U2 = some (.slice e')) ∨ P.underlying U2 = some .string) := by
    cases h2 : c.argTypes[1]? with
    | none => simp [h2] at hg1
    | some U2 =>
      refine ⟨U2, rfl, ?_⟩
      simp only [h2, Option.bind_some, Option.map_some, Option.getD_some, Bool.or_eq_true] at hg1
      rcases hg1 with hg1 | hg1
      · obtain ⟨e', he'⟩ := Option.isSome_iff_exists.1 hg1; exact .inl ⟨e', elemT_und he'⟩
      · exact .inr (strT_und hg1)
  simp only [Bool.and_eq_true, decide_eq_true_eq, beq_iff_eq] at hg2
  obtain ⟨hz0, hzl⟩ := hg2
  obtain ⟨zc, hzc, hzl⟩ := Option.map_eq_some_iff.1 hzl
  obtain ⟨i, zv, hi, hz, hz1, hz2⟩ := zeroT_spec hzc
  have hsz : i.size = szT P e := by simp [szT, hi]
  have hby : i.bytes = bytesT P e := by simp [bytesT, hi]
  have hzs : zv.cells.size = szT P e := by have := isZero_len hz1; simp at this; omega
  obtain ⟨news, hsrc⟩ := srcRows_rep (P := P) h hy hnew
  have hrx := (ev_rep h hx').1
  have hrun2 : ∀ res w', (Builtin.append_ #[T, U2] o.type #[a.eval x, a.eval y]).run P w = .ok res w' → (execOp a.eval o).run P w = .ok (.value res) w' := by
    intro res w' hr
    rw [hrun]
    have hat : (Builtin.append_ c.argTypes o.type #[a.eval x, a.eval y]).run P w = (Builtin.append_ #[T, U2] o.type #[a.eval x, a.eval y]).run P w := by
      simp [Builtin.append_, hT, hU2]
    simp [builtin, hargs, hat, hr]
  have gen : ∀ (olds : List Value) (base : Option Addr) (len cap : Nat) (xs : List (List TV)) (x0 : Option Nat) (tx0 : TV) (k : List Cmd), a.eval x = .slice base len cap → xs.length = len →
      RepVs (Imm η (get s) w) w (szT P e) xs olds → (∀ W : World, W.heap = w.heap → (Builtin.firstCells (szT P e) len (.slice base len cap)).run P W = .ok olds.toArray W) → ¬ len + new.length ≤ cap →
      roomy (len + new.length) (bytesT P e) = true →
      (∀ i, x0 = some i → stT U tx0 ∧ (fpT η tx0).Sublist (fpT η (get s i)) ∧ Rep η (Imm η (get s) w) w tx0 (vsOf a i)) →
      (∀ i, get (k.foldl Cmd.app s) i = if x0 = some i then tx0 else get s i) → Shows P K w0 N (addU U n) s o (.own (n, 0) e (szT P e) (xs ++ new), k) a w := by
    intro olds base len cap xs x0 tx0 k hv hxl hro hol hno hroom hx0 hk
    simp only [roomy, decide_eq_true_eq] at hroom
    have hra := run_app_new (P := P) (w := w) (ty := o.type) hu hu2 hi hz hsz hsrc (base := base) (len := len) (cap := cap) hol hno (by rw [hby]; exact hroom.1) (by omega)
    have hge := grownCap_ge w (len + new.length) cap e
    have hcm : grownCap w (len + new.length) cap e ≤ 9223372036854775807 := by
      have := grownCap_le_maxLen w (len + new.length) cap e (by simp only [maxLen]; omega)
      simpa only [maxLen] using this
    have hl1 := hro.len
    have hl2 := hsrc.rep.len
    have hxn : (xs ++ new).length = len + new.length := by simp [hxl]
    obtain ⟨η', hsim⟩ := newOwn_sim (n := n) h hn (x := x0) (tx := tx0) (d := o.dst) (e := e) (z := szT P e) (xs := xs ++ new) (vals := olds ++ news)
      (cur := olds.toArray ++ news.toArray ++ Builtin.zeroCells zv.cells (grownCap w (len + new.length) cap e - (len + new.length))) (lo := 0) (hi := 0) (cap := grownCap w (len + new.length) cap e)
      (w' := w.drew.alloc (.cells (olds.toArray ++ news.toArray ++ Builtin.zeroCells zv.cells (grownCap w (len + new.length) cap e - (len + new.length))) e)) (f' := get (after s o.dst (.own (n, 0) e (szT P e) (xs ++ new), k)))
      (fun i => by rw [after_get, hk]) hx0 ⟨rfl, rfl, rfl, by simp, fun b hb => heap_alloc_old w.drew _ b hb⟩ (by simp) (heap_alloc_new w.drew _) (by rw [hxn]; exact hge) hcm
      (by
        simp only [Array.size_append, List.size_toArray, size_zeroCells, hzs, hl1, hl2, hxl, ← Nat.add_mul]
        exact Nat.mul_le_mul_right _ (by omega))
      (fun _ _ => by omega) (hro.append hsrc.rep)
      (fun j u hj => by
        have hlt := (List.getElem?_eq_some_iff.1 hj).1
        rw [Array.getElem?_append_left (by simpa using hlt)]
        simpa using hj)
    refine Shows.value hd hN hdst (v := .slice (some ⟨w.heap.size, 0, none⟩) (len + new.length) (grownCap w (len + new.length) cap e)) (hrun2 _ _ (by rw [hv]; exact hra)) ⟨η', ?_⟩
    rw [hxn] at hsim
    exact hsim
  split at hs
  · rename_i p pc g e' z' off len
    simp only [LK.eval_bind, LK.eval_pure, Option.bind_eq_some_iff, Option.some.injEq] at hs
    obtain ⟨xs, hxs, _, hg3, rfl⟩ := hs
    have hg3 := LK.guard_some.1 hg3
    simp only [Bool.and_eq_true, decide_eq_true_eq] at hg3
    obtain ⟨⟨rfl, q1, q2⟩, hroom⟩ := hg3
    have q1 := q1.symm
    subst q1
    have q2 := q2.symm
    subst q2
    simp only [Rep] at hrx
    obtain ⟨hle, hcase⟩ := bor_start h hrx hxs
    have hct := content_rep h hxs
    have hkk : ∀ i, get ([Cmd.kill p pc].foldl Cmd.app s) i = if some p = some i then modPlace (fun _ => .undef) pc (get s p) else get s i := fun i => by simp [Cmd.app, get_put]
    have hx0 : ∀ i, some p = some i → stT U (modPlace (fun _ => .undef) pc (get s p)) ∧ (fpT η (modPlace (fun _ => .undef) pc (get s p))).Sublist (fpT η (get s i)) ∧ Rep η (Imm η (get s) w) w (modPlace (fun _ => .undef) pc (get s p)) (vsOf a i) := by
      rintro i hi; cases hi
      exact ⟨modPlace_st (h.st p), modPlace_sub _ _, modPlace_rep (h.rep p)⟩
    have hxl : (xs.take len).length = len := by simp; omega
    rcases hcase with ⟨rfl, hv⟩ | ⟨b, cap, cap', cur, fl, fh, vs, hv, hηg, c1, c2, c3, c4, c5, c6, c7, c8, c9⟩
    · have hl0 : len = 0 := by simpa using hle
      subst hl0
      by_cases hnew0 : new = []
      · subst hnew0
        have hnn : news = [] := List.eq_nil_of_length_eq_zero (by have := hsrc.rep.len; simpa using this)
        subst hnn
        have hra := run_app_none (P := P) (w := w) (ty := o.type) hu hu2 hi hz hsz hsrc
        refine Shows.value hd hN hdst (hrun2 _ _ (by rw [hv]; exact hra)) ⟨setη η n (.slice none 0 0), ?_⟩
        have hη := setη_old (η := η) (v := .slice none 0 0) hn
        have hft : fpT (setη η n (.slice none 0 0)) (modPlace (fun _ => .undef) pc (get s p)) = fpT η (modPlace (fun _ => .undef) pc (get s p)) := fpT.congr hη _ (modPlace_st (h.st p))
        refine h.put2 (addU_old n) hη (some p) (modPlace (fun _ => .undef) pc (get s p)) o.dst (.own (n, 0) e (szT P e) (List.take 0 [] ++ [])) (.slice none 0 0) (fun i => by rw [after_get, hkk]) (kept_self _ _)
          (fun _ => stT.mono (addU_old n) _ (modPlace_st (h.st p))) (by simp only [stT]; exact addU_new n) (fun i hi b hb => .inr (.inl ?_)) (fun b hb => by simp [fpT, setη_new, blkOf] at hb) (fun _ => ?_) (by simp [fpT, setη_new, blkOf]) (fun _ b _ hb => by simp [fpT, setη_new, blkOf] at hb)
          (fun I' hI _ i hi _ => ?_) (fun I' hI _ i hi => ?_)
        · cases hi; rw [hft] at hb; exact (modPlace_sub _ _).subset hb
        · rw [hft]; exact (modPlace_sub _ _).nodup (h.nd p)
        · cases hi; exact Rep.mono (U := U) hη hI (fun _ _ => rfl) _ _ (modPlace_st (h.st p)) (fun _ _ => rfl) (modPlace_rep (h.rep p))
        · simp only [Rep, setη_new, true_and]; exact .inl ⟨by simp, rfl⟩
      · have hpos : 0 < new.length := List.length_pos_iff.2 hnew0
        have := gen [] none 0 0 [] (some p) _ [.kill p pc] hv rfl repVs_nil (fun W _ => run_firstCells_none _ _ _ _ _) (by omega) (by simpa using hroom) hx0 hkk
        simpa using this
    · have hvl := c7.len
      have hold : RepVs (Imm η (get s) w) w (szT P e) (xs.take len) (vs.take (len * szT P e)) := c7.take len
      by_cases hfit : len + new.length ≤ cap'
      · have hra := run_app_fit (P := P) (w := w) (ty := o.type) hu hu2 hi hz hsz hsrc c4 hfit (Nat.le_trans (Nat.mul_le_mul_right _ c2) c5) (fun j hj => c6 j (Nat.lt_of_lt_of_le hj (Nat.mul_le_mul_right _ c2)))
        refine Shows.value hd hN hdst (hrun2 _ _ (by rw [hv]; exact hra)) ⟨setη η n (.slice (some ⟨b, 0, none⟩) (len + new.length) cap'), ?_⟩
        generalize hcur' : (cur.toList.take (len * szT P e) ++ news ++ cur.toList.drop (len * szT P e + news.length)).toArray = cur'
        have hη := setη_old (η := η) (v := .slice (some ⟨b, 0, none⟩) (len + new.length) cap') hn
        have hft : fpT (setη η n (.slice (some ⟨b, 0, none⟩) (len + new.length) cap')) (modPlace (fun _ => .undef) pc (get s p)) = fpT η (modPlace (fun _ => .undef) pc (get s p)) := fpT.congr hη _ (modPlace_st (h.st p))
        have hfo : fpT (setη η n (.slice (some ⟨b, 0, none⟩) (len + new.length) cap')) (.own (n, 0) e (szT P e) (xs.take len ++ new)) = [b] := by simp [fpT, setη_new, blkOf]
        have hbp : b ∈ fpT η (get s p) := hct.2.1 b (by simp [hηg, blkOf])
        have hbout := modPlace_out hxs (h.nd p) b (by simp [hηg, blkOf])
        have hlb : len * szT P e ≤ cur.size := Nat.le_trans (Nat.mul_le_mul_right _ (by omega)) c5
        have hsize : cur'.size = cur.size := by
          have h1 : len * szT P e + news.length ≤ cur.size := by
            rw [hsrc.rep.len, ← Nat.add_mul]; exact Nat.le_trans (Nat.mul_le_mul_right _ (by omega)) c5
          rw [← hcur']
          simp
          omega
        refine h.put2 (addU_old n) hη (some p) (modPlace (fun _ => .undef) pc (get s p)) o.dst (.own (n, 0) e (szT P e) (xs.take len ++ new)) _ (fun i => by rw [after_get, hkk]) (kept_setRow _ _ _ fun hb => hb.2 p rfl hbp)
          (fun _ => stT.mono (addU_old n) _ (modPlace_st (h.st p))) (by simp only [stT]; exact addU_new n) (fun i hi b' hb' => .inr (.inl ?_)) (fun b' hb' => .inr ⟨p, rfl, ?_⟩) (fun _ => ?_) (by rw [hfo]; simp) (fun _ b' hb' hb2 => ?_)
          (fun I' hI _ i hi _ => ?_) (fun I' hI _ i hi => ?_)
        · cases hi; rw [hft] at hb'; exact (modPlace_sub _ _).subset hb'
        · rw [hfo] at hb'; simp at hb'; subst hb'; exact hbp
        · rw [hft]; exact (modPlace_sub _ _).nodup (h.nd p)
        · rw [hft] at hb'; rw [hfo] at hb2; simp at hb2; subst hb2; exact hbout hb'
        · cases hi
          refine Rep.mono (U := U) hη hI (fun b' hb' => setRow_other w b b' _ fun e => hb'.2.1 p (e ▸ hbp)) _ _ (modPlace_st (h.st p)) (fun b' hb' => setRow_other w b b' _ fun e => hbout (e ▸ hb')) (modPlace_rep (h.rep p))
        · simp only [Rep, setη_new, true_and]
          refine .inr ⟨b, cap', cur', fl, fh, ?_, setRow_heap w b cur _ e (fl, fh) c4, ?_, by omega, ?_, fun i hi => c6 i (Nat.lt_of_lt_of_le hi (Nat.mul_le_mul_right _ c2)), ?_⟩
          · simp [hxl]
          · simp [hxl]; omega
          · rw [hsize]; exact Nat.le_trans (Nat.mul_le_mul_right _ c2) c5
          · have hvals := (hold.append hsrc.rep).mono hI (fun b' hb' => setRow_other w b b' cur' fun e => hb'.2.1 p (e ▸ hbp))
            refine RepRows.of hvals (fun j u hj => ?_)
            have hcell : (w.setRow b cur').cell? ⟨b, 0 + j, none⟩ = cur'[j]? := by
              simp [World.cell?, setRow_heap w b cur cur' e (fl, fh) c4]
            rw [hcell, ← hcur']
            have hl3 : (vs.take (len * szT P e)).length = len * szT P e := by rw [hold.len, hxl]
            rw [List.getElem?_append] at hj
            split at hj
            · rename_i hlt
              have hjv : vs[j]? = some u := by
                rw [List.getElem?_take] at hj; split at hj
                · exact hj
                · cases hj
              have hjc := c8 j u hjv
              have hlt' : j < len * szT P e := by omega
              simp only [List.getElem?_toArray, List.append_assoc]
              rw [List.getElem?_append_left (by simp; omega), List.getElem?_take, if_pos hlt']
              simpa using hjc
            · rename_i hge
              have hlt2 := (List.getElem?_eq_some_iff.1 hj).1
              simp only [List.getElem?_toArray, List.append_assoc]
              rw [List.getElem?_append_right (by simp; omega)]
              have e9 : (cur.toList.take (len * szT P e)).length = len * szT P e := by simp; omega
              rw [e9, List.getElem?_append_left (by omega)]
              rw [hl3] at hj
              exact hj
      · refine gen (vs.take (len * szT P e)) _ len cap' (xs.take len) (some p) _ [.kill p pc] hv hxl hold (fun W hW => ?_) hfit hroom hx0 hkk
        refine run_firstCells_some W (szT P e) len _ _ _ _ (by rw [hold.len, hxl]) (fun j u hj => ?_)
        rw [cell_add, cell_heap hW]
        have hjv : vs[j]? = some u := by
          rw [List.getElem?_take] at hj; split at hj
          · exact hj
          · cases hj
        have := c8 j u hjv
        simp [World.cell?, c4, this]
  · simp only [LK.eval_bind, LK.eval_pure, Option.bind_eq_some_iff, Option.some.injEq] at hs
    obtain ⟨_, hg3, rfl⟩ := hs
    have hroom := LK.guard_some.1 hg3
    simp only [Rep, RepP] at hrx
    by_cases hnew0 : new = []
    · subst hnew0
      have hnn : news = [] := List.eq_nil_of_length_eq_zero (by have := hsrc.rep.len; simpa using this)
      subst hnn
      have hra := run_app_none (P := P) (w := w) (ty := o.type) hu hu2 hi hz hsz hsrc
      refine Shows.value hd hN hdst (hrun2 _ _ (by rw [hrx]; exact hra)) ⟨setη η n (.slice none 0 0), ?_⟩
      refine h.put2 (addU_old n) (setη_old hn) none .undef o.dst (.own (n, 0) e (szT P e) []) (.slice none 0 0) (fun i => by rw [after_get]; simp) (kept_self _ _) (fun hx => by simp at hx) (by simp only [stT]; exact addU_new n)
        (fun _ hx => by simp at hx) (fun b hb => by simp [fpT, setη_new, blkOf] at hb) (fun hx => by simp at hx) (by simp [fpT, setη_new, blkOf]) (fun hx => by simp at hx) (fun _ _ _ _ hx => by simp at hx) (fun I' hI _ j hj => ?_)
      simp only [Rep, setη_new, true_and]; exact .inl ⟨rfl, rfl⟩
    · have hpos : 0 < new.length := List.length_pos_iff.2 hnew0
      have := gen [] none 0 0 [] none .undef [] hrx rfl repVs_nil (fun W _ => run_firstCells_none _ _ _ _ _) (by omega) (by simpa using hroom) (fun i hi => by cases hi) (fun i => by simp)
      simpa using this
  · simp at hs
end
end
end Go.Vm
