/- Composite slices, stores into rows, copy. -/
import Derived.Test.YtgfpbhbogfabmaaVm16
set_option linter.unusedVariables false
set_option linter.unusedSimpArgs false
set_option linter.unnecessarySimpa false
set_option linter.unusedSectionVars false
namespace Go.Vm
section
variable {P : Program} {K : Nat → Prop} {w0 : World} {U : Nat → Prop} {s : List TV} {a : Act} {w : World} {η : Stamp → Value} {N : Nat}

/-- The parts of a composite slice, one behind the other. -/
theorem fill_rows {z : Nat} : ∀ {pv : List (Nat × Value)} {k : Nat} {cells : Array Value}, pv.map (·.1) = List.range' k pv.length → (∀ x ∈ pv, x.2.cells.size = z) → cells.size = (k + pv.length) * z →
    ∃ cells', Instr.fill (fun i => some (i * z, z)) cells pv = some cells' ∧ cells'.toList = cells.toList.take (k * z) ++ pv.flatMap (·.2.cells.toList)
  | [], k, cells, _, _, hc => ⟨cells, rfl, by simp at hc; simp; rw [List.take_of_length_le (by simp [hc])]⟩
  | (i, v) :: pv, k, cells, hm, hz, hc => by
    simp only [List.map_cons, List.length_cons, List.range'_succ, List.cons.injEq] at hm
    obtain ⟨rfl, hm⟩ := hm
    have hv := hz (i, v) (by simp)
    simp only at hv
    have hle : i * z + z ≤ cells.size := by rw [hc, List.length_cons, ← Nat.succ_mul]; exact Nat.mul_le_mul_right _ (by omega)
    have hvl : v.cells.toList.length = z := by simpa using hv
    have efold := fold_set (i * z) v.cells.toList 0 cells (by rw [hvl]; omega)
    simp only [Nat.add_zero] at efold
    obtain ⟨cells', f1, f2⟩ := fill_rows (pv := pv) (k := i + 1) (cells := v.cells.zipIdx.foldl (fun cs x => cs.setIfInBounds (i * z + x.2) x.1) cells) hm (fun x hx => hz x (by simp [hx])) (by
      have : (v.cells.zipIdx.foldl (fun cs x => cs.setIfInBounds (i * z + x.2) x.1) cells).toList.length = cells.size := by
        rw [← Array.foldl_toList, Array.toList_zipIdx, efold]
        simp [hvl]; omega
      rw [Array.length_toList] at this
      rw [this, hc]; congr 1; simp; omega)
    refine ⟨cells', ?_, ?_⟩
    · simp only [Instr.fill]
      rw [if_neg (by simp [hv]; omega)]
      exact f1
    · rw [f2, ← Array.foldl_toList, Array.toList_zipIdx, efold]
      have e1 : (cells.toList.take (i * z)).length = i * z := by simp; omega
      have e2 : (cells.toList.take (i * z) ++ v.cells.toList).length = (i + 1) * z := by rw [List.length_append, e1, hvl, Nat.succ_mul]
      rw [List.flatMap_cons, ← List.append_assoc]
      congr 1
      rw [← e2, List.take_left']
      rfl

theorem frzCells_ne {t : TV} {q : List TV × List Cmd} (hq : (frzCells t).eval s = some q) : (∀ vs, t ≠ .tup vs) ∧ t ≠ .undef := by
  have : ∀ t, (t = .undef ∨ ∃ vs, t = .tup vs) → (frzCells t).eval s = none := by
    rintro t (rfl | ⟨vs, rfl⟩) <;> simp [frzCells, cellsT, frzAll, frzOne, pureT]
  exact ⟨fun vs e => (by rw [this t (.inr ⟨vs, e⟩)] at hq; cases hq), fun e => (by rw [this t (.inl e)] at hq; cases hq)⟩

/-- Cells that are frozen. -/
theorem frzCells_rep (h : Sim K w0 U (get s) (vsOf a) w η) {x : Operand} {t : TV} {v : Value} (hr : Rep η (Imm η (get s) w) w t v) {cs : List TV} {k kk : List Cmd} (hq : (frzCells t).eval s = some (cs, k)) (hk : Covers kk k) :
    k.all Cmd.isFrz = true ∧ RepPs (Imm η (get (kk.foldl Cmd.app s)) w) w cs v.cells.toList := by
  have hne := frzCells_ne hq
  obtain ⟨e1, rfl⟩ := frzAll_eq hq
  exact ⟨lentAll_frz _, resAll_rep h e1 (rep_cells hr hne.1 hne.2) hk⟩

theorem layRows_rep (h : Sim K w0 U (get s) (vsOf a) w η) {kk : List Cmd} {z : Nat} : ∀ {ps : List (Nat × TV)} {pv : List (Nat × Value)} {rows : List (List TV)} {k : List Cmd}, ps.length = pv.length →
    (∀ (j : Nat) (x : Nat × TV) (y : Nat × Value), ps[j]? = some x → pv[j]? = some y → Rep η (Imm η (get s) w) w x.2 y.2) → (layRows ps).eval s = some (rows, k) → Covers kk k → (rows.all fun r => r.length == z) = true →
    k.all Cmd.isFrz = true ∧ RepVs (Imm η (get (kk.foldl Cmd.app s)) w) w z rows (pv.flatMap (·.2.cells.toList)) ∧ (∀ x ∈ pv, x.2.cells.size = z) ∧ rows.length = pv.length
  | [], pv, rows, k, hl, _, hq, _, _ => by
    have : pv = [] := List.eq_nil_of_length_eq_zero hl.symm
    subst this
    simp only [layRows, LK.eval_pure, Option.some.injEq, Prod.mk.injEq] at hq
    obtain ⟨rfl, rfl⟩ := hq
    refine ⟨rfl, rfl, fun x hx => (by cases hx), rfl⟩
  | (i, t) :: ps, [], rows, k, hl, _, _, _, _ => by simp at hl
  | (i, t) :: ps, (i', v) :: pv, rows, k, hl, hp, hq, hk, hz => by
    simp only [layRows, LK.eval_bind, LK.eval_pure, Option.bind_eq_some_iff, Option.some.injEq, Prod.mk.injEq] at hq
    obtain ⟨⟨cs, k1⟩, h1, ⟨rows', ks⟩, h2, rfl, rfl⟩ := hq
    simp only [List.all_cons, Bool.and_eq_true, beq_iff_eq] at hz
    have f1 := frzCells_rep (x := .global 0) h (hp 0 (i, t) (i', v) rfl rfl) h1 hk.left
    obtain ⟨g1, g2, g3, g4⟩ := layRows_rep h (by simpa using hl) (fun j x y hx hy => hp (j + 1) x y hx hy) h2 hk.right hz.2
    have hlen := f1.2.len
    refine ⟨by rw [List.all_append, f1.1, g1]; rfl, ⟨v.cells.toList, _, by simp, hz.1, f1.2, g2⟩, fun x hx => ?_, by simp [g4]⟩
    rcases List.mem_cons.1 hx with rfl | hx
    · rw [← hz.1, ← hlen]; simp
    · exact g3 x hx

variable (call : FuncId → List TV → Option TV) (rs : List Nat) (n : Nat)
section
variable (h : Sim K w0 U (get s) (vsOf a) w η) (hn : ¬ U n) (hd : a.defers = []) (hN : a.tmps.size = N) {o : Oper} (hdst : ∀ x, o.dst = some x → x < N) {r : TV × List Cmd}
  (hs : (aOp P call rs n o).eval s = some r)
include h hn hd hN hdst hs

theorem buildSlice_ok {T : TypeId} {len : Nat} {parts : Array (Nat × Operand)} (ho : o.op = .buildSlice T len parts) : Shows P K w0 N (addU U n) s o r a w := by
  simp only [aOp, ho, LK.eval_bind, LK.eval_ofOption, LK.eval_pure, Option.bind_eq_some_iff, Option.some.injEq] at hs
  obtain ⟨e, he, zc, hzc, _, hg, ps, hps, ⟨rows, k⟩, hlay, _, hall, rfl⟩ := hs
  have hg := LK.sure_some.1 hg
  have hall := LK.sure_some.1 hall
  simp only [Bool.and_eq_true, decide_eq_true_eq, beq_iff_eq] at hg
  obtain ⟨⟨hz0, hzl, hsmall⟩, hidx⟩ := hg
  have hu := elemT_und he
  obtain ⟨i, zv, hi, hz, hz1, hz2⟩ := zeroT_spec hzc
  have hsz : i.size = szT P e := by simp [szT, hi]
  have hzs : zv.cells.size = szT P e := by have := isZero_len hz1; simp at this; omega
  obtain ⟨p1, p2⟩ := evParts_rep h hps
  generalize hpv : parts.toList.map (fun x => (x.1, a.eval x.2)) = pv at p1 p2
  have hpl : ps.length = pv.length := by have := congrArg List.length p1; simpa using this
  have hpi : pv.map (·.1) = List.range' 0 pv.length := by
    rw [← hpv, List.map_map]
    have : ((fun x => x.1) ∘ fun (x : Nat × Operand) => (x.1, a.eval x.2)) = (·.1) := rfl
    rw [this, hidx, List.range_eq_range']
    have hl : (parts.toList.map (fun x => (x.1, a.eval x.2))).length = len := by
      have := congrArg List.length hidx
      simpa using this
    rw [hl]
  have hpn : pv.length = len := by
    rw [← hpv]
    have := congrArg List.length hidx
    simpa using this
  have key := fun kk (hk : Covers kk k) => layRows_rep (kk := kk) h hpl (fun j x y hx hy => (p2 j x y hx hy).1) hlay hk hall
  have hkf : k.all Cmd.isFrz = true := by
    have : ∀ {ps : List (Nat × TV)} {rows : List (List TV)} {k : List Cmd}, (layRows ps).eval s = some (rows, k) → k.all Cmd.isFrz = true := by
      intro ps
      induction ps with
      | nil => intro rows k hq; simp only [layRows, LK.eval_pure, Option.some.injEq, Prod.mk.injEq] at hq; rw [← hq.2]; rfl
      | cons p ps ih =>
        intro rows k hq
        obtain ⟨i, t⟩ := p
        simp only [layRows, LK.eval_bind, LK.eval_pure, Option.bind_eq_some_iff, Option.some.injEq, Prod.mk.injEq] at hq
        obtain ⟨⟨cs, k1⟩, h1, ⟨rows', ks⟩, h2, rfl, rfl⟩ := hq
        obtain ⟨_, rfl⟩ := frzAll_eq h1
        rw [List.all_append, lentAll_frz, ih h2]; rfl
    exact this hlay
  obtain ⟨_, g2, g3, g4⟩ := key k (Covers.refl hkf)
  have h1 := Sim.frzs k hkf h
  generalize hc0 : (Array.range (len * szT P e)).map (fun x => zv.cells[x % zv.cells.size]!) = c0
  have hcs : c0.size = len * szT P e := by rw [← hc0]; simp
  obtain ⟨cells, f1, f2⟩ := fill_rows (z := szT P e) (pv := pv) (k := 0) (cells := c0) hpi g3 (by rw [hcs, hpn]; simp)
  simp only [Nat.zero_mul, List.take_zero, List.nil_append] at f2
  have hrl : rows.length = len := by rw [g4, hpn]
  have hcl : cells.size = len * szT P e := by
    have := congrArg List.length f2
    rw [Array.length_toList, g2.len, hrl] at this
    exact this
  obtain ⟨η', hsim⟩ := newOwn_sim (n := n) h1 hn (x := none) (tx := .undef) (d := o.dst) (e := e) (z := szT P e) (xs := rows) (vals := pv.flatMap (·.2.cells.toList)) (cur := cells) (lo := 0) (hi := 0) (cap := len)
    (w' := w.alloc (.cells cells e)) (f' := get (after s o.dst (.own (n, 0) e (szT P e) rows, k))) (fun i => by rw [after_get]; simp) (fun _ hx => by cases hx) (kept_alloc _ _ fun b hb => hb) (by simp) (heap_alloc_new w _)
    (by omega) (by have := Nat.le_mul_of_pos_right len hz0; omega) (by rw [hcl]; exact Nat.le_refl _) (fun _ _ => by omega) g2 (fun j u hj => by rw [← f2] at hj; simpa using hj)
  rw [hrl] at hsim
  refine Shows.value hd hN hdst ?_ ⟨η', hsim⟩
  have hpv2 : (Array.map (fun (x : Nat × Operand) => (x.1, a.eval x.2)) parts).toList = pv := by rw [← hpv]; simp
  simp only [execOp, ho, Sem.run_bind]
  by_cases hl0 : len * szT P e = 0
  · have hlen0 : len = 0 := by rcases Nat.mul_eq_zero.1 hl0 with h | h <;> omega
    have hpv0 : pv = [] := List.eq_nil_of_length_eq_zero (by omega)
    have hce : cells = #[] := Array.eq_empty_of_size_eq_zero (by rw [hcl]; exact hl0)
    have hpe : (Array.map (fun (x : Nat × Operand) => (x.1, a.eval x.2)) parts) = #[] := by apply Array.ext'; rw [hpv2, hpv0]
    have hem : Array.map (fun _ => (default : Value)) (Array.range 0) = #[] := Array.eq_empty_of_size_eq_zero (by simp)
    subst hlen0
    subst hce
    simp [Instr.buildSlice, run_underlying hu, sizeOf, typeInfo, hi, hpe, Instr.fill, newRow, hem]
  · rw [run_buildSlice w T e len _ cells i zv hu hi hz (by rw [hsz]; omega) (by rw [hsz]; exact hl0) (by rw [hpv2, hsz, hc0]; exact f1)]
    rfl
end
end
end Go.Vm
