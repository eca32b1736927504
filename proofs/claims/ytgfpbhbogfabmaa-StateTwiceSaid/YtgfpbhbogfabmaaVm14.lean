/- append, make, composite slices, stores into rows, copy. -/
import Derived.Test.YtgfpbhbogfabmaaVm13
set_option linter.unusedVariables false
set_option linter.unusedSimpArgs false
set_option linter.unnecessarySimpa false
set_option linter.unusedSectionVars false
namespace Go.Vm
section
variable {P : Program} {K : Nat → Prop} {w0 : World} {U : Nat → Prop} {s : List TV} {a : Act} {w : World} {η : Stamp → Value} {N : Nat}

/-- The cells of a source of rows. -/
structure Src (P : Program) (I : Nat → Prop) (w : World) (z : Nat) (v : Value) (rows : List (List TV)) (news : List Value) : Prop where
  rep : RepVs I w z rows news
  len : ∀ W : World, (Builtin.lenOf v).run P W = .ok rows.length W
  cellsTo : ∀ (W : World) (m : Nat), W.heap = w.heap → m ≤ rows.length → (Builtin.firstCells z m v).run P W = .ok (news.take (m * z)).toArray W

theorem Src.cells {P : Program} {I : Nat → Prop} {w : World} {z : Nat} {v : Value} {rows : List (List TV)} {news : List Value} (h : Src P I w z v rows news) (W : World) (hW : W.heap = w.heap) :
    (Builtin.firstCells z rows.length v).run P W = .ok news.toArray W := by
  have := h.cellsTo W rows.length hW (Nat.le_refl _)
  rwa [← h.rep.len, List.take_length] at this

theorem cell_heap {w W : World} (h : W.heap = w.heap) (x : Addr) : W.cell? x = w.cell? x := World.cell?_of_block (by rw [h])

theorem get_of_take {α : Type} {l : List α} {n j : Nat} {u : α} (h : (l.take n)[j]? = some u) : l[j]? = some u := by
  rw [List.getElem?_take] at h
  split at h
  · exact h
  · cases h
theorem repVs_nil {I : Nat → Prop} {z : Nat} : RepVs I w z [] [] := rfl

theorem rowsOf_rep (I : Nat → Prop) (str : ByteArray) : RepVs I w 1 (rowsOf str) (str.data.toList.map fun b => .int .u8 b.toNat) := by
  unfold rowsOf
  induction str.data.toList with
  | nil => rfl
  | cons b bs ih => exact ⟨[.int .u8 b.toNat], _, rfl, rfl, ⟨_, [], rfl, by simp [RepP], rfl⟩, ih⟩

theorem srcRows_rep (h : Sim K w0 U (get s) (vsOf a) w η) {z : Nat} {x : Operand} {t : TV} (hx : (ev x).eval s = some t) {rows : List (List TV)} (hr : (srcRows z t).eval s = some rows) :
    ∃ news, Src P (Imm η (get s) w) w z (a.eval x) rows news := by
  have hrep := (ev_rep h hx).1
  unfold srcRows at hr
  split at hr
  · rename_i p c g e z' off len
    simp only [LK.eval_ite, LK.eval_cond, LK.eval_fail] at hr
    split at hr
    · rename_i hz
      subst hz
      simp only [LK.eval_bind, LK.eval_pure, Option.bind_eq_some_iff, Option.some.injEq] at hr
      obtain ⟨xs, hc, rfl⟩ := hr
      have hct := content_rep h hc
      simp only [Rep] at hrep
      obtain ⟨A, m, cap, A', cap', b1, b2, b3, b4, b5, b6, b7⟩ := hrep
      have hlen : xs.length = m := by
        rcases hct.1 with ⟨rfl, e0⟩ | ⟨b, cap, cur, lo, hi, e0, _⟩
        · rw [b1] at e0; injection e0 with _ e0 _; simp [e0]
        · rw [b1] at e0; injection e0 with _ e0 _; exact e0.symm
      have hl : ((xs.drop off).take len).length = len := by simp; omega
      rcases b7 with b7 | ⟨b, rfl, rfl⟩
      · subst b7
        refine ⟨[], by simpa using repVs_nil, fun W => by rw [b3]; simp [Builtin.lenOf], fun W m hW hm => ?_⟩
        have hm0 : m = 0 := by simpa using hm
        subst hm0
        rw [b3]
        cases A' <;> simp [Builtin.firstCells, loadCells, loadCellsFrom]
      · rcases hct.1 with ⟨rfl, e0⟩ | ⟨b', cap0, cur, lo, hi, e0, e1, e2, e3, e4, e5, e6⟩
        · rw [b1] at e0; cases e0
        · rw [b1] at e0
          injection e0 with eA _ _
          have : b = b' := by injection eA with eA; injection eA
          subst this
          obtain ⟨vs, v1, v2⟩ := e6.vals
          have hvl := v1.len
          have v3 := (v1.drop off).take len
          refine ⟨_, v3, fun W => by rw [b3, hl]; rfl, fun W m hW hm => ?_⟩
          rw [b3]
          rw [hl] at hm
          refine run_firstCells_some W z' m _ _ _ _ (by rw [List.length_take, v3.len, hl]; exact Nat.min_eq_left (Nat.mul_le_mul_right _ hm)) (fun j u hj => ?_)
          rw [cell_add, cell_heap hW]
          have hj := get_of_take hj
          have := v2 (off * z' + j) u (by
            rw [List.getElem?_take] at hj
            split at hj
            · simpa [List.getElem?_drop] using hj
            · cases hj)
          rwa [show 0 + (off * z' + j) = off * z' + j by omega] at this
    · cases hr
  · rename_i z' xs
    simp only [LK.eval_ite, LK.eval_cond, LK.eval_pure, LK.eval_fail] at hr
    split at hr
    · rename_i hz
      cases hr
      simp only [Rep, RepP] at hrep
      obtain ⟨A, c, h1, h2, h3⟩ := hrep
      by_cases hxs : rows = []
      · subst hxs
        refine ⟨[], repVs_nil, fun W => by rw [h1]; rfl, fun W m hW hm => ?_⟩
        have hm0 : m = 0 := by simpa using hm
        subst hm0
        rw [h1]
        cases A <;> simp [Builtin.firstCells, loadCells, loadCellsFrom]
      · have hz := hz.resolve_right hxs
        subst hz
        obtain ⟨b, off, rfl, hI, hrows⟩ := h3.resolve_left hxs
        obtain ⟨vs, v1, v2⟩ := hrows.vals
        refine ⟨vs, v1, fun W => by rw [h1]; rfl, fun W m hW hm => ?_⟩
        rw [h1]
        refine run_firstCells_some W z' m _ _ _ _ (by rw [List.length_take, v1.len]; exact Nat.min_eq_left (Nat.mul_le_mul_right _ hm)) (fun j u hj => ?_)
        rw [cell_add, cell_heap hW]
        rw [List.getElem?_take] at hj
        split at hj
        · exact v2 j u hj
        · cases hj
    · cases hr
  · simp only [LK.eval_pure, Option.some.injEq] at hr
    subst hr
    simp only [Rep, RepP] at hrep
    exact ⟨[], repVs_nil, fun W => by rw [hrep]; rfl, fun W m hW hm => by rw [hrep]; simp [Builtin.firstCells]⟩
  · rename_i str
    simp only [LK.eval_ite, LK.eval_cond, LK.eval_pure, LK.eval_fail] at hr
    split at hr
    · rename_i hz
      subst hz
      cases hr
      simp only [Rep, RepP] at hrep
      refine ⟨_, rowsOf_rep _ str, fun W => by rw [hrep]; simp [Builtin.lenOf, rowsOf], fun W m hW hm => ?_⟩
      rw [hrep]
      simp only [Builtin.firstCells, Sem.run_pure]
      congr 1
      apply Array.ext'
      simp [List.map_take]
    · cases hr
  · simp at hr

/-! ### append, in the model -/
section app
variable {t u ty e : TypeId} {i : TypeInfo} {zv : Value} {z : Nat} (ht : P.underlying t = some (.slice e)) (hu : (∃ e', P.underlying u = some (.slice e')) ∨ P.underlying u = some .string)
  (hi : P.info? e = some i) (hz : i.zero = some zv) (hsz : i.size = z)
include ht hu hi hz hsz

theorem run_app_fit {I : Nat → Prop} {x : Value} {rows : List (List TV)} {news : List Value} (hs : Src P I w z x rows news) {b len cap : Nat} {cur : Array Value} {fz : Nat × Nat} (hb : w.heap[b]? = some (.cells cur e fz))
    (hfit : len + rows.length ≤ cap) (hcur : cap * z ≤ cur.size) (hfz : ∀ j, j < cap * z → ¬ (fz.1 ≤ j ∧ j < fz.2)) :
    (Builtin.append_ #[t, u] ty #[.slice (some ⟨b, 0, none⟩) len cap, x]).run P w =
      .ok (.slice (some ⟨b, 0, none⟩) (len + rows.length) cap) (w.setRow b (cur.toList.take (len * z) ++ news ++ cur.toList.drop (len * z + news.length)).toArray) := by
  have hl := hs.rep.len
  have hle : len * z + news.length ≤ cap * z := by rw [hl, ← Nat.add_mul]; exact Nat.mul_le_mul_right z hfit
  have hst := run_storeCells_gen (P := P) b (len * z) e fz news 0 cur w hb (by simpa using Nat.le_trans hle hcur) (fun j _ h2 => hfz j (by simp at h2; omega)) hs.rep.cell
  simp only [Nat.add_zero] at hst
  have hc := hs.cells w rfl
  rcases hu with ⟨e', hu⟩ | hu
  · simp [Builtin.append_, run_underlying ht, run_underlying hu, sizeOf, typeInfo, hi, hsz, hs.len, hfit, hc, cell_add, hst]
  · simp [Builtin.append_, run_underlying ht, run_underlying hu, sizeOf, typeInfo, hi, hsz, hs.len, hfit, hc, cell_add, hst]

theorem run_app_none {I : Nat → Prop} {x : Value} (hs : Src P I w z x [] []) :
    (Builtin.append_ #[t, u] ty #[.slice none 0 0, x]).run P w = .ok (.slice none 0 0) w := by
  have hc := hs.cells w rfl
  have hl := hs.len
  simp only [List.length_nil] at hc hl
  rcases hu with ⟨e', hu⟩ | hu
  · simp [Builtin.append_, run_underlying ht, run_underlying hu, sizeOf, typeInfo, hi, hsz, hl, hc]
  · simp [Builtin.append_, run_underlying ht, run_underlying hu, sizeOf, typeInfo, hi, hsz, hl, hc]

theorem run_app_new {I : Nat → Prop} {x : Value} {rows : List (List TV)} {news : List Value} (hs : Src P I w z x rows news) {base : Option Addr} {len cap : Nat} {olds : List Value}
    (holds : ∀ W : World, W.heap = w.heap → (Builtin.firstCells z len (.slice base len cap)).run P W = .ok olds.toArray W) (hno : ¬ len + rows.length ≤ cap)
    (hby : (len + rows.length) * i.bytes ≤ 140737488355328) (hlen : len + rows.length ≤ 9223372036854775807) :
    (Builtin.append_ #[t, u] ty #[.slice base len cap, x]).run P w =
      .ok (.slice (some ⟨w.heap.size, 0, none⟩) (len + rows.length) (grownCap w (len + rows.length) cap e))
        (w.drew.alloc (.cells (olds.toArray ++ news.toArray ++ Builtin.zeroCells zv.cells (grownCap w (len + rows.length) cap e - (len + rows.length))) e)) := by
  have hc := hs.cells w.drew rfl
  have ho := holds w.drew rfl
  have hlen' : ¬ (9223372036854775807 < ((len : Int) + (rows.length : Int))) := by omega
  have h48 : ¬ (281474976710656 < Builtin.nextslicecap (len + rows.length) cap * i.bytes) := by
    have := growslice_fits (old := cap) (need := len + rows.length) (by omega) hby
    omega
  rcases hu with ⟨e', hu⟩ | hu
  · simp [Builtin.append_, run_underlying ht, run_underlying hu, sizeOf, typeInfo, zeroValue, hi, hz, hsz, hs.len, hno, hlen', h48, Question.forced, hc, ho, newRow, grownCap]
    congr 2 <;> (apply Array.ext'; simp [List.append_assoc])
  · simp [Builtin.append_, run_underlying ht, run_underlying hu, sizeOf, typeInfo, zeroValue, hi, hz, hsz, hs.len, hno, hlen', h48, Question.forced, hc, ho, newRow, grownCap]
    congr 2 <;> (apply Array.ext'; simp [List.append_assoc])
end app

/-- What a slice that is owned holds, in its cells. -/
theorem ownC_vals {I : Nat → Prop} {v : Value} {e z : Nat} {xs : List (List TV)} (h : OwnC I w v e z xs) : ∃ vs, RepVs I w z xs vs ∧ ∀ b n cap, v = .slice (some ⟨b, 0, none⟩) n cap → ∀ j u, vs[j]? = some u → w.cell? ⟨b, j, none⟩ = some u := by
  rcases h with ⟨rfl, rfl⟩ | ⟨b, cap, cur, lo, hi, h1, h2, h3, h4, h5, h6, h7⟩
  · exact ⟨[], rfl, fun b n cap e => by cases e⟩
  · obtain ⟨vs, v1, v2⟩ := h7.vals
    refine ⟨vs, v1, fun b' n cap' e j u hj => ?_⟩
    rw [h1] at e
    injection e with e _ _
    injection e with e
    injection e with e
    subst e
    have := v2 j u hj
    simpa using this

/-- A NEW SLICE in a new block, perhaps in the place of another one. -/
theorem newOwn_sim {n : Nat} (h : Sim K w0 U (get s) (vsOf a) w η) (hn : ¬ U n) {x : Option Nat} {tx : TV} {d : Option Nat} {e z : Nat} {xs : List (List TV)} {vals : List Value} {cur : Array Value} {lo hi cap : Nat} {w' : World} {f' : Nat → TV}
    (hf' : ∀ i, f' i = if d = some i then .own (n, 0) e z xs else if x = some i then tx else get s i)
    (hx : ∀ i, x = some i → stT U tx ∧ (fpT η tx).Sublist (fpT η (get s i)) ∧ Rep η (Imm η (get s) w) w tx (vsOf a i))
    (hk : Kept (fun b => b < w.heap.size) w w') (hsz : w'.heap.size = w.heap.size + 1) (hnew : w'.heap[w.heap.size]? = some (.cells cur e (lo, hi)))
    (hlen : xs.length ≤ cap) (hcap : cap ≤ 9223372036854775807) (hcur : cap * z ≤ cur.size) (hfz : ∀ i, i < cap * z → ¬ (lo ≤ i ∧ i < hi))
    (hr : RepVs (Imm η (get s) w) w z xs vals) (hv : ∀ (j : Nat) (u : Value), vals[j]? = some u → cur[j]? = some u) :
    ∃ η', Sim K w0 (addU U n) f' (fun i => if d = some i then .slice (some ⟨w.heap.size, 0, none⟩) xs.length cap else vsOf a i) w' η' := by
  refine ⟨setη η n (.slice (some ⟨w.heap.size, 0, none⟩) xs.length cap), ?_⟩
  have hη := setη_old (η := η) (v := .slice (some ⟨w.heap.size, 0, none⟩) xs.length cap) hn
  have hfb : fpT (setη η n (.slice (some ⟨w.heap.size, 0, none⟩) xs.length cap)) (.own (n, 0) e z xs) = [w.heap.size] := by simp [fpT, setη_new, blkOf]
  have hxs : ∀ i, x = some i → fpT (setη η n (.slice (some ⟨w.heap.size, 0, none⟩) xs.length cap)) tx = fpT η tx := fun i hi => fpT.congr hη _ (hx i hi).1
  have hold : ∀ b, b < w.heap.size → w'.heap[b]? = w.heap[b]? := fun b hb => hk.block b hb
  refine h.put2 (addU_old n) hη x tx d (.own (n, 0) e z xs) _ hf' ⟨hk.os, hk.tape, hk.output, hk.size, fun b hb => hk.block b hb.1⟩ (fun hx' => ?_) (by simp only [stT]; exact addU_new n) (fun i hi b hb => .inr (.inl ?_)) (fun b hb => ?_) (fun hx' => ?_) ?_ (fun hx' b hb hb' => ?_)
    (fun I' hI _ i hi _ => ?_) (fun I' hI _ i _ => ?_)
  · obtain ⟨i, hi⟩ := Option.isSome_iff_exists.1 hx'; exact stT.mono (addU_old n) _ (hx i hi).1
  · rw [hxs i hi] at hb; exact (hx i hi).2.1.subset hb
  · rw [hfb] at hb; simp at hb; subst hb; exact .inl ⟨Nat.le_refl _, by omega⟩
  · obtain ⟨i, hi⟩ := Option.isSome_iff_exists.1 hx'; rw [hxs i hi]; exact (hx i hi).2.1.nodup (h.nd i)
  · rw [hfb]; simp
  · obtain ⟨i, hi⟩ := Option.isSome_iff_exists.1 hx'
    rw [hxs i hi] at hb
    have := (h.fpK i b ((hx i hi).2.1.subset hb)).2
    rw [hfb] at hb'; simp at hb'; omega
  · exact Rep.mono (U := U) hη hI (fun b hb => hold b hb.1) _ _ (hx i hi).1 (fun b hb => hold b (h.fpK i b ((hx i hi).2.1.subset hb)).2) (hx i hi).2.2
  · simp only [Rep, setη_new, true_and]
    refine .inr ⟨w.heap.size, cap, cur, lo, hi, rfl, hnew, hlen, hcap, hcur, hfz, ?_⟩
    refine RepRows.of (vs := vals) (hr.mono hI fun b hb => hold b hb.1) (fun j u hj => ?_)
    have := hv j u hj
    simp [World.cell?, hnew, this]
end
end Go.Vm
