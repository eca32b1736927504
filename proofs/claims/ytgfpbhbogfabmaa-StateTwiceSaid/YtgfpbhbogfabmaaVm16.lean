/- make, composite slices, conversions. -/
import Derived.Test.YtgfpbhbogfabmaaVm15
import Derived.Great.BuildSlice
set_option linter.unusedVariables false
set_option linter.unusedSimpArgs false
set_option linter.unnecessarySimpa false
set_option linter.unusedSectionVars false
open Go.Lib
namespace Go.Vm
section
variable {P : Program} {K : Nat → Prop} {w0 : World} {U : Nat → Prop} {s : List TV} {a : Act} {w : World} {η : Stamp → Value} {N : Nat}

theorem repVs_replicate {I : Nat → Prop} {z : Nat} {r : List TV} {vs : List Value} (hz : r.length = z) (hr : RepPs I w r vs) : ∀ n : Nat, RepVs I w z (List.replicate n r) ((List.replicate n vs).flatten)
  | 0 => rfl
  | n + 1 => ⟨vs, _, by simp [List.replicate_succ], hz, hr, repVs_replicate hz hr n⟩

theorem flatten_get {vs : List Value} (hz : 0 < vs.length) : ∀ (n j : Nat), j < n * vs.length → ((List.replicate n vs).flatten)[j]? = vs[j % vs.length]?
  | 0, j, h => by simp at h
  | n + 1, j, h => by
    rw [List.replicate_succ, List.flatten_cons]
    by_cases hj : j < vs.length
    · rw [List.getElem?_append_left hj, Nat.mod_eq_of_lt hj]
    · have h' : j < n * vs.length + vs.length := by rw [Nat.add_mul, Nat.one_mul] at h; exact h
      rw [List.getElem?_append_right (by omega), flatten_get hz n _ (by omega), ← Nat.mod_eq_sub_mod (by omega)]

theorem isZero_lent : ∀ {cs : List TV} {vs : List Value}, isZero cs vs = true → ∀ t ∈ cs, lentOne t = []
  | [], _, _, t, ht => by cases ht
  | c :: cs, [], h, t, ht => by cases c <;> simp [isZero] at h
  | c :: cs, v :: vs, h, t, ht => by
    have key : lentOne c = [] ∧ isZero cs vs = true := by
      unfold isZero at h
      split at h <;> simp_all [lentOne]
    rcases List.mem_cons.1 ht with rfl | ht
    · exact key.1
    · exact isZero_lent key.2 t ht
theorem wrap_in {x : Int} (h1 : -9223372036854775808 ≤ x) (h2 : x ≤ 9223372036854775807) : IntKind.i64.wrap x = x := by
  unfold IntKind.wrap IntKind.bits IntKind.signed
  simp only [Bool.true_and, decide_eq_true_eq]
  have e : (2 : Int) ^ 64 = 18446744073709551616 := by decide
  have e' : (2 : Int) ^ (64 - 1) = 9223372036854775808 := by decide
  rw [e, e']
  split <;> omega
theorem getBang {α : Type} [Inhabited α] (xs : Array α) (i : Nat) (h : i < xs.size) : xs[i]! = xs[i] := getElem!_pos xs i h

variable (call : FuncId → List TV → Option TV) (rs : List Nat) (n : Nat)
section
variable (h : Sim K w0 U (get s) (vsOf a) w η) (hn : ¬ U n) (hd : a.defers = []) (hN : a.tmps.size = N) {o : Oper} (hdst : ∀ x, o.dst = some x → x < N) {r : TV × List Cmd}
  (hs : (aOp P call rs n o).eval s = some r)
include h hn hd hN hdst hs

theorem makeSlice_ok {T : TypeId} {l c : Operand} (ho : o.op = .makeSlice T l c) : Shows P K w0 N (addU U n) s o r a w := by
  simp only [aOp, ho, LK.eval_bind, LK.eval_ofOption, LK.eval_pure, Option.bind_eq_some_iff, Option.some.injEq] at hs
  obtain ⟨e, he, zc, hzc, _, hg, tc, htc, ic, hic, c', hc', tl, htl, il, hil, l', hl', _, hroom, row, hrow, rfl⟩ := hs
  have hg := LK.sure_some.1 hg
  have hroom := LK.guard_some.1 hroom
  simp only [decide_eq_true_eq, roomy] at hg hroom
  have hu := elemT_und he
  obtain ⟨i, zv, hi, hz, hz1, hz2⟩ := zeroT_spec hzc
  have hsz : i.size = szT P e := by simp [szT, hi]
  have hby : i.bytes = bytesT P e := by simp [bytesT, hi]
  obtain ⟨kc, rfl⟩ := intV_eq hic
  obtain ⟨kl, rfl⟩ := intV_eq hil
  have hrc := (ev_rep h htc).1
  have hrl := (ev_rep h htl).1
  simp only [Rep, RepP] at hrc hrl
  obtain ⟨c0, c1, rfl⟩ := natIn_eq hc'
  obtain ⟨l0, l1, rfl⟩ := natIn_eq hl'
  have hzr := isZero_rep (η := η) (I := Imm η (get s) w) (w := w) (U := U) hz1
  have hzs : zv.cells.size = szT P e := by have := isZero_len hz1; simp at this; omega
  have hlr := isZero_lent hz1
  have hrowr := resAll_rep h hrow hzr.1 (k := []) (by rw [List.flatMap_eq_nil_iff.2 hlr]; exact ⟨rfl, fun c hc => by cases hc⟩)
  simp only [List.foldl_nil] at hrowr
  have hrl' := hrowr.len
  have hrz : row.length = szT P e := by rw [← hrl']; simpa using hzs
  have c1' : ic ≤ 140737488355328 := by simpa using c1
  have l1' : il ≤ ic := by have : ((ic.toNat : Nat) : Int) = ic := Int.toNat_of_nonneg c0; rw [this] at l1; exact l1
  have hwc : IntKind.i64.wrap ic = ic := wrap_in (by omega) (by omega)
  have hwl : IntKind.i64.wrap il = il := wrap_in (by omega) (by omega)
  have hbb : (bytesT P e : Int) * ic ≤ 140737488355328 := by
    have h2 : ((ic.toNat * bytesT P e : Nat) : Int) ≤ ((140737488355328 : Nat) : Int) := Int.ofNat_le.2 hroom.1
    rw [Int.natCast_mul, Int.toNat_of_nonneg c0] at h2
    rw [Int.mul_comm]; exact h2
  generalize hcur : (Array.range (ic.toNat * szT P e)).map (fun x => zv.cells[x % zv.cells.size]!) = cur
  have hcs : cur.size = ic.toNat * szT P e := by rw [← hcur]; simp
  obtain ⟨η', hsim⟩ := newOwn_sim (n := n) h hn (x := none) (tx := .undef) (d := o.dst) (e := e) (z := szT P e) (xs := List.replicate il.toNat row) (vals := (List.replicate il.toNat zv.cells.toList).flatten) (cur := cur) (lo := 0) (hi := 0) (cap := ic.toNat)
    (w' := w.alloc (.cells cur e)) (f' := get (after s o.dst (.own (n, 0) e (szT P e) (List.replicate il.toNat row), []))) (fun i => by rw [after_get]; simp) (fun _ hx => by cases hx) (kept_alloc _ _ fun b hb => hb) (by simp) (heap_alloc_new w _)
    (by simp; omega) (by omega) (by rw [hcs]; exact Nat.le_refl _) (fun _ _ => by omega) (repVs_replicate hrz hrowr _) (fun j u hj => by
      have hzl : zv.cells.toList.length = szT P e := by simpa using hzs
      have hjl := (List.getElem?_eq_some_iff.1 hj).1
      have hjl' : j < il.toNat * szT P e := by simpa [hzs] using hjl
      have hjc : j < ic.toNat * szT P e := Nat.lt_of_lt_of_le hjl' (Nat.mul_le_mul_right _ (by omega))
      rw [flatten_get (by rw [hzl]; exact hg.1) _ _ (by rw [hzl]; exact hjl')] at hj
      rw [← hcur]
      simp only [Array.getElem?_map, Array.getElem?_range, hjc, if_true, Option.map_some]
      rw [hzl] at hj
      have hmod : j % szT P e < zv.cells.size := by rw [hzs]; exact Nat.mod_lt _ hg.1
      rw [Array.getElem?_toList, Array.getElem?_eq_getElem hmod] at hj
      simp only [hzs]
      rw [getBang _ _ hmod]
      exact hj)
  have hxl : (List.replicate il.toNat row).length = il.toNat := by simp
  rw [hxl] at hsim
  refine Shows.value hd hN hdst ?_ ⟨η', hsim⟩
  have hms : (Instr.makeSlice T (.int kl il) (.int kc ic)).run P w = .ok (.slice (some ⟨w.heap.size, 0, none⟩) il.toNat ic.toNat) (w.alloc (.cells cur e)) := by
    have t1 : ¬ (ic < 0) := by omega
    have t2 : ¬ (il < 0) := by omega
    have t3 : ¬ (ic < il) := by omega
    have t4 : ¬ (281474976710656 < (bytesT P e : Int) * ic) := by omega
    by_cases hn0 : ic.toNat * szT P e = 0
    · have hce : cur = #[] := Array.eq_empty_of_size_eq_zero (by rw [hcs]; exact hn0)
      subst hce
      simp [Instr.makeSlice, run_underlying hu, asInt, asIntOf, typeInfo, hi, hwc, hwl, hby, sizeOf, hsz, hn0, newRow, t1, t2, t3, t4]
      have hem : Array.map (fun _ => (default : Value)) (Array.range 0) = #[] := Array.eq_empty_of_size_eq_zero (by simp)
      rw [hem]
    · simp [Instr.makeSlice, run_underlying hu, asInt, asIntOf, typeInfo, hi, hwc, hwl, hby, sizeOf, hsz, hn0, newRow, t1, t2, t3, t4, zeroValue, hz, hcur]
  simp only [execOp, ho, hrc, hrl, Sem.run_bind, hms, Result.andThen_ok, Sem.run_pure]

theorem convert_ok {src dst : TypeId} {x : Operand} (ho : o.op = .convert src dst x) : Shows P K w0 N (addU U n) s o r a w := by
  simp only [aOp, ho, LK.eval_bind, Option.bind_eq_some_iff] at hs
  obtain ⟨t, ht, hs⟩ := hs
  have hr := ev_rep h ht
  split at hs
  · rename_i p c g e z off len
    split at hs
    · rename_i e' hu1 hu2
      simp only [LK.eval_bind, LK.eval_optT, LK.eval_pure, Option.bind_eq_some_iff, Option.map_eq_some_iff, Option.some.injEq] at hs
      obtain ⟨_, hg, xs, hxs, _, ⟨bs, hbs, rfl⟩, rfl⟩ := hs
      have hg := LK.sure_some.1 hg
      simp only [Bool.and_eq_true, decide_eq_true_eq] at hg
      obtain ⟨hg, rfl⟩ := hg
      have he' : P.underlying e' = some (.int .u8) := by
        split at hg
        · assumption
        · cases hg
      have hct := content_rep h hxs
      have hr' := hr.1
      simp only [Rep] at hr'
      obtain ⟨A, m, cap, A', cap', b1, b2, b3, b4, b5, b6, b7⟩ := hr'
      refine Shows.quiet h hd hN hdst (v := .string ⟨bs.toArray⟩) ?_ (by simp [fpT]) (by simp [stT]) (by simp [Rep, RepP]) n
      simp only [execOp, ho, Sem.run_bind, b3, run_convert_bytes_string w src dst e' A' len cap' hu1 he' hu2]
      have hbytes : ∀ {rows : List (List TV)} {bs : List UInt8}, bytesOf? rows = some bs → ∃ ns : List Int, rows = ns.map (fun k => [.int .u8 k]) ∧ bs = ns.map fun k => UInt8.ofNat k.toNat := by
        intro rows
        induction rows with
        | nil => intro bs hb; simp only [bytesOf?, Option.some.injEq] at hb; subst hb; exact ⟨[], rfl, rfl⟩
        | cons r rows ih =>
          intro bs hb
          unfold bytesOf? at hb
          split at hb
          · rename_i h1; cases h1
          · rename_i k rest h1
            injection h1 with h1 h2
            subst h1; subst h2
            obtain ⟨bs', hb', rfl⟩ := Option.map_eq_some_iff.1 hb
            obtain ⟨ns, h3, h4⟩ := ih hb'
            exact ⟨k :: ns, by simp [h3], by simp [h4]⟩
          · cases hb
      obtain ⟨ns, hns, rfl⟩ := hbytes hbs
      have hfold : ∀ (ns : List Int) (acc : ByteArray), ns.foldl (fun r k => r.push (UInt8.ofNat k.toNat)) acc = ⟨(acc.data.toList ++ ns.map fun k => UInt8.ofNat k.toNat).toArray⟩ := by
        intro ns
        induction ns with
        | nil => intro acc; simp
        | cons k ns ih => intro acc; rw [List.foldl_cons, ih]; simp [ByteArray.push]
      rcases b7 with b7 | ⟨b, rfl, rfl⟩
      · subst b7
        simp only [List.take_zero] at hns
        have hn0 : ns = [] := by cases ns with | nil => rfl | cons k ns => simp at hns
        subst hn0
        cases A' with
        | none => simp [Conv.bytesToString]; rfl
        | some ad =>
          rw [run_bytesToString w ad 0 cap' [] (by simp [loadCells, loadCellsFrom])]
          simp only [Result.andThen_ok, Sem.run_pure, List.foldl_nil, List.map_nil]
          rfl
      · have hload : (loadCells ⟨b, off * 1, none⟩ len).run P w = .ok (ns.map (Value.int .u8)).toArray w := by
          rcases hct.1 with ⟨rfl, e0⟩ | ⟨b', cap0, cur, lo, hi, e0, e1, e2, e3, e4, e5, e6⟩
          · rw [b1] at e0; cases e0
          · rw [b1] at e0
            injection e0 with eA em _
            have : b = b' := by injection eA with eA; injection eA
            subst this
            obtain ⟨vs, v1, v2⟩ := (e6.drop off (by omega)).vals
            have v3 := v1.take len
            rw [hns] at v3
            have hvv : ∀ {ns : List Int} {vs : List Value}, RepVs (Imm η (get s) w) w 1 (ns.map fun k => [.int .u8 k]) vs → vs = ns.map (Value.int .u8) := by
              intro ns
              induction ns with
              | nil => intro vs hv; simpa [RepVs] using hv
              | cons k ns ih =>
                intro vs hv
                simp only [List.map_cons, RepVs, RepPs, RepP] at hv
                obtain ⟨u, us, rfl, _, ⟨v, vs', rfl, rfl, rfl⟩, h3⟩ := hv
                simp [ih h3]
            have hv := hvv v3
            have hlen : ns.length = len := by
              have := congrArg List.length hns
              simp at this; omega
            have := run_loadCells_list (P := P) w ⟨b, off * 1, none⟩ (ns.map (Value.int .u8)) (fun j u hj => by
              rw [cell_add]
              rw [← hv] at hj
              have hj' : vs[j]? = some u := by
                rw [List.getElem?_take] at hj; split at hj
                · exact hj
                · cases hj
              have := v2 j u hj'
              rwa [show 0 + off * 1 + j = off * 1 + j by omega] at this)
            rw [List.length_map, hlen] at this
            exact this
        rw [run_bytesToString w _ len cap' ns hload, hfold]
        simp only [Result.andThen_ok, Sem.run_pure]
        rfl
    · simp at hs
  · rename_i hnb
    simp only [LK.eval_bind, LK.eval_ofOption, eval_binK, eval_convK, LK.eval_pure, Option.bind_eq_some_iff, Option.some.injEq] at hs
    obtain ⟨u, hu, rfl⟩ := hs
    unfold conv at hu
    split at hu
    · rename_i k m
      split at hu
      · rename_i k1 k2 hu1 hu2
        cases hu
        have hr' := hr.1
        simp only [Rep, RepP] at hr'
        refine Shows.quiet h hd hN hdst (v := .int k2 (k2.wrap m)) ?_ (by simp [fpT]) (by simp [stT]) (by simp [Rep, RepP]) n
        simp [execOp, ho, convert, run_underlying hu1, run_underlying hu2, hr', Conv.intToInt]
      · cases hu
    · rename_i str
      have hr' := hr.1
      simp only [Rep, RepP] at hr'
      split at hu
      · rename_i hu1 hu2
        cases hu
        refine Shows.quiet h hd hN hdst (v := .string str) ?_ (by simp [fpT]) (by simp [stT]) (by simp [Rep, RepP]) n
        simp [execOp, ho, convert, run_underlying hu1, run_underlying hu2, hr']
      · rename_i e hu1 hu2
        split at hu
        · rename_i hu3
          split at hu
          rename_i hbg
          cases hu
          have hrun := run_convert_string_bytes (P := P) w src dst e str hu1 hu2 hu3
          have hge := grownCap_ge w str.size 0 e
          have hbs : (bytesCells w e str).size = grownCap w str.size 0 e := by
            simp only [bytesCells, Array.size_append, Array.size_map, Array.size_replicate]
            have : str.data.size = str.size := rfl
            omega
          have hxl : (rowsOf str).length = str.size := by simp [rowsOf]
          have hbig : str.size ≤ 9223372036854775807 := by omega
          · obtain ⟨η', hsim⟩ := newOwn_sim (n := n) h hn (x := none) (tx := .undef) (d := o.dst) (e := e) (z := 1) (xs := rowsOf str) (vals := str.data.toList.map fun b => .int .u8 b.toNat) (cur := bytesCells w e str)
              (lo := (bytesCells w e str).size) (hi := (bytesCells w e str).size + 1) (cap := grownCap w str.size 0 e) (w' := bytesWorld w e str) (f' := get (after s o.dst (.own (n, 0) e 1 (rowsOf str), []))) (fun i => by rw [after_get]; simp) (fun _ hx => by cases hx)
              ⟨rfl, rfl, rfl, by rw [bytesWorld_size]; omega, fun b hb => bytesWorld_at_old w e str b hb⟩ (bytesWorld_size w e str) (bytesWorld_at_new w e str) (by rw [hxl]; exact hge)
              (by have := grownCap_le_maxLen w str.size 0 e (by simpa only [maxLen] using hbig); simpa only [maxLen] using this) (by rw [hbs]; omega) (fun i hi => by rw [hbs]; omega) (rowsOf_rep _ str) (fun j u hj => by
                have hjl := (List.getElem?_eq_some_iff.1 hj).1
                unfold bytesCells
                rw [Array.getElem?_append_left (by simpa using hjl)]
                simpa using hj)
            rw [hxl] at hsim
            refine Shows.value hd hN hdst ?_ ⟨η', hsim⟩
            simp only [execOp, ho, Sem.run_bind, hr', hrun, Result.andThen_ok, Sem.run_pure]
          · cases hu
        · cases hu
      · cases hu
    · cases hu
end
end
end Go.Vm
