/- More operations that only read. -/
import Derived.Test.YtgfpbhbogfabmaaVm7
set_option linter.unusedVariables false
set_option linter.unusedSimpArgs false
set_option linter.unnecessarySimpa false
set_option linter.unusedSectionVars false
namespace Go.Vm
section
variable {P : Program} {K : Nat → Prop} {w0 : World} {U : Nat → Prop} {s : List TV} {a : Act} {w : World} {η : Stamp → Value} {N : Nat}

theorem natIn_eq {m : Int} {hi k : Nat} (h : (natIn m hi).eval s = some k) : 0 ≤ m ∧ m ≤ hi ∧ k = m.toNat := by
  unfold natIn at h
  simp only [LK.eval_ite, LK.eval_cond, LK.eval_pure, LK.eval_fail] at h
  split at h
  · rename_i hc; cases h; exact ⟨hc.1, hc.2, rfl⟩
  · cases h
theorem bound_eq (h : Sim K w0 U (get s) (vsOf a) w η) {hi dflt k : Nat} {x : Option Operand} (hb : (bound hi dflt x).eval s = some k) :
    (x = none ∧ k = dflt) ∨ ∃ o kd m, x = some o ∧ a.eval o = .int kd m ∧ 0 ≤ m ∧ m ≤ hi ∧ k = m.toNat := by
  cases x with
  | none => simp only [bound, LK.eval_pure, Option.some.injEq] at hb; exact .inl ⟨rfl, hb.symm⟩
  | some o =>
    simp only [bound, LK.eval_bind, Option.bind_eq_some_iff] at hb
    obtain ⟨t, ht, m, hm, hk⟩ := hb
    obtain ⟨kd, rfl⟩ := intV_eq hm
    have hr := (ev_rep h ht).1
    simp only [Rep, RepP] at hr
    obtain ⟨h1, h2, h3⟩ := natIn_eq hk
    exact .inr ⟨o, kd, m, rfl, hr, h1, h2, h3⟩

/-- The bounds of a slice expression: within the length. -/
theorem run_bounds (h : Sim K w0 U (get s) (vsOf a) w η) {isS : Bool} {len cap : Nat} (hlc : len ≤ cap) {lo hi mx : Option Operand} {l hh m : Nat}
    (hm : (bound len len mx).eval s = some m) (hh' : (bound m len hi).eval s = some hh) (hl : (bound hh 0 lo).eval s = some l) (hmx : mx.isSome = true → hi.isSome = true) :
    ∃ m', (Instr.sliceBounds isS len cap (lo.map a.eval) (hi.map a.eval) (mx.map a.eval)).run P w = .ok (l, hh, m') w ∧ l ≤ hh ∧ hh ≤ len ∧ hh ≤ m' ∧ m' ≤ cap := by
  have Hm := bound_eq h hm
  have Hh := bound_eq h hh'
  have Hl := bound_eq h hl
  rcases Hm with ⟨rfl, rfl⟩ | ⟨om, km, im, rfl, em, hm0, hm1, rfl⟩
  · rcases Hh with ⟨rfl, rfl⟩ | ⟨oh, kh, ih, rfl, eh, hh0, hh1, rfl⟩
    · rcases Hl with ⟨rfl, rfl⟩ | ⟨ol, kl, il, rfl, el, hl0, hl1, rfl⟩
      · exact ⟨cap, by simp [Instr.sliceBounds], by omega, by omega, by omega, by omega⟩
      · exact ⟨cap, by simp [Instr.sliceBounds, el, run_sliceBound, hl0, hl1], by omega, by omega, by omega, by omega⟩
    · have hh2 : ih ≤ (cap : Int) := by omega
      have e1 : (max ih 0 : Int) = ih := by omega
      rcases Hl with ⟨rfl, rfl⟩ | ⟨ol, kl, il, rfl, el, hl0, hl1, rfl⟩
      · exact ⟨cap, by simp [Instr.sliceBounds, eh, run_sliceBound, hh0, hh2], by omega, by omega, by omega, by omega⟩
      · have hl2 : il ≤ ((ih.toNat : Nat) : Int) := hl1
        exact ⟨cap, by
          simp only [Instr.sliceBounds, Option.map_some, Option.map_none, Sem.run_bind, Sem.run_pure, Result.andThen_ok, eh, el, run_sliceBound w kh ih cap _ hh0 hh2, run_sliceBound w kl il ih.toNat _ hl0 hl2], by omega, by omega, by omega, by omega⟩
  · rcases Hh with ⟨rfl, rfl⟩ | ⟨oh, kh, ih, rfl, eh, hh0, hh1, rfl⟩
    · simp at hmx
    · have hm2 : im ≤ (cap : Int) := by omega
      rcases Hl with ⟨rfl, rfl⟩ | ⟨ol, kl, il, rfl, el, hl0, hl1, rfl⟩
      · exact ⟨im.toNat, by
          simp only [Instr.sliceBounds, Option.map_some, Option.map_none, Sem.run_bind, Sem.run_pure, Result.andThen_ok, eh, em, run_sliceBound w km im cap _ hm0 hm2, run_sliceBound w kh ih im.toNat _ hh0 hh1], by omega, by omega, by omega, by omega⟩
      · exact ⟨im.toNat, by
          simp only [Instr.sliceBounds, Option.map_some, Option.map_none, Sem.run_bind, Sem.run_pure, Result.andThen_ok, eh, em, el, run_sliceBound w km im cap _ hm0 hm2, run_sliceBound w kh ih im.toNat _ hh0 hh1, run_sliceBound w kl il ih.toNat _ hl0 hl1], by omega, by omega, by omega, by omega⟩

variable (call : FuncId → List TV → Option TV) (rs : List Nat) (n : Nat)
section
variable (h : Sim K w0 U (get s) (vsOf a) w η) (hd : a.defers = []) (hN : a.tmps.size = N) {o : Oper} (hdst : ∀ x, o.dst = some x → x < N) {r : TV × List Cmd}
  (hs : (aOp P call rs n o).eval s = some r)
include h hd hN hdst hs

theorem fieldAddr_ok {T : TypeId} {x : Operand} {f : Nat} (ho : o.op = .fieldAddr T x f) : Shows P K w0 N (addU U n) s o r a w := by
  simp only [aOp, ho, LK.eval_bind, LK.eval_ofOption, Option.bind_eq_some_iff] at hs
  obtain ⟨⟨off, ft⟩, hf, _, hk, t, ht, hs⟩ := hs
  have hk := LK.sure_some.1 hk
  obtain ⟨fs, fx, hu, hfx, rfl, rfl⟩ := fieldT_und hf
  obtain ⟨i, hi, _⟩ := szT_info (by simpa using hk)
  have hsz : szT P fx.type ≠ 0 := by simpa using hk
  have hr := ev_rep h ht
  have run : ∀ b o', a.eval x = .pointer (some ⟨b, o', none⟩) → (execOp a.eval o).run P w = .ok (.value (.pointer (some ⟨b, o' + fx.offset, none⟩))) w := by
    intro b o' hx
    simp [execOp, ho, Instr.fieldAt, run_underlying hu, hfx, Instr.sureAddr, hx, fieldPlace, run_sizeOf hi, hsz, cell_add]
  split at hs
  · simp only [LK.eval_pure, Option.some.injEq] at hs
    subst hs
    simp only [Rep] at hr
    obtain ⟨⟨b, h1, h2⟩, h3⟩ := hr
    exact Shows.quiet h hd hN hdst (run _ _ h2) (by simp [fpT]) (by simpa [stT] using h3) (by simp only [Rep]; exact ⟨b, h1, rfl⟩) n
  · simp only [LK.eval_pure, Option.some.injEq] at hs
    subst hs
    simp only [Rep] at hr
    obtain ⟨⟨b, m, c, h1, h1', h2⟩, h3⟩ := hr
    exact Shows.quiet h hd hN hdst (run _ _ h2) (by simp [fpT]) (by simpa [stT] using h3) (by simp only [Rep]; exact ⟨b, m, c, h1, h1', by simp [Nat.add_assoc]⟩) n
  · simp only [LK.eval_pure, Option.some.injEq] at hs
    subst hs
    simp only [Rep] at hr
    obtain ⟨⟨b, o', h1, h1', h2⟩, h3⟩ := hr
    exact Shows.quiet h hd hN hdst (run _ _ h2) (by simp [fpT]) (by simp [stT]) (by simp only [Rep]; exact ⟨b, o', h1, h1', by simp [Nat.add_assoc]⟩) n
  · simp at hs

theorem field_ok {T : TypeId} {x : Operand} {f : Nat} (ho : o.op = .field T x f) : Shows P K w0 N (addU U n) s o r a w := by
  simp only [aOp, ho, LK.eval_bind, LK.eval_ofOption, Option.bind_eq_some_iff] at hs
  obtain ⟨⟨off, ft⟩, hf, _, hk, t, ht, hs⟩ := hs
  have hk := LK.sure_some.1 hk
  obtain ⟨fs, fx, hu, hfx, rfl, rfl⟩ := fieldT_und hf
  obtain ⟨⟨d, hd'⟩, ⟨i, hi⟩, _, h1⟩ := okT_spec hk
  have hr := ev_rep h ht
  have hfp := ev_fp (η := η) ht
  split at hs
  · simp only [LK.eval_bind, LK.eval_pure, Option.bind_eq_some_iff, Option.some.injEq] at hs
    obtain ⟨u, hu', rfl⟩ := hs
    simp only [Rep, stT, fpT] at hr hfp
    obtain ⟨⟨arr, h2, h3⟩, h4⟩ := hr
    have hc := cellAt_rep hu' h3 h4 h1 hfp
    refine Shows.quiet h hd hN hdst (v := if aggT P fx.type then .agg ((arr.toList.drop fx.offset).take (szT P fx.type)).toArray else ((arr.toList.drop fx.offset).take (szT P fx.type)).getD 0 undef) ?_ hc.2.2.2 hc.2.2.1 (hc.2.1 _ rfl) n
    simp only [execOp, ho, Instr.field, Sem.run_bind, run_underlying hu, Result.andThen_ok, hfx, h2, asAgg, Sem.run_pure, part, run_isAgg hd']
    cases ha : aggT P fx.type with
    | true =>
      simp only [if_true, Sem.run_bind, run_sizeOf hi, Result.andThen_ok, Sem.run_pure]
      congr 3
      apply Array.ext'
      simp [List.take_drop, Nat.add_comm]
    | false =>
      have h1' : szT P fx.type = 1 := h1 ha
      have hcl : arr.toList.length = arr.size := Array.length_toList
      have hlt : fx.offset < arr.size := by have := hc.1; omega
      simp [h1', hlt, List.getD]
  · simp at hs

theorem indexAddr_ok {T : TypeId} {x ix : Operand} (ho : o.op = .indexAddr T x ix) : Shows P K w0 N (addU U n) s o r a w := by
  simp only [aOp, ho, LK.eval_bind, LK.eval_ofOption, Option.bind_eq_some_iff] at hs
  obtain ⟨e, he, _, hk, t, ht, i, hi, t2, ht2, hs⟩ := hs
  have hk := LK.sure_some.1 hk
  have hu := elemT_und he
  obtain ⟨_, ⟨inf, hinf⟩, hz0, _⟩ := okT_spec hk
  obtain ⟨kd, rfl⟩ := intV_eq hi
  have hri := (ev_rep h ht).1
  simp only [Rep, RepP] at hri
  have hr := ev_rep h ht2
  have run : ∀ b off len cap, a.eval x = .slice (some ⟨b, off, none⟩) len cap → 0 ≤ i → i < len → (execOp a.eval o).run P w = .ok (.value (.pointer (some ⟨b, off + i.toNat * szT P e, none⟩))) w := by
    intro b off len cap hx h0 h1
    simp [execOp, ho, Instr.indexAt, hri, asIntOf, run_underlying hu, hx, h0, h1, run_sizeOf hinf, cell_add]
  split at hs
  · rename_i z xs
    simp only [LK.eval_bind, Option.bind_eq_some_iff] at hs
    obtain ⟨_, hg, hs⟩ := hs
    have hg := LK.guard_some.1 hg
    simp only [decide_eq_true_eq] at hg
    obtain ⟨rfl, h0⟩ := hg
    simp only [LK.eval_optR, Option.bind_eq_some_iff] at hs
    obtain ⟨row, hrow, hs⟩ := hs
    · simp only [LK.eval_pure, Option.some.injEq] at hs
      subst hs
      have hlt := (List.getElem?_eq_some_iff.1 hrow).1
      have hr' := hr.1
      simp only [Rep, RepP] at hr'
      obtain ⟨A, c, h1, h2, h3⟩ := hr'
      rcases h3 with rfl | ⟨b, off, rfl, hI, h4⟩
      · simp at hlt
      · have h5 := h4.drop i.toNat (by omega)
        rw [List.drop_eq_getElem_cons hlt] at h5
        simp only [RepRows] at h5
        have hrow' : xs[i.toNat] = row := by rw [List.getElem?_eq_getElem hlt] at hrow; exact Option.some.inj hrow
        rw [hrow'] at h5
        refine Shows.quiet h hd hN hdst (run _ _ _ _ h1 h0 (by omega)) (by simp [fpT]) (by simp [stT]) ?_ n
        simp only [Rep]
        exact ⟨b, _, hI, h5.2.1, by simp⟩
  · rename_i p c g e' z off len
    simp only [LK.eval_bind, LK.eval_pure, Option.bind_eq_some_iff, Option.some.injEq] at hs
    obtain ⟨_, hg, hs⟩ := hs
    have hg := LK.guard_some.1 hg
    simp only [decide_eq_true_eq] at hg
    obtain ⟨rfl, h0, h1⟩ := hg
    subst hs
    have hr' := hr.1
    simp only [Rep] at hr'
    obtain ⟨A, m, cap, A', cap', h2, h3, h4, h5, h6, h7, h8⟩ := hr'
    rcases h8 with h8 | ⟨b, rfl, rfl⟩
    · omega
    · refine Shows.quiet h hd hN hdst (run _ _ _ _ h4 h0 (by omega)) (by simp [fpT]) (by simpa [stT] using hr.2) ?_ n
      simp only [Rep]
      exact ⟨b, m, cap, h2, by omega, by simp [Nat.add_mul]⟩
  · simp at hs

theorem index_ok {T : TypeId} {x ix : Operand} (ho : o.op = .index T x ix) : Shows P K w0 N (addU U n) s o r a w := by
  simp only [aOp, ho, LK.eval_bind, Option.bind_eq_some_iff] at hs
  obtain ⟨t, ht, i, hi, t2, ht2, hs⟩ := hs
  obtain ⟨kd, rfl⟩ := intV_eq hi
  have hri := (ev_rep h ht).1
  simp only [Rep, RepP] at hri
  have hr := ev_rep h ht2
  split at hs
  · rename_i str
    simp only [LK.eval_bind, Option.bind_eq_some_iff] at hs
    obtain ⟨_, hk0, _, hg, hs⟩ := hs
    have hu := strT_und (LK.sure_some.1 hk0)
    have hg := LK.guard_some.1 hg
    simp only [decide_eq_true_eq] at hg
    simp only [LK.eval_optT, LK.eval_pure, Option.bind_eq_some_iff, Option.map_eq_some_iff, Option.some.injEq] at hs
    obtain ⟨_, ⟨b, hb, rfl⟩, rfl⟩ := hs
    have hr' := hr.1
    simp only [Rep, RepP] at hr'
    refine Shows.quiet h hd hN hdst (v := .int .u8 b.toNat) ?_ (by simp [fpT]) (by simp [stT]) (by simp [Rep, RepP]) n
    simp [execOp, ho, Instr.index, hri, asIntOf, run_underlying hu, hr', hg, hb]
  · simp at hs

theorem slice_ok {T : TypeId} {x : Operand} {lo hi mx : Option Operand} (ho : o.op = .slice T x lo hi mx) : Shows P K w0 N (addU U n) s o r a w := by
  simp only [aOp, ho, LK.eval_bind, Option.bind_eq_some_iff] at hs
  obtain ⟨_, hgm, t, ht, hs⟩ := hs
  have hgm := LK.sure_some.1 hgm
  have hmx : mx.isSome = true → hi.isSome = true := fun h1 => by cases mx <;> simp_all
  have hr := ev_rep h ht
  split at hs
  · rename_i str
    simp only [LK.eval_bind, LK.eval_pure, Option.bind_eq_some_iff, Option.some.injEq] at hs
    obtain ⟨_, hg, hh, h1, l, h2, rfl⟩ := hs
    have hg := LK.sure_some.1 hg
    simp only [Bool.and_eq_true, Option.isNone_iff_eq_none] at hg
    obtain ⟨hT, rfl⟩ := hg
    have hu := strT_und hT
    have hr' := hr.1
    simp only [Rep, RepP] at hr'
    obtain ⟨m', hb, h3, h4, h5, h6⟩ := run_bounds (P := P) (isS := false) (cap := str.size) h (Nat.le_refl _) (mx := none) (m := str.size) (by simp [bound]) h1 h2 (by simp)
    refine Shows.quiet h hd hN hdst (v := .string (str.extract l hh)) ?_ (by simp [fpT]) (by simp [stT]) (by simp [Rep, RepP]) n
    simp only [Option.map_none] at hb
    simp [execOp, ho, Instr.sliceAt, Instr.slice, run_underlying hu, hr', hb]
  · rename_i z xs
    simp only [LK.eval_bind, LK.eval_pure, Option.bind_eq_some_iff, Option.some.injEq] at hs
    obtain ⟨_, hg, m, h0, hh, h1, l, h2, rfl⟩ := hs
    have hg := LK.sure_some.1 hg
    split at hg
    · rename_i e he
      simp only [Bool.and_eq_true, beq_iff_eq] at hg
      have hu := elemT_und he
      obtain ⟨_, ⟨inf, hinf⟩, hz0, _⟩ := okT_spec hg.2
      have hr' := hr.1
      simp only [Rep, RepP] at hr'
      obtain ⟨A, c, h3, h4, h5⟩ := hr'
      obtain ⟨m', hb, h6, h7, h8, h9⟩ := run_bounds (P := P) (isS := true) h h4 h0 h1 h2 hmx
      refine Shows.quiet h hd hN hdst (v := .slice (if m' = l then A else A.map (·.add (l * szT P e))) (hh - l) (m' - l)) ?_ (by simp [fpT]) (by simp [stT]) ?_ n
      · simp [execOp, ho, Instr.sliceAt, Instr.slice, run_underlying hu, h3, hb, run_sizeOf hinf]
      · simp only [Rep, RepP]
        have hll : (List.drop l (List.take hh xs)).length = hh - l := by simp; omega
        refine ⟨if m' = l then A else A.map (·.add (l * szT P e)), m' - l, by rw [hll], by rw [hll]; omega, ?_⟩
        · by_cases hlh : hh = l
          · left; subst hlh; simp
          · right
            rcases h5 with rfl | ⟨b, off, rfl, hI, hrows⟩
            · simp at h7; omega
            · have hml : m' ≠ l := by omega
              refine ⟨b, off + l * z, ?_, hI, ?_⟩
              · simp [hml, cell_add, hg.1]
              · exact (hrows.take hh).drop l (by simp; omega)
    · cases hg
  · rename_i p c g e z off len
    simp only [LK.eval_bind, LK.eval_pure, Option.bind_eq_some_iff, Option.some.injEq] at hs
    obtain ⟨_, hg, m, h0, hh, h1, l, h2, rfl⟩ := hs
    have hg := LK.sure_some.1 hg
    simp only [Bool.and_eq_true, beq_iff_eq] at hg
    have hu := elemT_und hg.1.1
    obtain ⟨_, ⟨inf, hinf⟩, hz0, _⟩ := okT_spec hg.2
    have hr' := hr.1
    simp only [Rep] at hr'
    obtain ⟨A, k, cap, A', cap', h3, h4, h5, h6, h7, h8, h9⟩ := hr'
    obtain ⟨m', hb, h10, h11, h12, h13⟩ := run_bounds (P := P) (isS := true) h h6 h0 h1 h2 hmx
    refine Shows.quiet h hd hN hdst (v := .slice (if m' = l then A' else A'.map (·.add (l * szT P e))) (hh - l) (m' - l)) ?_ (by simp [fpT]) (by simpa [stT] using hr.2) ?_ n
    · simp [execOp, ho, Instr.sliceAt, Instr.slice, run_underlying hu, h5, hb, run_sizeOf hinf]
    · simp only [Rep]
      refine ⟨A, k, cap, _, _, h3, by omega, rfl, by omega, by omega, fun h14 => ?_, ?_⟩
      · have e1 : off = 0 := by omega
        have e2 : l = 0 := by omega
        subst e2
        rw [h8 e1]
        split
        · rfl
        · cases A with
          | none => rfl
          | some ad => simp [Addr.add]
      · by_cases hlh : hh = l
        · left; omega
        · right
          rcases h9 with h9 | ⟨b, rfl, rfl⟩
          · omega
          · have hml : m' ≠ l := by omega
            exact ⟨b, rfl, by simp [hml, cell_add, hg.1.2, Nat.add_mul]⟩
  · simp at hs
end
end
end Go.Vm
