/- Guards, regions in the order of the text, regions that draw their order. -/
import Derived.Test.YtgfpbhbogfabmaaVm18
import Derived.Orders
set_option linter.unusedVariables false
set_option linter.unusedSimpArgs false
set_option linter.unnecessarySimpa false
set_option linter.unusedSectionVars false
namespace Go.Vm

/-! ### A look depends on what it logs -/
theorem LK.same {α : Type} {s s' : List TV} : ∀ {k : LK α} {r : α}, k.eval s = some r → (∀ x ∈ k.log s, get s x = get s' x) → k.eval s' = some r
  | .ret a, r, h, _ => h
  | .look i k, r, h, hl => by
    simp only [LK.eval, LK.log, List.mem_cons, forall_eq_or_imp] at h hl ⊢
    rw [← hl.1]
    exact LK.same h hl.2
  | .ite c a b, r, h, hl => by
    simp only [LK.eval, LK.log] at h hl ⊢
    cases c
    · exact LK.same (k := b) h hl
    · exact LK.same (k := a) h hl
  | .optR o k, r, h, hl => by
    cases o with
    | none => cases h
    | some x => exact LK.same (k := k x) h hl
  | .optT o k, r, h, hl => by
    cases o with
    | none => cases h
    | some x => exact LK.same (k := k x) h hl
  | .fail, _, h, _ => by cases h

theorem app_far {c : Cmd} {s : List TV} {p : Nat} (h : c.slot ≠ p) : get (c.app s) p = get s p := by
  cases c <;> simp only [Cmd.slot] at h <;> simp [Cmd.app, get_put, h]
theorem app_near {c : Cmd} {s s' : List TV} {p : Nat} (h : get s p = get s' p) : get (c.app s) p = get (c.app s') p := by
  cases c <;> simp only [Cmd.app, get_put]
  · split
    · rename_i e; subst e; rw [h]
    · exact h
  · split
    · rename_i e; subst e; rw [h]
    · exact h
  · split
    · rfl
    · exact h
theorem apps_far : ∀ {k : List Cmd} {s : List TV} {p : Nat}, p ∉ k.map Cmd.slot → get (k.foldl Cmd.app s) p = get s p
  | [], _, _, _ => rfl
  | c :: k, s, p, h => by
    simp only [List.map_cons, List.mem_cons, not_or] at h
    rw [List.foldl_cons, apps_far h.2, app_far (Ne.symm h.1)]
theorem apps_near : ∀ {k : List Cmd} {s s' : List TV} {p : Nat}, get s p = get s' p → get (k.foldl Cmd.app s) p = get (k.foldl Cmd.app s') p
  | [], _, _, _, h => h
  | c :: k, s, s', p, h => by rw [List.foldl_cons, List.foldl_cons]; exact apps_near (app_near h)
def wrOf (d : Option Nat) (r : TV × List Cmd) : List Nat := d.toList ++ r.2.map Cmd.slot
theorem after_far {s : List TV} {d : Option Nat} {r : TV × List Cmd} {p : Nat} (h : p ∉ wrOf d r) : get (after s d r) p = get s p := by
  unfold wrOf at h
  simp only [List.mem_append, not_or] at h
  rw [after_get, if_neg (by intro e; subst e; simp at h), apps_far h.2]
theorem after_near {s s' : List TV} {d : Option Nat} {r : TV × List Cmd} {p : Nat} (h : get s p = get s' p) : get (after s d r) p = get (after s' d r) p := by
  rw [after_get, after_get]
  split
  · rfl
  · exact apps_near h

section
variable {P : Program} {K : Nat → Prop} {w0 : World} {U U' : Nat → Prop} {s s' : List TV} {a : Act} {w : World} {η : Stamp → Value} {N : Nat}

theorem Good.mono (h : Good P K w0 N U s a w) (hU : ∀ m, U m → U' m) : Good P K w0 N U' s a w :=
  ⟨h.defers, h.size, by
    obtain ⟨η, hs⟩ := h.sim
    exact ⟨η, hs.kept, hs.klt, fun i => stT.mono hU _ (hs.st i), hs.fpK, hs.nd, hs.dj, hs.rep, hU 0 hs.u0, hs.rz, hs.rK⟩⟩
theorem Good.congr (h : Good P K w0 N U s a w) (hs : ∀ i, get s i = get s' i) : Good P K w0 N U s' a w :=
  ⟨h.defers, h.size, by
    obtain ⟨η, hm⟩ := h.sim
    have : get s = get s' := funext hs
    exact ⟨η, this ▸ hm⟩⟩
theorem Good.drew (h : Good P K w0 N U s a w) (k : Nat) : Good P K w0 N U s a { w with drawn := k } := by
  obtain ⟨η, hs⟩ := h.sim
  refine ⟨h.defers, h.size, η, ⟨hs.kept.os, hs.kept.tape, hs.kept.output, hs.kept.size, hs.kept.block⟩, hs.klt, hs.st, hs.fpK, hs.nd, hs.dj, fun i => ?_, hs.u0, hs.rz, hs.rK⟩
  exact Rep.mono (U := fun _ => True) (η := η) (η' := η) (I := Imm η (get s) w) (I' := Imm η (get s) { w with drawn := k }) (w := w) (w' := { w with drawn := k }) (fun _ _ => rfl) (fun b hb => hb) (fun _ _ => rfl) _ _ (stT.mono (fun _ _ => trivial) _ (hs.st i)) (fun _ _ => rfl) (hs.rep i)

variable (call : FuncId → List TV → Option TV) (rs : List Nat)

theorem wanted_ok (h : Good P K w0 N U s a w) (ops : Array Oper) {o : Oper} {b : Bool} (hs : (wantedK ops o).eval s = some b) : Region.wanted o (yielded ops a.tmps) = b := by
  unfold wantedK at hs
  unfold Region.wanted
  split at hs
  · rename_i hg
    simp only [LK.eval, Option.some.injEq] at hs
    simp [hg, hs]
  · rename_i j want hg
    simp only [hg]
    unfold yielded
    split at hs
    · rename_i d hd
      simp only [LK.eval] at hs
      rw [hd]
      obtain ⟨η, hm⟩ := h.sim
      have hr := hm.rep d
      unfold vsOf at hr
      split at hs
      · rename_i b' hb
        simp only [LK.eval, Option.some.injEq] at hs
        rw [hb] at hr
        simp only [Rep, RepP] at hr
        have : a.tmps[d]? = some (.bool b') := by
          cases ht : a.tmps[d]? with
          | none =>
            have : d ≥ a.tmps.size := by simpa using ht
            rw [Array.getD_eq_getD_getElem?, ht] at hr
            simp [undef] at hr
          | some v => rw [Array.getD_eq_getD_getElem?, ht] at hr; simpa using hr
        simp only [this, ← hs, Option.bind_some]
        cases b' <;> cases want <;> simp
      · rename_i hb
        simp only [LK.eval, Option.some.injEq] at hs
        rw [hb] at hr
        simp only [Rep, RepVals] at hr
        obtain ⟨arr, h1, h2⟩ := hr
        subst hs
        cases ht : a.tmps[d]? with
        | none => simp [ht]
        | some v =>
          rw [Array.getD_eq_getD_getElem?, ht] at h1
          simp at h1
          subst h1
          simp [ht]
      · cases hs
    · rename_i hd
      simp only [LK.eval, Option.some.injEq] at hs
      subst hs
      rw [hd]
      rfl

theorem gOp_ok (hcall : CallsOk P call) (h : Good P K w0 N U s a w) {ops : Array Oper} {n : Nat} (hn : ¬ U n) {o : Oper} (hdst : ∀ x, o.dst = some x → x < N) {r : TV × List Cmd}
    (hs : (gOp P call rs ops n o).eval s = some r) {next : Act → World → Prop} {Q : Exit → Act → World → Prop} {B : Prop}
    (hnext : ∀ a' w', Good P K w0 N (addU U n) (after s o.dst r) a' w' → next a' w') :
    if Region.wanted o (yielded ops a.tmps) then o.wp P a w next Q ∨ B else next (a.put o.dst undef) w := by
  simp only [gOp_eval, gOp_log, gOp0, LK.eval_bind, LK.eval_iteB, Option.bind_eq_some_iff] at hs
  obtain ⟨b, hb, hs⟩ := hs
  rw [wanted_ok h ops hb]
  cases b
  · simp only [Bool.false_eq_true, if_false] at hs ⊢
    simp only [LK.eval_pure, Option.some.injEq] at hs
    subst hs
    obtain ⟨η, hm⟩ := h.sim
    refine hnext _ _ ⟨by rw [put_defers, h.defers], by rw [put_size, h.size], η, ?_⟩
    have hvv : vsOf (a.put o.dst undef) = fun i => if o.dst = some i then undef else vsOf a i := funext fun i => vsOf_put a o.dst undef i (fun x hx => h.size ▸ hdst x hx)
    rw [hvv]
    exact hm.quiet (fun _ h => .inl h) o.dst (by simp [fpT, fpL]) (by simp [stT, stL]) (by simp [Rep, RepVals, undef]) (by simp [stT, stL])
  · simp only [if_true] at hs ⊢
    obtain ⟨η, hm⟩ := h.sim
    exact .inl (aOp_shows call rs n hm hn h.defers h.size hdst hs hcall _ _ hnext)

/-- The operations in the order of the text. -/
theorem opsFrom_ok (hcall : CallsOk P call) {ops : Array Oper} {Q : Exit → Act → World → Prop} : ∀ (l : List Oper) (n : Nat) (s : List TV) (a : Act) (w : World) (s' : List TV),
    opsFrom P call rs ops n l s = some s' → Good P K w0 N (fun m => m < n) s a w → (∀ o ∈ l, ∀ x, o.dst = some x → x < N) →
    (∀ a' w', Good P K w0 N (fun m => m < n + l.length) s' a' w' → Q .normal a' w') → wpList P ops Q l a w
  | [], n, s, a, w, s', h, hg, _, hQ => by
    simp only [opsFrom, Option.some.injEq] at h
    subst h
    exact hQ _ _ hg
  | o :: l, n, s, a, w, s', h, hg, hd, hQ => by
    simp only [opsFrom] at h
    split at h
    · rename_i r hr
      unfold wpList
      refine gOp_ok call rs hcall hg (n := n) (by simp) (hd o (by simp)) hr fun a' w' hg' => ?_
      refine opsFrom_ok hcall l (n + 1) _ a' w' s' h (hg'.mono fun m hm => ?_) (fun o' ho' => hd o' (List.mem_cons_of_mem _ ho')) fun a2 w2 h2 => hQ a2 w2 (h2.mono fun m hm => ?_)
      · rcases hm with hm | hm <;> omega
      · simp only [List.length_cons]; omega
    · cases h

/-! ### Any order -/
theorem opsLog_spec {ops : Array Oper} : ∀ (l : List Oper) (n : Nat) (s s' : List TV) (rw : List RW), opsLog P call rs ops n l s = some (s', rw) →
    ∃ (st : Nat → List TV) (rr : Nat → TV × List Cmd), st 0 = s ∧ st l.length = s' ∧ rw.length = l.length ∧
      ∀ i o, l[i]? = some o → (gOp P call rs ops (n + i) o).eval (st i) = some (rr i) ∧ st (i + 1) = after (st i) o.dst (rr i) ∧
        rw[i]? = some (rwOf o.dst (rr i) ((gOp P call rs ops (n + i) o).log (st i)))
  | [], n, s, s', rw, h => by
    simp only [opsLog, Option.some.injEq, Prod.mk.injEq] at h
    obtain ⟨rfl, rfl⟩ := h
    exact ⟨fun _ => s, fun _ => default, rfl, rfl, rfl, fun i o ho => by simp at ho⟩
  | o :: l, n, s, s', rw, h => by
    simp only [opsLog] at h
    split at h
    · rename_i r hr
      simp only [Option.map_eq_some_iff, Prod.mk.injEq, Prod.exists] at h
      obtain ⟨s2, rw2, h2, rfl, rfl⟩ := h
      obtain ⟨st, rr, e0, e1, e2, e3⟩ := opsLog_spec l (n + 1) _ _ _ h2
      refine ⟨fun i => match i with | 0 => s | i + 1 => st i, fun i => match i with | 0 => r | i + 1 => rr i, rfl, e1, by simp [e2], fun i o' ho' => ?_⟩
      cases i with
      | zero =>
        simp at ho'
        subst ho'
        exact ⟨hr, e0, rfl⟩
      | succ i =>
        have := e3 i o' (by simpa using ho')
        rw [show n + 1 + i = n + (i + 1) by omega] at this
        exact ⟨this.1, this.2.1, by simpa using this.2.2⟩
    · cases h

theorem edgesOk_spec : ∀ (l : List Oper) (n : Nat), edgesOk n l = true → ∀ i o, l[i]? = some o → ∀ e ∈ o.after.toList, Region.binds .any e = true → e.on < n + i
  | [], _, _, i, o, ho, _, _, _ => by simp at ho
  | x :: l, n, h, i, o, ho, e, he, hb => by
    simp only [edgesOk, Bool.and_eq_true, List.all_eq_true] at h
    cases i with
    | zero =>
      simp at ho
      subst ho
      have := h.1 e he
      simp [hb] at this
      omega
    | succ i =>
      have := edgesOk_spec l (n + 1) h.2 i o (by simpa using ho) e he hb
      omega

/-- What waits has those done that it waits for. -/
def Closed (ops : List Oper) (E : Nat → Prop) : Prop := ∀ i o, ops[i]? = some o → E i → ∀ e ∈ o.after.toList, Region.binds .any e = true → E e.on
theorem befMask_spec {acc : List Nat} {E : Nat → Prop} (hacc : ∀ k m, acc[k]? = some m → E k → ∀ t, m.testBit t = true → E t) {o : Oper}
    (ho : ∀ e ∈ o.after.toList, Region.binds .any e = true → E e.on) : ∀ t, (befMask acc o).testBit t = true → E t := by
  unfold befMask
  generalize o.after.toList = l at ho
  induction l with
  | nil => intro t ht; simp at ht
  | cons e l ih =>
    intro t ht
    rw [List.foldr_cons] at ht
    have ih := ih fun e' he' => ho e' (List.mem_cons_of_mem _ he')
    split at ht
    · rename_i hb
      have hE := ho e (by simp) hb
      rw [Nat.testBit_or, Bool.or_eq_true, Nat.testBit_or, Bool.or_eq_true] at ht
      rcases ht with (ht | ht) | ht
      · rw [Nat.testBit_two_pow] at ht
        have := of_decide_eq_true ht
        rw [← this]; exact hE
      · rw [List.getD_eq_getElem?_getD] at ht
        cases ha : acc[e.on]? with
        | none => rw [ha] at ht; simp at ht
        | some m => rw [ha] at ht; exact hacc _ _ ha hE t ht
      · exact ih t ht
    · exact ih t ht
theorem befL_spec {E : Nat → Prop} : ∀ (l : List Oper) (acc : List Nat) (hacc : ∀ k m, acc[k]? = some m → E k → ∀ t, m.testBit t = true → E t)
    (hl : ∀ i o, l[i]? = some o → E (acc.length + i) → ∀ e ∈ o.after.toList, Region.binds .any e = true → E e.on),
    ∀ k m, (befL acc l)[k]? = some m → E k → ∀ t, m.testBit t = true → E t
  | [], acc, hacc, _ => hacc
  | o :: l, acc, hacc, hl => by
    unfold befL
    refine befL_spec l _ (fun k m hk hE => ?_) (fun i o' ho' hE => hl (i + 1) o' (by simpa using ho') (by simp at hE; rwa [show acc.length + (i + 1) = acc.length + 1 + i by omega]))
    rw [List.getElem?_append] at hk
    split at hk
    · exact hacc k m hk hE
    · rename_i hlt
      have : k = acc.length := by
        have := (List.getElem?_eq_some_iff.1 hk).1
        simp at this
        omega
      subst this
      simp at hk
      subst hk
      exact befMask_spec hacc (hl 0 o (by simp) (by simpa using hE))

theorem cnt_set : ∀ (l : List Bool) (i : Nat), l[i]? = some false → ((l.set i true).filter (!·)).length + 1 = (l.filter (!·)).length
  | [], _, h => by simp at h
  | b :: l, 0, h => by simp at h; subst h; simp
  | b :: l, i + 1, h => by
    have := cnt_set l i (by simpa using h)
    cases b <;> simp [this]

theorem apart_spec {x y : List Nat} (h : apartL x y = true) {t : Nat} (ht : t ∈ x) (hy : t ∈ y) : False := by
  simp only [apartL, List.all_eq_true] at h
  have := h t ht
  simp [hy] at this

section any
variable {P : Program} {K : Nat → Prop} {w0 : World} {N : Nat} (call : FuncId → List TV → Option TV) (rs : List Nat)

theorem any_ok (hcall : CallsOk P call) {ops : Array Oper} {base : Nat} {Q : Exit → Act → World → Prop} {st : Nat → List TV} {rr : Nat → TV × List Cmd}
    (hd : ∀ o ∈ ops.toList, ∀ x, o.dst = some x → x < N)
    (hst : ∀ i o, ops[i]? = some o → (gOp P call rs ops (base + i) o).eval (st i) = some (rr i) ∧ st (i + 1) = after (st i) o.dst (rr i))
    (hedge : ∀ i o, ops[i]? = some o → ∀ e ∈ o.after.toList, Region.binds .any e = true → e.on < i)
    {b : List Nat} (hb : ∀ E : Nat → Prop, Closed ops.toList E → ∀ k m, b[k]? = some m → E k → ∀ t, m.testBit t = true → E t) (hbl : b.length = ops.size)
    (hfree : ∀ i j oi oj m, i < j → ops[i]? = some oi → ops[j]? = some oj → b[j]? = some m → m.testBit i = false →
      apartL (wrOf oi.dst (rr i)) (wrOf oj.dst (rr j)) = true ∧ apartL (wrOf oi.dst (rr i)) ((gOp P call rs ops (base + j) oj).log (st j)) = true ∧ apartL (wrOf oj.dst (rr j)) ((gOp P call rs ops (base + i) oi).log (st i)) = true)
    (hQ : ∀ a' w', Good P K w0 N (fun m => m < base + ops.size) (st ops.size) a' w' → Q .normal a' w') :
    ∀ (fuel : Nat) (listed : Array Bool) (s : List TV) (a : Act) (w : World), listed.size = ops.size → (listed.toList.filter (!·)).length ≤ fuel →
      Closed ops.toList (fun i => listed[i]? = some true) →
      (∀ x k, (∀ i o, i < k → ops[i]? = some o → x ∈ wrOf o.dst (rr i) → listed[i]? = some true) → (∀ i o, k ≤ i → ops[i]? = some o → x ∈ wrOf o.dst (rr i) → listed[i]? ≠ some true) → k ≤ ops.size → get s x = get (st k) x) →
      Good P K w0 N (fun m => m < base ∨ ∃ i, m = base + i ∧ listed[i]? = some true) s a w → wpAny P .any ops Q fuel listed a w := by
  have hready : ∀ (listed : Array Bool), listed.size = ops.size → Region.ready .any ops listed = [] → ∀ i, i < ops.size → listed[i]? = some true := by
    intro listed hsz hr i
    induction i using Nat.strongRecOn with
    | _ i ih =>
      intro hi
      have hx : i ∉ Region.ready .any ops listed := by rw [hr]; simp
      rw [Region.ready, List.mem_filter] at hx
      simp only [List.mem_range, hi, true_and, Bool.and_eq_true, not_and] at hx
      have hoi : ops[i]? = some ops[i] := by simp [hi]
      have hli : listed[i]? = some (listed[i]'(by omega)) := by simp [hsz, hi]
      cases hv : listed[i]'(by omega) with
      | true => rw [hli, hv]
      | false =>
        exfalso
        rw [hv] at hli
        refine hx (by simp [Array.getD_eq_getD_getElem?, hli]) ?_
        rw [hoi]
        simp only [Option.map_some, Option.getD_some, Array.all_eq_true']
        intro e he
        rw [Bool.or_eq_true]
        cases hbd : Region.binds .any e with
        | false => exact .inl rfl
        | true =>
          have hlt := hedge i _ hoi e (by simpa using he) hbd
          right
          rw [Array.getD_eq_getD_getElem?, ih e.on hlt (by omega)]
          rfl
  have hmem : ∀ (listed : Array Bool) (i : Nat), listed.size = ops.size → i ∈ Region.ready .any ops listed →
      ∃ o, ops[i]? = some o ∧ listed[i]? = some false ∧ ∀ e ∈ o.after.toList, Region.binds .any e = true → listed[e.on]? = some true := by
    intro listed i hsz hi
    rw [Region.ready, List.mem_filter] at hi
    simp only [List.mem_range, Bool.and_eq_true] at hi
    obtain ⟨h1, h2, h3⟩ := hi
    refine ⟨ops[i], by simp [h1], ?_, ?_⟩
    · rw [Array.getD_eq_getD_getElem?] at h2
      cases hl : listed[i]? with
      | none => simp [hl] at h2
      | some v => simp [hl] at h2; rw [h2]
    · intro e he hbd
      rw [show ops[i]? = some ops[i] by simp [h1]] at h3
      simp only [Option.map_some, Option.getD_some, Array.all_eq_true'] at h3
      have := h3 e (by simpa using he)
      rw [hbd] at this
      simp only [Bool.not_true, Bool.false_or] at this
      rw [Array.getD_eq_getD_getElem?] at this
      cases hl : listed[e.on]? with
      | none => simp [hl] at this
      | some v => simp [hl] at this; rw [this]
  have hend : ∀ (listed : Array Bool) (s : List TV) (a : Act) (w : World), listed.size = ops.size → Region.ready .any ops listed = [] →
      (∀ x k, (∀ i o, i < k → ops[i]? = some o → x ∈ wrOf o.dst (rr i) → listed[i]? = some true) → (∀ i o, k ≤ i → ops[i]? = some o → x ∈ wrOf o.dst (rr i) → listed[i]? ≠ some true) → k ≤ ops.size → get s x = get (st k) x) →
      Good P K w0 N (fun m => m < base ∨ ∃ i, m = base + i ∧ listed[i]? = some true) s a w → Q .normal a w := by
    intro listed s a w hsz hr hinv hg
    refine hQ a w ((hg.mono fun m hm => ?_).congr fun x => ?_)
    · rcases hm with hm | ⟨i, rfl, hi⟩
      · omega
      · have := (Array.getElem?_eq_some_iff.1 hi).1
        omega
    · refine hinv x ops.size (fun i o hi _ _ => hready listed hsz hr i hi) (fun i o hi ho _ => ?_) (Nat.le_refl _)
      have := (Array.getElem?_eq_some_iff.1 ho).1
      omega
  intro fuel
  induction fuel with
  | zero =>
    intro listed s a w hsz hf hc hinv hg
    have hr : Region.ready .any ops listed = [] := by
      rw [List.eq_nil_iff_forall_not_mem]
      intro i hi
      obtain ⟨o, _, h2, _⟩ := hmem listed i hsz hi
      have := cnt_set listed.toList i (by simpa using h2)
      omega
    exact ⟨hr, hend listed s a w hsz hr hinv hg⟩
  | succ fuel ih =>
    intro listed s a w hsz hf hc hinv hg
    refine ⟨fun hr => hend listed s a w hsz hr hinv hg, fun i hi => ?_⟩
    obtain ⟨o, ho, hli, hes⟩ := hmem listed i hsz hi
    have hisz : i < ops.size := (Array.getElem?_eq_some_iff.1 ho).1
    -- what is written before and behind 'i' at a slot that meets 'i'
    have hbm : ∃ m, b[i]? = some m := ⟨b[i]'(by omega), by simp⟩
    obtain ⟨m, hm⟩ := hbm
    have hset : ∀ j, (listed.setIfInBounds i true)[j]? = some true ↔ (j = i ∨ listed[j]? = some true) := by
      intro j
      rw [Array.getElem?_setIfInBounds]
      by_cases hji : i = j
      · subst hji; simp [hsz, hisz]
      · simp [hji, Ne.symm hji]
    have hcl : Closed ops.toList (fun j => (listed.setIfInBounds i true)[j]? = some true) := by
      intro j oj hoj hj e he hbd
      rw [hset] at hj ⊢
      rcases hj with rfl | hj
      · have : o = oj := by rw [Array.getElem?_toList] at hoj; rw [hoj] at ho; exact (Option.some.inj ho).symm
        subst this
        exact .inr (hes e he hbd)
      · exact .inr (hc j oj hoj hj e he hbd)
    have hbits : ∀ t, m.testBit t = true → t = i ∨ listed[t]? = some true := fun t ht => (hset t).1 (hb _ hcl i m hm ((hset i).2 (.inl rfl)) t ht)
    have hbits' : ∀ t, m.testBit t = true → t ≠ i → listed[t]? = some true := fun t ht hne => (hbits t ht).resolve_left hne
    -- any slot that 'i' meets has been written by those before it and no other one
    have hmeet : ∀ x, (x ∈ wrOf o.dst (rr i) ∨ x ∈ (gOp P call rs ops (base + i) o).log (st i)) →
        (∀ j oj, j < i → ops[j]? = some oj → x ∈ wrOf oj.dst (rr j) → listed[j]? = some true) ∧ (∀ j oj, i ≤ j → ops[j]? = some oj → x ∈ wrOf oj.dst (rr j) → listed[j]? ≠ some true) := by
      intro x hx
      constructor
      · intro j oj hji hoj hxj
        cases htb : m.testBit j with
        | true => exact hbits' j htb (by omega)
        | false =>
          obtain ⟨f1, f2, f3⟩ := hfree j i oj o m hji hoj ho hm htb
          rcases hx with hx | hx
          · exact (apart_spec f1 hxj hx).elim
          · exact (apart_spec f2 hxj hx).elim
      · intro j oj hij hoj hxj hlj
        by_cases hji : j = i
        · subst hji; rw [hli] at hlj; cases hlj
        · have hjs := (Array.getElem?_eq_some_iff.1 hoj).1
          have hmj : b[j]? = some (b[j]'(by omega)) := by simp
          cases htb : (b[j]'(by omega)).testBit i with
          | true =>
            have := hb _ hc j _ hmj hlj i htb
            rw [hli] at this; cases this
          | false =>
            obtain ⟨f1, f2, f3⟩ := hfree i j o oj _ (by omega) ho hoj hmj htb
            rcases hx with hx | hx
            · exact apart_spec f1 hx hxj
            · exact apart_spec f3 hxj hx
    have hsame : ∀ x, (x ∈ wrOf o.dst (rr i) ∨ x ∈ (gOp P call rs ops (base + i) o).log (st i)) → get (st i) x = get s x := fun x hx =>
      (hinv x i (hmeet x hx).1 (hmeet x hx).2 (by omega)).symm
    obtain ⟨hev, hsn⟩ := hst i o ho
    have hev' := LK.same hev fun x hx => hsame x (.inr hx)
    have hnu : ¬ (base + i < base ∨ ∃ j, base + i = base + j ∧ listed[j]? = some true) := by
      rintro (h | ⟨j, h, h'⟩)
      · omega
      · rw [show j = i by omega, hli] at h'; cases h'
    unfold wpOp
    rw [ho]
    refine gOp_ok call rs hcall hg (n := base + i) hnu (hd o (by
      have := (Array.getElem?_eq_some_iff.1 ho).2
      rw [← this]; simp)) hev' fun a' w' hg' => ?_
    refine ih _ _ a' w' (by simpa using hsz) ?_ hcl ?_ (hg'.mono fun m hm => ?_)
    · have := cnt_set listed.toList i (by simpa using hli)
      simp only [Array.toList_setIfInBounds]
      omega
    · intro x k hlo hhi hk
      by_cases hx : x ∈ wrOf o.dst (rr i)
      · -- 'i' is the last writer of x
        have hik : i < k := by
          rcases Nat.lt_or_ge i k with h | h
          · exact h
          · exact absurd ((hset i).2 (.inl rfl)) (hhi i o h ho hx)
        have hnone : ∀ j oj, i + 1 ≤ j → j < k → ops[j]? = some oj → x ∉ wrOf oj.dst (rr j) := by
          intro j oj hij hjk hoj hxj
          have h1 := (hset j).1 (hlo j oj hjk hoj hxj)
          rcases h1 with h1 | h1
          · omega
          · exact (hmeet x (.inl hx)).2 j oj (by omega) hoj hxj h1
        have hstep : ∀ d, i + 1 + d ≤ k → get (st (i + 1 + d)) x = get (st (i + 1)) x := by
          intro d
          induction d with
          | zero => intro _; rfl
          | succ d ihd =>
            intro hd'
            have hjs : i + 1 + d < ops.size := by omega
            have hoj : ops[i + 1 + d]? = some ops[i + 1 + d] := by simp [hjs]
            obtain ⟨_, e2⟩ := hst _ _ hoj
            rw [show i + 1 + (d + 1) = i + 1 + d + 1 by omega, e2, after_far (hnone _ _ (by omega) (by omega) hoj)]
            exact ihd (by omega)
        have := hstep (k - (i + 1)) (by omega)
        rw [show i + 1 + (k - (i + 1)) = k by omega] at this
        rw [this, hsn]
        exact after_near (hsame x (.inl hx)).symm
      · rw [after_far hx]
        refine hinv x k (fun j oj hj hoj hxj => ?_) (fun j oj hj hoj hxj h => hhi j oj hj hoj hxj ((hset j).2 (.inr h))) hk
        rcases (hset j).1 (hlo j oj hj hoj hxj) with h | h
        · subst h; rw [ho] at hoj; cases hoj; exact absurd hxj hx
        · exact h
    · rcases hm with (hm | ⟨j, rfl, hj⟩) | rfl
      · exact .inl hm
      · exact .inr ⟨j, rfl, (hset j).2 (.inr hj)⟩
      · exact .inr ⟨i, rfl, (hset i).2 (.inl rfl)⟩

theorem region_ok (hcall : CallsOk P call) (hm : P.follows .mixedOrders = true) {id : Nat} {ops : Array Oper} {draw : Bool} {σ σ' : St} {a : Act} {w : World} {Q : Exit → Act → World → Prop}
    (h : region P call rs ops draw σ = some σ') (hg : Good P K w0 N (fun m => m < σ.nx) σ.s a w) (hd : ∀ o ∈ ops.toList, ∀ x, o.dst = some x → x < N)
    (hQ : ∀ a' w', Good P K w0 N (fun m => m < σ'.nx) σ'.s a' w' → Q .normal a' w') : (Code.region id ops draw).wp P Q a w := by
  unfold region at h
  cases draw
  · simp only [Bool.false_eq_true, if_false, Option.map_eq_some_iff] at h
    obtain ⟨s', h, rfl⟩ := h
    refine wp_region_list (opsFrom_ok call rs hcall _ _ _ _ _ _ h hg hd fun a' w' hg' => hQ a' w' (by simpa using hg'))
  · simp only [if_true] at h
    split at h
    · rename_i s' rw hl
      split at h
      · rename_i hok
        cases h
        obtain ⟨st, rr, e0, e1, e2, e3⟩ := opsLog_spec call rs _ _ _ _ _ hl
        simp only [drawOk, Bool.and_eq_true, List.all_eq_true, List.mem_range] at hok
        obtain ⟨hedge, hpair⟩ := hok
        have hat : ∀ i o, ops[i]? = some o → ops.toList[i]? = some o := fun i o ho => (Array.getElem?_toList (xs := ops) (i := i)).trans ho
        refine wp_region_any hm ?_
        have hbl : ∀ (l : List Oper) (acc : List Nat), (befL acc l).length = acc.length + l.length := by
          intro l
          induction l with
          | nil => intro acc; simp [befL]
          | cons o l ih => intro acc; rw [befL, ih]; simp; omega
        refine any_ok (K := K) (w0 := w0) call rs hcall (base := σ.nx) (st := st) (rr := rr) (b := befL [] ops.toList) hd (fun i o ho => ⟨(e3 i o (hat i o ho)).1, (e3 i o (hat i o ho)).2.1⟩)
          (fun i o ho e he hb => by have := edgesOk_spec _ 0 hedge i o (hat i o ho) e he hb; omega)
          (fun E hE => befL_spec _ [] (by simp) (fun i o ho hEi => hE i o ho (by simpa using hEi))) (by rw [hbl]; simp) ?_ ?_ ops.size _ σ.s a _ (by simp) (by simp) ?_ ?_ ?_
        · intro i j oi oj m hij hoi hoj hm htb
          have hj := (Array.getElem?_eq_some_iff.1 hoj).1
          have := hpair j (by simpa using hj) i hij
          rw [List.getD_eq_getElem?_getD, hm, Option.getD_some, htb, Bool.false_or, List.getD_eq_getElem?_getD, List.getD_eq_getElem?_getD, (e3 i oi (hat i oi hoi)).2.2, (e3 j oj (hat j oj hoj)).2.2] at this
          simp only [Option.getD_some, RW.free, rwOf, Bool.and_eq_true] at this
          exact ⟨this.1.1, this.1.2, this.2⟩
        · intro a' w' hg'
          have e1 : st ops.size = s' := by simpa using e1
          exact hQ a' w' (e1 ▸ hg')
        · intro i o ho hi
          simp [Array.getElem?_replicate] at hi
        · intro x k hlo hhi hk
          have : ∀ d, d ≤ k → get (st d) x = get (st 0) x := by
            intro d
            induction d with
            | zero => intro _; rfl
            | succ d ihd =>
              intro hd'
              have hjs : d < ops.size := by omega
              have hoj : ops[d]? = some ops[d] := by simp [hjs]
              rw [(e3 d _ (hat _ _ hoj)).2.1, after_far ?_]
              · exact ihd (by omega)
              · intro hx
                have := hlo d _ (by omega) hoj hx
                simp [Array.getElem?_replicate] at this
          rw [this k (Nat.le_refl _), e0]
        · refine (hg.drew _).mono fun m hm => .inl hm
      · cases h
    · cases h
end any
end
end Go.Vm
