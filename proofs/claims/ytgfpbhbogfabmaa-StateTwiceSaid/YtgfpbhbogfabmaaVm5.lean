/- Rows as lists of values; values that are taken, frozen or stolen. -/
import Derived.Test.YtgfpbhbogfabmaaVm4
import Derived.Laws.AppendOwn
import Derived.Laws.CopyRow
set_option linter.unusedVariables false
set_option linter.unusedSimpArgs false
set_option linter.unnecessarySimpa false
set_option linter.unusedSectionVars false
namespace Go.Vm

section rows
variable {I : Nat → Prop} {w : World}

def RepPs (I : Nat → Prop) (w : World) : List TV → List Value → Prop
  | [], vs => vs = []
  | t :: ts, vs => ∃ v vs', vs = v :: vs' ∧ RepP I w t v ∧ RepPs I w ts vs'
def RepVs (I : Nat → Prop) (w : World) (z : Nat) : List (List TV) → List Value → Prop
  | [], vs => vs = []
  | r :: rs, vs => ∃ v vs', vs = v ++ vs' ∧ r.length = z ∧ RepPs I w r v ∧ RepVs I w z rs vs'

theorem RepPs.len : ∀ {ts : List TV} {vs : List Value}, RepPs I w ts vs → vs.length = ts.length
  | [], vs, h => by simp only [RepPs] at h; simp [h]
  | t :: ts, vs, h => by
    simp only [RepPs] at h
    obtain ⟨v, vs', rfl, _, h⟩ := h
    simp [h.len]
theorem RepVs.len {z : Nat} : ∀ {xs : List (List TV)} {vs : List Value}, RepVs I w z xs vs → vs.length = xs.length * z
  | [], vs, h => by simp only [RepVs] at h; simp [h]
  | r :: rs, vs, h => by
    simp only [RepVs] at h
    obtain ⟨v, vs', rfl, h1, h2, h3⟩ := h
    simp [h2.len, h3.len, h1, Nat.succ_mul, Nat.add_comm]
theorem RepPs.cell : ∀ {ts : List TV} {vs : List Value}, RepPs I w ts vs → ∀ v ∈ vs, cellV v = true
  | [], vs, h, v, hv => by simp only [RepPs] at h; simp [h] at hv
  | t :: ts, vs, h, v, hv => by
    simp only [RepPs] at h
    obtain ⟨u, vs', rfl, h1, h⟩ := h
    rcases List.mem_cons.1 hv with rfl | hv
    · exact h1.cellV
    · exact h.cell v hv
theorem RepVs.cell {z : Nat} : ∀ {xs : List (List TV)} {vs : List Value}, RepVs I w z xs vs → ∀ v ∈ vs, cellV v = true
  | [], vs, h, v, hv => by simp only [RepVs] at h; simp [h] at hv
  | t :: ts, vs, h, v, hv => by
    simp only [RepVs] at h
    obtain ⟨u, vs', rfl, _, h1, h⟩ := h
    rcases List.mem_append.1 hv with hv | hv
    · exact h1.cell v hv
    · exact h.cell v hv
theorem RepPs.append : ∀ {ts us : List TV} {vs ws : List Value}, RepPs I w ts vs → RepPs I w us ws → RepPs I w (ts ++ us) (vs ++ ws)
  | [], us, vs, ws, h, h' => by simp only [RepPs] at h; subst h; simpa using h'
  | t :: ts, us, vs, ws, h, h' => by
    simp only [RepPs] at h
    obtain ⟨v, vs', rfl, h1, h⟩ := h
    exact ⟨v, vs' ++ ws, rfl, h1, h.append h'⟩
theorem RepVs.append {z : Nat} : ∀ {xs ys : List (List TV)} {vs ws : List Value}, RepVs I w z xs vs → RepVs I w z ys ws → RepVs I w z (xs ++ ys) (vs ++ ws)
  | [], ys, vs, ws, h, h' => by simp only [RepVs] at h; subst h; simpa using h'
  | r :: rs, ys, vs, ws, h, h' => by
    simp only [RepVs] at h
    obtain ⟨v, vs', rfl, h1, h2, h⟩ := h
    exact ⟨v, vs' ++ ws, by simp, h1, h2, h.append h'⟩
theorem RepVs.take {z : Nat} : ∀ (n : Nat) {xs : List (List TV)} {vs : List Value}, RepVs I w z xs vs → RepVs I w z (xs.take n) (vs.take (n * z))
  | 0, _, _, _ => by simp [RepVs]
  | n + 1, [], vs, h => by simp only [RepVs] at h; subst h; simp [RepVs]
  | n + 1, r :: rs, vs, h => by
    simp only [RepVs, List.take_succ_cons] at h ⊢
    obtain ⟨v, vs', rfl, h1, h2, h⟩ := h
    refine ⟨v, vs'.take (n * z), ?_, h1, h2, h.take n⟩
    rw [List.take_append, h2.len, h1, List.take_of_length_le (by rw [h2.len, h1, Nat.succ_mul]; omega), show (n + 1) * z - z = n * z by rw [Nat.succ_mul]; omega]
theorem RepVs.drop {z : Nat} : ∀ (n : Nat) {xs : List (List TV)} {vs : List Value}, RepVs I w z xs vs → RepVs I w z (xs.drop n) (vs.drop (n * z))
  | 0, _, _, h => by simpa using h
  | n + 1, [], vs, h => by simp only [RepVs] at h; subst h; simp [RepVs]
  | n + 1, r :: rs, vs, h => by
    simp only [RepVs, List.drop_succ_cons] at h ⊢
    obtain ⟨v, vs', rfl, h1, h2, h⟩ := h
    have := h.drop n
    rwa [show (v ++ vs').drop ((n + 1) * z) = vs'.drop (n * z) by
      rw [List.drop_append, h2.len, h1, List.drop_eq_nil_of_le (by rw [h2.len, h1, Nat.succ_mul]; omega), show (n + 1) * z - z = n * z by rw [Nat.succ_mul]; omega]; simp]

theorem RepPs.mono {I' : Nat → Prop} {w' : World} (hI : ∀ b, I b → I' b) (hw : ∀ b, I b → w'.heap[b]? = w.heap[b]?) :
    ∀ {ts : List TV} {vs : List Value}, RepPs I w ts vs → RepPs I' w' ts vs
  | [], _, h => h
  | t :: ts, vs, ⟨v, vs', e, h1, h⟩ => ⟨v, vs', e, RepP.mono hI hw t v h1, h.mono hI hw⟩
theorem RepVs.mono {z : Nat} {I' : Nat → Prop} {w' : World} (hI : ∀ b, I b → I' b) (hw : ∀ b, I b → w'.heap[b]? = w.heap[b]?) :
    ∀ {xs : List (List TV)} {vs : List Value}, RepVs I w z xs vs → RepVs I' w' z xs vs
  | [], _, h => h
  | t :: ts, vs, ⟨v, vs', e, h0, h1, h⟩ => ⟨v, vs', e, h0, h1.mono hI hw, h.mono hI hw⟩

theorem cell_add (b o j : Nat) : (⟨b, o, none⟩ : Addr).add j = ⟨b, o + j, none⟩ := by unfold Addr.add; split <;> simp_all

theorem RepRow.vals {b : Nat} : ∀ {ts : List TV} {o : Nat}, RepRow I w b o ts → ∃ vs, RepPs I w ts vs ∧ ∀ j u, vs[j]? = some u → w.cell? ⟨b, o + j, none⟩ = some u
  | [], _, _ => ⟨[], rfl, by simp⟩
  | t :: ts, o, h => by
    simp only [RepRow] at h
    obtain ⟨⟨u, h1, h2⟩, h3⟩ := h
    obtain ⟨vs, h4, h5⟩ := h3.vals
    refine ⟨u :: vs, ⟨u, vs, rfl, h2, h4⟩, fun j v hj => ?_⟩
    cases j with
    | zero => simp at hj; subst hj; exact h1
    | succ j => simp at hj; have := h5 j v hj; rwa [show o + (j + 1) = o + 1 + j by omega]
theorem RepRows.vals {b z : Nat} : ∀ {xs : List (List TV)} {o : Nat}, RepRows I w b o z xs → ∃ vs, RepVs I w z xs vs ∧ ∀ j u, vs[j]? = some u → w.cell? ⟨b, o + j, none⟩ = some u
  | [], _, _ => ⟨[], rfl, by simp⟩
  | r :: rs, o, h => by
    simp only [RepRows] at h
    obtain ⟨h1, h2, h3⟩ := h
    obtain ⟨v, h4, h5⟩ := h2.vals
    obtain ⟨vs, h6, h7⟩ := h3.vals
    refine ⟨v ++ vs, ⟨v, vs, rfl, h1, h4, h6⟩, fun j u hj => ?_⟩
    have hl := h4.len
    rw [List.getElem?_append] at hj
    split at hj
    · exact h5 j u hj
    · have := h7 (j - v.length) u hj
      rwa [show o + z + (j - v.length) = o + j by omega] at this
theorem RepRow.of {b : Nat} : ∀ {ts : List TV} {o : Nat} {vs : List Value}, RepPs I w ts vs → (∀ j u, vs[j]? = some u → w.cell? ⟨b, o + j, none⟩ = some u) → RepRow I w b o ts
  | [], _, _, _, _ => by simp [RepRow]
  | t :: ts, o, vs, h, hc => by
    simp only [RepPs] at h
    obtain ⟨v, vs', rfl, h1, h⟩ := h
    simp only [RepRow]
    exact ⟨⟨v, hc 0 v rfl, h1⟩, RepRow.of h fun j u hj => by have := hc (j + 1) u (by simpa using hj); rwa [show o + (j + 1) = o + 1 + j by omega] at this⟩
theorem RepRows.of {b z : Nat} : ∀ {xs : List (List TV)} {o : Nat} {vs : List Value}, RepVs I w z xs vs → (∀ j u, vs[j]? = some u → w.cell? ⟨b, o + j, none⟩ = some u) → RepRows I w b o z xs
  | [], _, _, _, _ => by simp [RepRows]
  | r :: rs, o, vs, h, hc => by
    simp only [RepVs] at h
    obtain ⟨v, vs', rfl, h1, h2, h⟩ := h
    simp only [RepRows]
    have hl := h2.len
    refine ⟨h1, RepRow.of h2 fun j u hj => hc j u ?_, RepRows.of h fun j u hj => ?_⟩
    · rw [List.getElem?_append_left (by have := (List.getElem?_eq_some_iff.1 hj).1; omega)]; exact hj
    · have := hc (z + j) u (by rw [List.getElem?_append_right (by omega)]; rwa [show z + j - v.length = j by omega])
      rwa [show o + (z + j) = o + z + j by omega] at this
end rows

theorem oneCell_of {v : Value} (h : cellV v = true) : v.oneCell' = true := by cases v <;> simp_all [cellV, Value.oneCell']

section vals
variable {K : Nat → Prop} {w0 : World} {U : Nat → Prop} {s : List TV} {a : Act} {w : World} {η : Stamp → Value}

theorem imm_own {P : Nat → Prop} {v : Value} {e z : Nat} {xs : List (List TV)} {I I' : Nat → Prop} (h : OwnC I w v e z xs) (hI : ∀ b, I b → I' b) : OwnC I' w v e z xs :=
  h.mono hI (fun _ _ => rfl) (fun _ _ => rfl)

/-- The freezes 'k' name all that 'k0' names. -/
def Covers (k k0 : List Cmd) : Prop := k.all Cmd.isFrz = true ∧ ∀ c ∈ k0, (k.map Cmd.slot).contains c.slot = true

theorem resOne_rep (h : Sim K w0 U (get s) (vsOf a) w η) {t t' : TV} (ht : (resOne t).eval s = some t') {v : Value} (hv : Rep η (Imm η (get s) w) w t v)
    {k : List Cmd} (hk : Covers k (lentOne t)) : RepP (Imm η (get (k.foldl Cmd.app s)) w) w t' v ∧ pureT t' = true := by
  have hI : ∀ b, Imm η (get s) w b → Imm η (get (k.foldl Cmd.app s)) w b := fun b => imm_frzs k hk.1
  have pure : ∀ t, pureT t = true → Rep η (Imm η (get s) w) w t v → RepP (Imm η (get (k.foldl Cmd.app s)) w) w t v := fun t hp hr =>
    RepP.mono hI (fun _ _ => rfl) _ _ (RepP_of hp hr)
  unfold resOne at ht
  split at ht
  · rename_i p c g e z off len
    simp only [LK.eval_bind, LK.eval_pure, Option.bind_eq_some_iff, Option.some.injEq] at ht
    obtain ⟨xs, hc, rfl⟩ := ht
    have ho := content_rep h hc
    simp only [Rep] at hv
    refine ⟨bor_sl hv (imm_own (P := fun _ => True) ho.1 hI) (fun h0 b hb => ?_), rfl⟩
    refine imm_of_frz h k hk.1 (p := p) ?_ (content_ofS hc b hb)
    have := hk.2 (.frz p) (by simp [lentOne, h0])
    simpa [Cmd.slot] using this
  · simp only [LK.eval_pure, Option.some.injEq] at ht
    subst ht
    simp only [Rep, RepP] at hv
    subst hv
    exact ⟨by simp only [RepP]; exact ⟨none, 0, rfl, Nat.le_refl _, .inl trivial⟩, rfl⟩
  · simp only [LK.eval_ite, LK.eval_cond, LK.eval_pure, LK.eval_fail] at ht
    split at ht
    · rename_i hp
      cases ht
      exact ⟨pure _ hp hv, hp⟩
    · cases ht

theorem Covers.left {k a b : List Cmd} (h : Covers k (a ++ b)) : Covers k a := ⟨h.1, fun c hc => h.2 c (by simp [hc])⟩
theorem Covers.right {k a b : List Cmd} (h : Covers k (a ++ b)) : Covers k b := ⟨h.1, fun c hc => h.2 c (by simp [hc])⟩

theorem resAll_rep (h : Sim K w0 U (get s) (vsOf a) w η) {k : List Cmd} : ∀ {ts ts' : List TV} (_ : (resAll ts).eval s = some ts') {vs : List Value} (_ : RepCells η (Imm η (get s) w) w ts vs)
    (_ : Covers k (ts.flatMap lentOne)), RepPs (Imm η (get (k.foldl Cmd.app s)) w) w ts' vs
  | [], ts', ht, vs, hv, _ => by
    simp only [resAll, LK.eval_pure, Option.some.injEq] at ht
    subst ht
    simpa [RepCells, RepPs] using hv
  | t :: ts, ts', ht, vs, hv, hk => by
    simp only [resAll, LK.eval_bind, LK.eval_pure, Option.bind_eq_some_iff, Option.some.injEq] at ht
    obtain ⟨t', h1, us, h2, rfl⟩ := ht
    simp only [RepCells] at hv
    obtain ⟨v, vs', rfl, _, h3, h4⟩ := hv
    rw [List.flatMap_cons] at hk
    exact ⟨v, vs', rfl, (resOne_rep h h1 h3 hk.left).1, resAll_rep h h2 h4 hk.right⟩

/-- An argument. -/
def RepA (I : Nat → Prop) (w : World) : TV → Value → Prop
  | .agg cs, v => ∃ arr : Array Value, v = .agg arr ∧ RepPs I w cs arr.toList
  | .fn f caps, v => caps = [] ∧ v = .func (.func f) #[] #[]
  | t, v => RepP I w t v
def RepAs (I : Nat → Prop) (w : World) : List TV → List Value → Prop
  | [], vs => vs = []
  | t :: ts, vs => ∃ v vs', vs = v :: vs' ∧ RepA I w t v ∧ RepAs I w ts vs'
theorem RepA_of {I : Nat → Prop} {t : TV} {v : Value} (h : RepP I w t v) : RepA I w t v := by
  cases t <;> first | exact h | (simp [RepP] at h)

theorem resT_rep (h : Sim K w0 U (get s) (vsOf a) w η) {t t' : TV} (ht : (resT t).eval s = some t') {v : Value} (hv : Rep η (Imm η (get s) w) w t v)
    {k : List Cmd} (hk : Covers k (lent [t])) : RepA (Imm η (get (k.foldl Cmd.app s)) w) w t' v := by
  unfold resT at ht
  split at ht
  · rename_i cs
    simp only [LK.eval_bind, LK.eval_pure, Option.bind_eq_some_iff, Option.some.injEq] at ht
    obtain ⟨cs', h1, rfl⟩ := ht
    simp only [Rep] at hv
    obtain ⟨arr, rfl, h2⟩ := hv
    exact ⟨arr, rfl, resAll_rep h h1 h2 (by simpa [lent] using hk)⟩
  · simp only [LK.eval_pure, Option.some.injEq] at ht
    subst ht
    simpa [Rep, RepA] using hv
  · rename_i h1 h2
    refine RepA_of (resOne_rep h ht hv ?_).1
    cases t <;> first | (exact absurd rfl (h1 _)) | (simpa [lent] using hk)

theorem lent_cons (t : TV) (ts : List TV) : lent (t :: ts) = lent [t] ++ lent ts := by
  cases t <;> simp [lent]

theorem resArgs_rep (h : Sim K w0 U (get s) (vsOf a) w η) {k : List Cmd} : ∀ {ts ts' : List TV} (_ : (resArgs ts).eval s = some ts') {vs : List Value} (_ : RepVals η (Imm η (get s) w) w ts vs)
    (_ : Covers k (lent ts)), RepAs (Imm η (get (k.foldl Cmd.app s)) w) w ts' vs
  | [], ts', ht, vs, hv, _ => by
    simp only [resArgs, LK.eval_pure, Option.some.injEq] at ht
    subst ht
    simpa [RepVals, RepAs] using hv
  | t :: ts, ts', ht, vs, hv, hk => by
    simp only [resArgs, LK.eval_bind, LK.eval_pure, Option.bind_eq_some_iff, Option.some.injEq] at ht
    obtain ⟨t', h1, us, h2, rfl⟩ := ht
    simp only [RepVals] at hv
    obtain ⟨v, vs', rfl, h3, h4⟩ := hv
    rw [lent_cons] at hk
    exact ⟨v, vs', rfl, resT_rep h h1 h3 hk.left, resArgs_rep h h2 h4 hk.right⟩

/-- Freezing is reading as an argument, and its freezes. -/
theorem frzOne_eq {t t' : TV} {k : List Cmd} (h : (frzOne t).eval s = some (t', k)) : (resOne t).eval s = some t' ∧ k = lentOne t := by
  unfold frzOne at h
  split at h
  · simp only [LK.eval_bind, LK.eval_pure, Option.bind_eq_some_iff, Option.some.injEq, Prod.mk.injEq] at h
    obtain ⟨xs, hc, rfl, rfl⟩ := h
    exact ⟨by simp [resOne, hc], by simp [lentOne]⟩
  · simp only [LK.eval_pure, Option.some.injEq, Prod.mk.injEq] at h
    obtain ⟨rfl, rfl⟩ := h
    exact ⟨by simp [resOne], by simp [lentOne]⟩
  · simp only [LK.eval_ite, LK.eval_cond, LK.eval_pure, LK.eval_fail] at h
    split at h
    · rename_i h1 h2 hp
      simp only [Option.some.injEq, Prod.mk.injEq] at h
      obtain ⟨rfl, rfl⟩ := h
      refine ⟨?_, ?_⟩
      · cases t <;> simp [pureT] at hp <;> simp [resOne, pureT]
      · cases t <;> simp [pureT] at hp <;> simp [lentOne]
    · cases h
theorem frzAll_eq : ∀ {ts ts' : List TV} {k : List Cmd}, (frzAll ts).eval s = some (ts', k) → (resAll ts).eval s = some ts' ∧ k = ts.flatMap lentOne
  | [], ts', k, h => by
    simp only [frzAll, LK.eval_pure, Option.some.injEq, Prod.mk.injEq] at h
    obtain ⟨rfl, rfl⟩ := h
    simp [resAll]
  | t :: ts, ts', k, h => by
    simp only [frzAll, LK.eval_bind, LK.eval_pure, Option.bind_eq_some_iff, Option.some.injEq, Prod.mk.injEq] at h
    obtain ⟨⟨t1, k1⟩, h1, ⟨us, ks⟩, h2, rfl, rfl⟩ := h
    obtain ⟨e1, rfl⟩ := frzOne_eq h1
    obtain ⟨e2, rfl⟩ := frzAll_eq h2
    simp [resAll, e1, e2]
theorem lentOne_frz (t : TV) : (lentOne t).all Cmd.isFrz = true := by
  cases t <;> simp [lentOne]
  rfl
theorem lentAll_frz (ts : List TV) : (ts.flatMap lentOne).all Cmd.isFrz = true := by
  induction ts with
  | nil => rfl
  | cons t ts ih => rw [List.flatMap_cons, List.all_append, lentOne_frz, ih]; rfl
theorem lent_frz : ∀ ts : List TV, (lent ts).all Cmd.isFrz = true
  | [] => rfl
  | t :: ts => by
    rw [lent_cons, List.all_append, lent_frz ts, Bool.and_true]
    cases t <;> simp [lent, lentOne_frz, lentAll_frz, -List.all_flatMap]
theorem Covers.refl {k : List Cmd} (h : k.all Cmd.isFrz = true) : Covers k k := ⟨h, fun c hc => by simpa using ⟨c, hc, rfl⟩⟩
end vals
end Go.Vm
