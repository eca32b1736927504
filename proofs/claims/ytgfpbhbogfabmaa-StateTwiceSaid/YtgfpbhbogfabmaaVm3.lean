/- Reading: what the evaluator reads stands for what the model reads. -/
import Derived.Test.YtgfpbhbogfabmaaVm2
set_option linter.unusedVariables false
set_option linter.unusedSimpArgs false
set_option linter.unnecessarySimpa false
set_option linter.unusedSectionVars false
namespace Go.Vm

namespace LK
variable {α β : Type} {s : List TV}
@[simp] theorem eval_ret (a : α) : (LK.ret a).eval s = some a := rfl
@[simp] theorem eval_pure (a : α) : (pure a : LK α).eval s = some a := rfl
@[simp] theorem eval_fail : (LK.fail : LK α).eval s = none := rfl
@[simp] theorem eval_look (i : Nat) (k : TV → LK α) : (LK.look i k).eval s = (k (get s i)).eval s := rfl
theorem eval_bind' (x : LK α) (f : α → LK β) : (x.bind f).eval s = (x.eval s).bind fun a => (f a).eval s := by
  induction x with
  | ret a => rfl
  | look i k ih => simp only [LK.bind, LK.eval, ih]
  | ite c a b iha ihb => cases c <;> simp [LK.bind, LK.eval, iha, ihb]
  | optR o k ih => cases o <;> simp [LK.bind, LK.eval, ih]
  | optT o k ih => cases o <;> simp [LK.bind, LK.eval, ih]
  | fail => rfl
@[simp] theorem eval_bind (x : LK α) (f : α → LK β) : (x >>= f).eval s = (x.eval s).bind fun a => (f a).eval s := eval_bind' x f
@[simp] theorem eval_ofOption (o : Option α) : (LK.ofOption o).eval s = o := by cases o <;> rfl
@[simp] theorem eval_guard (b : Bool) : (LK.guard b).eval s = if b then some () else none := by cases b <;> rfl
@[simp] theorem eval_sure (b : Bool) : (LK.sure b).eval s = if b then some () else none := by cases b <;> rfl
theorem sure_some {b : Bool} {u : Unit} : (LK.sure b).eval s = some u ↔ b = true := by cases b <;> simp [LK.sure]
@[simp] theorem eval_iteB (c : Bool) (a b : LK α) : (LK.ite c a b).eval s = if c then a.eval s else b.eval s := rfl
@[simp] theorem eval_cond (c : Prop) [Decidable c] (a b : LK α) : (LK.cond c a b).eval s = if c then a.eval s else b.eval s := by
  by_cases h : c <;> simp [LK.cond, LK.eval, h]
@[simp] theorem eval_optR (o : Option (List TV)) (k : List TV → LK α) : (LK.optR o k).eval s = o.bind fun r => (k r).eval s := by cases o <;> rfl
@[simp] theorem eval_optT (o : Option TV) (k : TV → LK α) : (LK.optT o k).eval s = o.bind fun r => (k r).eval s := by cases o <;> rfl
theorem guard_some {b : Bool} {u : Unit} : (LK.guard b).eval s = some u ↔ b = true := by cases b <;> simp [LK.guard]
theorem eval_ite {c : Prop} [Decidable c] (x y : LK α) : (if c then x else y).eval s = if c then x.eval s else y.eval s := by split <;> rfl
end LK

theorem get_of_lt : ∀ (s : List TV) (i : Nat) (h : i < s.length), get s i = s[i]
  | [], _, h => by simp at h
  | _ :: _, 0, _ => rfl
  | _ :: s, i + 1, h => by simp only [get, List.getElem_cons_succ]; exact get_of_lt s i (by simpa using h)
theorem get_of_ge : ∀ (s : List TV) (i : Nat) (_ : s.length ≤ i), get s i = .undef
  | [], _, _ => by simp [get]
  | _ :: _, 0, h => by simp at h
  | _ :: s, i + 1, h => by simp only [get]; exact get_of_ge s i (by simpa using h)

section cells
variable {η : Stamp → Value} {I : Nat → Prop} {w : World}
theorem RepCells.len : ∀ {cs : List TV} {vs : List Value}, RepCells η I w cs vs → vs.length = cs.length
  | [], vs, h => by simp only [RepCells] at h; simp [h]
  | t :: ts, vs, h => by
    simp only [RepCells] at h
    obtain ⟨v, vs', rfl, _, _, h4⟩ := h
    simp [h4.len]
theorem RepCells.at : ∀ {cs : List TV} {vs : List Value} {i : Nat}, RepCells η I w cs vs → i < cs.length → ∃ v, vs[i]? = some v ∧ cellV v = true ∧ Rep η I w (get cs i) v
  | [], _, _, _, h => by simp at h
  | t :: ts, vs, i, h, hi => by
    simp only [RepCells] at h
    obtain ⟨v, vs', rfl, h2, h3, h4⟩ := h
    cases i with
    | zero => exact ⟨v, rfl, h2, h3⟩
    | succ i => exact h4.at (by simpa using hi)
theorem RepVals.len : ∀ {cs : List TV} {vs : List Value}, RepVals η I w cs vs → vs.length = cs.length
  | [], vs, h => by simp only [RepVals] at h; simp [h]
  | t :: ts, vs, h => by
    simp only [RepVals] at h
    obtain ⟨v, vs', rfl, _, h4⟩ := h
    simp [h4.len]
theorem RepVals.at : ∀ {cs : List TV} {vs : List Value} {i : Nat}, RepVals η I w cs vs → i < cs.length → ∃ v, vs[i]? = some v ∧ Rep η I w (get cs i) v
  | [], _, _, _, h => by simp at h
  | t :: ts, vs, i, h, hi => by
    simp only [RepVals] at h
    obtain ⟨v, vs', rfl, h3, h4⟩ := h
    cases i with
    | zero => exact ⟨v, rfl, h3⟩
    | succ i => exact h4.at (by simpa using hi)
theorem RepCells.append : ∀ {cs cs' : List TV} {vs vs' : List Value}, RepCells η I w cs vs → RepCells η I w cs' vs' → RepCells η I w (cs ++ cs') (vs ++ vs')
  | [], cs', vs, vs', h, h' => by simp only [RepCells] at h; subst h; simpa using h'
  | t :: ts, cs', vs, vs', h, h' => by
    simp only [RepCells] at h
    obtain ⟨v, us, rfl, h2, h3, h4⟩ := h
    simp only [List.cons_append, RepCells]
    exact ⟨v, us ++ vs', rfl, h2, h3, h4.append h'⟩
theorem RepCells.take : ∀ {cs : List TV} {vs : List Value} (n : Nat), RepCells η I w cs vs → RepCells η I w (cs.take n) (vs.take n)
  | _, _, 0, _ => by simp [RepCells]
  | [], vs, n + 1, h => by simp only [RepCells] at h; subst h; simp [RepCells]
  | t :: ts, vs, n + 1, h => by
    simp only [RepCells] at h
    obtain ⟨v, us, rfl, h2, h3, h4⟩ := h
    simp only [List.take_succ_cons, RepCells]
    exact ⟨v, us.take n, rfl, h2, h3, h4.take n⟩
theorem RepCells.drop : ∀ {cs : List TV} {vs : List Value} (n : Nat), RepCells η I w cs vs → RepCells η I w (cs.drop n) (vs.drop n)
  | _, _, 0, h => by simpa using h
  | [], vs, n + 1, h => by simp only [RepCells] at h; subst h; simp [RepCells]
  | t :: ts, vs, n + 1, h => by
    simp only [RepCells] at h
    obtain ⟨v, us, rfl, h2, h3, h4⟩ := h
    simp only [List.drop_succ_cons]
    exact h4.drop n
theorem fpL_get : ∀ {cs : List TV} {i : Nat} {b : Nat}, b ∈ fpT η (get cs i) → b ∈ fpL η cs
  | [], _, _, h => by simp [get, fpT] at h
  | t :: ts, 0, _, h => by simp only [get] at h; simp [fpL, h]
  | t :: ts, i + 1, _, h => by simp only [get] at h; simp [fpL, fpL_get h]
theorem stL_get {U : Nat → Prop} : ∀ {cs : List TV} {i : Nat}, stL U cs → stT U (get cs i)
  | [], _, _ => by simp [get, stT]
  | t :: ts, 0, h => by simp only [stL] at h; exact h.1
  | t :: ts, i + 1, h => by simp only [stL] at h; simp only [get]; exact stL_get h.2
theorem fpL_append : ∀ (cs cs' : List TV), fpL η (cs ++ cs') = fpL η cs ++ fpL η cs'
  | [], _ => by simp [fpL]
  | t :: ts, cs' => by simp [fpL, fpL_append ts cs']
theorem stL_append {U : Nat → Prop} : ∀ (cs cs' : List TV), stL U (cs ++ cs') ↔ stL U cs ∧ stL U cs'
  | [], _ => by simp [stL]
  | t :: ts, cs' => by simp [stL, stL_append ts cs', and_assoc]
theorem stL_take {U : Nat → Prop} : ∀ (cs : List TV) (n : Nat), stL U cs → stL U (cs.take n)
  | _, 0, _ => by simp [stL]
  | [], n + 1, _ => by simp [stL]
  | t :: ts, n + 1, h => by simp only [stL] at h; simp only [List.take_succ_cons, stL]; exact ⟨h.1, stL_take ts n h.2⟩
theorem stL_drop {U : Nat → Prop} : ∀ (cs : List TV) (n : Nat), stL U cs → stL U (cs.drop n)
  | _, 0, h => by simpa using h
  | [], n + 1, _ => by simp [stL]
  | t :: ts, n + 1, h => by simp only [stL] at h; simp only [List.drop_succ_cons]; exact stL_drop ts n h.2
end cells

/-- What is no owner. -/
def Bare (η : Stamp → Value) (t : TV) : Prop := fpT η t = []

section views
variable {η : Stamp → Value} {I : Nat → Prop} {w : World} {U : Nat → Prop}
theorem Rep_borT {p c : Nat} {t : TV} {v : Value} (h : Rep η I w t v) : Rep η I w (borT p c t) v := by
  cases t with
  | own g e z xs =>
    simp only [Rep, borT] at h ⊢
    obtain ⟨rfl, h⟩ := h
    rcases h with ⟨rfl, h⟩ | ⟨b, cap, cur, lo, hi, h1, h2, h3, h4, _⟩
    · exact ⟨none, 0, 0, none, 0, h, by simp, h, by simp, by simp, fun _ => rfl, .inl rfl⟩
    · exact ⟨_, _, _, _, _, h1, by simp, h1, h3, by simp, fun _ => rfl, .inr ⟨b, rfl, by simp⟩⟩
  | box g cs => simp [borT, Rep]
  | agg cs => simp [borT, Rep]
  | tup cs => simp [borT, Rep]
  | _ => exact h
theorem stT_borT {p c : Nat} {t : TV} (h : stT U t) : stT U (borT p c t) := by
  cases t <;> first | (simpa [borT, stT] using h) | simp [borT, stT]
theorem fpT_borT {p c : Nat} (t : TV) : fpT η (borT p c t) = [] := by cases t <;> simp [borT, fpT]
theorem fpL_borsFrom {p : Nat} : ∀ (c : Nat) (cs : List TV), fpL η (borsFrom p c cs) = []
  | _, [] => rfl
  | c, t :: ts => by simp [borsFrom, fpL, fpT_borT, fpL_borsFrom (c + 1) ts]
theorem fpT_view {p : Nat} (t : TV) : fpT η (view p t) = [] := by cases t <;> simp [view, fpT, fpL_borsFrom]
theorem Rep_borsFrom {p : Nat} : ∀ (c : Nat) {cs : List TV} {vs : List Value}, RepCells η I w cs vs → RepCells η I w (borsFrom p c cs) vs
  | _, [], _, h => h
  | c, t :: ts, vs, h => by
    simp only [RepCells, borsFrom] at h ⊢
    obtain ⟨v, us, rfl, h2, h3, h4⟩ := h
    exact ⟨v, us, rfl, h2, Rep_borT h3, Rep_borsFrom (c + 1) h4⟩
theorem RepV_borsFrom {p : Nat} : ∀ (c : Nat) {cs : List TV} {vs : List Value}, RepVals η I w cs vs → RepVals η I w (borsFrom p c cs) vs
  | _, [], _, h => h
  | c, t :: ts, vs, h => by
    simp only [RepVals, borsFrom] at h ⊢
    obtain ⟨v, us, rfl, h3, h4⟩ := h
    exact ⟨v, us, rfl, Rep_borT h3, RepV_borsFrom (c + 1) h4⟩
theorem stL_borsFrom {p : Nat} : ∀ (c : Nat) {cs : List TV}, stL U cs → stL U (borsFrom p c cs)
  | _, [], h => h
  | c, t :: ts, h => by
    simp only [stL, borsFrom] at h ⊢
    exact ⟨stT_borT h.1, stL_borsFrom (c + 1) h.2⟩
theorem Rep_view {p : Nat} {t : TV} {v : Value} (h : Rep η I w t v) : Rep η I w (view p t) v := by
  cases t with
  | own g e z xs => exact Rep_borT (p := p) (c := 0) h
  | box g cs =>
    simp only [Rep, view] at h ⊢
    obtain ⟨rfl, b, cur, e, h1, _⟩ := h
    exact ⟨b, h1, h1⟩
  | agg cs =>
    simp only [Rep, view] at h ⊢
    obtain ⟨arr, h1, h2⟩ := h
    exact ⟨arr, h1, Rep_borsFrom 0 h2⟩
  | tup cs =>
    simp only [Rep, view] at h ⊢
    obtain ⟨arr, h1, h2⟩ := h
    exact ⟨arr, h1, RepV_borsFrom 0 h2⟩
  | _ => exact h
theorem stT_view {p : Nat} {t : TV} (h : stT U t) : stT U (view p t) := by
  cases t with
  | own g e z xs => simpa [view, stT] using h
  | box g cs => simp only [stT, view] at h ⊢; exact h.1
  | agg cs => simp only [stT, view] at h ⊢; exact stL_borsFrom 0 h
  | tup cs => simp only [stT, view] at h ⊢; exact stL_borsFrom 0 h
  | _ => simpa [view] using h
end views

/-- The values in an Act's slots. -/
def vsOf (a : Act) (i : Nat) : Value := a.tmps.getD i undef

section sims
variable {K : Nat → Prop} {w0 : World} {U : Nat → Prop} {s : List TV} {a : Act} {w : World} {η : Stamp → Value}

theorem ofConst_rep {I : Nat → Prop} {v : Value} {t : TV} (h : ofConst v = some t) : Rep η I w t v ∧ stT U t := by
  unfold ofConst at h
  split at h <;> cases h <;> simp [Rep, RepP, stT]

theorem ev_rep (h : Sim K w0 U (get s) (vsOf a) w η) {x : Operand} {t : TV} (ht : (ev x).eval s = some t) : Rep η (Imm η (get s) w) w t (a.eval x) ∧ stT U t := by
  cases x with
  | tmp i =>
    simp only [ev, LK.eval_look, LK.eval_ret, Option.some.injEq] at ht
    subst ht
    exact ⟨Rep_view (h.rep i), stT_view (h.st i)⟩
  | const v =>
    simp only [ev, LK.eval_ofOption] at ht
    exact ofConst_rep ht
  | func f =>
    simp only [ev, LK.eval_ret, Option.some.injEq] at ht
    subst ht
    simp [Rep, Act.eval, stT]
  | global g => simp [ev] at ht

/-- An owned slice, found at a place. -/
theorem ownRows_rep {t : TV} {g : Stamp} {e z : Nat} {xs : List (List TV)} (h : (ownRows g e z t).eval s = some xs) : t = .own g e z xs := by
  unfold ownRows at h
  split at h
  · simp only [LK.eval_ite, LK.eval_cond, LK.eval_ret, LK.eval_fail] at h
    split at h
    · rename_i hc
      obtain ⟨rfl, rfl, rfl⟩ := hc
      cases h; rfl
    · cases h
  · simp at h

theorem content_rep (h : Sim K w0 U (get s) (vsOf a) w η) {p c : Nat} {g : Stamp} {e z : Nat} {xs : List (List TV)} (hc : (content p c g e z).eval s = some xs) :
    OwnC (Imm η (get s) w) w (η g) e z xs ∧ (∀ b ∈ blkOf (η g), b ∈ fpT η (get s p)) ∧ U g.1 := by
  have hr := h.rep p
  have hst := h.st p
  simp only [content, LK.eval_look] at hc
  split at hc
  · rename_i g' cs hp
    have ho := ownRows_rep hc
    rw [hp] at hr hst ⊢
    simp only [Rep] at hr
    obtain ⟨_, b, cur, e', _, _, h3⟩ := hr
    simp only [stT] at hst
    have hst' := stL_get (i := c) hst.2
    have hlt : c < cs.length := by
      rcases Nat.lt_or_ge c cs.length with h | h
      · exact h
      · rw [get_of_ge _ _ h] at ho; cases ho
    obtain ⟨v, _, _, hv⟩ := h3.at hlt
    rw [ho] at hv hst'
    simp only [Rep] at hv
    obtain ⟨rfl, hv⟩ := hv
    refine ⟨hv, fun b hb => ?_, by simpa [stT] using hst'⟩
    simp only [fpT, List.mem_append]
    exact .inr (fpL_get (i := c) (by rw [ho]; simpa [fpT] using hb))
  · rename_i cs hp
    have ho := ownRows_rep hc
    rw [hp] at hr hst ⊢
    simp only [Rep] at hr
    obtain ⟨arr, _, h3⟩ := hr
    simp only [stT] at hst
    have hst' := stL_get (i := c) hst
    have hlt : c < cs.length := by
      rcases Nat.lt_or_ge c cs.length with h | h
      · exact h
      · rw [get_of_ge _ _ h] at ho; cases ho
    obtain ⟨v, _, _, hv⟩ := h3.at hlt
    rw [ho] at hv hst'
    simp only [Rep] at hv
    obtain ⟨rfl, hv⟩ := hv
    refine ⟨hv, fun b hb => ?_, by simpa [stT] using hst'⟩
    simp only [fpT]
    exact fpL_get (i := c) (by rw [ho]; simpa [fpT] using hb)
  · rename_i cs hp
    have ho := ownRows_rep hc
    rw [hp] at hr hst ⊢
    simp only [Rep] at hr
    obtain ⟨arr, _, h3⟩ := hr
    simp only [stT] at hst
    have hst' := stL_get (i := c) hst
    have hlt : c < cs.length := by
      rcases Nat.lt_or_ge c cs.length with h | h
      · exact h
      · rw [get_of_ge _ _ h] at ho; cases ho
    obtain ⟨v, _, hv⟩ := h3.at hlt
    rw [ho] at hv hst'
    simp only [Rep] at hv
    obtain ⟨rfl, hv⟩ := hv
    refine ⟨hv, fun b hb => ?_, by simpa [stT] using hst'⟩
    simp only [fpT]
    exact fpL_get (i := c) (by rw [ho]; simpa [fpT] using hb)
  · have ho := ownRows_rep hc
    rw [ho] at hr hst ⊢
    simp only [Rep] at hr
    obtain ⟨_, hv⟩ := hr
    exact ⟨by rename_i e1; rw [← e1]; exact hv, fun b hb => by simpa [fpT] using hb, by simpa [stT] using hst⟩
end sims
end Go.Vm
