/- Code as a tree of questions: evaluation with open values. -/
import Derived.Test.YtgfpbhbogfabmaaVm24
set_option linter.unusedVariables false
set_option linter.unusedSimpArgs false
set_option linter.unnecessarySimpa false
set_option linter.unusedSectionVars false
namespace Go.Vm

inductive Tr (α : Type) where
  | ret (a : α)
  | ite (c : Bool) (a b : Tr α)
  | need (c : Bool) (a : Tr α)
  | isR (o : Option (List TV)) (r : List TV) (a : Tr α)
  | isT (o : Option TV) (t : TV) (a : Tr α)
  | optR (o : Option (List TV)) (k : List TV → Tr α)
  | optT (o : Option TV) (k : TV → Tr α)
  | fail

/-- Which arms are to be walked; of the others it is to be shown that they are not taken. -/
inductive Hint where
  | done
  | yes (h : Hint)
  | no (h : Hint)
  | both (h1 h2 : Hint)
  | row (r : List TV) (h : Hint)
  | val (t : TV) (h : Hint)

/-- Each leaf that is reached is as Q says. -/
def TW {α : Type} : Tr α → (α → Prop) → Prop
  | .ret a, Q => Q a
  | .ite c a b, Q => (c = true → TW a Q) ∧ (c = false → TW b Q)
  | .need c a, Q => c = true ∧ TW a Q
  | .isR o r a, Q => o = some r ∧ TW a Q
  | .isT o t a, Q => o = some t ∧ TW a Q
  | .optR o k, Q => ∃ r, o = some r ∧ TW (k r) Q
  | .optT o k, Q => ∃ r, o = some r ∧ TW (k r) Q
  | .fail, _ => False

def iteH {β : Type} (h : Hint) (c : Bool) (a b : Hint → Tr β) : Tr β :=
  match h with
  | .yes h => .need c (a h)
  | .no h => .need (!c) (b h)
  | .both h1 h2 => .ite c (a h1) (b h2)
  | .done => .ite c (a .done) (b .done)
  | h => .ite c (a h) (b h)
theorem iteH_ok {β : Type} {h : Hint} {c : Bool} {a b : Hint → Tr β} {Q : β → Prop} (hw : TW (iteH h c a b) Q) : (c = true ∧ ∃ h, TW (a h) Q) ∨ (c = false ∧ ∃ h, TW (b h) Q) := by
  cases h with
  | yes h => exact .inl ⟨hw.1, h, hw.2⟩
  | no h => exact .inr ⟨by simpa using hw.1, h, hw.2⟩
  | both h1 h2 =>
    cases c
    · exact .inr ⟨rfl, h2, hw.2 rfl⟩
    · exact .inl ⟨rfl, h1, hw.1 rfl⟩
  | done =>
    cases c
    · exact .inr ⟨rfl, _, hw.2 rfl⟩
    · exact .inl ⟨rfl, _, hw.1 rfl⟩
  | row r h =>
    cases c
    · exact .inr ⟨rfl, _, hw.2 rfl⟩
    · exact .inl ⟨rfl, _, hw.1 rfl⟩
  | val r h =>
    cases c
    · exact .inr ⟨rfl, _, hw.2 rfl⟩
    · exact .inl ⟨rfl, _, hw.1 rfl⟩
def optRH {β : Type} (h : Hint) (o : Option (List TV)) (k : List TV → Hint → Tr β) : Tr β :=
  match h with
  | .row r h => .isR o r (k r h)
  | h => .optR o fun r => k r h
theorem optRH_ok {β : Type} {h : Hint} {o : Option (List TV)} {k : List TV → Hint → Tr β} {Q : β → Prop} (hw : TW (optRH h o k) Q) : ∃ r h, o = some r ∧ TW (k r h) Q := by
  unfold optRH at hw
  split at hw
  · exact ⟨_, _, hw.1, hw.2⟩
  · obtain ⟨r, h1, h2⟩ := hw; exact ⟨_, _, h1, h2⟩
def optTH {β : Type} (h : Hint) (o : Option TV) (k : TV → Hint → Tr β) : Tr β :=
  match h with
  | .val r h => .isT o r (k r h)
  | h => .optT o fun r => k r h
theorem optTH_ok {β : Type} {h : Hint} {o : Option TV} {k : TV → Hint → Tr β} {Q : β → Prop} (hw : TW (optTH h o k) Q) : ∃ r h, o = some r ∧ TW (k r h) Q := by
  unfold optTH at hw
  split at hw
  · exact ⟨_, _, hw.1, hw.2⟩
  · obtain ⟨r, h1, h2⟩ := hw; exact ⟨_, _, h1, h2⟩

def LK.trK {α β : Type} (s : List TV) : LK α → List Nat → Hint → (α → List Nat → Hint → Tr β) → Tr β
  | .ret a, acc, h, k => k a acc h
  | .look i f, acc, h, k => LK.trK s (f (get s i)) (i :: acc) h k
  | .ite c a b, acc, h, k => iteH h c (fun h => LK.trK s a acc h k) (fun h => LK.trK s b acc h k)
  | .optR o f, acc, h, k => optRH h o fun r h => LK.trK s (f r) acc h k
  | .optT o f, acc, h, k => optTH h o fun r h => LK.trK s (f r) acc h k
  | .fail, _, _, _ => .fail

theorem LK.trK_ok {α β : Type} {s : List TV} {Q : β → Prop} : ∀ (x : LK α) (acc : List Nat) (h : Hint) (k : α → List Nat → Hint → Tr β), TW (LK.trK s x acc h k) Q →
    ∃ a h', x.eval s = some a ∧ TW (k a ((x.log s).reverse ++ acc) h') Q
  | .ret a, acc, h, k, hw => ⟨a, h, rfl, hw⟩
  | .look i f, acc, h, k, hw => by
    obtain ⟨a, h', h1, h2⟩ := LK.trK_ok (f (get s i)) _ _ k hw
    exact ⟨a, h', h1, by simpa [LK.log] using h2⟩
  | .ite c a b, acc, h, k, hw => by
    rcases iteH_ok hw with ⟨rfl, h, hw⟩ | ⟨rfl, h, hw⟩
    · exact LK.trK_ok a acc h k hw
    · exact LK.trK_ok b acc h k hw
  | .optR o f, acc, h, k, hw => by
    obtain ⟨r, h', e, hw'⟩ := optRH_ok (h := h) (o := o) (k := fun r h => LK.trK s (f r) acc h k) hw
    subst e
    exact LK.trK_ok (f r) acc h' k hw'
  | .optT o f, acc, h, k, hw => by
    obtain ⟨r, h', e, hw'⟩ := optTH_ok (h := h) (o := o) (k := fun r h => LK.trK s (f r) acc h k) hw
    subst e
    exact LK.trK_ok (f r) acc h' k hw'
  | .fail, _, _, _, hw => hw.elim

section
variable (P : Program) (call : FuncId → List TV → Option TV) (rs : List Nat)

def opsK {β : Type} (ops : Array Oper) : Nat → List Oper → List TV → Hint → (List TV → Hint → Tr β) → Tr β
  | _, [], s, h, k => k s h
  | n, o :: l, s, h, k => LK.trK s (gOp P call rs ops n o) [] h fun r _ h => opsK ops (n + 1) l (after s o.dst r) h k
def opsLK {β : Type} (ops : Array Oper) : Nat → List Oper → List TV → List RW → Hint → (List TV → List RW → Hint → Tr β) → Tr β
  | _, [], s, rw, h, k => k s rw h
  | n, o :: l, s, rw, h, k => LK.trK s (gOp P call rs ops n o) [] h fun r log h => opsLK ops (n + 1) l (after s o.dst r) (rw ++ [rwOf o.dst r log]) h k
def regionK {β : Type} (ops : Array Oper) (draw : Bool) (σ : St) (h : Hint) (k : St → Hint → Tr β) : Tr β :=
  if draw then opsLK P call rs ops σ.nx ops.toList σ.s [] h fun s rw h => if drawOk ops.toList rw then k ⟨s, σ.nx + ops.size⟩ h else .fail
  else opsK P call rs ops σ.nx ops.toList σ.s h fun s h => k ⟨s, σ.nx + ops.size⟩ h

/-- Where a run comes to. -/
inductive Place where
  | fin (e : Ex) (σ : St)
  | loop (π : List Bool) (σ : St)

def runK {β : Type} : Code → List Bool → St → Hint → (Place → Hint → Tr β) → Tr β
  | .skip, _, σ, h, k => k (.fin .normal σ) h
  | .region _ ops draw, _, σ, h, k => regionK P call rs ops draw σ h fun σ' h => k (.fin .normal σ') h
  | .seq a b, π, σ, h, k => runK a (π ++ [false]) σ h fun p h => match p with
    | .fin .normal σ' => runK b (π ++ [true]) σ' h k
    | p => k p h
  | .cond c a b, π, σ, h, k => LK.trK σ.s (ev c) [] h fun t _ h => match t with
    | .bool t => iteH h t (fun h => runK a (π ++ [false]) σ h k) (fun h => runK b (π ++ [true]) σ h k)
    | _ => .fail
  | .block id b, π, σ, h, k => runK b (π ++ [false]) σ h fun p h => match p with
    | .fin (.exit id') σ' => if id' = id then k (.fin .normal σ') h else k (.fin (.exit id') σ') h
    | p => k p h
  | .loop _, π, σ, h, k => k (.loop π σ) h
  | .exit id, _, σ, h, k => k (.fin (.exit id) σ) h
  | .ret, _, σ, h, k => k (.fin .ret σ) h
  | _, _, _, _, _ => .fail

def codeAt : Code → List Bool → Code
  | c, [] => c
  | .seq a _, false :: π => codeAt a π
  | .seq _ b, true :: π => codeAt b π
  | .cond _ a _, false :: π => codeAt a π
  | .cond _ _ b, true :: π => codeAt b π
  | .block _ b, _ :: π => codeAt b π
  | _, _ :: _ => .skip
def bodyAt (c : Code) (π : List Bool) : Code := match codeAt c π with | .loop b => b | _ => .skip
/-- What is asked of a loop's end, for the whole to end so. -/
def contQ : Code → List Bool → (Ex → St → Prop) → Ex → St → Prop
  | _, [], Q => Q
  | .seq a b, false :: π, Q => contQ a π (thenQ (fun σ => W P call rs b σ Q) Q)
  | .seq _ b, true :: π, Q => contQ b π Q
  | .cond _ a _, false :: π, Q => contQ a π Q
  | .cond _ _ b, true :: π, Q => contQ b π Q
  | .block id b, _ :: π, Q => contQ b π (blockQ id Q)
  | _, _ :: _, _ => fun _ _ => False
/-- The run behind a loop's end. -/
def resK {β : Type} : Code → List Bool → List Bool → Ex → St → Hint → (Place → Hint → Tr β) → Tr β
  | _, [], _, e, σ, h, k => k (.fin e σ) h
  | .seq a b, false :: π, ρ, e, σ, h, k => resK a π (ρ ++ [false]) e σ h fun p h => match p with
    | .fin .normal σ' => runK P call rs b (ρ ++ [true]) σ' h k
    | p => k p h
  | .seq _ b, true :: π, ρ, e, σ, h, k => resK b π (ρ ++ [true]) e σ h k
  | .cond _ a _, false :: π, ρ, e, σ, h, k => resK a π (ρ ++ [false]) e σ h k
  | .cond _ _ b, true :: π, ρ, e, σ, h, k => resK b π (ρ ++ [true]) e σ h k
  | .block id b, _ :: π, ρ, e, σ, h, k => resK b π (ρ ++ [false]) e σ h fun p h => match p with
    | .fin (.exit id') σ' => if id' = id then k (.fin .normal σ') h else k (.fin (.exit id') σ') h
    | p => k p h
  | _, _ :: _, _, _, _, _, _ => .fail
/-- What is asked of the place that a run comes to. -/
def OutQ (c : Code) (Q : Ex → St → Prop) : Place → Prop
  | .fin e σ => Q e σ
  | .loop π σ => W P call rs (.loop (bodyAt c π)) σ (contQ P call rs c π Q)
end

section
variable {P : Program} {call : FuncId → List TV → Option TV} {rs : List Nat} {β : Type} {R : β → Prop}

theorem opsK_ok {ops : Array Oper} : ∀ (l : List Oper) (n : Nat) (s : List TV) (h : Hint) (k : List TV → Hint → Tr β), TW (opsK P call rs ops n l s h k) R → ∃ s' h', opsFrom P call rs ops n l s = some s' ∧ TW (k s' h') R
  | [], n, s, h, k, hw => ⟨s, h, rfl, hw⟩
  | o :: l, n, s, h, k, hw => by
    obtain ⟨r, h', h1, h2⟩ := LK.trK_ok _ _ _ _ hw
    obtain ⟨s', h'', h3, h4⟩ := opsK_ok l _ _ _ k h2
    exact ⟨s', h'', by simp only [opsFrom, h1, h3], h4⟩
/-- The logs, in another order. -/
def rwSame (a b : List RW) : Prop := a.length = b.length ∧ ∀ i, (a.getD i ⟨[], []⟩).w = (b.getD i ⟨[], []⟩).w ∧ ∀ x, x ∈ (a.getD i ⟨[], []⟩).r ↔ x ∈ (b.getD i ⟨[], []⟩).r
theorem apartL_congr {x y z : List Nat} (h : ∀ t, t ∈ y ↔ t ∈ z) : apartL x y = apartL x z := by
  unfold apartL
  congr 1
  funext t
  congr 1
  have := h t
  by_cases hy : t ∈ y
  · have hz := this.1 hy; simp [hy, hz]
  · have hz : t ∉ z := fun hz => hy (this.2 hz); simp [hy, hz]
theorem drawOk_same {ops : List Oper} {a b : List RW} (h : rwSame a b) : drawOk ops a = drawOk ops b := by
  unfold drawOk
  simp only
  congr 1
  congr 1
  funext j
  congr 1
  funext i
  congr 1
  simp only [RW.free, (h.2 i).1, (h.2 j).1, apartL_congr (h.2 i).2, apartL_congr (h.2 j).2]
theorem opsLK_ok {ops : Array Oper} : ∀ (l : List Oper) (n : Nat) (s : List TV) (rw : List RW) (h : Hint) (k : List TV → List RW → Hint → Tr β), TW (opsLK P call rs ops n l s rw h k) R →
    ∃ s' rw1 rw2 h', opsLog P call rs ops n l s = some (s', rw1) ∧ TW (k s' (rw ++ rw2) h') R ∧ rwSame rw2 rw1
  | [], n, s, rw, h, k, hw => ⟨s, [], [], h, rfl, by simpa [opsLK] using hw, rfl, fun i => ⟨rfl, fun x => Iff.rfl⟩⟩
  | o :: l, n, s, rw, h, k, hw => by
    obtain ⟨r, h', h1, h2⟩ := LK.trK_ok _ _ _ _ hw
    obtain ⟨s', rw1, rw2, h'', h3, h4, h5⟩ := opsLK_ok l _ _ _ _ k h2
    refine ⟨s', rwOf o.dst r (LK.log s (gOp P call rs ops n o)) :: rw1, rwOf o.dst r ((LK.log s (gOp P call rs ops n o)).reverse ++ []) :: rw2, h'', by simp only [opsLog, h1, h3, Option.map_some], by simpa using h4, by simp [h5.1], fun i => ?_⟩
    cases i with
    | zero => exact ⟨rfl, fun x => by simp [rwOf]⟩
    | succ i => simpa using h5.2 i
theorem regionK_ok {ops : Array Oper} {draw : Bool} {σ : St} {h : Hint} {k : St → Hint → Tr β} (hw : TW (regionK P call rs ops draw σ h k) R) : ∃ σ' h', region P call rs ops draw σ = some σ' ∧ TW (k σ' h') R := by
  unfold regionK at hw
  cases draw
  · simp only [Bool.false_eq_true, if_false] at hw
    obtain ⟨s', h', h1, h2⟩ := opsK_ok _ _ _ _ _ hw
    exact ⟨_, _, by simp only [region, Bool.false_eq_true, if_false, h1, Option.map_some], h2⟩
  · simp only [if_true] at hw
    obtain ⟨s', rw1, rw2, h', h1, h2, h3⟩ := opsLK_ok _ _ _ _ _ _ hw
    simp only [List.nil_append] at h2
    split at h2
    · rename_i hd
      have hd := (drawOk_same (ops := ops.toList) h3).symm.trans hd
      exact ⟨_, _, by simp only [region, if_true, h1, hd], h2⟩
    · exact h2.elim

theorem W_fin {c : Code} {σ σ' : St} {e : Ex} {n : Nat} {Q : Ex → St → Prop} (h : run P call rs n c σ = some (e, σ')) (hq : Q e σ') : W P call rs c σ Q := ⟨n, e, σ', h, hq⟩

theorem runK_ok : ∀ (c : Code) (π : List Bool) (σ : St) (h : Hint) (k : Place → Hint → Tr β) (Q : Ex → St → Prop), TW (runK P call rs c π σ h k) R →
    (∀ e σ' h, TW (k (.fin e σ') h) R → Q e σ') → (∀ π' σ' h, TW (k (.loop (π ++ π') σ') h) R → W P call rs (.loop (bodyAt c π')) σ' (contQ P call rs c π' Q)) → W P call rs c σ Q := by
  intro c
  induction c with
  | skip => intro π σ h k Q hw hf hl; exact W_skip.2 (hf _ _ _ hw)
  | exit id => intro π σ h k Q hw hf hl; exact W_exit.2 (hf _ _ _ hw)
  | ret => intro π σ h k Q hw hf hl; exact W_ret.2 (hf _ _ _ hw)
  | region id ops draw =>
    intro π σ h k Q hw hf hl
    obtain ⟨σ', h', h1, h2⟩ := regionK_ok hw
    exact W_region.2 (by rw [h1]; exact hf _ _ _ h2)
  | seq a b iha ihb =>
    intro π σ h k Q hw hf hl
    refine W_seq.2 (iha _ _ _ _ _ hw (fun e σ' h' he => ?_) (fun π' σ' h' he => ?_))
    · cases e with
      | normal => exact ihb _ _ _ _ _ he hf fun π' σ'' h'' hq => hl (true :: π') σ'' h'' (by simpa using hq)
      | exit id => exact hf _ _ _ he
      | ret => exact hf _ _ _ he
    · exact hl (false :: π') σ' h' (by simpa using he)
  | cond c a b iha ihb =>
    intro π σ h k Q hw hf hl
    obtain ⟨t, h', h1, h2⟩ := LK.trK_ok _ _ _ _ hw
    split at h2
    · rename_i t'
      refine (W_cond h1).2 ?_
      rcases iteH_ok h2 with ⟨rfl, h'', h2⟩ | ⟨rfl, h'', h2⟩
      · exact iha _ _ _ _ _ h2 hf fun π' σ'' h3 hq => hl (false :: π') σ'' h3 (by simpa using hq)
      · exact ihb _ _ _ _ _ h2 hf fun π' σ'' h3 hq => hl (true :: π') σ'' h3 (by simpa using hq)
    · exact h2.elim
  | block id b ih =>
    intro π σ h k Q hw hf hl
    refine W_block.2 (ih _ _ _ _ _ hw (fun e σ' h' he => ?_) (fun π' σ' h' he => hl (false :: π') σ' h' (by simpa using he)))
    cases e with
    | normal => exact hf _ _ _ he
    | ret => exact hf _ _ _ he
    | exit id' =>
      simp only at he
      simp only [blockQ]
      split at he
      · rename_i hi; rw [if_pos hi]; exact hf _ _ _ he
      · rename_i hi; rw [if_neg hi]; exact hf _ _ _ he
  | loop b ih => intro π σ h k Q hw hf hl; exact hl [] σ h (by simpa [runK] using hw)
  | _ => intro π σ h k Q hw hf hl; exact hw.elim

theorem resK_ok : ∀ (c : Code) (π ρ : List Bool) (e : Ex) (σ : St) (h : Hint) (k : Place → Hint → Tr β) (Q : Ex → St → Prop), TW (resK P call rs c π ρ e σ h k) R →
    (∀ e σ' h, TW (k (.fin e σ') h) R → Q e σ') → (∀ π' σ' h, TW (k (.loop (ρ ++ π') σ') h) R → W P call rs (.loop (bodyAt c π')) σ' (contQ P call rs c π' Q)) → contQ P call rs c π Q e σ := by
  intro c
  induction c with
  | seq a b iha ihb =>
    intro π ρ e σ h k Q hw hf hl
    match π with
    | [] => exact hf _ _ _ hw
    | false :: π =>
      refine iha _ _ _ _ _ _ _ hw (fun e σ' h' he => ?_) (fun π' σ' h' he => hl (false :: π') σ' h' (by simpa using he))
      cases e with
      | normal => exact runK_ok _ _ _ _ _ _ he hf fun π' σ'' h'' hq => hl (true :: π') σ'' h'' (by simpa using hq)
      | exit id => exact hf _ _ _ he
      | ret => exact hf _ _ _ he
    | true :: π => exact ihb _ _ _ _ _ _ _ hw hf fun π' σ' h' he => hl (true :: π') σ' h' (by simpa using he)
  | cond c a b iha ihb =>
    intro π ρ e σ h k Q hw hf hl
    match π with
    | [] => exact hf _ _ _ hw
    | false :: π => exact iha _ _ _ _ _ _ _ hw hf fun π' σ' h' he => hl (false :: π') σ' h' (by simpa using he)
    | true :: π => exact ihb _ _ _ _ _ _ _ hw hf fun π' σ' h' he => hl (true :: π') σ' h' (by simpa using he)
  | block id b ih =>
    intro π ρ e σ h k Q hw hf hl
    match π with
    | [] => exact hf _ _ _ hw
    | false :: π =>
      refine ih _ _ _ _ _ _ _ hw (fun e σ' h' he => ?_) (fun π' σ' h' he => hl (false :: π') σ' h' (by simpa using he))
      cases e with
      | normal => exact hf _ _ _ he
      | ret => exact hf _ _ _ he
      | exit id' =>
        simp only at he
        simp only [blockQ]
        split at he
        · rename_i hi; rw [if_pos hi]; exact hf _ _ _ he
        · rename_i hi; rw [if_neg hi]; exact hf _ _ _ he
    | true :: π => 
      refine ih _ _ _ _ _ _ _ hw (fun e σ' h' he => ?_) (fun π' σ' h' he => hl (false :: π') σ' h' (by simpa using he))
      cases e with
      | normal => exact hf _ _ _ he
      | ret => exact hf _ _ _ he
      | exit id' =>
        simp only at he
        simp only [blockQ]
        split at he
        · rename_i hi; rw [if_pos hi]; exact hf _ _ _ he
        · rename_i hi; rw [if_neg hi]; exact hf _ _ _ he
  | _ =>
    intro π ρ e σ h k Q hw hf hl
    match π with
    | [] => exact hf _ _ _ hw
    | false :: π => simp [resK, TW] at hw
    | true :: π => simp [resK, TW] at hw

/-- The place as the tree's leaf. -/
def leaf (p : Place) (_ : Hint) : Tr Place := .ret p
/-- CODE BY ITS TREE. -/
theorem W_tree {c : Code} {σ : St} {Q : Ex → St → Prop} (h : Hint) (hw : TW (runK P call rs c [] σ h leaf) (OutQ P call rs c Q)) : W P call rs c σ Q :=
  runK_ok c [] σ h _ Q hw (fun _ _ _ h => h) (fun π' σ' _ h => h)
theorem cont_tree {c : Code} {π : List Bool} {e : Ex} {σ : St} {Q : Ex → St → Prop} (h : Hint) (hw : TW (resK P call rs c π [] e σ h leaf) (OutQ P call rs c Q)) : contQ P call rs c π Q e σ :=
  resK_ok c π [] e σ h _ Q hw (fun _ _ _ h => h) (fun π' σ' _ h => h)
end
end Go.Vm
