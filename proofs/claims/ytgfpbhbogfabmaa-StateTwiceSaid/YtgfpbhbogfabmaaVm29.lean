/- Functions by their cuts: the entry, and each loop's head, to the next head or to the answer. -/
import Derived.Test.YtgfpbhbogfabmaaVm26
set_option linter.unusedVariables false
set_option linter.unusedSimpArgs false
set_option linter.unnecessarySimpa false
set_option linter.unusedSectionVars false
namespace Go.Vm

def subAt : Code → List Bool → Code
  | c, [] => c
  | .seq a _, false :: π => subAt a π
  | .seq _ b, true :: π => subAt b π
  | .cond _ a _, false :: π => subAt a π
  | .cond _ _ b, true :: π => subAt b π
  | .block _ b, false :: π => subAt b π
  | .loop b, false :: π => subAt b π
  | _, _ :: _ => .skip
def loopBody : Code → Code | .loop b => b | _ => .skip
def isLoop : Code → Bool | .loop _ => true | _ => false
theorem loop_body {c : Code} (h : isLoop c = true) : c = .loop (loopBody c) := by cases c <;> simp_all [isLoop, loopBody]
theorem subAt_append : ∀ (c : Code) (π π' : List Bool), π' = [] ∨ subAt c π ≠ .skip → subAt c (π ++ π') = subAt (subAt c π) π' := by
  intro c
  induction c with
  | seq a b iha ihb => intro π π' h; match π with
    | [] => rfl
    | false :: π => exact iha π π' h
    | true :: π => exact ihb π π' h
  | cond t a b iha ihb => intro π π' h; match π with
    | [] => rfl
    | false :: π => exact iha π π' h
    | true :: π => exact ihb π π' h
  | block id b ih => intro π π' h; match π with
    | [] => rfl
    | false :: π => exact ih π π' h
    | true :: π => rcases h with rfl | h <;> simp_all [subAt]
  | loop b ih => intro π π' h; match π with
    | [] => rfl
    | false :: π => exact ih π π' h
    | true :: π => rcases h with rfl | h <;> simp_all [subAt]
  | _ => intro π π' h; match π with
    | [] => rfl
    | false :: π => rcases h with rfl | h <;> simp_all [subAt]
    | true :: π => rcases h with rfl | h <;> simp_all [subAt]

section
variable (P : Program) (call : FuncId → List TV → Option TV) (rs : List Nat)
def contC : Code → List Bool → (Ex → St → Prop) → Ex → St → Prop
  | _, [], Q => Q
  | .seq a b, false :: π, Q => contC a π (thenQ (fun σ => W P call rs b σ Q) Q)
  | .seq _ b, true :: π, Q => contC b π Q
  | .cond _ a _, false :: π, Q => contC a π Q
  | .cond _ _ b, true :: π, Q => contC b π Q
  | .block id b, false :: π, Q => contC b π (blockQ id Q)
  | .loop b, false :: π, Q => contC b π (thenQ (fun σ => W P call rs (.loop b) σ Q) Q)
  | _, _ :: _, _ => fun _ _ => False
/-- The run behind a loop's end, out of it. -/
def resC {β : Type} : Code → List Bool → List Bool → Ex → St → Hint → (Place → Hint → Tr β) → Tr β
  | _, [], _, e, σ, h, k => k (.fin e σ) h
  | .seq a b, false :: π, ρ, e, σ, h, k => resC a π (ρ ++ [false]) e σ h fun p h => match p with
    | .fin .normal σ' => runK P call rs b (ρ ++ [true]) σ' h k
    | p => k p h
  | .seq _ b, true :: π, ρ, e, σ, h, k => resC b π (ρ ++ [true]) e σ h k
  | .cond _ a _, false :: π, ρ, e, σ, h, k => resC a π (ρ ++ [false]) e σ h k
  | .cond _ _ b, true :: π, ρ, e, σ, h, k => resC b π (ρ ++ [true]) e σ h k
  | .block id b, false :: π, ρ, e, σ, h, k => resC b π (ρ ++ [false]) e σ h fun p h => match p with
    | .fin (.exit id') σ' => if id' = id then k (.fin .normal σ') h else k (.fin (.exit id') σ') h
    | p => k p h
  | .loop b, false :: π, ρ, e, σ, h, k => resC b π (ρ ++ [false]) e σ h fun p h => match p with
    | .fin .normal σ' => k (.loop ρ σ') h
    | p => k p h
  | _, _ :: _, _, _, _, _, _ => .fail
/-- What is asked of a loop's head. -/
def HeadQ (c : Code) (Q : Ex → St → Prop) (π : List Bool) (σ : St) : Prop := W P call rs (subAt c π) σ (contC P call rs c π Q)
end

section
variable {P : Program} {call : FuncId → List TV → Option TV} {rs : List Nat} {β : Type} {R : β → Prop}

theorem contC_append : ∀ (c : Code) (π π' : List Bool) (Q : Ex → St → Prop), π' = [] ∨ subAt c π ≠ .skip → contC P call rs c (π ++ π') Q = contC P call rs (subAt c π) π' (contC P call rs c π Q) := by
  intro c
  induction c with
  | seq a b iha ihb => intro π π' Q h; match π with
    | [] => rfl
    | false :: π => exact iha π π' _ h
    | true :: π => exact ihb π π' _ h
  | cond t a b iha ihb => intro π π' Q h; match π with
    | [] => rfl
    | false :: π => exact iha π π' _ h
    | true :: π => exact ihb π π' _ h
  | block id b ih => intro π π' Q h; match π with
    | [] => rfl
    | false :: π => exact ih π π' _ h
    | true :: π => rcases h with rfl | h <;> simp_all [subAt, contC]
  | loop b ih => intro π π' Q h; match π with
    | [] => rfl
    | false :: π => exact ih π π' _ h
    | true :: π => rcases h with rfl | h <;> simp_all [subAt, contC]
  | _ => intro π π' Q h; match π with
    | [] => rfl
    | false :: π => rcases h with rfl | h <;> simp_all [subAt, contC]
    | true :: π => rcases h with rfl | h <;> simp_all [subAt, contC]

/-- Runs by their trees, the heads by their paths. -/
theorem runC_ok : ∀ (c : Code) (π : List Bool) (σ : St) (h : Hint) (k : Place → Hint → Tr β) (Q : Ex → St → Prop), TW (runK P call rs c π σ h k) R →
    (∀ e σ' h, TW (k (.fin e σ') h) R → Q e σ') → (∀ π' σ' h, TW (k (.loop (π ++ π') σ') h) R → HeadQ P call rs c Q π' σ') → W P call rs c σ Q := by
  intro c
  induction c with
  | skip => intro π σ h k Q hw hf hl; exact W_skip.2 (hf _ _ _ hw)
  | exit id => intro π σ h k Q hw hf hl; exact W_exit.2 (hf _ _ _ hw)
  | ret => intro π σ h k Q hw hf hl; exact W_ret.2 (hf _ _ _ hw)
  | region id ops draw =>
    intro π σ h k Q hw hf hl
    obtain ⟨σ', h', h1, h2⟩ := regionK_ok hw
    exact W_region.2 (by rw [h1]; exact hf _ _ _ h2)
  | seq a b iha ihb =>
    intro π σ h k Q hw hf hl
    refine W_seq.2 (iha _ _ _ _ _ hw (fun e σ' h' he => ?_) (fun π' σ' h' he => ?_))
    · cases e with
      | normal => exact ihb _ _ _ _ _ he hf fun π' σ'' h'' hq => hl (true :: π') σ'' h'' (by simpa using hq)
      | exit id => exact hf _ _ _ he
      | ret => exact hf _ _ _ he
    · exact hl (false :: π') σ' h' (by simpa using he)
  | cond c a b iha ihb =>
    intro π σ h k Q hw hf hl
    obtain ⟨t, h', h1, h2⟩ := LK.trK_ok _ _ _ _ hw
    split at h2
    · rename_i t
      rw [W_cond h1]
      rcases iteH_ok h2 with ⟨rfl, h'', h2⟩ | ⟨rfl, h'', h2⟩
      · exact iha _ _ _ _ _ h2 hf fun π' σ'' h3 hq => hl (false :: π') σ'' h3 (by simpa using hq)
      · exact ihb _ _ _ _ _ h2 hf fun π' σ'' h3 hq => hl (true :: π') σ'' h3 (by simpa using hq)
    · exact h2.elim
  | block id b ih =>
    intro π σ h k Q hw hf hl
    refine W_block.2 (ih _ _ _ _ _ hw (fun e σ' h' he => ?_) (fun π' σ' h' he => hl (false :: π') σ' h' (by simpa using he)))
    cases e with
    | normal => exact hf _ _ _ he
    | ret => exact hf _ _ _ he
    | exit id' =>
      simp only at he
      simp only [blockQ]
      split at he
      · rename_i hi; rw [if_pos hi]; exact hf _ _ _ he
      · rename_i hi; rw [if_neg hi]; exact hf _ _ _ he
  | loop b ih => intro π σ h k Q hw hf hl; exact hl [] σ h (by simpa [runK] using hw)
  | _ => intro π σ h k Q hw hf hl; exact hw.elim

theorem resC_ok : ∀ (c : Code) (π ρ : List Bool) (e : Ex) (σ : St) (h : Hint) (k : Place → Hint → Tr β) (Q : Ex → St → Prop), TW (resC P call rs c π ρ e σ h k) R →
    (∀ e σ' h, TW (k (.fin e σ') h) R → Q e σ') → (∀ π' σ' h, TW (k (.loop (ρ ++ π') σ') h) R → HeadQ P call rs c Q π' σ') → contC P call rs c π Q e σ := by
  intro c
  induction c with
  | seq a b iha ihb =>
    intro π ρ e σ h k Q hw hf hl
    match π with
    | [] => exact hf _ _ _ hw
    | false :: π =>
      refine iha _ _ _ _ _ _ _ hw (fun e σ' h' he => ?_) (fun π' σ' h' he => hl (false :: π') σ' h' (by simpa using he))
      cases e with
      | normal => exact runC_ok _ _ _ _ _ _ he hf fun π' σ'' h'' hq => hl (true :: π') σ'' h'' (by simpa using hq)
      | exit id => exact hf _ _ _ he
      | ret => exact hf _ _ _ he
    | true :: π => exact ihb _ _ _ _ _ _ _ hw hf fun π' σ' h' he => hl (true :: π') σ' h' (by simpa using he)
  | cond c a b iha ihb =>
    intro π ρ e σ h k Q hw hf hl
    match π with
    | [] => exact hf _ _ _ hw
    | false :: π => exact iha _ _ _ _ _ _ _ hw hf fun π' σ' h' he => hl (false :: π') σ' h' (by simpa using he)
    | true :: π => exact ihb _ _ _ _ _ _ _ hw hf fun π' σ' h' he => hl (true :: π') σ' h' (by simpa using he)
  | block id b ih =>
    intro π ρ e σ h k Q hw hf hl
    match π with
    | [] => exact hf _ _ _ hw
    | false :: π =>
      refine ih _ _ _ _ _ _ _ hw (fun e σ' h' he => ?_) (fun π' σ' h' he => hl (false :: π') σ' h' (by simpa using he))
      cases e with
      | normal => exact hf _ _ _ he
      | ret => exact hf _ _ _ he
      | exit id' =>
        simp only at he
        simp only [blockQ]
        split at he
        · rename_i hi; rw [if_pos hi]; exact hf _ _ _ he
        · rename_i hi; rw [if_neg hi]; exact hf _ _ _ he
    | true :: π => simp [resC, TW] at hw
  | loop b ih =>
    intro π ρ e σ h k Q hw hf hl
    match π with
    | [] => exact hf _ _ _ hw
    | false :: π =>
      refine ih _ _ _ _ _ _ _ hw (fun e σ' h' he => ?_) (fun π' σ' h' he => hl (false :: π') σ' h' (by simpa using he))
      cases e with
      | normal => exact hl [] σ' h' (by simpa using he)
      | ret => exact hf _ _ _ he
      | exit id' => exact hf _ _ _ he
    | true :: π => simp [resC, TW] at hw
  | _ =>
    intro π ρ e σ h k Q hw hf hl
    match π with
    | [] => exact hf _ _ _ hw
    | false :: π => simp [resC, TW] at hw
    | true :: π => simp [resC, TW] at hw
end

/-- Where a run comes to: an answer, or a loop's head with the slots that count there. -/
inductive Lc where
  | res (r : Option TV)
  | at (π : List Bool) (len : Nat) (vs : List TV) (nx : Nat)
def liveAt : List (List Bool × List Nat) → List Bool → List Nat
  | [], _ => []
  | (ρ, is) :: l, π => bif ρ == π then is else liveAt l π

/-- Slots of which some are told. -/
def headAt (g : Nat → TV) : Nat → Nat → List Nat → List TV → List TV
  | _, 0, _, _ => []
  | k, n + 1, [], vs => g k :: headAt g (k + 1) n [] vs
  | k, n + 1, i :: is, vs => bif Nat.beq k i then vs.headD .undef :: headAt g (k + 1) n is vs.tail else g k :: headAt g (k + 1) n (i :: is) vs
/-- Ascending, from k on. -/
def ascL : Nat → List Nat → Bool
  | _, [] => true
  | k, i :: is => Nat.ble k i && ascL (i + 1) is
theorem get_drop {s : List TV} {k : Nat} (h : k < s.length) : s.drop k = get s k :: s.drop (k + 1) := by
  induction s generalizing k with
  | nil => simp at h
  | cons t s ih =>
    cases k with
    | zero => rfl
    | succ k => simpa [get] using ih (by simpa using h)
theorem ascL_le {k : Nat} {i : Nat} {is : List Nat} (h : ascL k (i :: is) = true) (hk : k ≠ i) : ascL (k + 1) (i :: is) = true := by
  simp only [ascL, Bool.and_eq_true, Nat.ble_eq] at h ⊢
  exact ⟨by omega, h.2⟩
theorem headAt_eq (s : List TV) : ∀ (n k : Nat) (is : List Nat) (vs : List TV), k + n = s.length → ascL k is = true → is.map (get s) = vs → headAt (get s) k n is vs = s.drop k
  | 0, k, is, vs, hn, _, _ => by simp [headAt, List.drop_eq_nil_of_le (show s.length ≤ k by omega)]
  | n + 1, k, [], vs, hn, ha, hv => by
    rw [get_drop (by omega), ← headAt_eq s n (k + 1) [] vs (by omega) rfl hv]; rfl
  | n + 1, k, i :: is, vs, hn, ha, hv => by
    subst hv
    rw [get_drop (by omega)]
    simp only [headAt, List.map_cons, List.headD_cons, List.tail_cons]
    by_cases hk : k = i
    · subst hk
      rw [show Nat.beq k k = true by simp, cond_true]
      rw [headAt_eq s n (k + 1) is _ (by omega) (by simp only [ascL, Bool.and_eq_true] at ha; exact ha.2) rfl]
    · rw [show Nat.beq k i = false from by rw [Bool.eq_false_iff]; intro h; exact hk (Nat.eq_of_beq_eq_true h), cond_false]
      rw [← headAt_eq s n (k + 1) (i :: is) _ (by omega) (ascL_le ha hk) rfl]
      rfl

section
variable (P : Program) (Φ : FuncId → List TV → Option TV) (fn : Func) (hd : List (List Bool × List Nat))
def cutK : Place → Hint → Tr Lc
  | .fin (.exit _) _, _ => .fail
  | .fin .normal σ, _ => .ret (.res (outR P σ.s fn.results.toList))
  | .fin .ret σ, _ => .ret (.res (outR P σ.s fn.results.toList))
  | .loop π σ, _ => .ret (.at π σ.s.length ((liveAt hd π).map (get σ.s)) σ.nx)
/-- From the entry. -/
noncomputable def entryC (args : List TV) (h : Hint) : Tr Lc :=
  runK P (callE P Φ) (resSlots fn.results.toList) (codeOf fn) [] (start fn args) h (cutK P fn hd)
noncomputable def roundK (π : List Bool) : Place → Hint → Tr Lc
  | .fin .normal σ, h => cutK P fn hd (.loop π σ) h
  | .fin (.exit id) σ, h => resC P (callE P Φ) (resSlots fn.results.toList) (codeOf fn) π [] (.exit id) σ h (cutK P fn hd)
  | p, h => cutK P fn hd p h
/-- From a loop's head. -/
noncomputable def roundC (π : List Bool) (len : Nat) (vs : List TV) (g : Nat → TV) (n : Nat) (h : Hint) : Tr Lc :=
  runK P (callE P Φ) (resSlots fn.results.toList) (loopBody (subAt (codeOf fn) π)) (π ++ [false]) ⟨headAt g 0 len (liveAt hd π) vs, n⟩ h (roundK P Φ fn hd π)
/-- What is asked of a place: the answer, or a head that is as it should. -/
def LcQ (x : TV) (J : List Bool → List TV → Nat → Prop) (len : Nat) : Lc → Prop
  | .res r => r = some x
  | .at π l vs n => l = len ∧ J π vs n
end

section
variable {P : Program} {Φ : FuncId → List TV → Option TV} {fn : Func} {hd : List (List Bool × List Nat)} {x : TV}

theorem contC_ret : ∀ (c : Code) (π : List Bool) (Q : Ex → St → Prop) (σ : St), subAt c π ≠ .skip → Q .ret σ → contC P (callE P Φ) (resSlots fn.results.toList) c π Q .ret σ := by
  intro c
  induction c with
  | seq a b iha ihb => intro π Q σ h hq; match π with
    | [] => exact hq
    | false :: π => exact iha π _ σ h hq
    | true :: π => exact ihb π _ σ h hq
  | cond t a b iha ihb => intro π Q σ h hq; match π with
    | [] => exact hq
    | false :: π => exact iha π _ σ h hq
    | true :: π => exact ihb π _ σ h hq
  | block id b ih => intro π Q σ h hq; match π with
    | [] => exact hq
    | false :: π => exact ih π _ σ h hq
    | true :: π => simp [subAt] at h
  | loop b ih => intro π Q σ h hq; match π with
    | [] => exact hq
    | false :: π => exact ih π _ σ h hq
    | true :: π => simp [subAt] at h
  | _ => intro π Q σ h hq; match π with
    | [] => exact hq
    | false :: π => simp [subAt] at h
    | true :: π => simp [subAt] at h

theorem cut_fin {e : Ex} {σ : St} {h : Hint} {J : List Bool → List TV → Nat → Prop} {len : Nat} (hw : TW (cutK P fn hd (.fin e σ) h) (LcQ x J len)) : QR P fn x e σ := by
  cases e with
  | normal => exact ⟨fun id h => (by cases h), hw⟩
  | exit id => exact hw.elim
  | ret => exact ⟨fun id h => (by cases h), hw⟩

/-- A FUNCTION BY ITS CUTS. -/
theorem call_cut {ι M : Type} {f : FuncId} {args : List TV} (fn : Func) (hd : List (List Bool × List Nat)) (len : Nat) (hf : P.funcs[f]? = some fn)
    (hk : (fn.body.isSome && (fn.name != "runtime.NumGoroutine" && dstOk fn.ntmps (codeOf fn)) && Nat.ble args.length fn.ntmps && hd.all fun p => isLoop (subAt (codeOf fn) p.1) && ascL 0 p.2 && liveAt hd p.1 == p.2) = true)
    (hΦ : Φ f args = none) (rel : M → M → Prop) (hrel : WellFounded rel) (at_ : ι → List Bool) (hat : ∀ i, (hd.map Prod.fst).contains (at_ i) = true) (vals : ι → List TV) (inv : ι → Nat → Prop) (μ : ι → M)
    (entry : ∃ T, (∃ h, entryC P Φ fn hd args h = T) ∧ TW T (LcQ x (fun π vs n => ∃ j, at_ j = π ∧ vals j = vs ∧ inv j n) len))
    (round : ∀ i n, inv i n → ∀ g, ∃ T, (∃ h, roundC P Φ fn hd (at_ i) len (vals i) g n h = T) ∧ TW T (LcQ x (fun π vs n => ∃ j, at_ j = π ∧ vals j = vs ∧ inv j n ∧ rel (μ j) (μ i)) len)) : callE P Φ f args = some x := by
  simp only [Bool.and_eq_true, List.all_eq_true] at hk
  obtain ⟨⟨⟨h1, h2, h3⟩, hl⟩, hh⟩ := hk
  have hb := bodyOf_code hf (by simp only [Bool.and_eq_true]; exact ⟨h1, h2, h3⟩)
  have hloop : ∀ i, isLoop (subAt (codeOf fn) (at_ i)) = true ∧ ascL 0 (liveAt hd (at_ i)) = true := by
    intro i
    have := hat i
    simp only [List.contains_iff_mem, List.mem_map] at this
    obtain ⟨p, hp, e⟩ := this
    have h := hh p hp
    rw [e] at h
    refine ⟨h.1.1, ?_⟩
    rw [beq_iff_eq.1 h.2]
    exact h.1.2
  have hns : ∀ i, subAt (codeOf fn) (at_ i) ≠ .skip := fun i h => by
    have := (hloop i).1; rw [h] at this; simp [isLoop] at this
  have key : ∀ (m : M) i, μ i = m → ∀ n s, inv i n → s.length = len → (liveAt hd (at_ i)).map (get s) = vals i →
      W P (callE P Φ) (resSlots fn.results.toList) (subAt (codeOf fn) (at_ i)) ⟨s, n⟩ (contC P (callE P Φ) (resSlots fn.results.toList) (codeOf fn) (at_ i) (QR P fn x)) := by
    intro m
    induction m using hrel.induction with
    | _ m ih =>
      intro i hm n s hi hs hv
      obtain ⟨T, ⟨h, hT⟩, hw⟩ := round i n hi (get s)
      subst hT
      unfold roundC at hw
      rw [headAt_eq s len 0 _ _ (by omega) (hloop i).2 hv] at hw
      have head : ∀ π' σ' h, TW (cutK P fn hd (.loop π' σ') h) (LcQ x (fun π vs n => ∃ j, at_ j = π ∧ vals j = vs ∧ inv j n ∧ rel (μ j) (μ i)) len) → HeadQ P (callE P Φ) (resSlots fn.results.toList) (codeOf fn) (QR P fn x) π' σ' := by
        rintro π' σ' h ⟨hl, j, rfl, hv, hj, hr⟩
        exact ih _ (hm ▸ hr) j rfl σ'.nx σ'.s hj hl hv.symm
      obtain ⟨b, hb'⟩ : ∃ b, subAt (codeOf fn) (at_ i) = .loop b := ⟨_, loop_body (hloop i).1⟩
      rw [hb'] at hw ⊢
      rw [W_loop]
      refine runC_ok _ _ _ _ _ _ hw (fun e σ' h' he => ?_) (fun π' σ' h' he => ?_)
      · cases e with
        | normal =>
          have := head _ _ h' he
          unfold HeadQ at this
          rw [hb'] at this
          exact this
        | exit id => exact resC_ok _ _ _ _ _ _ _ _ he (fun e σ' h he => cut_fin he) (fun π' σ'' h'' hq => head π' σ'' h'' hq)
        | ret => exact contC_ret _ _ _ _ (hns i) (cut_fin (hd := hd) (h := h') he)
      · have := head _ _ h' he
        unfold HeadQ at this ⊢
        rw [List.append_assoc, subAt_append _ _ _ (.inr (hns i)), contC_append (P := P) (call := callE P Φ) (rs := resSlots fn.results.toList) _ _ _ (QR P fn x) (.inr (hns i)), hb'] at this
        exact this
  obtain ⟨T, ⟨h, hT⟩, hw⟩ := entry
  subst hT
  refine callE_body hb hΦ (Nat.le_of_ble_eq_true hl) (runC_ok _ _ _ _ _ _ hw (fun e σ' h he => cut_fin he) fun π' σ' h' he => ?_)
  obtain ⟨hl, j, e, hv, hj⟩ := he
  simp only [List.nil_append] at e hv
  subst e
  exact key _ j rfl σ'.nx σ'.s hj hl hv.symm
theorem TW_mono {α : Type} {Q Q' : α → Prop} (hq : ∀ a, Q a → Q' a) : ∀ (T : Tr α), TW T Q → TW T Q'
  | .ret a, h => hq a h
  | .ite c a b, h => ⟨fun hc => TW_mono hq a (h.1 hc), fun hc => TW_mono hq b (h.2 hc)⟩
  | .need c a, h => ⟨h.1, TW_mono hq a h.2⟩
  | .isR o r a, h => ⟨h.1, TW_mono hq a h.2⟩
  | .isT o t a, h => ⟨h.1, TW_mono hq a h.2⟩
  | .optR o k, h => by obtain ⟨r, h1, h2⟩ := h; exact ⟨r, h1, TW_mono hq (k r) h2⟩
  | .optT o k, h => by obtain ⟨r, h1, h2⟩ := h; exact ⟨r, h1, TW_mono hq (k r) h2⟩
  | .fail, h => h.elim
/-- A function without loops. -/
theorem call_flat {f : FuncId} {args : List TV} (fn : Func) (hf : P.funcs[f]? = some fn)
    (hk : (fn.body.isSome && (fn.name != "runtime.NumGoroutine" && dstOk fn.ntmps (codeOf fn)) && Nat.ble args.length fn.ntmps) = true)
    (hΦ : Φ f args = none) (entry : ∃ T, (∃ h, entryC P Φ fn [] args h = T) ∧ TW T (LcQ x (fun π vs n => False) 0)) : callE P Φ f args = some x := by
  refine call_cut (ι := Empty) (M := Nat) fn [] 0 hf (by rw [hk]; rfl) hΦ (· < ·) Nat.lt_wfRel.wf (fun i => nomatch i) (fun i => nomatch i) (fun i => nomatch i) (fun i => nomatch i) (fun i => nomatch i) ?_ (fun i => nomatch i)
  obtain ⟨T, h1, h2⟩ := entry
  refine ⟨T, h1, TW_mono (fun a h => ?_) T h2⟩
  cases a with
  | res r => exact h
  | «at» π l vs n => exact h.2.elim
/-- A function with loops whose measure is a number. -/
theorem call_loop {ι : Type} {f : FuncId} {args : List TV} (fn : Func) (hd : List (List Bool × List Nat)) (len : Nat) (hf : P.funcs[f]? = some fn)
    (hk : (fn.body.isSome && (fn.name != "runtime.NumGoroutine" && dstOk fn.ntmps (codeOf fn)) && Nat.ble args.length fn.ntmps && hd.all fun p => isLoop (subAt (codeOf fn) p.1) && ascL 0 p.2 && liveAt hd p.1 == p.2) = true)
    (hΦ : Φ f args = none) (π : List Bool) (hat : (hd.map Prod.fst).contains π = true) (vals : ι → List TV) (inv : ι → Prop) (μ : ι → Nat)
    (entry : ∃ T, (∃ h, entryC P Φ fn hd args h = T) ∧ TW T (LcQ x (fun π' vs n => π' = π ∧ ∃ j, vs = vals j ∧ inv j) len))
    (round : ∀ i n, inv i → ∀ g, ∃ T, (∃ h, roundC P Φ fn hd π len (vals i) g n h = T) ∧ TW T (LcQ x (fun π' vs n => π' = π ∧ ∃ j, vs = vals j ∧ inv j ∧ μ j < μ i) len)) : callE P Φ f args = some x := by
  refine call_cut fn hd len hf hk hΦ (· < ·) Nat.lt_wfRel.wf (fun _ => π) (fun _ => hat) vals (fun i _ => inv i) μ ?_ ?_
  · obtain ⟨T, h1, h2⟩ := entry
    refine ⟨T, h1, TW_mono (fun a h => ?_) T h2⟩
    cases a with
    | res r => exact h
    | «at» π l vs n => exact ⟨h.1, by obtain ⟨_, rfl, j, rfl, hj⟩ := h; exact ⟨j, rfl, rfl, hj⟩⟩
  · intro i n hi g
    obtain ⟨T, h1, h2⟩ := round i n hi g
    refine ⟨T, h1, TW_mono (fun a h => ?_) T h2⟩
    cases a with
    | res r => exact h
    | «at» π l vs n => exact ⟨h.1, by obtain ⟨_, rfl, j, rfl, hj, hm⟩ := h; exact ⟨j, rfl, rfl, hj, hm⟩⟩
/-- A function with loops, several heads; the equations turned. -/
theorem call_heads {ι : Type} {f : FuncId} {args : List TV} (fn : Func) (hd : List (List Bool × List Nat)) (len : Nat) (hf : P.funcs[f]? = some fn)
    (hk : (fn.body.isSome && (fn.name != "runtime.NumGoroutine" && dstOk fn.ntmps (codeOf fn)) && Nat.ble args.length fn.ntmps && hd.all fun p => isLoop (subAt (codeOf fn) p.1) && ascL 0 p.2 && liveAt hd p.1 == p.2) = true)
    (hΦ : Φ f args = none) (at_ : ι → List Bool) (hat : ∀ i, (hd.map Prod.fst).contains (at_ i) = true) (vals : ι → List TV) (inv : ι → Prop) (μ : ι → Nat)
    (entry : ∃ T, (∃ h, entryC P Φ fn hd args h = T) ∧ TW T (LcQ x (fun π vs n => ∃ j, π = at_ j ∧ vs = vals j ∧ inv j) len))
    (round : ∀ i n, inv i → ∀ g, ∃ T, (∃ h, roundC P Φ fn hd (at_ i) len (vals i) g n h = T) ∧ TW T (LcQ x (fun π vs n => ∃ j, π = at_ j ∧ vs = vals j ∧ inv j ∧ μ j < μ i) len)) : callE P Φ f args = some x := by
  refine call_cut fn hd len hf hk hΦ (· < ·) Nat.lt_wfRel.wf at_ hat vals (fun i _ => inv i) μ ?_ ?_
  · obtain ⟨T, h1, h2⟩ := entry
    refine ⟨T, h1, TW_mono (fun a h => ?_) T h2⟩
    cases a with
    | res r => exact h
    | «at» π l vs n => exact ⟨h.1, by obtain ⟨_, j, rfl, rfl, hj⟩ := h; exact ⟨j, rfl, rfl, hj⟩⟩
  · intro i n hi g
    obtain ⟨T, h1, h2⟩ := round i n hi g
    refine ⟨T, h1, TW_mono (fun a h => ?_) T h2⟩
    cases a with
    | res r => exact h
    | «at» π l vs n => exact ⟨h.1, by obtain ⟨_, j, rfl, rfl, hj⟩ := h; exact ⟨j, rfl, rfl, hj⟩⟩
end
end Go.Vm
