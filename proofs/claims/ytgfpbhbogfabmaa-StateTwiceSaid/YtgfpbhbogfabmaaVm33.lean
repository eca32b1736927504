/- Runs whose slots may be frozen on the way: what code does in the model, without a run of the evaluator. -/
import Derived.Test.YtgfpbhbogfabmaaVm32
set_option linter.unusedVariables false
set_option linter.unusedSimpArgs false
set_option linter.unnecessarySimpa false
set_option linter.unusedSectionVars false
namespace Go.Vm

/-- From slots as told the code comes to an end as told. -/
def SW (P : Program) (call : FuncId → List TV → Option TV) (rs : List Nat) (c : Code) (σ : St) (Q : Ex → St → Prop) : Prop :=
  ∀ (K : Nat → Prop) (w0 : World) (N : Nat), dstOk N c = true → ∀ (post : Exit → Act → World → Prop) (a : Act) (w : World), Good P K w0 N (fun m => m < σ.nx) σ.s a w →
    (∀ e σ' a' w', Q e σ' → Good P K w0 N (fun m => m < σ'.nx) σ'.s a' w' → post (exitOf e) a' w') → c.wp P post a w ∧ ∀ b, c = .loop b → LoopWp P b post a w
section
variable {P : Program} {call : FuncId → List TV → Option TV} {rs : List Nat} {σ : St} {Q : Ex → St → Prop}
theorem SW.mono {Q' : Ex → St → Prop} {c : Code} (h : SW P call rs c σ Q) (hQ : ∀ e σ, Q e σ → Q' e σ) : SW P call rs c σ Q' :=
  fun K w0 N hd post a w hg hp => h K w0 N hd post a w hg fun e σ' a' w' hq hg' => hp e σ' a' w' (hQ _ _ hq) hg'
theorem SW_skip (h : Q .normal σ) : SW P call rs .skip σ Q := fun K w0 N hd post a w hg hp => ⟨wp_skip (hp _ _ _ _ h hg), fun b hb => by cases hb⟩
theorem SW_exit {id : Nat} (h : Q (.exit id) σ) : SW P call rs (.exit id) σ Q := fun K w0 N hd post a w hg hp => ⟨wp_exit (hp _ _ _ _ h hg), fun b hb => by cases hb⟩
theorem SW_ret (h : Q .ret σ) : SW P call rs .ret σ Q := fun K w0 N hd post a w hg hp => ⟨wp_ret (hp _ _ _ _ h hg), fun b hb => by cases hb⟩
theorem SW_region (hcall : CallsOk P call) (hm : P.follows .mixedOrders = true) {id : Nat} {ops : Array Oper} {draw : Bool} {σ' : St} (h1 : region P call rs ops draw σ = some σ') (h : Q .normal σ') : SW P call rs (.region id ops draw) σ Q := by
  intro K w0 N hd post a w hg hp
  refine ⟨region_ok call rs hcall hm h1 hg (fun o ho x hx => ?_) fun a' w' hg' => hp _ _ _ _ h hg', fun b hb => by cases hb⟩
  simp only [dstOk, List.all_eq_true] at hd
  have := hd o ho
  rw [hx] at this
  simpa using this
theorem SW_seq {a b : Code} (h : SW P call rs a σ (thenQ (fun σ' => SW P call rs b σ' Q) Q)) : SW P call rs (.seq a b) σ Q := by
  intro K w0 N hd post ac w hg hp
  simp only [dstOk, Bool.and_eq_true] at hd
  refine ⟨wp_seq ((h K w0 N hd.1 _ ac w hg fun e σ' a' w' hq hg' => ?_).1), fun b hb => by cases hb⟩
  cases e with
  | normal => exact (hq K w0 N hd.2 post a' w' hg' hp).1
  | exit id => exact hp _ _ _ _ hq hg'
  | ret => exact hp _ _ _ _ hq hg'
theorem SW_cond {c : Operand} {a b : Code} {t : Bool} (ht : (ev c).eval σ.s = some (.bool t)) (h : SW P call rs (if t then a else b) σ Q) : SW P call rs (.cond c a b) σ Q := by
  intro K w0 N hd post ac w hg hp
  simp only [dstOk, Bool.and_eq_true] at hd
  obtain ⟨η, hsim⟩ := hg.sim
  have hr := (ev_rep hsim ht).1
  simp only [Rep, RepP] at hr
  refine ⟨wp_cond hr ?_, fun b hb => by cases hb⟩
  cases t
  · exact (h K w0 N hd.2 post ac w hg hp).1
  · exact (h K w0 N hd.1 post ac w hg hp).1
theorem SW_block {id : Nat} {b : Code} (h : SW P call rs b σ (blockQ id Q)) : SW P call rs (.block id b) σ Q := by
  intro K w0 N hd post ac w hg hp
  simp only [dstOk] at hd
  refine ⟨wp_block ((h K w0 N hd _ ac w hg fun e σ' a' w' hq hg' => ?_).1), fun b hb => by cases hb⟩
  simp only [Exit.inBlock]
  cases e with
  | normal => exact hp _ _ _ _ hq hg'
  | ret => exact hp _ _ _ _ hq hg'
  | exit id' =>
    simp only [blockQ] at hq
    simp only [exitOf]
    split at hq
    · rename_i he; rw [if_pos he]; exact hp _ _ _ _ hq hg'
    · rename_i he; rw [if_neg he]; exact hp _ _ _ _ hq hg'
theorem SW_loop {b : Code} (h : SW P call rs b σ (thenQ (fun σ' => SW P call rs (.loop b) σ' Q) Q)) : SW P call rs (.loop b) σ Q := by
  intro K w0 N hd post ac w hg hp
  have hd' := hd
  simp only [dstOk] at hd
  have key : LoopWp P b post ac w := by
    refine LoopWp.round ((h K w0 N hd _ ac w hg fun e σ' a' w' hq hg' => ?_).1)
    cases e with
    | normal => exact (hq K w0 N hd' post a' w' hg' hp).2 b rfl
    | exit id => exact hp _ _ _ _ hq hg'
    | ret => exact hp _ _ _ _ hq hg'
  exact ⟨key.start, fun b' hb => by cases hb; exact key⟩
/-- Slots may be frozen. -/
theorem SW_frz {c : Code} (k : List Cmd) (hk : k.all Cmd.isFrz = true) (h : SW P call rs c ⟨k.foldl Cmd.app σ.s, σ.nx⟩ Q) : SW P call rs c σ Q := by
  intro K w0 N hd post a w hg hp
  refine h K w0 N hd post a w ⟨hg.defers, hg.size, ?_⟩ hp
  obtain ⟨η, hs⟩ := hg.sim
  exact ⟨η, Sim.frzs k hk hs⟩
end

section
variable (P : Program) (call : FuncId → List TV → Option TV) (rs : List Nat)
def contS : Code → List Bool → (Ex → St → Prop) → Ex → St → Prop
  | _, [], Q => Q
  | .seq a b, false :: π, Q => contS a π (thenQ (fun σ => SW P call rs b σ Q) Q)
  | .seq _ b, true :: π, Q => contS b π Q
  | .cond _ a _, false :: π, Q => contS a π Q
  | .cond _ _ b, true :: π, Q => contS b π Q
  | .block id b, false :: π, Q => contS b π (blockQ id Q)
  | .loop b, false :: π, Q => contS b π (thenQ (fun σ => SW P call rs (.loop b) σ Q) Q)
  | _, _ :: _, _ => fun _ _ => False
/-- What is asked of a loop's head. -/
def HeadS (c : Code) (Q : Ex → St → Prop) (π : List Bool) (σ : St) : Prop := SW P call rs (subAt c π) σ (contS P call rs c π Q)
end

section
variable {P : Program} {call : FuncId → List TV → Option TV} {rs : List Nat} {β : Type} {R : β → Prop}

theorem contS_append : ∀ (c : Code) (π π' : List Bool) (Q : Ex → St → Prop), π' = [] ∨ subAt c π ≠ .skip → contS P call rs c (π ++ π') Q = contS P call rs (subAt c π) π' (contS P call rs c π Q) := by
  intro c
  induction c with
  | seq a b iha ihb => intro π π' Q h; match π with
    | [] => rfl
    | false :: π => exact iha π π' _ h
    | true :: π => exact ihb π π' _ h
  | cond t a b iha ihb => intro π π' Q h; match π with
    | [] => rfl
    | false :: π => exact iha π π' _ h
    | true :: π => exact ihb π π' _ h
  | block id b ih => intro π π' Q h; match π with
    | [] => rfl
    | false :: π => exact ih π π' _ h
    | true :: π => rcases h with rfl | h <;> simp_all [subAt, contS]
  | loop b ih => intro π π' Q h; match π with
    | [] => rfl
    | false :: π => exact ih π π' _ h
    | true :: π => rcases h with rfl | h <;> simp_all [subAt, contS]
  | _ => intro π π' Q h; match π with
    | [] => rfl
    | false :: π => rcases h with rfl | h <;> simp_all [subAt, contS]
    | true :: π => rcases h with rfl | h <;> simp_all [subAt, contS]

section
variable (hcall : CallsOk P call) (hm : P.follows .mixedOrders = true)
include hcall hm
/-- Runs by their trees, the heads by their paths. -/
theorem runS_ok : ∀ (c : Code) (π : List Bool) (σ : St) (h : Hint) (k : Place → Hint → Tr β) (Q : Ex → St → Prop), TW (runK P call rs c π σ h k) R →
    (∀ e σ' h, TW (k (.fin e σ') h) R → Q e σ') → (∀ π' σ' h, TW (k (.loop (π ++ π') σ') h) R → HeadS P call rs c Q π' σ') → SW P call rs c σ Q := by
  intro c
  induction c with
  | skip => intro π σ h k Q hw hf hl; exact SW_skip (hf _ _ _ hw)
  | exit id => intro π σ h k Q hw hf hl; exact SW_exit (hf _ _ _ hw)
  | ret => intro π σ h k Q hw hf hl; exact SW_ret (hf _ _ _ hw)
  | region id ops draw =>
    intro π σ h k Q hw hf hl
    obtain ⟨σ', h', h1, h2⟩ := regionK_ok hw
    exact SW_region hcall hm h1 (hf _ _ _ h2)
  | seq a b iha ihb =>
    intro π σ h k Q hw hf hl
    refine SW_seq (iha _ _ _ _ _ hw (fun e σ' h' he => ?_) (fun π' σ' h' he => ?_))
    · cases e with
      | normal => exact ihb _ _ _ _ _ he hf fun π' σ'' h'' hq => hl (true :: π') σ'' h'' (by simpa using hq)
      | exit id => exact hf _ _ _ he
      | ret => exact hf _ _ _ he
    · exact hl (false :: π') σ' h' (by simpa using he)
  | cond c a b iha ihb =>
    intro π σ h k Q hw hf hl
    obtain ⟨t, h', h1, h2⟩ := LK.trK_ok _ _ _ _ hw
    split at h2
    · rename_i t
      refine SW_cond h1 ?_
      rcases iteH_ok h2 with ⟨rfl, h'', h2⟩ | ⟨rfl, h'', h2⟩
      · exact iha _ _ _ _ _ h2 hf fun π' σ'' h3 hq => hl (false :: π') σ'' h3 (by simpa using hq)
      · exact ihb _ _ _ _ _ h2 hf fun π' σ'' h3 hq => hl (true :: π') σ'' h3 (by simpa using hq)
    · exact h2.elim
  | block id b ih =>
    intro π σ h k Q hw hf hl
    refine SW_block (ih _ _ _ _ _ hw (fun e σ' h' he => ?_) (fun π' σ' h' he => hl (false :: π') σ' h' (by simpa using he)))
    cases e with
    | normal => exact hf _ _ _ he
    | ret => exact hf _ _ _ he
    | exit id' =>
      simp only at he
      simp only [blockQ]
      split at he
      · rename_i hi; rw [if_pos hi]; exact hf _ _ _ he
      · rename_i hi; rw [if_neg hi]; exact hf _ _ _ he
  | loop b ih => intro π σ h k Q hw hf hl; exact hl [] σ h (by simpa [runK] using hw)
  | _ => intro π σ h k Q hw hf hl; exact hw.elim

theorem resS_ok : ∀ (c : Code) (π ρ : List Bool) (e : Ex) (σ : St) (h : Hint) (k : Place → Hint → Tr β) (Q : Ex → St → Prop), TW (resC P call rs c π ρ e σ h k) R →
    (∀ e σ' h, TW (k (.fin e σ') h) R → Q e σ') → (∀ π' σ' h, TW (k (.loop (ρ ++ π') σ') h) R → HeadS P call rs c Q π' σ') → contS P call rs c π Q e σ := by
  intro c
  induction c with
  | seq a b iha ihb =>
    intro π ρ e σ h k Q hw hf hl
    match π with
    | [] => exact hf _ _ _ hw
    | false :: π =>
      refine iha _ _ _ _ _ _ _ hw (fun e σ' h' he => ?_) (fun π' σ' h' he => hl (false :: π') σ' h' (by simpa using he))
      cases e with
      | normal => exact runS_ok hcall hm _ _ _ _ _ _ he hf fun π' σ'' h'' hq => hl (true :: π') σ'' h'' (by simpa using hq)
      | exit id => exact hf _ _ _ he
      | ret => exact hf _ _ _ he
    | true :: π => exact ihb _ _ _ _ _ _ _ hw hf fun π' σ' h' he => hl (true :: π') σ' h' (by simpa using he)
  | cond c a b iha ihb =>
    intro π ρ e σ h k Q hw hf hl
    match π with
    | [] => exact hf _ _ _ hw
    | false :: π => exact iha _ _ _ _ _ _ _ hw hf fun π' σ' h' he => hl (false :: π') σ' h' (by simpa using he)
    | true :: π => exact ihb _ _ _ _ _ _ _ hw hf fun π' σ' h' he => hl (true :: π') σ' h' (by simpa using he)
  | block id b ih =>
    intro π ρ e σ h k Q hw hf hl
    match π with
    | [] => exact hf _ _ _ hw
    | false :: π =>
      refine ih _ _ _ _ _ _ _ hw (fun e σ' h' he => ?_) (fun π' σ' h' he => hl (false :: π') σ' h' (by simpa using he))
      cases e with
      | normal => exact hf _ _ _ he
      | ret => exact hf _ _ _ he
      | exit id' =>
        simp only at he
        simp only [blockQ]
        split at he
        · rename_i hi; rw [if_pos hi]; exact hf _ _ _ he
        · rename_i hi; rw [if_neg hi]; exact hf _ _ _ he
    | true :: π => simp [resC, TW] at hw
  | loop b ih =>
    intro π ρ e σ h k Q hw hf hl
    match π with
    | [] => exact hf _ _ _ hw
    | false :: π =>
      refine ih _ _ _ _ _ _ _ hw (fun e σ' h' he => ?_) (fun π' σ' h' he => hl (false :: π') σ' h' (by simpa using he))
      cases e with
      | normal => exact hl [] σ' h' (by simpa using he)
      | ret => exact hf _ _ _ he
      | exit id' => exact hf _ _ _ he
    | true :: π => simp [resC, TW] at hw
  | _ =>
    intro π ρ e σ h k Q hw hf hl
    match π with
    | [] => exact hf _ _ _ hw
    | false :: π => simp [resC, TW] at hw
    | true :: π => simp [resC, TW] at hw
end
end

section
variable {P : Program} {Φ : FuncId → List TV → Option TV} {fn : Func} {hd : List (List Bool × List Nat)} {x : TV}

theorem contS_ret : ∀ (c : Code) (π : List Bool) (Q : Ex → St → Prop) (σ : St), subAt c π ≠ .skip → Q .ret σ → contS P (callE P Φ) (resSlots fn.results.toList) c π Q .ret σ := by
  intro c
  induction c with
  | seq a b iha ihb => intro π Q σ h hq; match π with
    | [] => exact hq
    | false :: π => exact iha π _ σ h hq
    | true :: π => exact ihb π _ σ h hq
  | cond t a b iha ihb => intro π Q σ h hq; match π with
    | [] => exact hq
    | false :: π => exact iha π _ σ h hq
    | true :: π => exact ihb π _ σ h hq
  | block id b ih => intro π Q σ h hq; match π with
    | [] => exact hq
    | false :: π => exact ih π _ σ h hq
    | true :: π => simp [subAt] at h
  | loop b ih => intro π Q σ h hq; match π with
    | [] => exact hq
    | false :: π => exact ih π _ σ h hq
    | true :: π => simp [subAt] at h
  | _ => intro π Q σ h hq; match π with
    | [] => exact hq
    | false :: π => simp [subAt] at h
    | true :: π => simp [subAt] at h


/-- Which slots are frozen, seen at the slots that count. -/
def frzL (F : List Nat) : List Nat → List TV → List TV
  | i :: is, v :: vs => (if F.contains i then frzS v else v) :: frzL F is vs
  | _, vs => vs
theorem frzL_map (F : List Nat) (s : List TV) : ∀ is : List Nat, frzL F is (is.map (get s)) = is.map (get ((F.map Cmd.frz).foldl Cmd.app s))
  | [] => rfl
  | i :: is => by
    simp only [List.map_cons, frzL, frzL_map F s is, List.cons.injEq, and_true]
    rw [get_frz_eq _ (by simp [List.all_map, Cmd.isFrz])]
    have : ((F.map Cmd.frz).map Cmd.slot) = F := by rw [List.map_map]; exact List.map_id F
    rw [this]
theorem put_len (s : List TV) : ∀ (i : Nat) (v : TV), i < s.length → (put s i v).length = s.length := by
  induction s with
  | nil => intro i v h; simp at h
  | cons t s ih =>
    intro i v h
    cases i with
    | zero => rfl
    | succ i => simp only [put, List.length_cons]; rw [ih i v (by simpa using h)]
theorem frz_len (F : List Nat) : ∀ (s : List TV), (F.all fun i => Nat.blt i s.length) = true → ((F.map Cmd.frz).foldl Cmd.app s).length = s.length := by
  induction F with
  | nil => intro s _; rfl
  | cons i F ih =>
    intro s h
    simp only [List.all_cons, Bool.and_eq_true] at h
    have hi : i < s.length := Nat.le_of_ble_eq_true h.1
    have hl : (Cmd.app s (.frz i)).length = s.length := by simp only [Cmd.app]; exact put_len s i _ hi
    simp only [List.map_cons, List.foldl_cons]
    rw [ih _ (by rw [hl]; exact h.2), hl]

/-- A FUNCTION BY ITS CUTS; at the heads slots may be frozen (those of 'fz'). -/
theorem ctr_cut {ι : Type} {f : FuncId} {args : List TV} (hm : P.follows .mixedOrders = true) (hΦ : ∀ f args r, Φ f args = some r → Ctr P f args r) (fn : Func) (hd : List (List Bool × List Nat)) (len : Nat) (hf : P.funcs[f]? = some fn)
    (hk : (fn.body.isSome && (fn.name != "runtime.NumGoroutine" && dstOk fn.ntmps (codeOf fn)) && Nat.ble args.length fn.ntmps && hd.all fun p => isLoop (subAt (codeOf fn) p.1) && ascL 0 p.2 && liveAt hd p.1 == p.2) = true)
    (hout : outT x = true) (at_ : ι → List Bool) (hat : ∀ i, (hd.map Prod.fst).contains (at_ i) = true) (fz : ι → List Nat) (hfz : ∀ i, ((fz i).all fun k => Nat.blt k len) = true) (vals : ι → List TV) (inv : ι → Prop) (μ : ι → Nat)
    (entry : ∃ T, (∃ h, entryC P Φ fn hd args h = T) ∧ TW T (LcQ x (fun π vs n => ∃ j, π = at_ j ∧ frzL (fz j) (liveAt hd π) vs = vals j ∧ inv j) len))
    (round : ∀ i n, inv i → ∀ g, ∃ T, (∃ h, roundC P Φ fn hd (at_ i) len (vals i) g n h = T) ∧ TW T (LcQ x (fun π vs n => ∃ j, π = at_ j ∧ frzL (fz j) (liveAt hd π) vs = vals j ∧ inv j ∧ μ j < μ i) len)) : Ctr P f args x := by
  simp only [Bool.and_eq_true, List.all_eq_true] at hk
  obtain ⟨⟨⟨h1, h2, h3⟩, hl⟩, hh⟩ := hk
  have hb := bodyOf_code hf (by simp only [Bool.and_eq_true]; exact ⟨h1, h2, h3⟩)
  have hcall := callE_ok hm hΦ
  have hloop : ∀ i, isLoop (subAt (codeOf fn) (at_ i)) = true ∧ ascL 0 (liveAt hd (at_ i)) = true := by
    intro i
    have := hat i
    simp only [List.contains_iff_mem, List.mem_map] at this
    obtain ⟨p, hp, e⟩ := this
    have h := hh p hp
    rw [e] at h
    refine ⟨h.1.1, ?_⟩
    rw [beq_iff_eq.1 h.2]
    exact h.1.2
  have hns : ∀ i, subAt (codeOf fn) (at_ i) ≠ .skip := fun i h => by
    have := (hloop i).1; rw [h] at this; simp [isLoop] at this
  have isf : ∀ F : List Nat, (F.map Cmd.frz).all Cmd.isFrz = true := fun F => by simp [List.all_map, Cmd.isFrz]
  have key : ∀ (m : Nat) i, μ i = m → ∀ n s, inv i → s.length = len → (liveAt hd (at_ i)).map (get s) = vals i →
      SW P (callE P Φ) (resSlots fn.results.toList) (subAt (codeOf fn) (at_ i)) ⟨s, n⟩ (contS P (callE P Φ) (resSlots fn.results.toList) (codeOf fn) (at_ i) (QR P fn x)) := by
    intro m
    induction m using Nat.strongRecOn with
    | _ m ih =>
      intro i hmi n s hi hs hv
      obtain ⟨T, ⟨h, hT⟩, hw⟩ := round i n hi (get s)
      subst hT
      unfold roundC at hw
      rw [headAt_eq s len 0 _ _ (by omega) (hloop i).2 hv] at hw
      have head : ∀ π' σ' h, TW (cutK P fn hd (.loop π' σ') h) (LcQ x (fun π vs n => ∃ j, π = at_ j ∧ frzL (fz j) (liveAt hd π) vs = vals j ∧ inv j ∧ μ j < μ i) len) → HeadS P (callE P Φ) (resSlots fn.results.toList) (codeOf fn) (QR P fn x) π' σ' := by
        rintro π' σ' h ⟨hl, j, rfl, hv, hj, hr⟩
        rw [frzL_map] at hv
        have hl' : σ'.s.length = len := hl
        refine SW_frz ((fz j).map Cmd.frz) (isf _) (ih _ (hmi ▸ hr) j rfl σ'.nx _ hj ?_ hv)
        rw [frz_len _ _ (by rw [hl']; exact hfz j), hl']
      obtain ⟨b, hb'⟩ : ∃ b, subAt (codeOf fn) (at_ i) = .loop b := ⟨_, loop_body (hloop i).1⟩
      rw [hb'] at hw ⊢
      refine SW_loop ?_
      refine runS_ok hcall hm _ _ _ _ _ _ hw (fun e σ' h' he => ?_) (fun π' σ' h' he => ?_)
      · cases e with
        | normal =>
          have := head _ _ h' he
          unfold HeadS at this
          rw [hb'] at this
          exact this
        | exit id => exact resS_ok hcall hm _ _ _ _ _ _ _ _ he (fun e σ' h he => cut_fin he) (fun π' σ'' h'' hq => head π' σ'' h'' hq)
        | ret => exact contS_ret _ _ _ _ (hns i) (cut_fin (hd := hd) (h := h') he)
      · have := head _ _ h' he
        unfold HeadS at this ⊢
        rw [List.append_assoc, subAt_append _ _ _ (.inr (hns i)), contS_append (P := P) (call := callE P Φ) (rs := resSlots fn.results.toList) _ _ _ (QR P fn x) (.inr (hns i)), hb'] at this
        exact this
  obtain ⟨T, ⟨h, hT⟩, hw⟩ := entry
  subst hT
  have hwhole : SW P (callE P Φ) (resSlots fn.results.toList) (codeOf fn) (start fn args) (QR P fn x) := by
    refine runS_ok hcall hm _ _ _ _ _ _ hw (fun e σ' h he => cut_fin he) fun π' σ' h' he => ?_
    obtain ⟨hl, j, e, hv, hj⟩ := he
    simp only [List.nil_append] at e hv
    subst e
    rw [frzL_map] at hv
    have hl' : σ'.s.length = len := hl
    refine SW_frz ((fz j).map Cmd.frz) (isf _) (key _ j rfl σ'.nx _ hj ?_ hv)
    rw [frz_len _ _ (by rw [hl']; exact hfz j), hl']
  obtain ⟨he, hf', hbd, hdd⟩ := bodyOf_spec hb
  refine ⟨hout, fun w vs I hI hA => ?_⟩
  obtain ⟨m, hmask⟩ := mask_of (fun b => ¬ I b) w.heap.size
  have hg := start_good (P := P) hI (fn := fn) (Nat.le_of_ble_eq_true hl) hA hmask
  refine calls_of_wp hf' hbd ((hwhole _ _ _ hdd _ _ w hg fun e σ' a' w' hq hg' => ?_).1)
  obtain ⟨η, hs⟩ := hg'.sim
  obtain ⟨_, v, hv, ho⟩ := outR_ok hmask hs hq.2
  have hp : a'.defers = [] ∧ ∃ v, (results fn a'.tmps).run P w' = .ok v w' ∧ ∃ v', Ending.returned v = .returned v' ∧ Kept (fun b => b < w.heap.size) w w' ∧ Out I w w' x v' :=
    ⟨hg'.defers, v, hv, v, rfl, ⟨hs.kept.os, hs.kept.tape, hs.kept.output, hs.kept.size, hs.kept.block⟩, ho⟩
  cases e with
  | normal => exact hp
  | exit id => exact absurd rfl (hq.1 id)
  | ret => exact hp
end
end Go.Vm
