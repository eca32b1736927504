/- No fuel: what a function answers. -/
import Derived.Test.YtgfpbhbogfabmaaVm21
set_option linter.unusedVariables false
set_option linter.unusedSimpArgs false
set_option linter.unnecessarySimpa false
set_option linter.unusedSectionVars false
namespace Go.Vm

def Le (c c' : FuncId → List TV → Option TV) : Prop := ∀ f a r, c f a = some r → c' f a = some r

theorem LK.log_bind' {α β : Type} {s : List TV} : ∀ (x : LK α) (f : α → LK β), (x.bind f).log s = x.log s ++ (match x.eval s with | some a => (f a).log s | none => [])
  | .ret a, f => rfl
  | .look i k, f => by
    simp only [LK.bind, LK.log, LK.eval, List.cons_append]
    rw [LK.log_bind' (k (get s i)) f]
  | .ite c a b, f => by
    cases c
    · exact LK.log_bind' b f
    · exact LK.log_bind' a f
  | .optR o k, f => by
    cases o with
    | none => rfl
    | some x => exact LK.log_bind' (k x) f
  | .optT o k, f => by
    cases o with
    | none => rfl
    | some x => exact LK.log_bind' (k x) f
  | .fail, f => rfl
theorem LK.log_bind {α β : Type} {s : List TV} (x : LK α) (f : α → LK β) : (x >>= f).log s = x.log s ++ (match x.eval s with | some a => (f a).log s | none => []) := LK.log_bind' x f

section
variable {P : Program} {call call' : FuncId → List TV → Option TV} (rs : List Nat)

theorem aOp_mono (hle : Le call call') {n : Nat} {o : Oper} {s : List TV} {r : TV × List Cmd} (h : (aOp P call rs n o).eval s = some r) :
    (aOp P call' rs n o).eval s = some r ∧ (aOp P call' rs n o).log s = (aOp P call rs n o).log s := by
  cases ho : o.op with
  | call c =>
    cases hc : c.callee with
    | value f =>
      simp only [aOp, ho, hc, callOp, LK.eval_bind, Option.bind_eq_some_iff, LK.log_bind] at h ⊢
      obtain ⟨t, h1, vs, h2, as, h3, h4⟩ := h
      split at h4
      · rename_i f' caps
        simp only [LK.eval_optT, Option.bind_eq_some_iff] at h4
        obtain ⟨r', hr, h4⟩ := h4
        have hr' := hle _ _ _ hr
        refine ⟨⟨_, h1, vs, h2, as, h3, ?_⟩, ?_⟩
        · simp only [LK.eval_optT, hr', Option.bind_some]
          exact h4
        · rw [h1]
          simp only
          rw [h2]
          simp only
          rw [h3]
          simp only [hr, hr']
      · simp at h4
    | builtin b =>
      have e : aOp P call rs n o = aOp P call' rs n o := by simp only [aOp, ho, hc]
      rw [e] at h ⊢; exact ⟨h, rfl⟩
    | invoke a b =>
      have e : aOp P call rs n o = aOp P call' rs n o := by simp only [aOp, ho, hc]
      rw [e] at h ⊢; exact ⟨h, rfl⟩
  | _ =>
    have e : aOp P call rs n o = aOp P call' rs n o := by simp only [aOp, ho]
    rw [e] at h ⊢; exact ⟨h, rfl⟩

theorem gOp_mono (hle : Le call call') {ops : Array Oper} {n : Nat} {o : Oper} {s : List TV} {r : TV × List Cmd} (h : (gOp P call rs ops n o).eval s = some r) :
    (gOp P call' rs ops n o).eval s = some r ∧ (gOp P call' rs ops n o).log s = (gOp P call rs ops n o).log s := by
  simp only [gOp_eval, gOp_log, gOp0, LK.eval_bind, LK.eval_iteB, Option.bind_eq_some_iff, LK.log_bind] at h ⊢
  obtain ⟨b, h1, h2⟩ := h
  rw [h1]
  simp only [Option.some.injEq, exists_eq_left']
  cases b
  · exact ⟨by simpa using h2, rfl⟩
  · simp only [if_true] at h2 ⊢
    have := aOp_mono rs hle h2
    refine ⟨this.1, ?_⟩
    show _ ++ (aOp P call' rs n o).log s = _ ++ (aOp P call rs n o).log s
    rw [this.2]

theorem opsFrom_mono (hle : Le call call') {ops : Array Oper} : ∀ (l : List Oper) (n : Nat) (s s' : List TV), opsFrom P call rs ops n l s = some s' → opsFrom P call' rs ops n l s = some s'
  | [], _, _, _, h => h
  | o :: l, n, s, s', h => by
    simp only [opsFrom] at h ⊢
    split at h
    · rename_i r hr
      rw [(gOp_mono rs hle hr).1]
      exact opsFrom_mono hle l _ _ _ h
    · cases h
theorem opsLog_mono (hle : Le call call') {ops : Array Oper} : ∀ (l : List Oper) (n : Nat) (s : List TV) (x : List TV × List RW), opsLog P call rs ops n l s = some x → opsLog P call' rs ops n l s = some x
  | [], _, _, _, h => h
  | o :: l, n, s, x, h => by
    simp only [opsLog] at h ⊢
    split at h
    · rename_i r hr
      have := gOp_mono rs hle hr
      rw [this.1]
      simp only [Option.map_eq_some_iff] at h ⊢
      obtain ⟨y, hy, rfl⟩ := h
      exact ⟨y, opsLog_mono hle l _ _ _ hy, by rw [this.2]⟩
    · cases h
theorem region_mono (hle : Le call call') {ops : Array Oper} {draw : Bool} {σ σ' : St} (h : region P call rs ops draw σ = some σ') : region P call' rs ops draw σ = some σ' := by
  unfold region at h ⊢
  split
  · rename_i hd
    rw [if_pos hd] at h
    split at h
    · rename_i s rw hl
      rw [opsLog_mono rs hle _ _ _ _ hl]
      exact h
    · cases h
  · rename_i hd
    rw [if_neg hd] at h
    simp only [Option.map_eq_some_iff] at h ⊢
    obtain ⟨y, hy, rfl⟩ := h
    exact ⟨y, opsFrom_mono rs hle _ _ _ _ hy, rfl⟩

theorem run_mono (hle : Le call call') : ∀ (n : Nat) (c : Code) (σ : St) (x : Ex × St), run P call rs n c σ = some x → ∀ m, n ≤ m → run P call' rs m c σ = some x := by
  intro n
  induction n with
  | zero => intro c σ x h; simp [run] at h
  | succ n ih =>
    intro c σ x h m hm
    obtain ⟨m, rfl⟩ : ∃ k, m = k + 1 := ⟨m - 1, by omega⟩
    have hm : n ≤ m := by omega
    cases c with
    | region id ops draw =>
      simp only [run, Option.map_eq_some_iff] at h ⊢
      obtain ⟨σ1, h, rfl⟩ := h
      exact ⟨σ1, region_mono rs hle h, rfl⟩
    | seq a b =>
      simp only [run] at h ⊢
      split at h
      · rename_i σ1 h1
        rw [ih _ _ _ h1 m hm]
        exact ih _ _ _ h m hm
      · rename_i h1
        rw [ih _ _ _ h m hm]
        obtain ⟨e, σ1⟩ := x
        cases e with
        | normal => exact absurd h (h1 _)
        | _ => rfl
    | cond c a b =>
      simp only [run] at h ⊢
      split at h
      · rename_i t ht
        exact ih _ _ _ h m hm
      · cases h
    | block id b =>
      simp only [run] at h ⊢
      split at h
      · rename_i id' σ1 h1
        rw [ih _ _ _ h1 m hm]
        exact h
      · rename_i h1
        rw [ih _ _ _ h m hm]
        obtain ⟨e, σ1⟩ := x
        cases e with
        | exit id' => exact absurd h (h1 _ _)
        | _ => rfl
    | loop b =>
      simp only [run] at h ⊢
      split at h
      · rename_i σ1 h1
        rw [ih _ _ _ h1 m hm]
        exact ih _ _ _ h m hm
      · rename_i h1
        rw [ih _ _ _ h m hm]
        obtain ⟨e, σ1⟩ := x
        cases e with
        | normal => exact absurd h (h1 _)
        | _ => rfl
    | _ => simpa [run] using h
end

section
variable (P : Program) (Φ : FuncId → List TV → Option TV)

theorem callF_mono : ∀ n m, n ≤ m → Le (callF P Φ n) (callF P Φ m)
  | 0, _, _ => fun f a r h => by simp [callF] at h
  | n + 1, m, hm => fun f a r h => by
    obtain ⟨m, rfl⟩ : ∃ k, m = k + 1 := ⟨m - 1, by omega⟩
    have hm : n ≤ m := by omega
    simp only [callF] at h ⊢
    split at h
    · cases h
    · rename_i fn c hb
      split at h
      · rename_i r' hr'
        exact h
      · rename_i hr'
        split at h
        · rename_i hl
          rw [if_pos hl]
          cases hrun : run P (callF P Φ n) (resSlots fn.results.toList) n c (start fn a) with
          | none => rw [hrun] at h; simp [outOf] at h
          | some x => rw [hrun] at h; rw [run_mono _ (callF_mono n m hm) n c _ x hrun m hm]; exact h
        · cases h

open Classical in
/-- What a function answers, with as many steps as it takes. -/
noncomputable def callE (f : FuncId) (args : List TV) : Option TV :=
  if h : ∃ r n, callF P Φ n f args = some r then some h.choose else none
variable {P Φ}
theorem callE_some {f : FuncId} {args : List TV} {r : TV} : callE P Φ f args = some r ↔ ∃ n, callF P Φ n f args = some r := by
  unfold callE
  constructor
  · intro h
    split at h
    · rename_i hx
      cases h
      exact hx.choose_spec
    · cases h
  · rintro ⟨n, h⟩
    have hx : ∃ r n, callF P Φ n f args = some r := ⟨r, n, h⟩
    rw [dif_pos hx]
    obtain ⟨m, hm⟩ := hx.choose_spec
    have h1 := callF_mono P Φ n (n + m) (by omega) _ _ _ h
    have h2 := callF_mono P Φ m (n + m) (by omega) _ _ _ hm
    rw [h1] at h2
    exact h2.symm
theorem callF_le (n : Nat) : Le (callF P Φ n) (callE P Φ) := fun f a r h => callE_some.2 ⟨n, h⟩
theorem callE_ok (hm : P.follows .mixedOrders = true) (hΦ : ∀ f args r, Φ f args = some r → Ctr P f args r) : CallsOk P (callE P Φ) := fun f args r h => by
  obtain ⟨n, hn⟩ := callE_some.1 h
  exact callF_ok hm hΦ n f args r hn

/-! What runs with 'callE' runs with some fuel. -/
theorem aOp_fuel (rs : List Nat) {n : Nat} {o : Oper} {s : List TV} {r : TV × List Cmd} (h : (aOp P (callE P Φ) rs n o).eval s = some r) :
    ∃ m, (aOp P (callF P Φ m) rs n o).eval s = some r := by
  cases ho : o.op with
  | call c =>
    cases hc : c.callee with
    | value f =>
      simp only [aOp, ho, hc, callOp, LK.eval_bind, Option.bind_eq_some_iff] at h ⊢
      obtain ⟨t, h1, vs, h2, as, h3, h4⟩ := h
      split at h4
      · rename_i f' caps
        simp only [LK.eval_optT, Option.bind_eq_some_iff] at h4
        obtain ⟨r', hr, h4⟩ := h4
        obtain ⟨m, hm⟩ := callE_some.1 hr
        exact ⟨m, _, h1, _, h2, _, h3, by simp only [LK.eval_optT, hm, Option.bind_some]; exact h4⟩
      · simp at h4
    | builtin b => exact ⟨0, by simpa only [aOp, ho, hc] using h⟩
    | invoke a b => exact ⟨0, by simpa only [aOp, ho, hc] using h⟩
  | _ => exact ⟨0, by simpa only [aOp, ho] using h⟩
theorem gOp_fuel (rs : List Nat) {ops : Array Oper} {n : Nat} {o : Oper} {s : List TV} {r : TV × List Cmd} (h : (gOp P (callE P Φ) rs ops n o).eval s = some r) :
    ∃ m, ∀ k, m ≤ k → (gOp P (callF P Φ k) rs ops n o).eval s = some r ∧ (gOp P (callF P Φ k) rs ops n o).log s = (gOp P (callE P Φ) rs ops n o).log s := by
  have key : ∃ m, (gOp P (callF P Φ m) rs ops n o).eval s = some r := by
    simp only [gOp_eval, gOp_log, gOp0, LK.eval_bind, LK.eval_iteB, Option.bind_eq_some_iff] at h ⊢
    obtain ⟨b, h1, h2⟩ := h
    cases b
    · exact ⟨0, false, h1, by simpa using h2⟩
    · simp only [if_true] at h2
      obtain ⟨m, hm⟩ := aOp_fuel rs h2
      exact ⟨m, true, h1, by simpa using hm⟩
  obtain ⟨m, hm⟩ := key
  refine ⟨m, fun k hk => ?_⟩
  have h1 := (gOp_mono rs (callF_mono P Φ m k hk) hm).1
  exact ⟨h1, (gOp_mono rs (callF_le k) h1).2.symm⟩
theorem opsFrom_fuel (rs : List Nat) {ops : Array Oper} : ∀ (l : List Oper) (n : Nat) (s s' : List TV), opsFrom P (callE P Φ) rs ops n l s = some s' → ∃ m, ∀ k, m ≤ k → opsFrom P (callF P Φ k) rs ops n l s = some s'
  | [], _, _, _, h => ⟨0, fun _ _ => h⟩
  | o :: l, n, s, s', h => by
    simp only [opsFrom] at h
    split at h
    · rename_i r hr
      obtain ⟨m1, h1⟩ := gOp_fuel rs hr
      obtain ⟨m2, h2⟩ := opsFrom_fuel rs l _ _ _ h
      refine ⟨m1 + m2, fun k hk => ?_⟩
      simp only [opsFrom]
      rw [(h1 k (by omega)).1]
      exact h2 k (by omega)
    · cases h
theorem opsLog_fuel (rs : List Nat) {ops : Array Oper} : ∀ (l : List Oper) (n : Nat) (s : List TV) (x : List TV × List RW), opsLog P (callE P Φ) rs ops n l s = some x → ∃ m, ∀ k, m ≤ k → opsLog P (callF P Φ k) rs ops n l s = some x
  | [], _, _, _, h => ⟨0, fun _ _ => h⟩
  | o :: l, n, s, x, h => by
    simp only [opsLog] at h
    split at h
    · rename_i r hr
      obtain ⟨m1, h1⟩ := gOp_fuel rs hr
      simp only [Option.map_eq_some_iff] at h
      obtain ⟨y, hy, rfl⟩ := h
      obtain ⟨m2, h2⟩ := opsLog_fuel rs l _ _ _ hy
      refine ⟨m1 + m2, fun k hk => ?_⟩
      simp only [opsLog]
      rw [(h1 k (by omega)).1, (h1 k (by omega)).2]
      simp only [h2 k (by omega), Option.map_some]
    · cases h
theorem region_fuel (rs : List Nat) {ops : Array Oper} {draw : Bool} {σ σ' : St} (h : region P (callE P Φ) rs ops draw σ = some σ') : ∃ m, ∀ k, m ≤ k → region P (callF P Φ k) rs ops draw σ = some σ' := by
  unfold region at h
  split at h
  · rename_i hd
    split at h
    · rename_i s rw hl
      obtain ⟨m, hm⟩ := opsLog_fuel rs _ _ _ _ hl
      exact ⟨m, fun k hk => by unfold region; rw [if_pos hd, hm k hk]; exact h⟩
    · cases h
  · rename_i hd
    simp only [Option.map_eq_some_iff] at h
    obtain ⟨y, hy, rfl⟩ := h
    obtain ⟨m, hm⟩ := opsFrom_fuel rs _ _ _ _ hy
    exact ⟨m, fun k hk => by unfold region; rw [if_neg hd, hm k hk]; rfl⟩
theorem run_fuel (rs : List Nat) : ∀ (n : Nat) (c : Code) (σ : St) (x : Ex × St), run P (callE P Φ) rs n c σ = some x → ∃ m, n ≤ m ∧ ∀ k, m ≤ k → run P (callF P Φ k) rs k c σ = some x := by
  have up : ∀ (n : Nat) (c : Code) (σ : St) (x : Ex × St) (m : Nat), run P (callF P Φ m) rs n c σ = some x → ∀ k, n + m ≤ k → run P (callF P Φ k) rs k c σ = some x := fun n c σ x m h k hk =>
    run_mono rs (callF_mono P Φ m k (by omega)) n c σ x h k (by omega)
  suffices hs : ∀ (n : Nat) (c : Code) (σ : St) (x : Ex × St), run P (callE P Φ) rs n c σ = some x → ∃ m, ∀ k, m ≤ k → run P (callF P Φ k) rs n c σ = some x by
    intro n c σ x h
    obtain ⟨m, hm⟩ := hs n c σ x h
    exact ⟨n + m, by omega, fun k hk => up n c σ x m (hm m (Nat.le_refl _)) k hk⟩
  intro n
  induction n with
  | zero => intro c σ x h; simp [run] at h
  | succ n ih =>
    intro c σ x h
    cases c with
    | region id ops draw =>
      simp only [run, Option.map_eq_some_iff] at h ⊢
      obtain ⟨σ1, h, rfl⟩ := h
      obtain ⟨m, hm⟩ := region_fuel rs h
      exact ⟨m, fun k hk => ⟨σ1, hm k hk, rfl⟩⟩
    | seq a b =>
      simp only [run] at h ⊢
      split at h
      · rename_i σ1 h1
        obtain ⟨m1, e1⟩ := ih _ _ _ h1
        obtain ⟨m2, e2⟩ := ih _ _ _ h
        exact ⟨m1 + m2, fun k hk => by rw [e1 k (by omega)]; exact e2 k (by omega)⟩
      · rename_i h1
        obtain ⟨m1, e1⟩ := ih _ _ _ h
        refine ⟨m1, fun k hk => ?_⟩
        rw [e1 k hk]
        obtain ⟨e, σ1⟩ := x
        cases e with
        | normal => exact absurd h (h1 _)
        | _ => rfl
    | cond c a b =>
      simp only [run] at h ⊢
      split at h
      · rename_i t ht
        obtain ⟨m1, e1⟩ := ih _ _ _ h
        exact ⟨m1, fun k hk => e1 k hk⟩
      · cases h
    | block id b =>
      simp only [run] at h ⊢
      split at h
      · rename_i id' σ1 h1
        obtain ⟨m1, e1⟩ := ih _ _ _ h1
        exact ⟨m1, fun k hk => by rw [e1 k hk]; exact h⟩
      · rename_i h1
        obtain ⟨m1, e1⟩ := ih _ _ _ h
        refine ⟨m1, fun k hk => ?_⟩
        rw [e1 k hk]
        obtain ⟨e, σ1⟩ := x
        cases e with
        | exit id' => exact absurd h (h1 _ _)
        | _ => rfl
    | loop b =>
      simp only [run] at h ⊢
      split at h
      · rename_i σ1 h1
        obtain ⟨m1, e1⟩ := ih _ _ _ h1
        obtain ⟨m2, e2⟩ := ih _ _ _ h
        exact ⟨m1 + m2, fun k hk => by rw [e1 k (by omega)]; exact e2 k (by omega)⟩
      · rename_i h1
        obtain ⟨m1, e1⟩ := ih _ _ _ h
        refine ⟨m1, fun k hk => ?_⟩
        rw [e1 k hk]
        obtain ⟨e, σ1⟩ := x
        cases e with
        | normal => exact absurd h (h1 _)
        | _ => rfl
    | _ => exact ⟨0, fun k _ => by simpa [run] using h⟩

/-! ### The rules -/
/-- Code runs, and ends so. -/
def W (P : Program) (call : FuncId → List TV → Option TV) (rs : List Nat) (c : Code) (σ : St) (Q : Ex → St → Prop) : Prop := ∃ n e σ', run P call rs n c σ = some (e, σ') ∧ Q e σ'
/-- A function's answer from its body's run. -/
theorem callE_body {f : FuncId} {args : List TV} {r : TV} {fn : Func} {c : Code} (hb : bodyOf P f = some (fn, c)) (hΦ : Φ f args = none) (hl : args.length ≤ fn.ntmps)
    (h : W P (callE P Φ) (resSlots fn.results.toList) c (start fn args) fun e σ => (∀ id, e ≠ .exit id) ∧ outR P σ.s fn.results.toList = some r) : callE P Φ f args = some r := by
  obtain ⟨n, e, σ', h1, h2, h3⟩ := h
  obtain ⟨m, _, hm⟩ := run_fuel _ _ _ _ _ h1
  refine callE_some.2 ⟨m + 1, ?_⟩
  simp only [callF, hb, hΦ, if_pos hl]
  rw [hm m (Nat.le_refl _)]
  cases e with
  | exit id => exact absurd rfl (h2 id)
  | _ => exact h3
theorem callE_given {f : FuncId} {args : List TV} {r : TV} {fn : Func} {c : Code} (hb : bodyOf P f = some (fn, c)) (hΦ : Φ f args = some r) : callE P Φ f args = some r :=
  callE_some.2 ⟨1, by simp [callF, hb, hΦ]⟩
end

section
variable {P : Program} {call : FuncId → List TV → Option TV} {rs : List Nat} {σ : St} {Q : Ex → St → Prop}

theorem W.mono {Q' : Ex → St → Prop} {c : Code} (h : W P call rs c σ Q) (hQ : ∀ e σ, Q e σ → Q' e σ) : W P call rs c σ Q' := by
  obtain ⟨n, e, σ', h1, h2⟩ := h
  exact ⟨n, e, σ', h1, hQ _ _ h2⟩
theorem W_skip : W P call rs .skip σ Q ↔ Q .normal σ := by
  constructor
  · rintro ⟨n, e, σ', h, hq⟩
    cases n with
    | zero => simp [run] at h
    | succ n => simp only [run, Option.some.injEq, Prod.mk.injEq] at h; obtain ⟨rfl, rfl⟩ := h; exact hq
  · intro h; exact ⟨1, _, _, rfl, h⟩
theorem W_exit {id : Nat} : W P call rs (.exit id) σ Q ↔ Q (.exit id) σ := by
  constructor
  · rintro ⟨n, e, σ', h, hq⟩
    cases n with
    | zero => simp [run] at h
    | succ n => simp only [run, Option.some.injEq, Prod.mk.injEq] at h; obtain ⟨rfl, rfl⟩ := h; exact hq
  · intro h; exact ⟨1, _, _, rfl, h⟩
theorem W_ret : W P call rs .ret σ Q ↔ Q .ret σ := by
  constructor
  · rintro ⟨n, e, σ', h, hq⟩
    cases n with
    | zero => simp [run] at h
    | succ n => simp only [run, Option.some.injEq, Prod.mk.injEq] at h; obtain ⟨rfl, rfl⟩ := h; exact hq
  · intro h; exact ⟨1, _, _, rfl, h⟩
/-- A region's end. -/
def RQ (o : Option St) (Q : Ex → St → Prop) : Prop := match o with | some σ => Q .normal σ | none => False
theorem W_region {id : Nat} {ops : Array Oper} {draw : Bool} : W P call rs (.region id ops draw) σ Q ↔ RQ (region P call rs ops draw σ) Q := by
  constructor
  · rintro ⟨n, e, σ', h, hq⟩
    cases n with
    | zero => simp [run] at h
    | succ n =>
      simp only [run, Option.map_eq_some_iff, Prod.mk.injEq] at h
      obtain ⟨σ1, h, rfl, rfl⟩ := h
      rw [h]; exact hq
  · intro h
    cases hr : region P call rs ops draw σ with
    | none => rw [hr] at h; exact h.elim
    | some σ1 => rw [hr] at h; exact ⟨1, _, _, by simp only [run, hr, Option.map_some], h⟩
def thenQ (k : St → Prop) (Q : Ex → St → Prop) : Ex → St → Prop
  | .normal, σ => k σ
  | e, σ => Q e σ
theorem W_seq {a b : Code} : W P call rs (.seq a b) σ Q ↔ W P call rs a σ (thenQ (fun σ' => W P call rs b σ' Q) Q) := by
  constructor
  · rintro ⟨n, e, σ', h, hq⟩
    cases n with
    | zero => simp [run] at h
    | succ n =>
      simp only [run] at h
      split at h
      · rename_i σ1 h1
        exact ⟨n, _, _, h1, n, _, _, h, hq⟩
      · rename_i h1
        refine ⟨n, _, _, h, ?_⟩
        cases e with
        | normal => exact absurd h (h1 _)
        | _ => exact hq
  · rintro ⟨n, e, σ', h, hq⟩
    cases e with
    | normal =>
      obtain ⟨m, e2, σ2, h2, hq2⟩ := hq
      refine ⟨n + m + 1, e2, σ2, ?_, hq2⟩
      simp only [run]
      rw [run_mono rs (fun _ _ _ h => h) n a σ _ h (n + m) (by omega)]
      exact run_mono rs (fun _ _ _ h => h) m b σ' _ h2 (n + m) (by omega)
    | exit id => exact ⟨n + 1, _, _, by simp only [run]; rw [h], hq⟩
    | ret => exact ⟨n + 1, _, _, by simp only [run]; rw [h], hq⟩
theorem W_cond {c : Operand} {a b : Code} {t : Bool} (ht : (ev c).eval σ.s = some (.bool t)) : W P call rs (.cond c a b) σ Q ↔ W P call rs (if t then a else b) σ Q := by
  constructor
  · rintro ⟨n, e, σ', h, hq⟩
    cases n with
    | zero => simp [run] at h
    | succ n => simp only [run, ht] at h; exact ⟨n, _, _, h, hq⟩
  · rintro ⟨n, e, σ', h, hq⟩
    exact ⟨n + 1, _, _, by simp only [run, ht]; exact h, hq⟩
def blockQ (id : Nat) (Q : Ex → St → Prop) : Ex → St → Prop
  | .exit id', σ => if id' = id then Q .normal σ else Q (.exit id') σ
  | e, σ => Q e σ
theorem W_block {id : Nat} {b : Code} : W P call rs (.block id b) σ Q ↔ W P call rs b σ (blockQ id Q) := by
  constructor
  · rintro ⟨n, e, σ', h, hq⟩
    cases n with
    | zero => simp [run] at h
    | succ n =>
      simp only [run] at h
      split at h
      · rename_i id' σ1 h1
        refine ⟨n, _, _, h1, ?_⟩
        simp only [blockQ]
        split at h
        · rename_i he; cases h; rw [if_pos he]; exact hq
        · rename_i he; cases h; rw [if_neg he]; exact hq
      · rename_i h1
        refine ⟨n, _, _, h, ?_⟩
        cases e with
        | exit id' => exact absurd h (h1 _ _)
        | _ => exact hq
  · rintro ⟨n, e, σ', h, hq⟩
    cases e with
    | exit id' =>
      simp only [blockQ] at hq
      by_cases he : id' = id
      · rw [if_pos he] at hq; exact ⟨n + 1, _, _, by simp only [run, h, if_pos he], hq⟩
      · rw [if_neg he] at hq; exact ⟨n + 1, _, _, by simp only [run, h, if_neg he], hq⟩
    | normal => exact ⟨n + 1, _, _, by simp only [run, h], hq⟩
    | ret => exact ⟨n + 1, _, _, by simp only [run, h], hq⟩
theorem W_loop {b : Code} : W P call rs (.loop b) σ Q ↔ W P call rs b σ (thenQ (fun σ' => W P call rs (.loop b) σ' Q) Q) := by
  constructor
  · rintro ⟨n, e, σ', h, hq⟩
    cases n with
    | zero => simp [run] at h
    | succ n =>
      simp only [run] at h
      split at h
      · rename_i σ1 h1
        exact ⟨n, _, _, h1, n, _, _, h, hq⟩
      · rename_i h1
        refine ⟨n, _, _, h, ?_⟩
        cases e with
        | normal => exact absurd h (h1 _)
        | _ => exact hq
  · rintro ⟨n, e, σ', h, hq⟩
    cases e with
    | normal =>
      obtain ⟨m, e2, σ2, h2, hq2⟩ := hq
      refine ⟨n + m + 1, e2, σ2, ?_, hq2⟩
      simp only [run]
      rw [run_mono rs (fun _ _ _ h => h) n b σ _ h (n + m) (by omega)]
      exact run_mono rs (fun _ _ _ h => h) m (.loop b) σ' _ h2 (n + m) (by omega)
    | exit id => exact ⟨n + 1, _, _, by simp only [run]; rw [h], hq⟩
    | ret => exact ⟨n + 1, _, _, by simp only [run]; rw [h], hq⟩
/-- A LOOP: what holds at its head, and what becomes less. -/
theorem W_loop_of {b : Code} (J : St → Prop) (μ : St → Nat) (h₀ : J σ)
    (round : ∀ σ, J σ → W P call rs b σ (thenQ (fun σ' => J σ' ∧ μ σ' < μ σ) Q)) : W P call rs (.loop b) σ Q := by
  have key : ∀ n σ, μ σ = n → J σ → W P call rs (.loop b) σ Q := by
    intro n
    induction n using Nat.strongRecOn with
    | _ n ih =>
      intro σ hn hJ
      refine W_loop.2 ((round σ hJ).mono fun e σ' h => ?_)
      cases e with
      | normal => exact ih _ (hn ▸ h.2) σ' rfl h.1
      | exit id => exact h
      | ret => exact h
  exact key _ σ rfl h₀
end
end Go.Vm
