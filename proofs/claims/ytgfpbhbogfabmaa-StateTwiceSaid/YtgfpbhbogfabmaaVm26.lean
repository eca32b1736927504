/- Functions by their trees: results, loops, what comes behind a loop. -/
import Derived.Test.YtgfpbhbogfabmaaVm25
set_option linter.unusedVariables false
set_option linter.unusedSimpArgs false
set_option linter.unnecessarySimpa false
set_option linter.unusedSectionVars false
namespace Go.Vm

/-- A path that leads through code. -/
def okPath : Code → List Bool → Bool
  | _, [] => true
  | .seq a _, false :: π => okPath a π
  | .seq _ b, true :: π => okPath b π
  | .cond _ a _, false :: π => okPath a π
  | .cond _ _ b, true :: π => okPath b π
  | .block _ b, false :: π => okPath b π
  | _, _ :: _ => false

/-- Where a function's run comes to: its answer, or a loop. -/
inductive Fin' where
  | res (r : Option TV)
  | at (π : List Bool) (s : List TV) (nx : Nat)
/-- Where a loop's round comes to. -/
inductive Lp where
  | next (s : List TV) (nx : Nat)
  | out (id : Nat) (s : List TV) (nx : Nat)
  | res (r : Option TV)
  | at (π : List Bool) (s : List TV) (nx : Nat)

section
variable (P : Program) (call : FuncId → List TV → Option TV) (rs : List Nat) (fn : Func)
def endK : Place → Hint → Tr Fin'
  | .fin (.exit _) _, _ => .fail
  | .fin .normal σ, _ => .ret (.res (outR P σ.s fn.results.toList))
  | .fin .ret σ, _ => .ret (.res (outR P σ.s fn.results.toList))
  | .loop π σ, _ => .ret (.at π σ.s σ.nx)
def loopK : Place → Hint → Tr Lp
  | .fin .normal σ, _ => .ret (.next σ.s σ.nx)
  | .fin (.exit id) σ, _ => .ret (.out id σ.s σ.nx)
  | .fin .ret σ, _ => .ret (.res (outR P σ.s fn.results.toList))
  | .loop π σ, _ => .ret (.at π σ.s σ.nx)
/-- The function ends, and answers x. -/
def QR (x : TV) (e : Ex) (σ : St) : Prop := (∀ id, e ≠ .exit id) ∧ outR P σ.s fn.results.toList = some x
def FinQ (c : Code) (x : TV) : Fin' → Prop
  | .res r => r = some x
  | .at π s nx => W P call rs (.loop (bodyAt c π)) ⟨s, nx⟩ (contQ P call rs c π (QR P fn x))
def LpQ (c : Code) (Q : Ex → St → Prop) (x : TV) : Lp → Prop
  | .next s nx => Q .normal ⟨s, nx⟩
  | .out id s nx => Q (.exit id) ⟨s, nx⟩
  | .res r => r = some x
  | .at π s nx => W P call rs (.loop (bodyAt c π)) ⟨s, nx⟩ (contQ P call rs c π Q)
end

section
variable {P : Program} {call : FuncId → List TV → Option TV} {rs : List Nat} {fn : Func} {x : TV}

theorem contQ_ret : ∀ (c : Code) (π : List Bool) (Q : Ex → St → Prop) (σ : St), okPath c π = true → Q .ret σ → contQ P call rs c π Q .ret σ := by
  intro c
  induction c with
  | seq a b iha ihb =>
    intro π Q σ hp hq
    match π with
    | [] => exact hq
    | false :: π => exact iha π _ σ hp hq
    | true :: π => exact ihb π _ σ hp hq
  | cond t a b iha ihb =>
    intro π Q σ hp hq
    match π with
    | [] => exact hq
    | false :: π => exact iha π _ σ hp hq
    | true :: π => exact ihb π _ σ hp hq
  | block id b ih =>
    intro π Q σ hp hq
    match π with
    | [] => exact hq
    | false :: π => exact ih π _ σ hp hq
    | true :: π => simp [okPath] at hp
  | _ =>
    intro π Q σ hp hq
    match π with
    | [] => exact hq
    | false :: π => simp [okPath] at hp
    | true :: π => simp [okPath] at hp

theorem fin_leaf {c : Code} {e : Ex} {σ : St} {h : Hint} (hw : TW (endK P fn (.fin e σ) h) (FinQ P call rs fn c x)) : QR P fn x e σ := by
  cases e with
  | normal => exact ⟨fun id h => (by cases h), hw⟩
  | exit id => exact hw.elim
  | ret => exact ⟨fun id h => (by cases h), hw⟩
theorem W_fn {c : Code} {σ : St} (h : Hint) (hw : TW (runK P call rs c [] σ h (endK P fn)) (FinQ P call rs fn c x)) : W P call rs c σ (QR P fn x) :=
  runK_ok c [] σ h _ _ hw (fun _ _ _ h => fin_leaf h) (fun π' σ' _ h => h)
theorem cont_fn {c : Code} {π : List Bool} {e : Ex} {σ : St} (h : Hint) (hw : TW (resK P call rs c π [] e σ h (endK P fn)) (FinQ P call rs fn c x)) : contQ P call rs c π (QR P fn x) e σ :=
  resK_ok c π [] e σ h _ _ hw (fun _ _ _ h => fin_leaf h) (fun π' σ' _ h => h)
theorem lp_leaf {c : Code} {Q : Ex → St → Prop} (hret : ∀ σ, outR P σ.s fn.results.toList = some x → Q .ret σ) {e : Ex} {σ : St} {h : Hint} (hw : TW (loopK P fn (.fin e σ) h) (LpQ P call rs c Q x)) : Q e σ := by
  cases e with
  | normal => exact hw
  | exit id => exact hw
  | ret => exact hret σ hw
theorem W_lp {c : Code} {σ : St} {Q : Ex → St → Prop} (h : Hint) (hret : ∀ σ, outR P σ.s fn.results.toList = some x → Q .ret σ) (hw : TW (runK P call rs c [] σ h (loopK P fn)) (LpQ P call rs c Q x)) : W P call rs c σ Q :=
  runK_ok c [] σ h _ _ hw (fun _ _ _ h => lp_leaf hret h) (fun π' σ' _ h => h)
theorem cont_lp {c : Code} {π : List Bool} {e : Ex} {σ : St} {Q : Ex → St → Prop} (h : Hint) (hret : ∀ σ, outR P σ.s fn.results.toList = some x → Q .ret σ) (hw : TW (resK P call rs c π [] e σ h (loopK P fn)) (LpQ P call rs c Q x)) : contQ P call rs c π Q e σ :=
  resK_ok c π [] e σ h _ _ hw (fun _ _ _ h => lp_leaf hret h) (fun π' σ' _ h => h)

theorem qr_ret {c : Code} {π : List Bool} (hp : okPath c π = true) (K : St → Prop) : ∀ σ, outR P σ.s fn.results.toList = some x → thenQ K (contQ P call rs c π (QR P fn x)) .ret σ := fun σ h =>
  contQ_ret c π _ σ hp ⟨fun id h => (by cases h), h⟩

/-- A LOOP OF A FUNCTION: what holds at its head (slots, next stamp), and what becomes less. -/
theorem loop_fn {c : Code} {π : List Bool} (hp : okPath c π = true) (J : List TV → Nat → Prop) (μ : List TV → Nat) {s : List TV} {nx : Nat} (h₀ : J s nx) (hint : List TV → Nat → Hint)
    (round : ∀ s nx, J s nx → TW (runK P call rs (bodyAt c π) [] ⟨s, nx⟩ (hint s nx) (loopK P fn)) (LpQ P call rs (bodyAt c π) (thenQ (fun σ => J σ.s σ.nx ∧ μ σ.s < μ s) (contQ P call rs c π (QR P fn x))) x)) :
    W P call rs (.loop (bodyAt c π)) ⟨s, nx⟩ (contQ P call rs c π (QR P fn x)) :=
  W_loop_of (fun σ => J σ.s σ.nx) (fun σ => μ σ.s) h₀ fun σ hJ => W_lp (hint σ.s σ.nx) (qr_ret hp _) (round σ.s σ.nx hJ)
end

section
variable {P : Program} {Φ : FuncId → List TV → Option TV}
/-- A FUNCTION BY ITS TREE. -/
theorem callE_tree {f : FuncId} {args : List TV} {x : TV} {fn : Func} {c : Code} (hb : bodyOf P f = some (fn, c)) (hΦ : Φ f args = none) (hl : args.length ≤ fn.ntmps) (h : Hint)
    (hw : TW (runK P (callE P Φ) (resSlots fn.results.toList) c [] (start fn args) h (endK P fn)) (FinQ P (callE P Φ) (resSlots fn.results.toList) fn c x)) : callE P Φ f args = some x :=
  callE_body hb hΦ hl (W_fn h hw)
def codeOf (fn : Func) : Code := fn.body.getD .skip
theorem bodyOf_code {f : FuncId} {fn : Func} (hf : P.funcs[f]? = some fn) (hd : (fn.body.isSome && (fn.name != "runtime.NumGoroutine" && dstOk fn.ntmps (codeOf fn))) = true) : bodyOf P f = some (fn, codeOf fn) := by
  cases hb : fn.body with
  | none => simp [hb] at hd
  | some c =>
    have e : codeOf fn = c := by simp [codeOf, hb]
    rw [e] at hd ⊢
    exact bodyOf_mk hf hb (by simp only [hb, Option.isSome_some, Bool.true_and] at hd; exact hd)
/-- The tree of a function, and its hint. -/
noncomputable def treeOf (P : Program) (Φ : FuncId → List TV → Option TV) (fn : Func) (args : List TV) (h : Hint) : Tr Fin' :=
  runK P (callE P Φ) (resSlots fn.results.toList) (codeOf fn) [] (start fn args) h (endK P fn)
theorem call_by {f : FuncId} {args : List TV} {x : TV} {fn : Func} (hf : P.funcs[f]? = some fn) (hd : (fn.body.isSome && (fn.name != "runtime.NumGoroutine" && dstOk fn.ntmps (codeOf fn))) = true)
    (hΦ : Φ f args = none) (hl : Nat.ble args.length fn.ntmps = true) (h : Hint) {T : Tr Fin'} (ht : treeOf P Φ fn args h = T)
    (hw : TW T (FinQ P (callE P Φ) (resSlots fn.results.toList) fn (codeOf fn) x)) : callE P Φ f args = some x :=
  callE_tree (bodyOf_code hf hd) hΦ (Nat.le_of_ble_eq_true hl) h (by subst ht; exact hw)
end
end Go.Vm
