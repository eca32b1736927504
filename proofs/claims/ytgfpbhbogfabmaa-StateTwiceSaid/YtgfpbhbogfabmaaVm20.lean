/- Code, bodies, functions. -/
import Derived.Test.YtgfpbhbogfabmaaVm19
set_option linter.unusedVariables false
set_option linter.unusedSimpArgs false
set_option linter.unnecessarySimpa false
set_option linter.unusedSectionVars false
namespace Go.Vm

/-- How code ends. -/
def exitOf : Ex → Exit
  | .normal => .normal
  | .exit id => .exit id
  | .ret => .ret

section
variable {P : Program}

/-- A loop's rounds to come. -/
def LoopWp (P : Program) (c : Code) (Q : Exit → Act → World → Prop) (a : Act) (w : World) : Prop :=
  ∀ (b : Frame) (k : List Item) (cs : List Frame), ∃ e a' w', Q e a' w' ∧ Arrives P (lone (b.at a (.code c :: .inLoop c :: k)) cs w) b k cs e a' w'
theorem LoopWp.start {c : Code} {Q : Exit → Act → World → Prop} {a : Act} {w : World} (h : LoopWp P c Q a w) : (Code.loop c).wp P Q a w := by
  intro b k cs
  obtain ⟨e, a', w', hq, harr⟩ := h b k cs
  exact ⟨e, a', w', hq, .of_steps (.one step_loop) harr⟩
theorem LoopWp.round {c : Code} {Q : Exit → Act → World → Prop} {a : Act} {w : World} (h : c.wp P (Exit.then (LoopWp P c Q) Q) a w) : LoopWp P c Q a w := by
  intro b k cs
  obtain ⟨e, a₁, w₁, hq, harr⟩ := h b (.inLoop c :: k) cs
  cases e with
  | normal =>
    obtain ⟨e₂, a₂, w₂, hq₂, harr₂⟩ := hq b k cs
    exact ⟨e₂, a₂, w₂, hq₂, .of_steps (Steps.trans harr (.one step_inLoop)) harr₂⟩
  | exit id => exact ⟨_, a₁, w₁, hq, .pass (x := .inLoop c) rfl (fun _ _ => .inl (by simp)) harr⟩
  | goto l => exact ⟨_, a₁, w₁, hq, .pass (x := .inLoop c) rfl (fun _ _ => .inl (by simp)) harr⟩
  | ret => exact ⟨_, a₁, w₁, hq, .pass (x := .inLoop c) rfl (fun _ _ => .inl (by simp)) harr⟩
  | panic ch => exact ⟨_, a₁, w₁, hq, .pass (x := .inLoop c) rfl (fun _ _ => .inl (by simp)) harr⟩
  | outgrown => exact ⟨_, a₁, w₁, hq, .pass (x := .inLoop c) rfl (fun _ _ => .inl (by simp)) harr⟩

variable {K : Nat → Prop} {w0 : World} {N : Nat} (call : FuncId → List TV → Option TV) (rs : List Nat)

theorem run_ok (hcall : CallsOk P call) (hm : P.follows .mixedOrders = true) : ∀ (n : Nat) (c : Code) (σ : St) (e : Ex) (σ' : St), run P call rs n c σ = some (e, σ') → dstOk N c = true →
    ∀ (Q : Exit → Act → World → Prop) (a : Act) (w : World), Good P K w0 N (fun m => m < σ.nx) σ.s a w →
      (∀ a' w', Good P K w0 N (fun m => m < σ'.nx) σ'.s a' w' → Q (exitOf e) a' w') → c.wp P Q a w ∧ ∀ b, c = .loop b → LoopWp P b Q a w := by
  intro n
  induction n with
  | zero => intro c σ e σ' h; simp [run] at h
  | succ n ih =>
    intro c σ e σ' h hd Q a w hg hQ
    cases c with
    | skip =>
      simp only [run, Option.some.injEq, Prod.mk.injEq] at h
      obtain ⟨rfl, rfl⟩ := h
      exact ⟨wp_skip (hQ _ _ hg), fun b hb => by cases hb⟩
    | region id ops draw =>
      simp only [run, Option.map_eq_some_iff, Prod.mk.injEq] at h
      obtain ⟨σ1, h, rfl, rfl⟩ := h
      refine ⟨region_ok call rs hcall hm h hg (fun o ho x hx => ?_) hQ, fun b hb => by cases hb⟩
      simp only [dstOk, List.all_eq_true] at hd
      have := hd o ho
      rw [hx] at this
      simpa using this
    | seq x y =>
      simp only [dstOk, Bool.and_eq_true] at hd
      simp only [run] at h
      refine ⟨wp_seq ?_, fun b hb => by cases hb⟩
      split at h
      · rename_i σ1 h1
        exact (ih x σ _ _ h1 hd.1 _ a w hg fun a' w' hg' => (ih y σ1 _ _ h hd.2 Q a' w' hg' hQ).1).1
      · rename_i h1
        refine (ih x σ _ _ h hd.1 _ a w hg fun a' w' hg' => ?_).1
        cases e with
        | normal => exact absurd h (h1 _)
        | exit id => exact hQ _ _ hg'
        | ret => exact hQ _ _ hg'
    | cond c x y =>
      simp only [dstOk, Bool.and_eq_true] at hd
      simp only [run] at h
      split at h
      · rename_i t ht
        obtain ⟨η, hsim⟩ := hg.sim
        have hr := (ev_rep hsim ht).1
        simp only [Rep, RepP] at hr
        refine ⟨wp_cond hr ?_, fun b hb => by cases hb⟩
        cases t
        · exact (ih y σ _ _ h hd.2 Q a w hg hQ).1
        · exact (ih x σ _ _ h hd.1 Q a w hg hQ).1
      · cases h
    | block id b =>
      simp only [dstOk] at hd
      simp only [run] at h
      refine ⟨wp_block ?_, fun b hb => by cases hb⟩
      split at h
      · rename_i id' σ1 h1
        refine (ih b σ _ _ h1 hd _ a w hg fun a' w' hg' => ?_).1
        simp only [exitOf, Exit.inBlock]
        split at h
        · rename_i he
          simp only [Option.some.injEq, Prod.mk.injEq] at h
          obtain ⟨rfl, rfl⟩ := h
          rw [if_pos he]; exact hQ _ _ hg'
        · rename_i he
          simp only [Option.some.injEq, Prod.mk.injEq] at h
          obtain ⟨rfl, rfl⟩ := h
          rw [if_neg he]; exact hQ _ _ hg'
      · rename_i h1
        refine (ih b σ _ _ h hd _ a w hg fun a' w' hg' => ?_).1
        cases e with
        | normal => exact hQ _ _ hg'
        | exit id' => exact absurd h (h1 _ _)
        | ret => exact hQ _ _ hg'
    | loop b =>
      simp only [dstOk] at hd
      simp only [run] at h
      have key : LoopWp P b Q a w := by
        refine LoopWp.round ?_
        split at h
        · rename_i σ1 h1
          exact (ih b σ _ _ h1 hd _ a w hg fun a' w' hg' => (ih (.loop b) σ1 _ _ h hd Q a' w' hg' hQ).2 b rfl).1
        · rename_i h1
          refine (ih b σ _ _ h hd _ a w hg fun a' w' hg' => ?_).1
          cases e with
          | normal => exact absurd h (h1 _)
          | exit id => exact hQ _ _ hg'
          | ret => exact hQ _ _ hg'
      exact ⟨key.start, fun b' hb' => by cases hb'; exact key⟩
    | exit id =>
      simp only [run, Option.some.injEq, Prod.mk.injEq] at h
      obtain ⟨rfl, rfl⟩ := h
      exact ⟨wp_exit (hQ _ _ hg), fun b hb => by cases hb⟩
    | ret =>
      simp only [run, Option.some.injEq, Prod.mk.injEq] at h
      obtain ⟨rfl, rfl⟩ := h
      exact ⟨wp_ret (hQ _ _ hg), fun b hb => by cases hb⟩
    | _ => simp [run] at h
end

/-! ### What a function begins with -/
theorem mask_of (p : Nat → Prop) : ∀ n : Nat, ∃ m : Nat, ∀ b, m.testBit b = true ↔ b < n ∧ p b
  | 0 => ⟨0, fun b => by simp⟩
  | n + 1 => by
    obtain ⟨m, hm⟩ := mask_of p n
    by_cases hp : p n
    · refine ⟨m ||| 2 ^ n, fun b => ?_⟩
      rw [Nat.testBit_or, Bool.or_eq_true, hm, Nat.testBit_two_pow]
      constructor
      · rintro (⟨h1, h2⟩ | h)
        · exact ⟨by omega, h2⟩
        · have := of_decide_eq_true h; subst this; exact ⟨by omega, hp⟩
      · rintro ⟨h1, h2⟩
        by_cases h : n = b
        · right; simp [h]
        · left; exact ⟨by omega, h2⟩
    · refine ⟨m, fun b => ?_⟩
      rw [hm]
      constructor
      · rintro ⟨h1, h2⟩; exact ⟨by omega, h2⟩
      · rintro ⟨h1, h2⟩
        refine ⟨?_, h2⟩
        by_cases h : b = n
        · subst h; exact absurd h2 hp
        · omega

section
variable {P : Program} {w : World} {I : Nat → Prop}

theorem RepA_rep {η : Stamp → Value} {U : Nat → Prop} {t : TV} {v : Value} (h : RepA I w t v) : Rep η I w t v ∧ fpT η t = [] ∧ stT U t := by
  cases t with
  | agg cs =>
    simp only [RepA] at h
    obtain ⟨arr, rfl, h⟩ := h
    have := h.cells (η := η) (U := U)
    simp only [Rep, fpT, stT]
    exact ⟨⟨arr, rfl, this.1⟩, this.2.1, this.2.2⟩
  | fn f caps => simp only [RepA] at h; simp [Rep, fpT, stT, h]
  | int k n => exact ⟨Rep_pure h, by simp [fpT], by simp [stT]⟩
  | bool b => exact ⟨Rep_pure h, by simp [fpT], by simp [stT]⟩
  | str b => exact ⟨Rep_pure h, by simp [fpT], by simp [stT]⟩
  | nil z => exact ⟨Rep_pure h, by simp [fpT], by simp [stT]⟩
  | sl z xs => exact ⟨Rep_pure h, by simp [fpT], by simp [stT]⟩
  | _ => simp [RepA, RepP] at h

theorem RepAs.get {U : Nat → Prop} {η : Stamp → Value} : ∀ {ts : List TV} {vs : List Value}, RepAs I w ts vs → ts.length = vs.length ∧
    ∀ i, i < ts.length → Rep η I w (get ts i) (vs.getD i undef) ∧ fpT η (get ts i) = [] ∧ stT U (get ts i)
  | [], vs, h => by simp only [RepAs] at h; subst h; simp
  | t :: ts, vs, h => by
    simp only [RepAs] at h
    obtain ⟨v, vs', rfl, h1, h2⟩ := h
    have ih := RepAs.get (U := U) (η := η) h2
    refine ⟨by simp [ih.1], fun i hi => ?_⟩
    cases i with
    | zero => simpa [Vm.get] using RepA_rep h1
    | succ i => simpa [Vm.get] using ih.2 i (by simpa using hi)

theorem get_append (xs ys : List TV) (i : Nat) : get (xs ++ ys) i = if i < xs.length then get xs i else get ys (i - xs.length) := by
  induction xs generalizing i with
  | nil => simp
  | cons x xs ih =>
    cases i with
    | zero => simp [Vm.get]
    | succ i => simp [Vm.get, ih]
theorem get_replicate (n : Nat) (t : TV) (i : Nat) : get (List.replicate n t) i = if i < n then t else .undef := by
  induction n generalizing i with
  | zero => simp [Vm.get]
  | succ n ih =>
    cases i with
    | zero => simp [List.replicate_succ, Vm.get]
    | succ i => simp [List.replicate_succ, Vm.get, ih]

theorem start_good (hI : ∀ b, I b → b < w.heap.size) {fn : Func} {args : List TV} {vs : Array Value} (hl : args.length ≤ fn.ntmps) (h : RepAs I w args vs.toList) {m : Nat}
    (hm : ∀ b, m.testBit b = true ↔ b < w.heap.size ∧ ¬ I b) :
    Good P (fun b => b < w.heap.size) { w with drawn := m } fn.ntmps (fun m => m < 1) (start fn args).s { tmps := vs ++ Array.replicate (fn.ntmps - vs.size) undef, defers := [] } w := by
  classical
  let η : Stamp → Value := fun g => if m.testBit g.2 then .slice (some ⟨g.2, 0, none⟩) 0 0 else undef
  have hg := RepAs.get (U := fun m => m < 1) (η := η) h
  have hlen : args.length = vs.size := by simpa using hg.1
  have hs : ∀ i, get (start fn args).s i = if i < args.length then get args i else if i < fn.ntmps then .tup [] else .undef := by
    intro i
    simp only [start, get_append, get_replicate]
    split
    · rfl
    · split <;> split <;> first | rfl | omega
  have hv : ∀ i, vsOf { tmps := vs ++ Array.replicate (fn.ntmps - vs.size) undef, defers := [] } i = if i < args.length then vs.toList.getD i undef else undef := by
    intro i
    simp only [vsOf, Array.getD_eq_getD_getElem?, Array.getElem?_append, hlen]
    split
    · simp [List.getD_eq_getElem?_getD]
    · rw [Array.getElem?_replicate]; split <;> rfl
  have hfp : ∀ i, fpT η (get (start fn args).s i) = [] := by
    intro i
    rw [hs]
    split
    · rename_i hi; exact (hg.2 i hi).2.1
    · split <;> simp [fpT, fpL]
  have hIm : ∀ b, I b → Imm η (get (start fn args).s) w b := by
    intro b hb
    refine ⟨hI b hb, fun j hj => (by rw [hfp] at hj; cases hj), fun c hc => ?_⟩
    simp only [η] at hc
    split at hc
    · rename_i ht
      simp only [blkOf, List.mem_singleton] at hc
      subst hc
      exact ((hm b).1 ht).2 hb
    · simp [undef, blkOf] at hc
  refine ⟨rfl, by simp; omega, η, ⟨⟨rfl, rfl, rfl, Nat.le_refl _, fun _ _ => rfl⟩, fun b hb => hb, fun i => ?_, fun i b hb => (by rw [hfp] at hb; cases hb), fun i => (by rw [hfp]; exact List.nodup_nil), fun i j b hb => (by rw [hfp] at hb; cases hb), fun i => ?_, by simp, fun b => ?_, fun b hb => ((hm b).1 hb).1⟩⟩
  · rw [hs]
    split
    · rename_i hi; exact (hg.2 i hi).2.2
    · split <;> simp [stT, stL]
  · rw [hs, hv]
    split
    · rename_i hi
      exact Rep.mono (U := fun _ => True) (fun _ _ => rfl) hIm (fun _ _ => rfl) _ _ (stT.mono (fun _ _ => trivial) _ (hg.2 i hi).2.2) (fun _ _ => rfl) (hg.2 i hi).1
    · split
      · simp [Rep, RepVals, undef]
      · simp [Rep]
  · constructor
    · rintro ⟨c, hc⟩
      simp only [η] at hc
      split at hc
      · rename_i ht
        simp only [blkOf, List.mem_singleton] at hc
        subst hc; exact ht
      · simp [undef, blkOf] at hc
    · intro hb
      refine ⟨b, ?_⟩
      have hb' : m.testBit b = true := hb
      simp [η, hb', blkOf]
end
end Go.Vm
