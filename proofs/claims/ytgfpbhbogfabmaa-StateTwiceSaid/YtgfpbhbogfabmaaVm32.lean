/- A function that asks whether its slice is nil, and answers alike in both cases (slices.Clone). -/
import Derived.Test.YtgfpbhbogfabmaaVm30
set_option linter.unusedVariables false
set_option linter.unusedSimpArgs false
set_option linter.unnecessarySimpa false
set_option linter.unusedSectionVars false
namespace Go.Vm
def noCall : FuncId → List TV → Option TV := fun _ _ => none
section
variable {P : Program}
theorem noCall_ok : CallsOk P noCall := fun _ _ _ h => by cases h

/-- Code that runs so, and what is to hold at its end. -/
theorem W_ok {K : Nat → Prop} {w0 : World} {N : Nat} {call : FuncId → List TV → Option TV} (rs : List Nat) (hcall : CallsOk P call) (hm : P.follows .mixedOrders = true) {c : Code} {σ : St} {R : Ex → St → Prop} (h : W P call rs c σ R) (hd : dstOk N c = true)
    {Q : Exit → Act → World → Prop} {a : Act} {w : World} (hg : Good P K w0 N (fun m => m < σ.nx) σ.s a w)
    (hQ : ∀ e σ' a' w', R e σ' → Good P K w0 N (fun m => m < σ'.nx) σ'.s a' w' → Q (exitOf e) a' w') : c.wp P Q a w := by
  obtain ⟨n, e, σ', h1, h2⟩ := h
  exact (run_ok call rs hcall hm n c σ e σ' h1 hd Q a w hg fun a' w' hg' => hQ e σ' a' w' h2 hg').1

theorem eq_nil {T e : TypeId} (hT : P.underlying T = some (.slice e)) (A : Option Addr) (n c d : Nat) (w : World) :
    (Op.equalIn (d + 1) T (.slice A n c) (.slice none 0 0)).run P w = .ok A.isNone w := by
  cases A <;> simp [Op.equalIn, run_underlying hT]
theorem nil_run {T e : TypeId} (hT : P.underlying T = some (.slice e)) (X Y : Operand) (A : Option Addr) (n c : Nat) (w : World) :
    (do eqGuard .eql T X Y (.slice A n c) (.slice none 0 0); binOp .eql T (.slice A n c) (.slice none 0 0) : Sem Value).run P w = .ok (.bool A.isNone) w := by
  have e := eq_nil hT A n c 9999 w
  simp [eqGuard, binOp, Op.equal, Op.maxDepth, e]

/-- THE FUNCTION: first the result's variable, then 's == nil' (operations oA, oB), then the two arms. -/
theorem nil_ctr (hm : P.follows .mixedOrders = true) {f : FuncId} {fn : Func} {z : Nat} {xs : List (List TV)} {r : TV} {T e : TypeId} (hT : P.underlying T = some (.slice e))
    (hf : P.funcs[f]? = some fn) {i0 i1 : Nat} {ops0 : Array Oper} {oA oB : Oper} {yT : TypeId} {cT c3 : Code} {p q : Nat}
    (hb : fn.body = some (.seq (.region i0 ops0 false) (.seq (.seq (.region i1 #[oA, oB] false) (.cond (.tmp q) cT .skip)) c3)))
    (hd : dstOk fn.ntmps (.seq (.region i0 ops0 false) (.seq (.seq (.region i1 #[oA, oB] false) (.cond (.tmp q) cT .skip)) c3)) = true)
    (hn : 1 ≤ fn.ntmps) (hoB : oB.op = .binOp .eql T (.tmp p) (.const (.slice none 0 0)) yT) (hdB : oB.dst = some q) (hgA : oA.guard = none) (hgB : oB.guard = none)
    {s1 s2 : List TV} {n1 : Nat} (h0 : region P noCall (resSlots fn.results.toList) ops0 false (start fn [.sl z xs]) = some ⟨s1, n1⟩)
    {rA : TV × List Cmd} (hA : (gOp P noCall (resSlots fn.results.toList) #[oA, oB] n1 oA).eval s1 = some rA) (hs2 : after s1 oA.dst rA = s2) (hp : get s2 p = .sl z xs)
    (hout : outT r = true)
    (hTr : xs = [] → W P noCall (resSlots fn.results.toList) cT ⟨put s2 q (.bool true), n1 + 2⟩ (fun e σ => e = .ret ∧ outR P σ.s fn.results.toList = some r))
    (hFr : W P noCall (resSlots fn.results.toList) c3 ⟨put s2 q (.bool false), n1 + 2⟩ (QR P fn r)) :
    Ctr P f [.sl z xs] r := by
  refine ⟨hout, fun w vs I hI hA' => ?_⟩
  obtain ⟨m, hmask⟩ := mask_of (fun b => ¬ I b) w.heap.size
  have hg := start_good (P := P) hI (fn := fn) (args := [.sl z xs]) (by simpa using hn) hA' hmask
  have hfin : ∀ (a' : Act) (w' : World) (U : Nat → Prop) (s' : List TV), Good P (fun b => b < w.heap.size) { w with drawn := m } fn.ntmps U s' a' w' → outR P s' fn.results.toList = some r →
      a'.defers = [] ∧ ∃ v, (results fn a'.tmps).run P w' = .ok v w' ∧ ∃ v', Ending.returned v = .returned v' ∧ Kept (fun b => b < w.heap.size) w w' ∧ Out I w w' r v' := by
    intro a' w' U s' hg' h
    obtain ⟨η, hs⟩ := hg'.sim
    obtain ⟨_, v, hv, ho⟩ := outR_ok hmask hs h
    exact ⟨hg'.defers, v, hv, v, rfl, ⟨hs.kept.os, hs.kept.tape, hs.kept.output, hs.kept.size, hs.kept.block⟩, ho⟩
  simp only [dstOk, Bool.and_eq_true] at hd
  obtain ⟨hd0, ⟨⟨hd1, hdT, _⟩, hd3⟩⟩ := hd
  refine calls_of_wp hf hb (wp_seq ?_)
  have hW0 : W P noCall (resSlots fn.results.toList) (.region i0 ops0 false) (start fn [.sl z xs]) (fun e σ => e = .normal ∧ σ = ⟨s1, n1⟩) := W_region.2 (by rw [h0]; exact ⟨rfl, rfl⟩)
  refine W_ok _ noCall_ok hm hW0 hd0 hg ?_
  rintro _ _ a1 w1 ⟨rfl, rfl⟩ hg1
  refine wp_seq (wp_seq (wp_region_list ?_))
  have hdst : ∀ o ∈ #[oA, oB].toList, ∀ x, o.dst = some x → x < fn.ntmps := by
    intro o ho x hx
    simp only [dstOk, List.all_eq_true] at hd1
    have := hd1 o ho
    rw [hx] at this; simpa using this
  unfold wpList
  refine gOp_ok noCall _ noCall_ok hg1 (ops := #[oA, oB]) (n := n1) (by simp) (hdst oA (by simp)) hA fun a2 w2 hg2 => ?_
  rw [hs2] at hg2
  unfold wpList
  rw [if_pos (by simp [Region.wanted, hgB])]
  left
  obtain ⟨η, hm2⟩ := hg2.sim
  have hv := hm2.rep p
  rw [hp] at hv
  obtain ⟨A, cap, hv, hcap, hA2⟩ := (show RepP _ w2 (.sl z xs) (vsOf a2 p) by simpa [Rep] using hv)
  have hev : a2.eval (.tmp p) = .slice A xs.length cap := hv
  have hn2 : ¬ addU (fun m => m < n1) n1 (n1 + 1) := by rintro (h | h) <;> omega
  refine Shows.quiet (t := .bool A.isNone) (v := .bool A.isNone) hm2 hg2.defers hg2.size (hdst oB (by simp)) ?_ (by simp [fpT]) (by simp [stT]) (by simp [Rep, RepP]) (n1 + 1) _ _ fun a3 w3 hg3 => ?_
  · have := nil_run hT (.tmp p) (.const (.slice none 0 0)) A xs.length cap w2
    simp only [execOp, hoB, hev]
    rw [Sem.run_bind]
    rw [show a2.eval (.const (.slice none 0 0)) = .slice none 0 0 from rfl, this]
    rfl
  unfold wpList
  have hg3' : Good P (fun b => b < w.heap.size) { w with drawn := m } fn.ntmps (fun m => m < n1 + 2) (put s2 q (.bool A.isNone)) a3 w3 := by
    have : after s2 oB.dst (.bool A.isNone, []) = put s2 q (.bool A.isNone) := by simp [after, hdB, putD]
    rw [this] at hg3
    refine hg3.mono fun k hk => ?_
    have hk1 : k < n1 ∨ k = n1 ∨ k = n1 + 1 := by
      rcases hk with (hk | hk) | hk
      · exact .inl hk
      · exact .inr (.inl hk)
      · exact .inr (.inr hk)
    omega
  have hq : a3.eval (.tmp q) = .bool A.isNone := by
    obtain ⟨η3, hm3⟩ := hg3'.sim
    have := hm3.rep q
    rw [get_put, if_pos rfl] at this
    have h2 : vsOf a3 q = .bool A.isNone := by simpa [Rep, RepP] using this
    exact h2
  refine wp_cond hq ?_
  cases hA3 : A.isNone with
  | true =>
    rw [hA3] at hg3'
    have hx : xs = [] := by
      rcases hA2 with h | ⟨b, o, rfl, _⟩
      · exact h
      · cases hA3
    rw [if_pos rfl]
    refine W_ok _ noCall_ok hm (hTr hx) hdT hg3' ?_
    rintro _ σ' a4 w4 ⟨rfl, h⟩ hg4
    exact hfin _ _ _ _ hg4 h
  | false =>
    rw [hA3] at hg3'
    rw [if_neg (by simp)]
    refine wp_skip ?_
    refine W_ok _ noCall_ok hm hFr hd3 hg3' ?_
    intro e σ' a4 w4 h hg4
    cases e with
    | exit id => exact absurd rfl (h.1 id)
    | normal => exact hfin _ _ _ _ hg4 h.2
    | ret => exact hfin _ _ _ _ hg4 h.2
def retK (P : Program) (fn : Func) : Place → Hint → Tr Lc
  | .fin .ret σ, _ => .ret (.res (outR P σ.s fn.results.toList))
  | _, _ => .fail
theorem W_rcut {fn : Func} {c : Code} {σ : St} {r : TV} (h : Hint) (hw : TW (runK P noCall (resSlots fn.results.toList) c [] σ h (retK P fn)) (LcQ r (fun _ _ _ => False) 0)) :
    W P noCall (resSlots fn.results.toList) c σ (fun e σ => e = .ret ∧ outR P σ.s fn.results.toList = some r) := by
  refine runC_ok _ _ _ _ _ _ hw (fun e σ' h he => ?_) (fun π' σ' h' he => he.elim)
  cases e with
  | ret => exact ⟨rfl, he⟩
  | _ => exact he.elim
theorem W_cut {fn : Func} {c : Code} {σ : St} {r : TV} (h : Hint) (hw : TW (runK P noCall (resSlots fn.results.toList) c [] σ h (cutK P fn [])) (LcQ r (fun _ _ _ => False) 0)) :
    W P noCall (resSlots fn.results.toList) c σ (QR P fn r) :=
  runC_ok _ _ _ _ _ _ hw (fun e σ' h he => cut_fin he) (fun π' σ' h' he => he.2.elim)
end
end Go.Vm
