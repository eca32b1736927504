/- Operations that turn slots, or write: the steps. -/
import Derived.Test.YtgfpbhbogfabmaaVm8
set_option linter.unusedVariables false
set_option linter.unusedSimpArgs false
set_option linter.unnecessarySimpa false
set_option linter.unusedSectionVars false
namespace Go.Vm
section
variable {P : Program} {K : Nat → Prop} {w0 : World} {U U' : Nat → Prop} {s : List TV} {vs : Nat → Value} {w w' : World} {η η' : Stamp → Value}

/-- THE STEP OF AN OPERATION: slot x holds tx from now on (its value as it was), slot d takes t. -/
theorem Sim.put2 (h : Sim K w0 U (get s) vs w η) (hU : ∀ m, U m → U' m) (hη : ∀ g : Stamp, U g.1 → η' g = η g) (x : Option Nat) (tx : TV) (d : Option Nat) (t : TV) (v : Value) {f' : Nat → TV}
    (hf' : ∀ i, f' i = if d = some i then t else if x = some i then tx else get s i)
    (hk : Kept (fun b => b < w.heap.size ∧ ∀ i, x = some i → b ∉ fpT η (get s i)) w w')
    (hstx : x.isSome = true → stT U' tx) (hstt : stT U' t)
    (hfx : ∀ i, x = some i → ∀ b, b ∈ fpT η' tx → (w.heap.size ≤ b ∧ b < w'.heap.size) ∨ b ∈ fpT η (get s i) ∨ ∃ i, d = some i ∧ b ∈ fpT η (get s i))
    (hft : ∀ b, b ∈ fpT η' t → (w.heap.size ≤ b ∧ b < w'.heap.size) ∨ ∃ i, x = some i ∧ b ∈ fpT η (get s i))
    (hnx : x.isSome = true → (fpT η' tx).Nodup) (hnt : (fpT η' t).Nodup) (hdj : x.isSome = true → ∀ b ∈ fpT η' tx, b ∉ fpT η' t)
    (hrx : ∀ I' : Nat → Prop, (∀ b, Imm η (get s) w b → I' b) → (∀ b, I' b ↔ Imm η' f' w' b) → ∀ i, x = some i → d ≠ some i → Rep η' I' w' tx (vs i))
    (hrt : ∀ I' : Nat → Prop, (∀ b, Imm η (get s) w b → I' b) → (∀ b, I' b ↔ Imm η' f' w' b) → ∀ i, d = some i → Rep η' I' w' t v) :
    Sim K w0 U' f' (fun i => if d = some i then v else vs i) w' η' := by
  have hK : ∀ b, w.heap.size ≤ b → ¬ K b := fun b hb hKb => by have := h.klt b hKb; have := h.kept.size; omega
  refine h.step (fun i => d = some i ∨ x = some i) hU hη ⟨hk.os, hk.tape, hk.output, hk.size, fun b hb => hk.block b ⟨hb.1, fun i hi => hb.2 i (.inr hi)⟩⟩ (fun i hi => ?_) ?_ ?_ ?_ ?_ ?_
  · rw [not_or] at hi
    exact ⟨by rw [hf', if_neg hi.1, if_neg hi.2], by simp [hi.1]⟩
  · rintro i hi
    rw [hf']
    split
    · exact hstt
    · rename_i hd
      have hx := hi.resolve_left hd
      rw [if_pos hx]; exact hstx (by simp [hx])
  · rintro i hi b hb
    rw [hf'] at hb
    split at hb
    · rcases hft b hb with h1 | ⟨j, hj, h1⟩
      · exact .inl ⟨h1.1, h1.2, hK b h1.1⟩
      · exact .inr ⟨j, .inr hj, h1⟩
    · rename_i hd
      have hx := hi.resolve_left hd
      rw [if_pos hx] at hb
      rcases hfx i hx b hb with h1 | h1 | ⟨j, hj, h1⟩
      · exact .inl ⟨h1.1, h1.2, hK b h1.1⟩
      · exact .inr ⟨i, .inr hx, h1⟩
      · exact .inr ⟨j, .inl hj, h1⟩
  · rintro i hi
    rw [hf']
    split
    · exact hnt
    · rename_i hd
      have hx := hi.resolve_left hd
      rw [if_pos hx]; exact hnx (by simp [hx])
  · rintro i j b hi hj hbi hbj
    rw [hf'] at hbi hbj
    split at hbi <;> split at hbj
    · rename_i h1 h2; rw [h1] at h2; exact Option.some.inj h2
    · rename_i h1 h2
      have hx := hj.resolve_left h2
      rw [if_pos hx] at hbj
      exact absurd hbi (hdj (by simp [hx]) b hbj)
    · rename_i h1 h2
      have hx := hi.resolve_left h1
      rw [if_pos hx] at hbi
      exact absurd hbj (hdj (by simp [hx]) b hbi)
    · rename_i h1 h2
      have hx := hi.resolve_left h1
      have hx' := hj.resolve_left h2
      rw [hx] at hx'; exact Option.some.inj hx'
  · rintro hImm hw i hi
    show Rep η' (Imm η' f' w') w' (f' i) (if d = some i then v else vs i)
    rw [hf' i]
    split
    · rename_i hd; exact hrt _ hImm (fun _ => Iff.rfl) i hd
    · rename_i hd
      have hx := hi.resolve_left hd
      rw [if_pos hx]
      exact hrx _ hImm (fun _ => Iff.rfl) i hx hd

theorem get_frz_eq : ∀ (k : List Cmd), k.all Cmd.isFrz = true → ∀ (s : List TV) (i : Nat), get (k.foldl Cmd.app s) i = if (k.map Cmd.slot).contains i = true then frzS (get s i) else get s i
  | [], _, s, i => by simp
  | c :: k, hk, s, i => by
    simp only [List.all_cons, Bool.and_eq_true] at hk
    cases c with
    | frz p =>
      have ih := get_frz_eq k hk.2 (Cmd.app s (.frz p)) i
      have hg : get (Cmd.app s (.frz p)) i = if p = i then frzS (get s p) else get s i := by simp only [Cmd.app, get_put]
      rw [List.foldl_cons, ih, hg]
      simp only [List.map_cons, Cmd.slot, List.contains_cons, Bool.or_eq_true, beq_iff_eq]
      by_cases hp : p = i
      · subst hp
        simp [frzS_frzS]
      · have : ¬ (i = p) := fun h => hp h.symm
        simp [hp, this]
    | _ => simp [Cmd.isFrz] at hk
theorem get_frz_put (k : List Cmd) (hk : k.all Cmd.isFrz = true) (s : List TV) (x : Nat) (t : TV) (hx : (k.map Cmd.slot).contains x = false) (i : Nat) :
    get (k.foldl Cmd.app (put s x t)) i = if x = i then t else get (k.foldl Cmd.app s) i := by
  rw [get_frz_eq k hk, get_frz_eq k hk, get_put]
  by_cases h : x = i
  · subst h; simp only [hx, Bool.false_eq_true, if_false, if_true]
  · simp [h]

theorem after_get (s : List TV) (d : Option Nat) (t : TV) (k : List Cmd) (i : Nat) : get (after s d (t, k)) i = if d = some i then t else get (k.foldl Cmd.app s) i := by
  simp only [after, get_putD]

/-! ### Cells that are taken over -/
theorem keepOne_spec {t t' : TV} {k : List Cmd} (h : (keepOne t).eval s = some (t', k)) : (owns t = true ∧ t' = t ∧ k = []) ∨ ((∃ z, t = .nil z) ∧ t' = t ∧ k = []) ∨ (owns t = false ∧ (resOne t).eval s = some t' ∧ k = lentOne t) := by
  unfold keepOne at h
  split at h
  · simp only [LK.eval_pure, Option.some.injEq, Prod.mk.injEq] at h
    exact .inl ⟨rfl, h.1.symm, h.2.symm⟩
  · simp only [LK.eval_pure, Option.some.injEq, Prod.mk.injEq] at h
    exact .inr (.inl ⟨⟨_, rfl⟩, h.1.symm, h.2.symm⟩)
  · rename_i h1 h2
    have := frzOne_eq h
    refine .inr (.inr ⟨?_, this⟩)
    cases t <;> first | rfl | (exact absurd rfl (h1 _ _ _ _))

theorem keepAll_rep {a : Act} (h : Sim K w0 U (get s) (vsOf a) w η) {kk : List Cmd} : ∀ {ts cs : List TV} {k : List Cmd} (_ : (keepAll ts).eval s = some (cs, k)) {us : List Value} (_ : RepCells η (Imm η (get s) w) w ts us) (_ : stL U ts)
    (_ : Covers kk k), k.all Cmd.isFrz = true ∧ RepCells η (Imm η (get (kk.foldl Cmd.app s)) w) w cs us ∧ stL U cs ∧ fpL η cs = (if ts.any owns then fpL η cs else []) ∧ fpL η cs = ts.flatMap (fun t => if owns t then fpT η t else [])
  | [], cs, k, hs, us, hr, _, _ => by
    simp only [keepAll, LK.eval_pure, Option.some.injEq, Prod.mk.injEq] at hs
    obtain ⟨rfl, rfl⟩ := hs
    simp only [RepCells] at hr
    subst hr
    simp [RepCells, stL, fpL]
  | t :: ts, cs, k, hs, us, hr, hst, hk => by
    simp only [keepAll, LK.eval_bind, LK.eval_pure, Option.bind_eq_some_iff, Option.some.injEq, Prod.mk.injEq] at hs
    obtain ⟨⟨t', k1⟩, h1, ⟨cs', ks⟩, h2, rfl, rfl⟩ := hs
    simp only [RepCells, stL] at hr hst
    obtain ⟨v, us', rfl, hc, hv, hr'⟩ := hr
    obtain ⟨i1, i2, i3, _, i4⟩ := keepAll_rep h h2 hr' hst.2 hk.right
    have hI : ∀ b, Imm η (get s) w b → Imm η (get (kk.foldl Cmd.app s)) w b := fun b => imm_frzs kk hk.1
    have hmono : Rep η (Imm η (get (kk.foldl Cmd.app s)) w) w t v := Rep.mono (U := U) (fun _ _ => rfl) hI (fun _ _ => rfl) _ _ hst.1 (fun _ _ => rfl) hv
    have done : k1.all Cmd.isFrz = true → Rep η (Imm η (get (kk.foldl Cmd.app s)) w) w t' v → stT U t' → fpT η t' = (if owns t then fpT η t else []) →
        (k1 ++ ks).all Cmd.isFrz = true ∧ RepCells η (Imm η (get (kk.foldl Cmd.app s)) w) w (t' :: cs') (v :: us') ∧ stL U (t' :: cs') ∧ fpL η (t' :: cs') = (if (t :: ts).any owns then fpL η (t' :: cs') else []) ∧ fpL η (t' :: cs') = (t :: ts).flatMap (fun t => if owns t then fpT η t else []) := by
      intro g1 g2 g3 g4
      refine ⟨by rw [List.all_append, g1, i1]; rfl, ⟨v, us', rfl, hc, g2, i2⟩, ⟨g3, i3⟩, ?_, by simp [fpL, g4, i4]⟩
      split
      · rfl
      · rename_i hno
        simp only [List.any_cons, Bool.or_eq_true, not_or, Bool.not_eq_true] at hno
        simp only [fpL, g4, i4, hno.1, Bool.false_eq_true, if_false, List.nil_append]
        rw [List.flatMap_eq_nil_iff]
        intro y hy
        have : owns y = false := by
          cases hq : owns y with
          | false => rfl
          | true => exact absurd (List.any_eq_true.2 ⟨y, hy, hq⟩) (by simp [hno.2])
        simp [this]
    rcases keepOne_spec h1 with ⟨e1, rfl, rfl⟩ | ⟨⟨z, rfl⟩, rfl, rfl⟩ | ⟨e0, e1, rfl⟩
    · exact done rfl hmono hst.1 (by simp [e1])
    · exact done rfl hmono hst.1 (by simp [owns, fpT])
    · have hp := resOne_rep h e1 hv hk.left
      refine done (lentOne_frz t) (Rep_pure hp.1) ?_ ?_
      · cases t' <;> simp_all [stT, pureT]
      · rw [e0]; cases t' <;> simp_all [fpT, pureT]

theorem rep_cellV {I : Nat → Prop} {t : TV} {v : Value} (h : Rep η I w t v) (h1 : ∀ vs, t ≠ .tup vs) (h2 : t ≠ .undef) (h3 : ∀ cs, t ≠ .agg cs) : cellV v = true := by
  cases t with
  | agg cs => exact absurd rfl (h3 _)
  | tup cs => exact absurd rfl (h1 _)
  | undef => exact absurd rfl h2
  | int k m => simp only [Rep, RepP] at h; subst h; rfl
  | bool k => simp only [Rep, RepP] at h; subst h; rfl
  | str k => simp only [Rep, RepP] at h; subst h; rfl
  | nil z => simp only [Rep, RepP] at h; subst h; rfl
  | sl z xs => simp only [Rep] at h; exact RepP.cellV h
  | own g e z xs =>
    simp only [Rep] at h
    obtain ⟨_, h⟩ := h
    rcases h with ⟨_, rfl⟩ | ⟨b, cap, cur, lo, hi, rfl, _⟩ <;> rfl
  | bor p c g e z off len =>
    simp only [Rep] at h
    obtain ⟨_, _, _, _, _, _, _, rfl, _⟩ := h; rfl
  | elt p c g e z i j => simp only [Rep] at h; obtain ⟨_, _, _, _, _, rfl⟩ := h; rfl
  | selt row j => simp only [Rep] at h; obtain ⟨_, _, _, _, rfl⟩ := h; rfl
  | box g cs => simp only [Rep] at h; obtain ⟨_, _, _, _, rfl, _⟩ := h; rfl
  | ref p g off => simp only [Rep] at h; obtain ⟨_, _, rfl⟩ := h; rfl
  | fn f caps => simp only [Rep] at h; obtain ⟨_, rfl⟩ := h; rfl
theorem rep_cells {I : Nat → Prop} {t : TV} {v : Value} (h : Rep η I w t v) (h1 : ∀ vs, t ≠ .tup vs) (h2 : t ≠ .undef) : RepCells η I w (cellsT t) v.cells.toList := by
  by_cases h3 : ∃ cs, t = .agg cs
  · obtain ⟨cs, rfl⟩ := h3
    simp only [Rep, cellsT] at h ⊢
    obtain ⟨arr, rfl, h⟩ := h
    exact h
  · have hc := rep_cellV h h1 h2 (fun cs e => h3 ⟨cs, e⟩)
    have e1 : cellsT t = [t] := by cases t <;> first | rfl | (exact absurd ⟨_, rfl⟩ h3)
    have e2 : v.cells = #[v] := by cases v <;> first | rfl | cases hc
    rw [e1, e2]
    exact ⟨v, [], rfl, hc, h, rfl⟩

/-- What has been taken of a temporary. -/
structure Taken (η : Stamp → Value) (U : Nat → Prop) (s : List TV) (w : World) (src : Option Nat) (t : TV) (cs : List TV) (k : List Cmd) (us : List Value) (k1 : List Cmd) (tk : Option Nat) : Prop where
  frz : k1.all Cmd.isFrz = true
  cells : RepCells η (Imm η (get (k1.foldl Cmd.app s)) w) w cs us
  st : stL U cs
  cmds : ∀ i, get (k.foldl Cmd.app s) i = if tk = some i then .undef else get (k1.foldl Cmd.app s) i
  slots : ∀ i, (k1.map Cmd.slot).contains i = true → (k.map Cmd.slot).contains i = true
  slotk : ∀ i, (k.map Cmd.slot).contains i = true → tk = some i ∨ (k1.map Cmd.slot).contains i = true
  tkEq : ∀ i, tk = some i → src = some i ∧ get (k1.foldl Cmd.app s) i = get s i
  fp : ∀ b ∈ fpL η cs, ∃ i, tk = some i ∧ b ∈ fpL η (cellsT t)
  nd : (fpL η (cellsT t)).Nodup → (fpL η cs).Nodup
  len : cs.length = us.length
  tkSlot : ∀ i, tk = some i → (k.map Cmd.slot).contains i = true

theorem flat_owns_nodup : ∀ (ts : List TV), (fpL η ts).Nodup → (ts.flatMap (fun t => if owns t then fpT η t else [])).Nodup ∧ ∀ b ∈ ts.flatMap (fun t => if owns t then fpT η t else []), b ∈ fpL η ts
  | [], _ => by simp
  | t :: ts, h => by
    simp only [fpL] at h
    have h2 := List.nodup_append.1 h
    have ih := flat_owns_nodup ts h2.2.1
    rw [List.flatMap_cons]
    refine ⟨List.nodup_append.2 ⟨?_, ih.1, fun a ha b hb => ?_⟩, fun b hb => ?_⟩
    · split
      · exact h2.1
      · exact List.nodup_nil
    · split at ha
      · exact h2.2.2 a ha b (ih.2 b hb)
      · cases ha
    · simp only [fpL, List.mem_append] at hb ⊢
      rcases hb with hb | hb
      · split at hb
        · exact .inl hb
        · cases hb
      · exact .inr (ih.2 b hb)

theorem stealCells_rep {a : Act} (h : Sim K w0 U (get s) (vsOf a) w η) {src : Option Nat} {t : TV} {cs : List TV} {k : List Cmd} (hs : (stealCells src t).eval s = some (cs, k)) {us : List Value}
    (hr : RepCells η (Imm η (get s) w) w (cellsT t) us) (hst : stL U (cellsT t)) (hnd : (fpL η (cellsT t)).Nodup) : ∃ k1 tk, Taken η U s w src t cs k us k1 tk := by
  simp only [stealCells, LK.eval_bind, Option.bind_eq_some_iff] at hs
  obtain ⟨⟨cs', k1⟩, h1, hs⟩ := hs
  have hk1 : k1.all Cmd.isFrz = true := by
    have : ∀ {ts cs : List TV} {k : List Cmd}, (keepAll ts).eval s = some (cs, k) → k.all Cmd.isFrz = true := by
      intro ts
      induction ts with
      | nil => intro cs k h; simp only [keepAll, LK.eval_pure, Option.some.injEq, Prod.mk.injEq] at h; rw [← h.2]; rfl
      | cons t ts ih =>
        intro cs k h
        simp only [keepAll, LK.eval_bind, LK.eval_pure, Option.bind_eq_some_iff, Option.some.injEq, Prod.mk.injEq] at h
        obtain ⟨⟨t', k1⟩, h1, ⟨cs', ks⟩, h2, rfl, rfl⟩ := h
        rw [List.all_append, ih h2, Bool.and_true]
        rcases keepOne_spec h1 with ⟨_, _, rfl⟩ | ⟨_, _, rfl⟩ | ⟨_, _, rfl⟩
        · rfl
        · rfl
        · exact lentOne_frz t
    exact this h1
  obtain ⟨_, i2, i3, i4, i5⟩ := keepAll_rep h h1 hr hst (Covers.refl hk1)
  have hno := flat_owns_nodup (η := η) (cellsT t) hnd
  split at hs
  · rename_i how
    split at hs
    · rename_i x
      simp only [LK.eval_bind, LK.eval_pure, Option.bind_eq_some_iff, Option.some.injEq, Prod.mk.injEq] at hs
      obtain ⟨_, hg, rfl, rfl⟩ := hs
      have hg := LK.sure_some.1 hg
      have hx : (k1.map Cmd.slot).contains x = false := by
        cases hc : (k1.map Cmd.slot).contains x with
        | false => rfl
        | true =>
          rw [List.contains_iff_mem] at hc
          obtain ⟨c, hc1, hc2⟩ := List.mem_map.1 hc
          have := List.all_eq_true.1 hg c hc1
          simp [hc2] at this
      refine ⟨k1, some x, hk1, i2, i3, fun i => ?_, fun i hi => ?_, fun i hi => ?_, fun i hi => ?_, fun b hb => ⟨x, rfl, ?_⟩, fun _ => ?_, i2.len.symm, fun i hi => (by cases hi; simp [Cmd.slot])⟩
      · rw [List.foldl_cons]
        show get (k1.foldl Cmd.app (put s x .undef)) i = _
        rw [get_frz_put k1 hk1 s x .undef hx]
        simp
      · simp only [List.map_cons, List.contains_cons, hi, Bool.or_true]
      · simp only [List.map_cons, Cmd.slot, List.contains_cons, Bool.or_eq_true, beq_iff_eq] at hi
        exact hi.imp (fun e => by rw [e]) id
      · cases hi
        refine ⟨rfl, ?_⟩
        rw [get_frz_eq k1 hk1, hx]; simp
      · rw [i5] at hb; exact hno.2 b hb
      · rw [i5]; exact hno.1
    · simp at hs
  · rename_i how
    simp only [LK.eval_pure, Option.some.injEq, Prod.mk.injEq] at hs
    obtain ⟨rfl, rfl⟩ := hs
    rw [if_neg how] at i4
    exact ⟨k1, none, hk1, i2, i3, fun i => by simp, fun i hi => hi, fun i hi => .inr hi, (fun i hi => by cases hi), (fun b hb => by rw [i4] at hb; cases hb), fun _ => by rw [i4]; exact List.nodup_nil, i2.len.symm, fun i hi => by cases hi⟩
end
end Go.Vm
