/- Freezing: a slot's slices become immutable; what was borrowed of them stands for itself. -/
import Derived.Test.YtgfpbhbogfabmaaVm3
set_option linter.unusedVariables false
set_option linter.unusedSimpArgs false
set_option linter.unnecessarySimpa false
set_option linter.unusedSectionVars false
namespace Go.Vm

section frz
variable {η : Stamp → Value} {I : Nat → Prop} {w : World} {U : Nat → Prop}

/-- The blocks of the slices among cells. -/
def ofp (η : Stamp → Value) : TV → List Nat
  | .own g _ _ _ => blkOf (η g)
  | _ => []
def ofL (η : Stamp → Value) : List TV → List Nat
  | [] => []
  | t :: ts => ofp η t ++ ofL η ts
def ofS (η : Stamp → Value) : TV → List Nat
  | .box _ cs => ofL η cs
  | .agg cs => ofL η cs
  | .tup cs => ofL η cs
  | t => ofp η t

theorem frzT_fp (t : TV) : fpT η (frzT t) = if owns t then [] else fpT η t := by cases t <;> simp [frzT, owns, fpT]
theorem frzL_sub : ∀ cs : List TV, (fpL η (cs.map frzT)).Sublist (fpL η cs)
  | [] => by simp [fpL]
  | t :: ts => by
    simp only [List.map_cons, fpL, frzT_fp]
    split
    · simp only [List.nil_append]; exact (frzL_sub ts).trans (List.sublist_append_right _ _)
    · exact List.Sublist.append (List.Sublist.refl _) (frzL_sub ts)
theorem frzS_sub (t : TV) : (fpT η (frzS t)).Sublist (fpT η t) := by
  cases t with
  | box g cs => simp only [frzS, fpT]; exact List.Sublist.append (List.Sublist.refl _) (frzL_sub cs)
  | agg cs => simp only [frzS, fpT]; exact frzL_sub cs
  | tup cs => simp only [frzS, fpT]; exact frzL_sub cs
  | own g e z xs => simp [frzS, frzT, fpT]
  | _ => simp [frzS, frzT]
theorem ofL_sub : ∀ cs : List TV, ∀ b ∈ ofL η cs, b ∈ fpL η cs
  | [], _, h => by simp [ofL] at h
  | t :: ts, b, h => by
    simp only [ofL, List.mem_append] at h
    simp only [fpL, List.mem_append]
    rcases h with h | h
    · left; cases t <;> simp [ofp] at h; simpa [fpT] using h
    · exact .inr (ofL_sub ts b h)
theorem ofS_sub (t : TV) : ∀ b ∈ ofS η t, b ∈ fpT η t := by
  intro b h
  cases t <;> simp only [ofS, ofp, fpT, List.mem_append, List.not_mem_nil] at h ⊢
  · exact h
  · exact .inr (ofL_sub _ b h)
  · exact ofL_sub _ b h
  · exact ofL_sub _ b h
theorem ofL_out : ∀ cs : List TV, (fpL η cs).Nodup → ∀ b ∈ ofL η cs, b ∉ fpL η (cs.map frzT)
  | [], _, _, h => by simp [ofL] at h
  | t :: ts, hn, b, h => by
    simp only [fpL] at hn
    have hn2 := (List.nodup_append.1 hn)
    simp only [ofL, List.mem_append] at h
    simp only [List.map_cons, fpL, frzT_fp, List.mem_append, not_or]
    rcases h with h | h
    · have ho : owns t = true := by cases t <;> simp [ofp] at h; rfl
      have hb : b ∈ fpT η t := by cases t <;> simp [ofp] at h; simpa [fpT] using h
      rw [if_pos ho]
      exact ⟨by simp, fun h' => hn2.2.2 b hb b ((frzL_sub ts).subset h') rfl⟩
    · refine ⟨fun h' => ?_, ofL_out ts hn2.2.1 b h⟩
      have hb : b ∈ fpT η t := by split at h' <;> simp_all
      exact hn2.2.2 b hb b (ofL_sub ts b h) rfl
theorem ofS_out (t : TV) (hn : (fpT η t).Nodup) : ∀ b ∈ ofS η t, b ∉ fpT η (frzS t) := by
  intro b h
  cases t <;> simp only [ofS, ofp, frzS, frzT, fpT, List.mem_append, List.not_mem_nil, not_false_eq_true, not_or] at h hn ⊢
  · have hn2 := List.nodup_append.1 hn
    exact ⟨fun h' => hn2.2.2 b h' b (ofL_sub _ b h) rfl, ofL_out _ hn2.2.1 b h⟩
  · exact ofL_out _ hn b h
  · exact ofL_out _ hn b h

theorem OwnC.sl {v : Value} {e z : Nat} {xs : List (List TV)} (h : OwnC I w v e z xs) (hI : ∀ b ∈ blkOf v, I b) : RepP I w (.sl z xs) v := by
  simp only [RepP]
  rcases h with ⟨rfl, h⟩ | ⟨b, cap, cur, lo, hi, h1, h2, h3, h4, h5, h6, h7⟩
  · exact ⟨none, 0, h, Nat.le_refl _, .inl rfl⟩
  · exact ⟨_, cap, h1, h3, .inr ⟨b, 0, rfl, hI b (by simp [h1, blkOf]), h7⟩⟩
theorem Rep_frzT {t : TV} {v : Value} (h : Rep η I w t v) (hI : ∀ b ∈ ofp η t, I b) : Rep η I w (frzT t) v := by
  cases t with
  | own g e z xs =>
    simp only [Rep] at h
    obtain ⟨rfl, h⟩ := h
    exact Rep_pure (h.sl hI)
  | _ => exact h
theorem Rep_frzL : ∀ {cs : List TV} {vs : List Value}, RepCells η I w cs vs → (∀ b ∈ ofL η cs, I b) → RepCells η I w (cs.map frzT) vs
  | [], _, h, _ => h
  | t :: ts, vs, h, hI => by
    simp only [RepCells, List.map_cons, ofL, List.mem_append] at h hI ⊢
    obtain ⟨v, us, rfl, h2, h3, h4⟩ := h
    exact ⟨v, us, rfl, h2, Rep_frzT h3 fun b hb => hI b (.inl hb), Rep_frzL h4 fun b hb => hI b (.inr hb)⟩
theorem RepV_frzL : ∀ {cs : List TV} {vs : List Value}, RepVals η I w cs vs → (∀ b ∈ ofL η cs, I b) → RepVals η I w (cs.map frzT) vs
  | [], _, h, _ => h
  | t :: ts, vs, h, hI => by
    simp only [RepVals, List.map_cons, ofL, List.mem_append] at h hI ⊢
    obtain ⟨v, us, rfl, h3, h4⟩ := h
    exact ⟨v, us, rfl, Rep_frzT h3 fun b hb => hI b (.inl hb), RepV_frzL h4 fun b hb => hI b (.inr hb)⟩
theorem Rep_frzS {t : TV} {v : Value} (h : Rep η I w t v) (hI : ∀ b ∈ ofS η t, I b) : Rep η I w (frzS t) v := by
  cases t with
  | box g cs =>
    simp only [Rep, frzS, ofS] at h hI ⊢
    obtain ⟨h1, b, cur, e, h2, h3, h4⟩ := h
    exact ⟨h1, b, cur, e, h2, h3, Rep_frzL h4 hI⟩
  | agg cs =>
    simp only [Rep, frzS, ofS] at h hI ⊢
    obtain ⟨arr, h1, h2⟩ := h
    exact ⟨arr, h1, Rep_frzL h2 hI⟩
  | tup cs =>
    simp only [Rep, frzS, ofS] at h hI ⊢
    obtain ⟨arr, h1, h2⟩ := h
    exact ⟨arr, h1, RepV_frzL h2 hI⟩
  | own g e z xs => exact Rep_frzT h hI
  | _ => exact h
theorem stT_frzT {t : TV} (h : stT U t) : stT U (frzT t) := by cases t <;> simp_all [frzT, stT]
theorem stL_frzT : ∀ {cs : List TV}, stL U cs → stL U (cs.map frzT)
  | [], h => h
  | t :: ts, h => by simp only [stL, List.map_cons] at h ⊢; exact ⟨stT_frzT h.1, stL_frzT h.2⟩
theorem stT_frzS {t : TV} (h : stT U t) : stT U (frzS t) := by
  cases t with
  | box g cs => simp only [stT, frzS] at h ⊢; exact ⟨h.1, stL_frzT h.2⟩
  | agg cs => simp only [stT, frzS] at h ⊢; exact stL_frzT h
  | tup cs => simp only [stT, frzS] at h ⊢; exact stL_frzT h
  | _ => exact stT_frzT h
end frz

section sim
variable {K : Nat → Prop} {w0 : World} {U : Nat → Prop} {s : List TV} {vs : Nat → Value} {w : World} {η : Stamp → Value}

theorem Sim.frz (h : Sim K w0 U (get s) vs w η) (p : Nat) : Sim K w0 U (get (Cmd.app s (.frz p))) vs w η := by
  have hg : ∀ i, get (Cmd.app s (.frz p)) i = if p = i then frzS (get s p) else get s i := fun i => by simp only [Cmd.app, get_put]
  have hsub : ∀ i, ∀ b ∈ fpT η (get (Cmd.app s (.frz p)) i), b ∈ fpT η (get s i) := fun i b hb => by
    rw [hg] at hb
    split at hb
    · rename_i hp; subst hp; exact (frzS_sub _).subset hb
    · exact hb
  refine h.step (· = p) (fun _ h => h) (fun _ _ => rfl) (Kept.refl _ _) (fun i hi => ⟨by rw [hg, if_neg (Ne.symm hi)], rfl⟩) ?_ ?_ ?_ ?_ ?_
  · rintro i rfl; rw [hg, if_pos rfl]; exact stT_frzS (h.st _)
  · rintro i rfl b hb; exact .inr ⟨i, rfl, hsub i b hb⟩
  · rintro i rfl; rw [hg, if_pos rfl]; exact (frzS_sub _).nodup (h.nd _)
  · rintro i j b rfl rfl _ _; rfl
  · rintro hImm hw i rfl
    rw [hg, if_pos rfl]
    refine Rep_frzS (Rep.mono (U := U) (fun _ _ => rfl) hImm hw _ _ (h.st _) (fun b _ => rfl) (h.rep i)) fun b hb => ?_
    have hb' := ofS_sub _ b hb
    refine ⟨(h.fpK i b hb').2, fun j hj => ?_, fun c hc => (h.fpK i b hb').1 (h.rzK c b hc)⟩
    rw [hg] at hj
    split at hj
    · exact ofS_out _ (h.nd i) b hb hj
    · rename_i hne; exact hne (h.dj i j b hb' hj)

/-- Commands that only freeze. -/
def Cmd.isFrz : Cmd → Bool
  | .frz _ => true
  | _ => false
theorem Sim.frzs : ∀ (k : List Cmd), k.all Cmd.isFrz = true → ∀ {s : List TV}, Sim K w0 U (get s) vs w η → Sim K w0 U (get (k.foldl Cmd.app s)) vs w η
  | [], _, _, h => h
  | c :: k, hk, s, h => by
    simp only [List.all_cons, Bool.and_eq_true] at hk
    cases c with
    | frz p => exact Sim.frzs k hk.2 (h.frz p)
    | _ => simp [Cmd.isFrz] at hk
theorem frzT_frzT (t : TV) : frzT (frzT t) = frzT t := by cases t <;> rfl
theorem frzS_frzS (t : TV) : frzS (frzS t) = frzS t := by
  cases t with
  | box g cs => simp [frzS, Function.comp_def, frzT_frzT]
  | agg cs => simp [frzS, Function.comp_def, frzT_frzT]
  | tup cs => simp [frzS, Function.comp_def, frzT_frzT]
  | _ => rfl
/-- Each slot behind freezes: as it was, or frozen; those that are named: frozen. -/
theorem get_frzs : ∀ (k : List Cmd), k.all Cmd.isFrz = true → ∀ (s : List TV) (i : Nat), (get (k.foldl Cmd.app s) i = get s i ∨ get (k.foldl Cmd.app s) i = frzS (get s i)) ∧
    ((k.map Cmd.slot).contains i = true → get (k.foldl Cmd.app s) i = frzS (get s i))
  | [], _, s, i => by simp
  | c :: k, hk, s, i => by
    simp only [List.all_cons, Bool.and_eq_true] at hk
    cases c with
    | frz p =>
      have ih := get_frzs k hk.2 (Cmd.app s (.frz p)) i
      have hg : get (Cmd.app s (.frz p)) i = if p = i then frzS (get s p) else get s i := by simp only [Cmd.app, get_put]
      simp only [List.foldl_cons]
      by_cases hp : p = i
      · subst hp
        rw [if_pos rfl] at hg
        rw [hg, frzS_frzS] at ih
        have h1 : get (k.foldl Cmd.app (Cmd.app s (.frz p))) p = frzS (get s p) := by rcases ih.1 with h | h <;> exact h
        exact ⟨.inr h1, fun _ => h1⟩
      · rw [if_neg hp] at hg
        rw [hg] at ih
        refine ⟨ih.1, fun h => ih.2 ?_⟩
        simp only [List.map_cons, Cmd.slot, List.contains_cons, Bool.or_eq_true, beq_iff_eq] at h
        exact h.resolve_left fun h => hp h.symm
    | _ => simp [Cmd.isFrz] at hk

/-- Rows, taken apart. -/
theorem RepRows.drop {I : Nat → Prop} {b z : Nat} : ∀ (n : Nat) {xs : List (List TV)} {o : Nat}, n ≤ xs.length → RepRows I w b o z xs → RepRows I w b (o + n * z) z (xs.drop n)
  | 0, _, _, _, h => by simpa using h
  | n + 1, [], _, hn, _ => by simp at hn
  | n + 1, r :: rs, o, hn, h => by
    simp only [RepRows] at h
    have := RepRows.drop n (by simpa using hn) h.2.2
    rw [List.drop_succ_cons, show o + (n + 1) * z = o + z + n * z by rw [Nat.succ_mul]; omega]
    exact this
theorem RepRows.take {I : Nat → Prop} {b z : Nat} : ∀ (n : Nat) {xs : List (List TV)} {o : Nat}, RepRows I w b o z xs → RepRows I w b o z (xs.take n)
  | 0, _, _, _ => by simp [RepRows]
  | n + 1, [], _, _ => by simp [RepRows]
  | n + 1, r :: rs, o, h => by
    simp only [RepRows, List.take_succ_cons] at h ⊢
    exact ⟨h.1, h.2.1, h.2.2.take n⟩

/-- What is borrowed reads as a slice, if its block is nobody's. -/
theorem bor_sl {I : Nat → Prop} {h v : Value} {e z off len : Nat} {xs : List (List TV)} (hb : BorC h v z off len) (ho : OwnC I w h e z xs) (hI : len ≠ 0 → ∀ b ∈ blkOf h, I b) :
    RepP I w (.sl z ((xs.drop off).take len)) v := by
  obtain ⟨A, n, cap, A', cap', h1, h2, h3, h4, h5, h6, h7⟩ := hb
  have hn : xs.length = n := by
    rcases ho with ⟨rfl, ho⟩ | ⟨b, cap, cur, lo, hi, ho, _⟩
    · rw [h1] at ho; injection ho with _ h _; simp [h]
    · rw [h1] at ho; injection ho with _ h _; exact h.symm
  have hl : ((xs.drop off).take len).length = len := by simp; omega
  simp only [RepP, hl]
  refine ⟨A', cap', h3, h4, ?_⟩
  rcases h7 with h7 | ⟨b, hA, hA'⟩
  · left; subst h7; simp
  · by_cases h0 : len = 0
    · left; subst h0; simp
    · right
      refine ⟨b, off * z, hA', hI h0 b (by simp [h1, hA, blkOf]), ?_⟩
      rcases ho with ⟨_, ho⟩ | ⟨b', cap, cur, lo, hi, ho, _, _, _, _, _, hr⟩
      · rw [h1, hA] at ho; cases ho
      · rw [h1, hA] at ho
        injection ho with e1 _ _
        have : b = b' := by injection e1 with e1; injection e1
        subst this
        have := (hr.drop off (by omega)).take len
        simpa using this

/-- The block of what is at a place lies among the slot's slices. -/
theorem content_ofS {p c : Nat} {g : Stamp} {e z : Nat} {xs : List (List TV)} (hc : (content p c g e z).eval s = some xs) : ∀ b ∈ blkOf (η g), b ∈ ofS η (get s p) := by
  have key : ∀ (cs : List TV), (ownRows g e z (get cs c)).eval s = some xs → ∀ b ∈ blkOf (η g), b ∈ ofL η cs := by
    intro cs ho
    have ho := ownRows_rep ho
    intro b hb
    have : ∀ (cs : List TV) (c : Nat), get cs c = .own g e z xs → b ∈ ofL η cs := by
      intro cs
      induction cs with
      | nil => intro c h; simp [get] at h
      | cons t ts ih =>
        intro c h
        cases c with
        | zero => simp only [get] at h; subst h; simp [ofL, ofp, hb]
        | succ c => simp only [get] at h; simp [ofL, ih c h]
    exact this cs c ho
  intro b hb
  simp only [content, LK.eval_look] at hc
  split at hc
  · rename_i hp; rw [hp]; exact key _ hc b hb
  · rename_i hp; rw [hp]; exact key _ hc b hb
  · rename_i hp; rw [hp]; exact key _ hc b hb
  · have ho := ownRows_rep hc
    rw [ho]
    simpa [ofS, ofp] using hb

/-- Behind freezes that name the slot, a place's block is nobody's. -/
theorem imm_of_frz (h : Sim K w0 U (get s) vs w η) (k : List Cmd) (hk : k.all Cmd.isFrz = true) {p : Nat} (hp : (k.map Cmd.slot).contains p = true) {b : Nat} (hb : b ∈ ofS η (get s p)) :
    Imm η (get (k.foldl Cmd.app s)) w b := by
  have hb' := ofS_sub _ b hb
  refine ⟨(h.fpK p b hb').2, fun j hj => ?_, fun c hc => (h.fpK p b hb').1 (h.rzK c b hc)⟩
  by_cases hjp : j = p
  · subst hjp
    rw [(get_frzs k hk s j).2 hp] at hj
    exact ofS_out _ (h.nd j) b hb hj
  · have : b ∈ fpT η (get s j) := by
      rcases (get_frzs k hk s j).1 with e | e <;> rw [e] at hj
      · exact hj
      · exact (frzS_sub _).subset hj
    exact hjp (h.dj j p b this hb')
theorem imm_frzs (k : List Cmd) (hk : k.all Cmd.isFrz = true) {b : Nat} (hb : Imm η (get s) w b) : Imm η (get (k.foldl Cmd.app s)) w b := by
  refine ⟨hb.1, fun j hj => hb.2.1 j ?_, hb.2.2⟩
  rcases (get_frzs k hk s j).1 with e | e <;> rw [e] at hj
  · exact hj
  · exact (frzS_sub _).subset hj
end sim
end Go.Vm
