/- A part of the proof: SPl. -/
import Derived.Test.YtgfpbhbogfabmaaSDef
set_option linter.unusedVariables false
set_option linter.unusedSimpArgs false
set_option linter.unnecessarySimpa false
set_option linter.unusedSectionVars false
namespace Go.Proofs.Ytgfpbhbogfabmaa
open Go Go.Vm Go.Proofs
theorem apply_mem (n : Int) : ∀ (l : List SlotR) (w : List CellR) (s : SlotR), s ∈ applyS n l w → s ∈ l ∨ ∃ c ∈ w, s = oneS n c := by
  intro l w
  induction l, w using applyS.induct with
  | case1 l => intro s h; rw [applyS] at h; exact .inl h
  | case2 c w ih =>
    intro s h
    rw [applyS, List.mem_cons] at h
    rcases h with rfl | h
    · exact .inr ⟨c, by simp, rfl⟩
    · rcases ih s h with h | ⟨d, hd, rfl⟩
      · simp at h
      · exact .inr ⟨d, by simp [hd], rfl⟩
  | case3 s l c w h1 ih =>
    intro x h
    rw [applyS, if_pos h1, List.mem_cons] at h
    rcases h with rfl | h
    · exact .inr ⟨c, by simp, rfl⟩
    · rcases ih x h with h | ⟨d, hd, rfl⟩
      · exact .inl h
      · exact .inr ⟨d, by simp [hd], rfl⟩
  | case4 s l c w h1 h2 ih =>
    intro x h
    rw [applyS, if_neg h1, if_pos h2, List.mem_cons] at h
    rcases h with rfl | h
    · exact .inr ⟨c, by simp, rfl⟩
    · rcases ih x h with h | ⟨d, hd, rfl⟩
      · exact .inl (by simp [h])
      · exact .inr ⟨d, by simp [hd], rfl⟩
  | case5 s l c w h1 h2 ih =>
    intro x h
    rw [applyS, if_neg h1, if_neg h2, List.mem_cons] at h
    rcases h with rfl | h
    · exact .inl (by simp)
    · rcases ih x h with h | ⟨d, hd, rfl⟩
      · exact .inl (by simp [h])
      · exact .inr ⟨d, hd, rfl⟩
theorem apply_asc (n : Int) : ∀ (l : List SlotR) (w : List CellR), l.Pairwise ltS → w.Pairwise ltC → (applyS n l w).Pairwise ltS := by
  intro l w
  induction l, w using applyS.induct with
  | case1 l => intro h _; rw [applyS]; exact h
  | case2 c w ih =>
    intro h1 h2
    rw [List.pairwise_cons] at h2
    rw [applyS, List.pairwise_cons]
    refine ⟨fun x hx => ?_, ih h1 h2.2⟩
    rcases apply_mem n [] w x hx with h | ⟨d, hd, rfl⟩
    · simp at h
    · exact h2.1 d hd
  | case3 s l c w h0 ih =>
    intro h1 h2
    have h1' := h1
    rw [List.pairwise_cons] at h1 h2
    rw [applyS, if_pos h0, List.pairwise_cons]
    refine ⟨fun x hx => ?_, ih h1' h2.2⟩
    rcases apply_mem n _ w x hx with h | ⟨d, hd, rfl⟩
    · rcases List.mem_cons.1 h with rfl | h
      · exact h0
      · have := h1.1 x h
        simp only [ltS, oneS, ordP_lt] at this h0 ⊢; omega
    · exact h2.1 d hd
  | case4 s l c w h0 he ih =>
    intro h1 h2
    rw [List.pairwise_cons] at h1 h2
    rw [applyS, if_neg h0, if_pos he, List.pairwise_cons]
    refine ⟨fun x hx => ?_, ih h1.2 h2.2⟩
    rcases apply_mem n _ w x hx with h | ⟨d, hd, rfl⟩
    · have := h1.1 x h
      simp only [ltS, oneS, ordP_lt] at this ⊢; omega
    · exact h2.1 d hd
  | case5 s l c w h0 he ih =>
    intro h1 h2
    have h2' := h2
    rw [List.pairwise_cons] at h1 h2
    rw [applyS, if_neg h0, if_neg he, List.pairwise_cons]
    refine ⟨fun x hx => ?_, ih h1.2 h2'⟩
    have hc : ordP s.id s.field c.id c.field < 0 := by rw [ordP_lt] at h0 ⊢; omega
    rcases apply_mem n _ (c :: w) x hx with h | ⟨d, hd, rfl⟩
    · exact h1.1 x h
    · rcases List.mem_cons.1 hd with rfl | hd
      · exact hc
      · have := h2.1 d hd
        simp only [ltS, ltC, oneS, ordP_lt] at this hc ⊢; omega
theorem wrK_none {w : List CellR} {id field : Int} (h : ∀ s ∈ w, ¬ (s.id = id ∧ s.field = field)) : wrK w id field = none := by
  have : (w.find? fun s => decide (s.id = id ∧ s.field = field)) = none := by
    rw [List.find?_eq_none]; intro s hs; simpa using h s hs
  rw [wrK, this]; rfl
theorem getK_one (n : Int) (c : CellR) (l : List SlotR) (id field : Int) : getK (oneS n c :: l) id field = if c.id = id ∧ c.field = field then some [⟨n, c.v⟩] else getK l id field := getK_cons (oneS n c) l id field
theorem apply_get (n : Int) (id field : Int) : ∀ (l : List SlotR) (w : List CellR), l.Pairwise ltS → w.Pairwise ltC →
    getK (applyS n l w) id field = match wrK w id field with | some v => some [⟨n, v⟩] | none => getK l id field := by
  intro l w
  induction l, w using applyS.induct with
  | case1 l => intro h _; rw [applyS]; rfl
  | case2 c w ih =>
    intro h1 h2
    rw [List.pairwise_cons] at h2
    rw [applyS, getK_one, wrK_cons, ih h1 h2.2]
    by_cases hk : c.id = id ∧ c.field = field
    · rw [if_pos hk, if_pos hk]
    · rw [if_neg hk, if_neg hk]
  | case3 s l c w h0 ih =>
    intro h1 h2
    rw [List.pairwise_cons] at h2
    rw [applyS, if_pos h0, getK_one, wrK_cons, ih h1 h2.2]
    by_cases hk : c.id = id ∧ c.field = field
    · rw [if_pos hk, if_pos hk]
    · rw [if_neg hk, if_neg hk]
  | case4 s l c w h0 he ih =>
    intro h1 h2
    rw [List.pairwise_cons] at h1 h2
    rw [applyS, if_neg h0, if_pos he, getK_one, wrK_cons, ih h1.2 h2.2, getK_cons]
    by_cases hk : c.id = id ∧ c.field = field
    · rw [if_pos hk, if_pos hk]
    · rw [if_neg hk, if_neg hk, if_neg (by rw [← he.1, ← he.2]; exact hk)]
  | case5 s l c w h0 he ih =>
    intro h1 h2
    have h2' := h2
    rw [List.pairwise_cons] at h1 h2
    rw [applyS, if_neg h0, if_neg he, getK_cons, ih h1.2 h2', getK_cons]
    by_cases hk : s.id = id ∧ s.field = field
    · have hc : ordP s.id s.field c.id c.field < 0 := by rw [ordP_lt] at h0 ⊢; omega
      have : wrK (c :: w) id field = none := wrK_none fun x hx hx2 => by
        rcases List.mem_cons.1 hx with rfl | hx
        · rw [ordP_lt] at hc; omega
        · have := h2.1 x hx
          simp only [ltC, ordP_lt] at this hc; omega
      rw [this, if_pos hk]
    · rw [if_neg hk]
      simp only [if_neg hk]
theorem apply_len (n : Int) : ∀ (l : List SlotR) (w : List CellR), (applyS n l w).length ≤ l.length + w.length := by
  intro l w
  induction l, w using applyS.induct with
  | case1 l => rw [applyS]; simp
  | case2 c w ih => rw [applyS]; simp only [List.length_cons, List.length_nil] at ih ⊢; omega
  | case3 s l c w h0 ih => rw [applyS, if_pos h0]; simp only [List.length_cons] at ih ⊢; omega
  | case4 s l c w h0 he ih => rw [applyS, if_neg h0, if_pos he]; simp only [List.length_cons] at ih ⊢; omega
  | case5 s l c w h0 he ih => rw [applyS, if_neg h0, if_neg he]; simp only [List.length_cons] at ih ⊢; omega
/-- Writes of different registers, in any order. -/
theorem apply_swap (n m : Int) (l : List SlotR) (c d : List CellR) (hl : l.Pairwise ltS) (hc : c.Pairwise ltC) (hd : d.Pairwise ltC) (h : ∀ id field, wrK c id field = none ∨ wrK d id field = none) :
    applyS m (applyS n l c) d = applyS n (applyS m l d) c := by
  refine asc_ext (apply_asc _ _ _ (apply_asc _ _ _ hl hc) hd) (apply_asc _ _ _ (apply_asc _ _ _ hl hd) hc) fun id field => ?_
  rw [apply_get _ _ _ _ _ (apply_asc _ _ _ hl hc) hd, apply_get _ _ _ _ _ (apply_asc _ _ _ hl hd) hc, apply_get _ _ _ _ _ hl hc, apply_get _ _ _ _ _ hl hd]
  rcases h id field with h | h <;> rw [h]
theorem apply_once (n : Int) (l : List SlotR) (c : List CellR) (hl : l.Pairwise ltS) (hc : c.Pairwise ltC) : applyS n (applyS n l c) c = applyS n l c := by
  refine asc_ext (apply_asc _ _ _ (apply_asc _ _ _ hl hc) hc) (apply_asc _ _ _ hl hc) fun id field => ?_
  rw [apply_get _ _ _ _ _ (apply_asc _ _ _ hl hc) hc, apply_get _ _ _ _ _ hl hc]
  cases wrK c id field <;> rfl
/-! ### Valid states -/
theorem state_iff (l : List SlotR) : stateS l = true ↔ ((∀ s ∈ l, idS s.id = true ∧ fieldS s.field = true ∧ s.alts.length ≠ 0 ∧ allTo (altOk s.alts) s.alts.length = true) ∧ l.Pairwise ltS) := by
  rw [stateS, allTo_iff]
  constructor
  · intro h
    have h' : ∀ i, i < l.length → (idS (l.getD i default).id = true ∧ fieldS (l.getD i default).field = true ∧ (l.getD i default).alts.length ≠ 0) ∧
        (i = 0 ∨ ordP (l.getD (i - 1) default).id (l.getD (i - 1) default).field (l.getD i default).id (l.getD i default).field < 0) ∧ allTo (altOk (l.getD i default).alts) (l.getD i default).alts.length = true := by
      intro i hi
      have := h i hi
      simp only [slotOk, Bool.and_eq_true, decide_eq_true_eq, Bool.or_eq_true, beq_iff_eq] at this
      exact ⟨⟨this.1.1.1.1, this.1.1.1.2, this.1.1.2⟩, this.1.2, this.2⟩
    refine ⟨fun s hs => ?_, ?_⟩
    · obtain ⟨i, hi, rfl⟩ := List.getElem_of_mem hs
      have := h' i hi
      rw [← at_getD l i hi] at this
      exact ⟨this.1.1, this.1.2.1, this.1.2.2, this.2.2⟩
    · rw [List.pairwise_iff_getElem]
      have key : ∀ d i (hi : i < l.length) (hj : i + d + 1 < l.length), ltS l[i] l[i + d + 1] := by
        intro d
        induction d with
        | zero =>
          intro i hi hj
          have := (h' (i + 1) hj).2.1
          rw [Nat.add_sub_cancel, ← at_getD l i hi, ← at_getD l (i + 1) hj] at this
          rcases this with h | h
          · omega
          · exact h
        | succ d ih =>
          intro i hi hj
          have h1 := ih i hi (by omega)
          have h2 := (h' (i + d + 1 + 1) hj).2.1
          rw [Nat.add_sub_cancel, ← at_getD l (i + d + 1) (by omega), ← at_getD l (i + d + 1 + 1) hj] at h2
          have h3 : ltS l[i + d + 1] l[i + d + 1 + 1] := by
            rcases h2 with h | h
            · omega
            · exact h
          show ltS l[i] l[i + (d + 1) + 1]
          have e : l[i + (d + 1) + 1] = l[i + d + 1 + 1] := rfl
          rw [e]
          simp only [ltS, ordP_lt] at h1 h3 ⊢
          omega
      intro i j hi hj hij
      have := key (j - i - 1) i hi (by omega)
      have e : l[i + (j - i - 1) + 1]'(by omega) = l[j] := by congr 1; omega
      rw [e] at this
      exact this
  · rintro ⟨h1, h2⟩ i hi
    have hs := h1 l[i] (List.getElem_mem hi)
    rw [at_getD l i hi] at hs
    simp only [slotOk, Bool.and_eq_true, decide_eq_true_eq, Bool.or_eq_true, beq_iff_eq]
    refine ⟨⟨⟨⟨hs.1, hs.2.1⟩, hs.2.2.1⟩, ?_⟩, hs.2.2.2⟩
    rcases Nat.eq_zero_or_pos i with h | h
    · exact .inl h
    · right
      have := (List.pairwise_iff_getElem.1 h2) (i - 1) i (by omega) hi (by omega)
      rw [at_getD l i hi, at_getD l (i - 1) (by omega)] at this
      exact this
theorem apply_state (n : Int) (l : List SlotR) (w : List CellR) (hl : stateS l = true) (hw : w.Pairwise ltC) (hi : ∀ c ∈ w, idS c.id = true ∧ fieldS c.field = true) (hn : idS n = true) : stateS (applyS n l w) = true := by
  rw [state_iff] at hl ⊢
  refine ⟨fun s hs => ?_, apply_asc _ _ _ hl.2 hw⟩
  rcases apply_mem _ _ _ _ hs with h | ⟨c, hc, rfl⟩
  · exact hl.1 s h
  · exact ⟨(hi c hc).1, (hi c hc).2, by simp [oneS], by simp [oneS, allTo, altOk, hn]⟩
end Go.Proofs.Ytgfpbhbogfabmaa
