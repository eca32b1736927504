/- A part of the proof: SPl2. -/
import Derived.Test.YtgfpbhbogfabmaaSPl
set_option linter.unusedVariables false
set_option linter.unusedSimpArgs false
set_option linter.unnecessarySimpa false
set_option linter.unusedSectionVars false
namespace Go.Proofs.Ytgfpbhbogfabmaa
open Go Go.Vm Go.Proofs
theorem tw_le {α : Type} (p : α → Bool) : ∀ l : List α, (l.takeWhile p).length ≤ l.length
  | [] => by simp
  | a :: l => by
    rw [List.takeWhile_cons]
    split
    · simpa using tw_le p l
    · simp
theorem tw_pre {α : Type} [Inhabited α] (p : α → Bool) : ∀ (l : List α) (i : Nat), i < (l.takeWhile p).length → p (l.getD i default) = true
  | [], i, h => by simp at h
  | a :: l, i, h => by
    rw [List.takeWhile_cons] at h
    split at h
    · rename_i ha
      cases i with
      | zero => simpa using ha
      | succ i => simpa using tw_pre p l i (by simpa using h)
    · simp at h
theorem tw_at {α : Type} [Inhabited α] (p : α → Bool) : ∀ (l : List α), (l.takeWhile p).length < l.length → p (l.getD (l.takeWhile p).length default) = false
  | [], h => by simp at h
  | a :: l, h => by
    rw [List.takeWhile_cons] at h ⊢
    split
    · rename_i ha
      rw [if_pos ha] at h
      simpa using tw_at p l (by simpa using h)
    · rename_i ha
      simpa using ha
theorem place_le (l : List SlotR) (id field : Int) : placeS l id field ≤ l.length := tw_le _ l
theorem place_pre {l : List SlotR} {id field : Int} {i : Nat} (h : i < placeS l id field) : ordP (l.getD i default).id (l.getD i default).field id field < 0 := by
  simpa using tw_pre _ l i h
theorem place_at {l : List SlotR} {id field : Int} (h : placeS l id field < l.length) : ¬ ordP (l.getD (placeS l id field) default).id (l.getD (placeS l id field) default).field id field < 0 := by
  have h1 := tw_at _ l h
  exact of_decide_eq_false h1
theorem asc_get {l : List SlotR} (hl : l.Pairwise ltS) {i j : Nat} (hij : i < j) (hj : j < l.length) : ordP (l.getD i default).id (l.getD i default).field (l.getD j default).id (l.getD j default).field < 0 := by
  have := (List.pairwise_iff_getElem.1 hl) i j (by omega) hj hij
  rwa [at_getD l i (by omega), at_getD l j hj] at this
theorem place_post {l : List SlotR} (hl : l.Pairwise ltS) {id field : Int} {i : Nat} (h : placeS l id field ≤ i) (hi : i < l.length) : ¬ ordP (l.getD i default).id (l.getD i default).field id field < 0 := by
  have h1 := place_at (l := l) (id := id) (field := field) (by omega)
  rcases Nat.eq_or_lt_of_le h with h | h
  · rw [← h]; exact h1
  · have := asc_get hl h hi
    rw [ordP_lt] at this h1 ⊢
    omega
/-- Lookup by the place. -/
theorem get_place {l : List SlotR} (hl : l.Pairwise ltS) (id field : Int) : getK l id field = if foundS l id field = true then some (l.getD (placeS l id field) default).alts else none := by
  unfold foundS placeS
  induction l with
  | nil => simp [getK]
  | cons s l ih =>
    rw [List.pairwise_cons] at hl
    rw [getK_cons, List.takeWhile_cons]
    by_cases h : ordP s.id s.field id field < 0
    · have hne : ¬ (s.id = id ∧ s.field = field) := by rw [ordP_lt] at h; omega
      rw [if_neg hne, ih hl.2]
      simp [h]
    · by_cases he : s.id = id ∧ s.field = field
      · rw [if_pos he]
        simp only [h, decide_false, Bool.false_eq_true, if_false, List.length_nil, List.getD_cons_zero, List.length_cons, Nat.zero_lt_succ, decide_true, Bool.true_and, Bool.and_eq_true, decide_eq_true_eq]
        rw [if_pos he]
      · rw [if_neg he]
        have hn : ∀ x ∈ l, ¬ (x.id = id ∧ x.field = field) := fun x hx hx2 => by
          have := hl.1 x hx; unfold ltS at this; rw [ordP_lt] at this h; omega
        rw [getK_none hn]
        simp only [h, decide_false, Bool.false_eq_true, if_false, List.length_nil, List.getD_cons_zero]
        simp only [List.length_cons, Nat.zero_lt_succ, decide_true, Bool.true_and, Bool.and_eq_true, decide_eq_true_eq]
        rw [if_neg he]
theorem set_mem {l : List SlotR} {id field : Int} {al : List AltR} {s : SlotR} (h : s ∈ setS l id field al) : s ∈ l ∨ (s = ⟨id, field, al⟩ ∧ al.length ≠ 0) := by
  unfold setS at h
  simp only [List.mem_append] at h
  rcases h with (h | h) | h
  · exact .inl (List.mem_of_mem_take h)
  · split at h
    · rename_i ha; simp at h; exact .inr ⟨h, ha⟩
    · simp at h
  · exact .inl (List.mem_of_mem_drop h)
theorem set_asc {l : List SlotR} (hl : l.Pairwise ltS) (id field : Int) (al : List AltR) : (setS l id field al).Pairwise ltS := by
  have hd : ∀ s ∈ l.drop (if foundS l id field = true then placeS l id field + 1 else placeS l id field), ordP id field s.id s.field < 0 := by
    intro s hs
    obtain ⟨i, hi, rfl⟩ := List.getElem_of_mem hs
    rw [List.getElem_drop]
    rw [List.length_drop] at hi
    rw [at_getD]
    by_cases hf : foundS l id field = true
    · simp only [hf, if_true] at hi ⊢
      have := asc_get hl (show placeS l id field < placeS l id field + 1 + i by omega) (by omega)
      simp only [foundS, Bool.and_eq_true, decide_eq_true_eq] at hf
      rw [hf.1.2, hf.2] at this
      exact this
    · simp only [hf, Bool.false_eq_true, if_false] at hi ⊢
      have h1 := place_post hl (id := id) (field := field) (show placeS l id field ≤ placeS l id field + i by omega) (by omega)
      rcases Nat.eq_zero_or_pos i with rfl | hp
      · have : ¬ ((l.getD (placeS l id field) default).id = id ∧ (l.getD (placeS l id field) default).field = field) := fun h2 => hf (by
          simp only [foundS, Bool.and_eq_true, decide_eq_true_eq]; exact ⟨⟨by omega, h2.1⟩, h2.2⟩)
        simp only [Nat.add_zero] at h1 ⊢
        rw [ordP_lt] at h1 ⊢
        omega
      · have h2 := place_at (l := l) (id := id) (field := field) (by omega)
        have h3 := asc_get hl (show placeS l id field < placeS l id field + i by omega) (by omega)
        rw [ordP_lt] at h1 h2 h3 ⊢
        omega
  have ht : ∀ s ∈ l.take (placeS l id field), ordP s.id s.field id field < 0 := by
    intro s hs
    obtain ⟨i, hi, rfl⟩ := List.getElem_of_mem hs
    rw [List.getElem_take]
    rw [List.length_take] at hi
    rw [at_getD]
    exact place_pre (by omega)
  unfold setS
  rw [List.pairwise_append]
  refine ⟨?_, hl.sublist (List.drop_sublist _ _), fun x hx y hy => ?_⟩
  · rw [List.pairwise_append]
    refine ⟨hl.sublist (List.take_sublist _ _), by split <;> simp, fun x hx y hy => ?_⟩
    split at hy
    · simp only [List.mem_singleton] at hy; subst hy; exact ht x hx
    · simp at hy
  · rw [List.mem_append] at hx
    have h2 := hd y hy
    rcases hx with hx | hx
    · have h1 := ht x hx
      simp only [ltS, ordP_lt] at h1 h2 ⊢; omega
    · split at hx
      · simp only [List.mem_singleton] at hx; subst hx; exact h2
      · simp at hx
theorem set_len (l : List SlotR) (id field : Int) (al : List AltR) : (setS l id field al).length ≤ l.length + 1 := by
  have := place_le l id field
  unfold setS
  simp only [List.length_append, List.length_take, List.length_drop]
  split <;> split <;> simp <;> omega
/-! ### Made states are valid -/
theorem alts_iff (l : List AltR) : allTo (altOk l) l.length = true ↔ (∀ a ∈ l, idS a.stamp = true) ∧ l.Pairwise (fun a b => a.stamp < b.stamp) := by
  rw [allTo_iff]
  constructor
  · intro h
    have h' : ∀ i, i < l.length → idS (l.getD i default).stamp = true ∧ (i = 0 ∨ (l.getD (i - 1) default).stamp < (l.getD i default).stamp) := by
      intro i hi
      have := h i hi
      simpa only [altOk, Bool.and_eq_true, decide_eq_true_eq, Bool.or_eq_true, beq_iff_eq] using this
    refine ⟨fun s hs => ?_, ?_⟩
    · obtain ⟨i, hi, rfl⟩ := List.getElem_of_mem hs
      have := h' i hi
      rw [← at_getD l i hi] at this
      exact this.1
    · rw [List.pairwise_iff_getElem]
      have key : ∀ d i (hi : i < l.length) (hj : i + d + 1 < l.length), l[i].stamp < l[i + d + 1].stamp := by
        intro d
        induction d with
        | zero =>
          intro i hi hj
          have := (h' (i + 1) hj).2
          rw [Nat.add_sub_cancel, ← at_getD l i hi, ← at_getD l (i + 1) hj] at this
          show l[i].stamp < l[i + 1].stamp
          omega
        | succ d ih =>
          intro i hi hj
          have h1 := ih i hi (by omega)
          have h2 := (h' (i + d + 1 + 1) hj).2
          rw [Nat.add_sub_cancel, ← at_getD l (i + d + 1) (by omega), ← at_getD l (i + d + 1 + 1) hj] at h2
          show l[i].stamp < l[i + d + 1 + 1].stamp
          omega
      intro i j hi hj hij
      have := key (j - i - 1) i hi (by omega)
      have e : l[i + (j - i - 1) + 1]'(by omega) = l[j] := by congr 1; omega
      rw [e] at this
      exact this
  · rintro ⟨h1, h2⟩ i hi
    have hs := h1 l[i] (List.getElem_mem hi)
    rw [at_getD l i hi] at hs
    simp only [altOk, Bool.and_eq_true, decide_eq_true_eq, Bool.or_eq_true, beq_iff_eq]
    refine ⟨hs, ?_⟩
    rcases Nat.eq_zero_or_pos i with h | h
    · exact .inl h
    · right
      have := (List.pairwise_iff_getElem.1 h2) (i - 1) i (by omega) hi (by omega)
      rwa [at_getD l i hi, at_getD l (i - 1) (by omega)] at this
theorem idS_eq' : True := trivial
end Go.Proofs.Ytgfpbhbogfabmaa
