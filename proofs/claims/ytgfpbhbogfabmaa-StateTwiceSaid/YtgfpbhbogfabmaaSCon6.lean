/- A part of the proof: SCon6. -/
import Derived.Test.YtgfpbhbogfabmaaSCon5
set_option linter.unusedVariables false
set_option linter.unusedSimpArgs false
set_option linter.unnecessarySimpa false
set_option linter.unusedSectionVars false
namespace Go.Proofs.Ytgfpbhbogfabmaa
open Go Go.Vm Go.Proofs
theorem c20A (l : List SlotR) (id field : Int) (hl : l.Pairwise ltS) (hn : l.length ≤ 1000000) (hf : foundS l id field = true) :
    callE Try.prog NoPhi 20 [.agg [.sl 3 (l.map SlotR.row)], .int .i64 id, .int .i64 field] = some (.sl 5 ((altsS l id field).map AltR.row)) := by
  refine call_flat Try.f20 Try.func20 (by kernel_rfl) rfl ⟨_, e20 l id field, ?_⟩
  have ha : altsS l id field = (l.getD (placeS l id field) default).alts := by unfold altsS; rw [if_pos hf]
  simp only [foundS, Bool.and_eq_true, decide_eq_true_eq] at hf
  obtain ⟨⟨h1, h2⟩, h3⟩ := hf
  rw [ha]
  simp only [TW, LcQ, c46 l id field hl hn, List.length_map]
  generalize placeS l id field = p at *
  simp (disch := omega) [at_getD, -List.getD_eq_getElem?_getD, -Bool.default_bool, h1, h2, h3]
theorem c20B (l : List SlotR) (id field : Int) (hl : l.Pairwise ltS) (hn : l.length ≤ 1000000) (hf : foundS l id field = false) :
    callE Try.prog NoPhi 20 [.agg [.sl 3 (l.map SlotR.row)], .int .i64 id, .int .i64 field] = some (.own (0, 0) 42 5 []) := by
  refine call_flat Try.f20 Try.func20 (by kernel_rfl) rfl ⟨_, e20 l id field, ?_⟩
  simp only [foundS, Bool.and_eq_false_iff, decide_eq_false_iff_not] at hf
  simp only [TW, LcQ, c46 l id field hl hn, List.length_map]
  generalize placeS l id field = p at *
  by_cases h1 : p < l.length
  · by_cases h2 : (l.getD p default).id = id
    · have h3 : ¬ (l.getD p default).field = field := by
        rcases hf with (h | h) | h
        · exact absurd h1 h
        · exact absurd h2 h
        · exact h
      simp (disch := omega) [at_getD, -List.getD_eq_getElem?_getD, -Bool.default_bool, h1, h2, h3]
    · simp (disch := omega) [at_getD, -List.getD_eq_getElem?_getD, -Bool.default_bool, h1, h2]
  · simp (disch := omega) [at_getD, -List.getD_eq_getElem?_getD, -Bool.default_bool, h1]
theorem c36 (l : List SlotR) (id field : Int) (al : List AltR) (hl : l.Pairwise ltS) (hn : l.length ≤ 1000000) :
    callE Try.prog NoPhi 36 [.agg [.sl 3 (l.map SlotR.row)], .int .i64 id, .int .i64 field, .sl 5 (al.map AltR.row)] = some (.agg [.sl 3 ((setS l id field al).map SlotR.row)]) := by
  refine call_flat Try.f36 Try.func36 (by kernel_rfl) rfl ⟨_, e36 l id field al, ?_⟩
  have hp := place_le l id field
  have hs : setS l id field al = l.take (placeS l id field) ++ (if al.length ≠ 0 then [⟨id, field, al⟩] else []) ++ l.drop (if foundS l id field = true then placeS l id field + 1 else placeS l id field) := rfl
  have hf : foundS l id field = (decide (placeS l id field < l.length) && decide ((l.getD (placeS l id field) default).id = id) && decide ((l.getD (placeS l id field) default).field = field)) := rfl
  rw [hs, hf]
  have h46 := c46 l id field hl hn
  simp only [TW, LcQ, h46, List.length_map]
  clear hs hf h46
  generalize placeS l id field = p at *
  have hw : IntKind.wrap .i64 ((p : Int) + 1) = ((p + 1 : Nat) : Int) := by rw [wrap64 _ (by omega) (by omega)]; rfl
  have hr : SlotR.row ⟨id, field, al⟩ = [TV.int .i64 id, TV.int .i64 field, TV.sl 5 (List.map AltR.row al)] := rfl
  by_cases ha : al.length = 0
  · by_cases h1 : p < l.length
    · by_cases h2 : (l.getD p default).id = id
      · by_cases h3 : (l.getD p default).field = field
        · (simp (disch := omega) [at_getD, -List.getD_eq_getElem?_getD, -Bool.default_bool, ha, h1, h2, h3, hw, roomy] <;> and_intros <;> first | omega | (rw [List.take_of_length_le (by simp; omega)]; simp [List.take_take, List.drop_append, List.take_append]; first | done | omega | (rw [show p + 1 - min p l.length = 1 by omega]; rfl)))
        · (simp (disch := omega) [at_getD, -List.getD_eq_getElem?_getD, -Bool.default_bool, ha, h1, h2, h3, hw, roomy] <;> and_intros <;> first | omega | (rw [List.take_of_length_le (by simp; omega)]; simp [List.take_take, List.drop_append, List.take_append]; first | done | omega | (rw [show p + 1 - min p l.length = 1 by omega]; rfl)))
      · (simp (disch := omega) [at_getD, -List.getD_eq_getElem?_getD, -Bool.default_bool, ha, h1, h2, hw, roomy] <;> and_intros <;> first | omega | (rw [List.take_of_length_le (by simp; omega)]; simp [List.take_take, List.drop_append, List.take_append]; first | done | omega | (rw [show p + 1 - min p l.length = 1 by omega]; rfl)))
    · (simp (disch := omega) [at_getD, -List.getD_eq_getElem?_getD, -Bool.default_bool, ha, h1, hw, roomy] <;> and_intros <;> first | omega | (rw [List.take_of_length_le (by simp; omega)]; simp [List.take_take, List.drop_append, List.take_append]; first | done | omega | (rw [show p + 1 - min p l.length = 1 by omega]; rfl)))
  · have ha2 : 0 < al.length := by omega
    by_cases h1 : p < l.length
    · by_cases h2 : (l.getD p default).id = id
      · by_cases h3 : (l.getD p default).field = field
        · (simp (disch := omega) [at_getD, -List.getD_eq_getElem?_getD, -Bool.default_bool, ha, ha2, h1, h2, h3, hw, roomy] <;> and_intros <;> first | omega | (rw [List.take_of_length_le (by simp; omega)]; simp [List.take_take, List.drop_append, List.take_append]; first | done | omega | (rw [show p + 1 - min p l.length = 1 by omega]; rfl)))
        · (simp (disch := omega) [at_getD, -List.getD_eq_getElem?_getD, -Bool.default_bool, ha, ha2, h1, h2, h3, hw, roomy] <;> and_intros <;> first | omega | (rw [List.take_of_length_le (by simp; omega)]; simp [List.take_take, List.drop_append, List.take_append]; first | done | omega | (rw [show p + 1 - min p l.length = 1 by omega]; rfl)))
      · (simp (disch := omega) [at_getD, -List.getD_eq_getElem?_getD, -Bool.default_bool, ha, ha2, h1, h2, hw, roomy] <;> and_intros <;> first | omega | (rw [List.take_of_length_le (by simp; omega)]; simp [List.take_take, List.drop_append, List.take_append]; first | done | omega | (rw [show p + 1 - min p l.length = 1 by omega]; rfl)))
    · (simp (disch := omega) [at_getD, -List.getD_eq_getElem?_getD, -Bool.default_bool, ha, ha2, h1, hw, roomy] <;> and_intros <;> first | omega | (rw [List.take_of_length_le (by simp; omega)]; simp [List.take_take, List.drop_append, List.take_append]; first | done | omega | (rw [show p + 1 - min p l.length = 1 by omega]; rfl)))
end Go.Proofs.Ytgfpbhbogfabmaa
