/- A part of the proof: SCon2. -/
import Derived.Test.YtgfpbhbogfabmaaSClo
import Derived.Test.YtgfpbhbogfabmaaVm31
set_option linter.unusedVariables false
set_option linter.unusedSimpArgs false
set_option linter.unnecessarySimpa false
set_option linter.unusedSectionVars false
namespace Go.Proofs.Ytgfpbhbogfabmaa
open Go Go.Vm Go.Proofs
theorem own : ownKnob Try.prog.godebug = none := by kernel_rfl
def valT : TSh := .field 1 (.int .i64) (.field 1 .bool (.field 1 .str (.field 1 (.int .i64) .fin)))
def cellT : TSh := .field 1 (.int .i64) (.field 1 (.int .i64) (.field 4 valT .fin))
def altT : TSh := .field 1 (.int .i64) (.field 4 valT .fin)
def slotT : TSh := .field 1 (.int .i64) (.field 1 (.int .i64) (.field 1 (.slice 5 altT) .fin))
def stateT : TSh := .field 1 (.slice 3 slotT) .fin
theorem alt_row {r : List TV} (h : TyS altT r) : ∃ c : AltR, r = c.row := by
  simp only [altT, valT, TyS] at h
  obtain ⟨c1, c2, rfl, _, ⟨n1, rfl, _⟩, c3, c4, rfl, _, ⟨c5, c6, rfl, _, ⟨n3, rfl, _⟩, c7, c8, rfl, _, ⟨n4, rfl⟩, c9, c10, rfl, _, ⟨n5, rfl, _⟩, c11, c12, rfl, _, ⟨n6, rfl, _⟩, rfl⟩, rfl⟩ := h
  exact ⟨⟨n1, n3, n4, n5, n6⟩, rfl⟩
theorem slot_row {r : List TV} (h : TyS slotT r) : ∃ c : SlotR, r = c.row ∧ c.alts.length ≤ 9223372036854775807 := by
  simp only [slotT, TyS] at h
  obtain ⟨c1, c2, rfl, _, ⟨n1, rfl, _⟩, c3, c4, rfl, _, ⟨n2, rfl, _⟩, c5, c6, rfl, _, ⟨xs, rfl, hl, hx⟩, rfl⟩ := h
  obtain ⟨l, rfl⟩ := rows_map AltR.row xs fun r hr => alt_row (hx r hr)
  exact ⟨⟨n1, n2, l⟩, rfl, by simpa using hl⟩
theorem slots_rows : ∀ (xs : List (List TV)), (∀ r ∈ xs, TyS slotT r) → ∃ l : List SlotR, xs = l.map SlotR.row ∧ ∀ s ∈ l, s.alts.length ≤ 9223372036854775807
  | [], _ => ⟨[], rfl, by simp⟩
  | x :: xs, h => by
    obtain ⟨c, rfl, hc⟩ := slot_row (h x (by simp))
    obtain ⟨l, rfl, hl⟩ := slots_rows xs fun r hr => h r (by simp [hr])
    exact ⟨c :: l, rfl, by simpa using ⟨hc, hl⟩⟩
theorem state_arg {v : TV} (h : if true = true then ∃ cs, v = .agg cs ∧ TyS stateT cs else TyS stateT [v]) :
    ∃ l : List SlotR, v = .agg [.sl 3 (l.map SlotR.row)] ∧ l.length ≤ 9223372036854775807 ∧ ∀ s ∈ l, s.alts.length ≤ 9223372036854775807 := by
  rw [if_pos rfl] at h
  obtain ⟨cs, rfl, h⟩ := h
  simp only [stateT, TyS] at h
  obtain ⟨c1, c2, rfl, _, ⟨xs, rfl, hl, hx⟩, rfl⟩ := h
  obtain ⟨l, rfl, h2⟩ := slots_rows xs hx
  exact ⟨l, rfl, by simpa using hl, h2⟩
def markT : TSh := .field 1 (.int .i64) (.field 1 (.int .i64) (.field 1 (.int .i64) .fin))
theorem mark_row {r : List TV} (h : TyS markT r) : ∃ c : MarkR, r = c.row := by
  simp only [markT, TyS] at h
  obtain ⟨c1, c2, rfl, _, ⟨n1, rfl, _⟩, c3, c4, rfl, _, ⟨n2, rfl, _⟩, c5, c6, rfl, _, ⟨n3, rfl, _⟩, rfl⟩ := h
  exact ⟨⟨n1, n2, n3⟩, rfl⟩
theorem marks_arg {v : TV} (h : TyS (.slice 3 markT) [v]) : ∃ l : List MarkR, v = .sl 3 (l.map MarkR.row) ∧ l.length ≤ 9223372036854775807 := by
  obtain ⟨xs, h1, h2, h3⟩ := h
  obtain ⟨l, rfl⟩ := rows_map MarkR.row xs fun r hr => mark_row (h3 r hr)
  exact ⟨l, by simpa using h1, by simpa using h2⟩
theorem l3 (l : List SlotR) (h : l.length ≤ 9223372036854775807 ∧ ∀ s ∈ l, s.alts.length ≤ 9223372036854775807) : callE Try.prog NoPhi 3 [.agg [.sl 3 (l.map SlotR.row)]] = some (.bool true) := by
  refine call_flat Try.f3 Try.func3 (by kernel_rfl) rfl ⟨_, e3 l, ?_⟩
  simp only [TW, LcQ, c7 l h.1, c8 l h.1 h.2, c9 l h.1 h.2, c10]
  simp
end Go.Proofs.Ytgfpbhbogfabmaa
