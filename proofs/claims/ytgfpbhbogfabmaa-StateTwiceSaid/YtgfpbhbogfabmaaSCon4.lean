/- A part of the proof: SCon4. -/
import Derived.Test.YtgfpbhbogfabmaaSCon3
import Derived.Test.YtgfpbhbogfabmaaSPl
set_option linter.unusedVariables false
set_option linter.unusedSimpArgs false
set_option linter.unnecessarySimpa false
set_option linter.unusedSectionVars false
namespace Go.Proofs.Ytgfpbhbogfabmaa
open Go Go.Vm Go.Proofs
theorem ba_inj {a b : ByteArray} (h : a.toList = b.toList) : a = b := toList_inj'.1 h
theorem alt_eq (v w : AltR) : (v.stamp == w.stamp && (v.v.n == w.v.n && (v.v.flag == w.v.flag && (v.v.text.toList == w.v.text.toList && (v.v.ref == w.v.ref && true))))) = decide (v = w) := by
  rcases v with ⟨s, ⟨n, f, t, r⟩⟩; rcases w with ⟨s', ⟨n', f', t', r'⟩⟩
  simp only [AltR.mk.injEq, Val.mk.injEq, Bool.and_true]
  rw [Bool.eq_iff_iff]
  simp only [Bool.and_eq_true, beq_iff_eq, decide_eq_true_eq]
  constructor
  · rintro ⟨h0, h1, h2, h3, h4⟩
    exact ⟨h0, h1, h2, ba_inj h3, h4⟩
  · rintro ⟨rfl, rfl, rfl, rfl, rfl⟩; simp
theorem take_step {α : Type} [Inhabited α] {a b : List α} {i : Nat} (hl : a.length = b.length) (hi : i < a.length) (h : a.take i = b.take i) (h2 : a.getD i default = b.getD i default) : a.take (i + 1) = b.take (i + 1) := by
  rw [List.take_succ_eq_append_getElem hi, List.take_succ_eq_append_getElem (by omega), h, at_getD a i hi, at_getD b i (by omega), h2]
theorem c43 (a b : List AltR) (hl : a.length ≤ 4611686018427387904) : callE Try.prog NoPhi 43 [.sl 5 (a.map AltR.row), .sl 5 (b.map AltR.row)] = some (.bool (decide (a = b))) := by
  refine call_loop Try.f43 hd43 26 Try.func43 (by kernel_rfl) rfl p43 rfl (fun i => w43 a b i) (fun i => i ≤ a.length ∧ a.length = b.length ∧ a.take i = b.take i) (fun i => a.length - i) ⟨_, e43 a b, ?_⟩ (fun i nx ⟨hi, hs, ht⟩ g => ⟨_, r43 a b i g nx, ?_⟩)
  · by_cases h : a.length = b.length
    · simp only [TW, LcQ, List.length_map, h]
      refine ⟨fun h => by simp at h, fun _ => ⟨by first | trivial | rfl, by first | trivial | rfl, 0, ?_, Nat.zero_le _, by first | trivial | rfl | exact h, by simp⟩⟩
      simp [w43, h]
    · have h2 : a ≠ b := fun e => h (by rw [e])
      have h3 : ¬ ((a.length : Int) = (b.length : Int)) := by omega
      simp only [TW, LcQ, List.length_map, bne_iff_ne, ne_eq, h3, not_false_eq_true, true_implies, h2, decide_false]
      exact ⟨trivial, fun h => by simp [bne, h3] at h⟩
  · have hb : b.length = a.length := hs.symm
    by_cases hlt : i < a.length
    · by_cases he : a.getD i default = b.getD i default
      · have jA : ∃ j, w43 a b (i + 1) = w43 a b j ∧ (j ≤ a.length ∧ a.length = b.length ∧ a.take j = b.take j) ∧ a.length - j < a.length - i := ⟨i + 1, rfl, ⟨hlt, hs, take_step hs hlt ht he⟩, by omega⟩
        simp (disch := omega) [TW, LcQ, p43, hlt, hb, alt_eq, at_getD, -List.getD_eq_getElem?_getD, -Bool.default_bool, he]
        simpa [w43, hb] using jA
      · have hn : a ≠ b := fun e => he (by rw [e])
        simp only [TW, LcQ, p43, alt_eq, he, hn, decide_false]
        simp (disch := omega) [hlt, hb, at_getD, -List.getD_eq_getElem?_getD, -Bool.default_bool]
    · have h1 : i = a.length := by omega
      subst h1
      have : a = b := by
        have := ht
        rwa [List.take_length, hs, List.take_length] at this
      subst this
      simp [TW, LcQ]
theorem c42 (s t : SlotR) (hl : s.alts.length ≤ 4611686018427387904) : callE Try.prog NoPhi 42 [.agg s.row, .agg t.row] = some (.bool (decide (s = t))) := by
  refine call_flat Try.f42 Try.func42 (by kernel_rfl) rfl ⟨_, e42 s t, ?_⟩
  have h1 := c29 s; have h2 := c29 t
  simp only [SlotR.row] at h1 h2
  have he : (s = t) = (s.id = t.id ∧ s.field = t.field ∧ s.alts = t.alts) := by cases s; cases t; simp
  simp only [TW, LcQ, h1, h2, c43 _ _ hl, true_and, he]
  simp +contextual
  grind
theorem c41 (a b : List SlotR) (hl : a.length ≤ 4611686018427387904) (hb : ∀ s ∈ a, s.alts.length ≤ 4611686018427387904) : callE Try.prog NoPhi 41 [.sl 3 (a.map SlotR.row), .sl 3 (b.map SlotR.row), .fn 42 []] = some (.bool (decide (a = b))) := by
  refine call_loop Try.f41 hd41 32 Try.func41 (by kernel_rfl) rfl p41 rfl (fun i => w41 a b i) (fun i => i ≤ a.length ∧ a.length = b.length ∧ a.take i = b.take i) (fun i => a.length - i) ⟨_, e41 a b, ?_⟩ (fun i nx ⟨hi, hs, ht⟩ g => ⟨_, r41 a b i g nx, ?_⟩)
  · by_cases h : a.length = b.length
    · simp only [TW, LcQ, List.length_map, h]
      refine ⟨fun h => by simp at h, fun _ => ⟨by first | trivial | rfl, by first | trivial | rfl, 0, ?_, Nat.zero_le _, by first | trivial | rfl | exact h, by simp⟩⟩
      simp [w41, h]
    · have h2 : a ≠ b := fun e => h (by rw [e])
      have h3 : ¬ ((a.length : Int) = (b.length : Int)) := by omega
      simp only [TW, LcQ, List.length_map, bne_iff_ne, ne_eq, h3, not_false_eq_true, true_implies, h2, decide_false]
      exact ⟨trivial, fun h => by simp [bne, h3] at h⟩
  · have hbl : b.length = a.length := hs.symm
    by_cases hlt : i < a.length
    · have h42 := c42 (a.getD i default) (b.getD i default) (hb _ (getD_mem' hlt))
      simp only [SlotR.row] at h42
      by_cases he : a.getD i default = b.getD i default
      · have jA : ∃ j, w41 a b (i + 1) = w41 a b j ∧ (j ≤ a.length ∧ a.length = b.length ∧ a.take j = b.take j) ∧ a.length - j < a.length - i := ⟨i + 1, rfl, ⟨hlt, hs, take_step hs hlt ht he⟩, by omega⟩
        rw [he] at h42
        simp (disch := omega) [TW, LcQ, p41, hlt, hbl, h42, at_getD, -List.getD_eq_getElem?_getD, -Bool.default_bool, he]
        simpa [w41, hbl] using jA
      · have hn : a ≠ b := fun e => he (by rw [e])
        simp (disch := omega) [TW, LcQ, p41, hlt, hbl, h42, at_getD, -List.getD_eq_getElem?_getD, -Bool.default_bool, he, hn]
    · have h1 : i = a.length := by omega
      subst h1
      have : a = b := by
        have := ht
        rwa [List.take_length, hs, List.take_length] at this
      subst this
      simp [TW, LcQ]
theorem c16 (a b : List SlotR) (hl : a.length ≤ 4611686018427387904) (hb : ∀ s ∈ a, s.alts.length ≤ 4611686018427387904) : callE Try.prog NoPhi 16 [.agg [.sl 3 (a.map SlotR.row)], .agg [.sl 3 (b.map SlotR.row)]] = some (.bool (decide (a = b))) := by
  refine call_flat Try.f16 Try.func16 (by kernel_rfl) rfl ⟨_, e16 a b, ?_⟩
  simp only [TW, LcQ, c41 a b hl hb, true_and]
end Go.Proofs.Ytgfpbhbogfabmaa
