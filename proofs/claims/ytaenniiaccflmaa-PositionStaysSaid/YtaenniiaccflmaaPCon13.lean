/- A part of the proof: PCon13. -/
import Derived.Test.YtaenniiaccflmaaPCon12
set_option linter.unusedVariables false
set_option linter.unusedSimpArgs false
set_option linter.unnecessarySimpa false
set_option linter.unusedSectionVars false
namespace Go.Proofs.Ytaenniiaccflmaa
open Go Go.Vm Go.Proofs
theorem asc_of {V : ByteArray → Bool} : ∀ (l : List ByteArray) (t : ByteArray), (∀ i, i < l.length → V (l.getD i default) = true) → (∀ i, i + 1 < l.length → ltK (l.getD i default) (l.getD (i + 1) default) = true) → (0 < l.length → ltK t (l.getD 0 default) = true) → Asc ltK V t l
  | [], _, _, _, _ => trivial
  | k :: r, t, h1, h2, h3 => ⟨h3 (by simp), h1 0 (by simp), asc_of r k (fun i hi => h1 (i + 1) (by simpa using hi)) (fun i hi => h2 (i + 1) (by simpa using hi)) (fun h => h2 0 (by simpa using h))⟩
theorem asc_get {V : ByteArray → Bool} : ∀ (l : List ByteArray) (t : ByteArray), Asc ltK V t l → (∀ i, i < l.length → V (l.getD i default) = true) ∧ (∀ i, i + 1 < l.length → ltK (l.getD i default) (l.getD (i + 1) default) = true)
  | [], _, _ => ⟨fun i hi => by simp at hi, fun i hi => by simp at hi⟩
  | k :: r, t, h => by
    obtain ⟨h1, h2⟩ := asc_get r k h.2.2
    refine ⟨fun i hi => ?_, fun i hi => ?_⟩
    · cases i with
      | zero => exact h.2.1
      | succ i => exact h1 i (by simpa using hi)
    · cases i with
      | zero =>
        cases r with
        | nil => simp at hi
        | cons a r => exact h.2.2.1
      | succ i => exact h2 i (by simpa using hi)
theorem empty_lt {k : ByteArray} (h : validK k = true) : ltK ⟨#[]⟩ k = true := by
  have hk := valid_ne h
  cases hc : ltK ⟨#[]⟩ k with
  | true => rfl
  | false => exact absurd (ordK.total _ _ hc (by
      cases hd : ltK k ⟨#[]⟩ with
      | false => rfl
      | true => exact absurd (less_empty h) (by simp_all))).symm hk
theorem spread_asc (n : Int) : Asc ltK validK ⟨#[]⟩ (spreadS n) :=
  asc_of _ _ (fun i hi => spread_valid hi) (fun i hi => spread_less (i := i + 1) (by omega) hi) (fun h => empty_lt (spread_valid h))
theorem bet_hK (lo hi : ByteArray) (h1 : lo = ⟨#[]⟩ ∨ validK lo = true) (h2 : hi = ⟨#[]⟩ ∨ validK hi = true) (h : (betK lo hi).2 = 0) : validK (betK lo hi).1 = true ∧ ltK lo (betK lo hi).1 = true ∧ (hi = ⟨#[]⟩ ∨ ltK (betK lo hi).1 hi = true) := by
  obtain ⟨f1, f2, f3, _, _⟩ := inside_found h
  refine ⟨f1, ?_, ?_⟩
  · rcases h1 with h1 | h1
    · rw [h1] at f1 ⊢; exact empty_lt f1
    · exact f2 (by have := (valid_num h1).2.1; omega)
  · rcases h2 with h2 | h2
    · exact .inl h2
    · exact .inr (f3 (by have := (valid_num h2).2.1; omega))
theorem rek_cases (l : List ByteArray) (hl : l.length ≤ 400) : rekS l = spreadS l.length ∨ (rekG betK (ZK l) ⟨#[]⟩ = some (rekS l)) := by
  unfold rekS; rw [if_pos hl]
  cases h : rekG betK ((keepS l).zip l) ⟨#[]⟩ with
  | none => exact .inl rfl
  | some r => exact .inr rfl
theorem rek_facts (l : List ByteArray) (hl : l.length ≤ 400) : Asc ltK validK ⟨#[]⟩ (rekS l) ∧ (rekS l).length = l.length ∧ ∀ i, i < l.length → (keepS l).getD i default = true → (rekS l).getD i default = l.getD i default ∨ rekS l = spreadS l.length := by
  rcases rek_cases l hl with h | h
  · refine ⟨by rw [h]; exact spread_asc _, ?_, fun i _ _ => .inr h⟩
    rw [h]; have := spread_len (n := (l.length : Int)) (by omega) (by omega); omega
  · obtain ⟨h1, h2, h3⟩ := rek_asc (V := validK) (fun k hk => valid_ne hk) bet_hK (ZK l) ⟨#[]⟩ (rekS l) (.inl rfl) (keep_stay l) h
    rw [ZK_len] at h2
    refine ⟨h1, h2, fun i hi hk => .inl ?_⟩
    have hkl := keep_len l
    have e : (ZK l).getD i default = ((keepS l).getD i default, l.getD i default) := by
      have : i < (ZK l).length := by rw [ZK_len]; exact hi
      rw [← at_getD _ _ this, List.getElem_zip, at_getD, at_getD]
    have := h3 i (by rw [ZK_len]; exact hi) (by rw [e]; exact hk)
    rw [this, e]
theorem rek_twice (l : List ByteArray) (hl : l.length ≤ 400) : rekS (rekS l) = rekS l := by
  obtain ⟨h1, h2, _⟩ := rek_facts l hl
  have hk : keepS (rekS l) = List.replicate (rekS l).length true := by
    have hb := asc_best validK ordK _ _ h1
    have := asc_pick validK ordK _ _ h1
    rw [← hb] at this
    have e : keepS (rekS l) = pickS ltK ((bestL ltK validK (rekS l)).zip (rekS l)) (mostS (bestL ltK validK (rekS l))) ⟨#[]⟩ := rfl
    rw [e, this, ← Int.toNat_natCast (rekS l).length, ← hb]
  generalize rekS l = m at *
  unfold rekS
  rw [if_pos (by omega), hk, rek_all]; rfl
theorem l9 (l : List ByteArray) (hb : ∀ s ∈ l, s.size ≤ 9223372036854775807) : callE Try.prog NoPhi 9 [.sl 1 (l.map strRow)] = some (.bool true) := by
  refine call_flat Try.f9 Try.func9 (by kernel_rfl) rfl ⟨_, e9 l, ?_⟩
  have h19 := c19 l hb
  cases hl : lightS l with
  | false => simp [TW, LcQ, h19, c11, hl]
  | true =>
    have h60 := light_len hl
    have hr := (rek_facts l (by omega)).2.1
    simp (disch := omega) [TW, LcQ, h19, c11, c17, c23, c24, hl]
end Go.Proofs.Ytaenniiaccflmaa
