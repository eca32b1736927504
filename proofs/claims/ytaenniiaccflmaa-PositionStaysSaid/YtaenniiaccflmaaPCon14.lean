/- A part of the proof: PCon14. -/
import Derived.Test.YtaenniiaccflmaaPCon13
set_option linter.unusedVariables false
set_option linter.unusedSimpArgs false
set_option linter.unnecessarySimpa false
set_option linter.unusedSectionVars false
namespace Go.Proofs.Ytaenniiaccflmaa
open Go Go.Vm Go.Proofs
theorem l10 (l : List ByteArray) (hb : ∀ s ∈ l, s.size ≤ 9223372036854775807) : callE Try.prog NoPhi 10 [.sl 1 (l.map strRow)] = some (.bool true) := by
  have hkl := keep_len l
  have h19 := c19 l hb
  refine call_loop (ι := Nat × Stamp × Stamp) Try.f10 hd10 88 Try.func10 (by kernel_rfl) rfl p10 rfl (fun x => w10 l x.2.1 x.2.2 (keepS l) (rekS l) (decide (rekS l = spreadS (l.length : Int))) x.1) (fun x => lightS l = true ∧ x.1 ≤ l.length) (fun x => l.length - x.1) ⟨_, e10 l, ?_⟩ (fun x nx hx g => ⟨_, r10 l x.2.1 x.2.2 (keepS l) (rekS l) (decide (rekS l = spreadS (l.length : Int))) x.1 g nx, ?_⟩)
  · cases hl : lightS l with
    | false => simp [TW, LcQ, h19, c11, hl]
    | true =>
      have h60 := light_len hl
      obtain ⟨f1, f2, f3⟩ := rek_facts l (by omega)
      have h16 := c16 (l.length : Int) (by omega)
      simp (disch := omega) [TW, LcQ, h19, c11, c17, c21, c23, h16, hl, hkl, f2, p10, -List.map_take]
      exact ⟨by rw [List.take_of_length_le (by simp; omega)]; exact c17 _ _ (by omega), 0, ⟨9, 0, 6, 0, rfl⟩, Nat.zero_le _⟩
  · obtain ⟨i, γ, δ⟩ := x
    obtain ⟨hl, hi⟩ := hx
    simp only at hi ⊢
    have h60 := light_len hl
    obtain ⟨f1, f2, f3⟩ := rek_facts l (by omega)
    obtain ⟨a1, a2⟩ := asc_get _ _ f1
    have ht := rek_twice l (by omega)
    by_cases hlt : i < l.length
    · have hlo : i < (rekS l).length := by omega
      have hw : 0 < i → IntKind.wrap .i64 ((i : Int) - 1) = ((i - 1 : Nat) : Int) := fun h => by rw [wrap64 _ (by omega) (by omega)]; omega
      have hw1 : IntKind.wrap .i64 ((i : Int) + 1) = ((i + 1 : Nat) : Int) := by rw [wrap64 _ (by omega) (by omega)]; rfl
      have hv := a1 i hlo
      have hless : 0 < i → Op.bytesLess ((rekS l).getD (i - 1) default).toList ((rekS l).getD i default).toList = true := fun h => by
        have := a2 (i - 1) (by omega); rw [show i - 1 + 1 = i by omega] at this; exact this
      have hs : (keepS l).getD i default = true → decide (rekS l = spreadS (l.length : Int)) = false → ((rekS l).getD i default).toList = (l.getD i default).toList := fun h1 h2 => by
        rcases f3 i hlt h1 with h | h
        · rw [h]
        · rw [decide_eq_false_iff_not] at h2; exact absurd h h2
      have hm1 : (List.map strRow (rekS l)).getD i default = strRow ((rekS l).getD i default) := by simp [List.getD, hlo]
      have hm2 : 0 < i → (List.map strRow (rekS l)).getD (i - 1) default = strRow ((rekS l).getD (i - 1) default) := fun h => by simp [List.getD, show i - 1 < (rekS l).length by omega]
      have hm3 : (List.map strRow l).getD i default = strRow (l.getD i default) := by simp [List.getD, hlt]
      have hm4 : (List.map boolRow (keepS l)).getD i default = boolRow ((keepS l).getD i default) := by simp [List.getD, hkl, hlt]
      simp only [TW, LcQ, List.length_map, Nat.zero_add, hw1, hv]
      generalize decide (rekS l = spreadS (l.length : Int)) = D at *
      clear h19 f1 f3 a1 a2 ht
      generalize rekS l = out at *
      have c := c14 (out.getD i default)
      rw [hv] at c
      by_cases h0 : 0 < i
      · rw [hw h0]
        have h1 := hless h0
        have h2 := hm2 h0
        have h3 : i - 1 < out.length := by omega
        simp +contextual (disch := omega) [at_getD, -List.getD_eq_getElem?_getD, -Bool.default_bool, h0, hlt, hlo, hkl, hm1, h2, hm3, hm4, h1, c, p10, h3]
        exact ⟨fun hk => ⟨fun h => ⟨by cases hD : D with | true => rfl | false => exact absurd (hs hk hD) h, fun hD => ⟨i + 1, ⟨γ.1, γ.2, δ.1, δ.2, rfl⟩, ⟨hl, hlt⟩, by omega⟩⟩, fun h => ⟨by rw [← h]; exact h1, ⟨i + 1, ⟨γ.1, γ.2, δ.1, δ.2, rfl⟩, ⟨hl, hlt⟩, by omega⟩⟩⟩, fun _ => ⟨i + 1, ⟨γ.1, γ.2, δ.1, δ.2, rfl⟩, ⟨hl, hlt⟩, by omega⟩⟩
      · simp +contextual (disch := omega) [at_getD, -List.getD_eq_getElem?_getD, -Bool.default_bool, h0, hlt, hlo, hkl, hm1, hm3, hm4, c, p10]
        exact ⟨fun hk => ⟨fun h => ⟨by cases hD : D with | true => rfl | false => exact absurd (hs hk hD) h, fun hD => ⟨i + 1, ⟨γ.1, γ.2, δ.1, δ.2, rfl⟩, ⟨hl, hlt⟩, by omega⟩⟩, fun h => ⟨i + 1, ⟨γ.1, γ.2, δ.1, δ.2, rfl⟩, ⟨hl, hlt⟩, by omega⟩⟩, fun _ => ⟨i + 1, ⟨γ.1, γ.2, δ.1, δ.2, rfl⟩, ⟨hl, hlt⟩, by omega⟩⟩
    · have hge : l.length = i := by omega
      have h1 : ¬ ((i : Int) < ((rekS l).length : Int)) := by omega
      have hb2 := c23 (rekS l) (by omega)
      rw [ht] at hb2
      simp only [TW, LcQ, List.length_map, h1, decide_false, ht]
      simp (disch := omega) [c11, hb2, c17]
end Go.Proofs.Ytaenniiaccflmaa
