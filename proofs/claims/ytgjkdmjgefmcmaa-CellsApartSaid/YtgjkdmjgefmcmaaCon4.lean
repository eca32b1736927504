/- A part of the proof: Con4. -/
import Derived.Test.YtgjkdmjgefmcmaaCon3
set_option linter.unusedVariables false
set_option linter.unusedSimpArgs false
set_option linter.unnecessarySimpa false
set_option linter.unusedSectionVars false
namespace Go.Proofs.Ytgjkdmjgefmcmaa
open Go Go.Vm Go.Proofs
theorem c16 (a b : List CellR) (ha : a.length ≤ 1000) (hb : b.length ≤ 1000) : callE Try.prog NoPhi 16 [.sl 6 (a.map CellR.row), .sl 6 (b.map CellR.row)] = some (.own (0, 0) 31 6 ((putS a b).map CellR.row)) := by
  refine call_heads (ι := (Nat × Nat × Stamp × List CellR) ⊕ (Nat × Nat × Stamp × Stamp × List CellR)) Try.f16 hd16 74 Try.func16 (by kernel_rfl) rfl
    (Sum.elim (fun _ => p16a) (fun _ => p16b)) (by rintro (_ | _) <;> rfl)
    (Sum.elim (fun x => w16a a b x.1 x.2.1 x.2.2.1 x.2.2.2) (fun x => w16b a b x.1 x.2.1 x.2.2.1 x.2.2.2.1 x.2.2.2.2 (b.getD x.2.1 default)))
    (fun j => Sum.elim (fun x => x.1 ≤ a.length ∧ x.2.1 ≤ b.length ∧ x.2.2.2.length ≤ x.1 + x.2.1 ∧ putS a b = x.2.2.2 ++ putG (a.drop x.1) (b.drop x.2.1)) (fun x => x.1 ≤ a.length ∧ x.2.1 < b.length ∧ x.2.2.2.2.length ≤ x.1 + x.2.1 ∧ putS a b = x.2.2.2.2 ++ putG (a.drop x.1) (b.drop x.2.1)) j)
    (Sum.elim (fun x => 2 * (b.length - x.2.1) + (a.length - x.1)) (fun x => 2 * (b.length - x.2.1) - 1 + (a.length - x.1))) ⟨_, e16 a b, ?_⟩ (fun j n hj g => ?_)
  · simp +contextual (disch := omega) [TW, LcQ, p16a, p16b, c11, c13, putS, w16a, w16b, Sum.exists]
    exact fun _ _ => ⟨0, 0, 10, 0, [], by simp⟩
  · rcases j with ⟨i, k, ⟨γ1, γ2⟩, out⟩ | ⟨i, k, ⟨γ1, γ2⟩, ⟨δ1, δ2⟩, out⟩
    · obtain ⟨hi, hk, hn, hall⟩ := hj
      refine ⟨_, r16a a b i k (γ1, γ2) out g n, ?_⟩
      simp only at hi hk hn hall ⊢
      have hs := putG_step a b i k
      have h1 : ¬ k < b.length → putG (a.drop i) (b.drop k) = a.drop i := fun h => by rw [hs, if_neg h]
      have hbk : b.length ≤ k ↔ b.length = k := by omega
      rw [hall]
      simp +contextual (disch := first | omega | assumption) [TW, LcQ, hbk, p16a, p16b, w16a, w16b, at_getD, -List.getD_eq_getElem?_getD, roomy, map_row_snoc, map_row_inj, crow_inj, h1, and_assoc, Sum.exists]
      repeat' (first | (intro _) | (refine And.intro ?_ ?_) | (refine Exists.intro k (And.intro rfl (And.intro rfl ?_))))
      all_goals (first | rfl | omega)
    · obtain ⟨hi, hk, hn, hall⟩ := hj
      refine ⟨_, r16b a b i k (γ1, γ2) (δ1, δ2) out (b.getD k default) g n, ?_⟩
      simp only at hi hk hn hall ⊢
      have hs := putG_step a b i k
      have h1 : i < a.length → ord (a.getD i default) (b.getD k default) < 0 → putG (a.drop i) (b.drop k) = a.getD i default :: putG (a.drop (i + 1)) (b.drop k) := fun h h' => by rw [hs, if_pos hk, if_pos h, if_pos h']
      have h2 : i < a.length → ord (a.getD i default) (b.getD k default) = 0 → (b.getD k default).v = default → putG (a.drop i) (b.drop k) = putG (a.drop (i + 1)) (b.drop (k + 1)) := fun h h' h3 => by rw [hs, if_pos hk, if_pos h, if_neg (by omega), if_pos h', wr, if_pos h3]; rfl
      have h2' : i < a.length → ord (a.getD i default) (b.getD k default) = 0 → ¬ (b.getD k default).v = default → putG (a.drop i) (b.drop k) = b.getD k default :: putG (a.drop (i + 1)) (b.drop (k + 1)) := fun h h' h3 => by rw [hs, if_pos hk, if_pos h, if_neg (by omega), if_pos h', wr, if_neg h3]; rfl
      have h3 : i < a.length → 0 < ord (a.getD i default) (b.getD k default) → (b.getD k default).v = default → putG (a.drop i) (b.drop k) = putG (a.drop i) (b.drop (k + 1)) := fun h h' h3 => by rw [hs, if_pos hk, if_pos h, if_neg (by omega), if_neg (by omega), wr, if_pos h3]; rfl
      have h3' : i < a.length → 0 < ord (a.getD i default) (b.getD k default) → ¬ (b.getD k default).v = default → putG (a.drop i) (b.drop k) = b.getD k default :: putG (a.drop i) (b.drop (k + 1)) := fun h h' h3 => by rw [hs, if_pos hk, if_pos h, if_neg (by omega), if_neg (by omega), wr, if_neg h3]; rfl
      have h4 : ¬ i < a.length → (b.getD k default).v = default → putG (a.drop i) (b.drop k) = putG (a.drop i) (b.drop (k + 1)) := fun h h3 => by rw [hs, if_pos hk, if_neg h, wr, if_pos h3]; rfl
      have h4' : ¬ i < a.length → ¬ (b.getD k default).v = default → putG (a.drop i) (b.drop k) = b.getD k default :: putG (a.drop i) (b.drop (k + 1)) := fun h h3 => by rw [hs, if_pos hk, if_neg h, wr, if_neg h3]; rfl
      rw [hall]
      have hai : a.length ≤ i ↔ a.length = i := by omega
      simp only [TW, LcQ, v_zero]
      simp +contextual (disch := first | omega | assumption) [hai, p16a, p16b, w16a, w16b, c27, at_getD, -List.getD_eq_getElem?_getD, roomy, map_row_snoc, map_row_inj, crow_inj, h1, h2, h2', h3, h3', h4, h4', and_assoc, Sum.exists]
      repeat' (first | (intro _) | (refine And.intro ?_ ?_) | (refine Exists.intro k (And.intro rfl (And.intro rfl ?_))))
      all_goals (first | rfl | omega)
end Go.Proofs.Ytgjkdmjgefmcmaa
