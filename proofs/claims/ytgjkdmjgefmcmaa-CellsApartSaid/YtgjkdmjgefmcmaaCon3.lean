/- A part of the proof: Con3. -/
import Derived.Test.YtgjkdmjgefmcmaaCon2
set_option linter.unusedVariables false
set_option linter.unusedSimpArgs false
set_option linter.unnecessarySimpa false
set_option linter.unusedSectionVars false
namespace Go.Proofs.Ytgjkdmjgefmcmaa
open Go Go.Vm Go.Proofs
theorem solid_len (l : List CellR) : (solidS l).length ≤ l.length := List.length_filter_le _ _
theorem over_len : ∀ a b : List CellR, (overS a b).length ≤ a.length + b.length := by
  intro a b
  induction a, b using overS.induct <;> (unfold overS; simp_all; try (first | omega | (split <;> simp_all <;> omega)))
theorem c17 (a b : List CellR) (ha : a.length ≤ 1000) (hb : b.length ≤ 1000) : callE Try.prog NoPhi 17 [.sl 6 (a.map CellR.row), .sl 6 (b.map CellR.row)] = some (.own (0, 0) 31 6 ((putR a b).map CellR.row)) := by
  refine call_flat Try.f17 Try.func17 (by kernel_rfl) rfl ⟨_, e17 a b, ?_⟩
  have hl := over_len a b
  simp +contextual (disch := omega) [TW, LcQ, c12, c14, c31, c30, putR]
theorem c25 (n : Int) (v : Val) : callE Try.prog NoPhi 25 [.int .i64 n, .agg v.row] = some (.own (0, 0) 31 6 ([CellR.mk 1048577 n v].map CellR.row)) := by
  refine call_flat Try.f25 Try.func25 (by kernel_rfl) rfl ⟨_, e25 n v, ?_⟩
  simp [TW, LcQ, row_eq]
theorem flat_step (f : CellR → List CellR) (l : List CellR) (i : Nat) (h : i < l.length) : (l.drop i).flatMap f = f (l.getD i default) ++ (l.drop (i + 1)).flatMap f := by
  rw [drop_at h]; rfl
theorem c19 (a b : List CellR) (ha : a.length ≤ 1000) (hb : b.length ≤ 1000) : callE Try.prog NoPhi 19 [.sl 6 (a.map CellR.row), .sl 6 (b.map CellR.row)] = some (.own (0, 0) 31 6 ((diffR a b).map CellR.row)) := by
  have hl := over_len a b
  refine call_loop (ι := Nat × Stamp × Stamp × List CellR) Try.f19 hd19 68 Try.func19 (by kernel_rfl) rfl p19 rfl (fun x => w19 a b x.1 x.2.1 x.2.2.1 x.2.2.2 (overS a b)) (fun x => x.1 ≤ (overS a b).length ∧ x.2.2.2.length ≤ x.1 ∧ diffR a b = x.2.2.2 ++ ((overS a b).drop x.1).flatMap (dOne a b)) (fun x => (overS a b).length - x.1) ⟨_, e19 a b, ?_⟩ (fun x n ⟨hi, hn, hall⟩ g => ⟨_, r19 a b x.1 x.2.1 x.2.2.1 x.2.2.2 (overS a b) g n, ?_⟩)
  · simp +contextual (disch := omega) [TW, LcQ, p19, c12, c31, diffR, w19]
    exact fun _ _ => ⟨0, 10, 0, 13, 0, [], by simp⟩
  · obtain ⟨i, ⟨γ1, γ2⟩, ⟨δ1, δ2⟩, out⟩ := x
    simp only at hi hn hall ⊢
    generalize hL : overS a b = L at *
    have h1 : i < L.length → getS b (L.getD i default).id (L.getD i default).field = getS a (L.getD i default).id (L.getD i default).field → (L.drop i).flatMap (dOne a b) = (L.drop (i + 1)).flatMap (dOne a b) := fun h1 h2 => by
      rw [flat_step _ _ _ h1, dOne, if_pos h2]; rfl
    have h2 : i < L.length → ¬ getS b (L.getD i default).id (L.getD i default).field = getS a (L.getD i default).id (L.getD i default).field → (L.drop i).flatMap (dOne a b) = ⟨(L.getD i default).id, (L.getD i default).field, getS b (L.getD i default).id (L.getD i default).field⟩ :: (L.drop (i + 1)).flatMap (dOne a b) := fun h1 h2 => by
      rw [flat_step _ _ _ h1, dOne, if_neg h2]; rfl
    have h3 : L.length ≤ i → (L.drop i).flatMap (dOne a b) = [] := fun h => by rw [List.drop_eq_nil_of_le h]; rfl
    rw [hall]
    simp only [TW, LcQ, v_eq, row_eq]
    simp +contextual (disch := omega) [p19, w19, c22, at_getD, -List.getD_eq_getElem?_getD, roomy, map_row_snoc, map_row_inj, h1, h2, h3, and_assoc]
    repeat' (first | (intro _) | (refine And.intro ?_ ?_))
    all_goals omega
theorem diffG_step (a b : List CellR) (i k : Nat) : diffG (a.drop i) (b.drop k) = if i < a.length then (if k < b.length then (if ord (a.getD i default) (b.getD k default) < 0 then ⟨(a.getD i default).id, (a.getD i default).field, default⟩ :: diffG (a.drop (i + 1)) (b.drop k) else if ord (a.getD i default) (b.getD k default) > 0 then b.getD k default :: diffG (a.drop i) (b.drop (k + 1)) else (if (a.getD i default).v = (b.getD k default).v then [] else [b.getD k default]) ++ diffG (a.drop (i + 1)) (b.drop (k + 1))) else ⟨(a.getD i default).id, (a.getD i default).field, default⟩ :: diffG (a.drop (i + 1)) (b.drop k)) else if k < b.length then b.getD k default :: diffG (a.drop i) (b.drop (k + 1)) else [] := by
  split
  · rename_i h
    rw [drop_at h]
    split
    · rename_i h2
      rw [drop_at h2, diffG]
    · rename_i h2
      rw [List.drop_eq_nil_of_le (show b.length ≤ k by omega), diffG]
  · rename_i h
    rw [List.drop_eq_nil_of_le (show a.length ≤ i by omega), diffG]
    split
    · rename_i h2
      rw [drop_at h2, diffG]
    · rename_i h2
      rw [List.drop_eq_nil_of_le (show b.length ≤ k by omega)]
theorem c18 (a b : List CellR) (ha : a.length ≤ 1000) (hb : b.length ≤ 1000) : callE Try.prog NoPhi 18 [.sl 6 (a.map CellR.row), .sl 6 (b.map CellR.row)] = some (.own (0, 0) 31 6 ((diffS a b).map CellR.row)) := by
  refine call_loop (ι := Nat × Nat × Stamp × List CellR) Try.f18 hd18 114 Try.func18 (by kernel_rfl) rfl p18 rfl (fun x => w18 a b x.1 x.2.1 x.2.2.1 x.2.2.2) (fun x => x.1 ≤ a.length ∧ x.2.1 ≤ b.length ∧ x.2.2.2.length ≤ x.1 + x.2.1 ∧ diffS a b = x.2.2.2 ++ diffG (a.drop x.1) (b.drop x.2.1)) (fun x => (a.length - x.1) + (b.length - x.2.1)) ⟨_, e18 a b, ?_⟩ (fun x n ⟨hi, hk, hn, hall⟩ g => ⟨_, r18 a b x.1 x.2.1 x.2.2.1 x.2.2.2 g n, ?_⟩)
  · simp +contextual (disch := omega) [TW, LcQ, p18, c11, diffS, w18]
    exact fun _ _ => ⟨0, 0, 10, 0, [], by simp⟩
  · obtain ⟨i, k, ⟨γ1, γ2⟩, out⟩ := x
    simp only at hi hk hn hall ⊢
    have hs := diffG_step a b i k
    have h1 : i < a.length → k < b.length → ord (a.getD i default) (b.getD k default) < 0 → diffG (a.drop i) (b.drop k) = ⟨(a.getD i default).id, (a.getD i default).field, default⟩ :: diffG (a.drop (i + 1)) (b.drop k) := fun h1 h2 h3 => by rw [hs, if_pos h1, if_pos h2, if_pos h3]
    have h2 : i < a.length → k < b.length → ord (a.getD i default) (b.getD k default) = 0 → (a.getD i default).v = (b.getD k default).v → diffG (a.drop i) (b.drop k) = diffG (a.drop (i + 1)) (b.drop (k + 1)) := fun h1 h2 h3 h4 => by rw [hs, if_pos h1, if_pos h2, if_neg (by omega), if_neg (by omega), if_pos h4]; rfl
    have h2' : i < a.length → k < b.length → ord (a.getD i default) (b.getD k default) = 0 → ¬ (a.getD i default).v = (b.getD k default).v → diffG (a.drop i) (b.drop k) = b.getD k default :: diffG (a.drop (i + 1)) (b.drop (k + 1)) := fun h1 h2 h3 h4 => by rw [hs, if_pos h1, if_pos h2, if_neg (by omega), if_neg (by omega), if_neg h4]; rfl
    have h3 : i < a.length → k < b.length → 0 < ord (a.getD i default) (b.getD k default) → diffG (a.drop i) (b.drop k) = b.getD k default :: diffG (a.drop i) (b.drop (k + 1)) := fun h1 h2 h3 => by rw [hs, if_pos h1, if_pos h2, if_neg (by omega), if_pos h3]
    have h4 : i < a.length → ¬ k < b.length → diffG (a.drop i) (b.drop k) = ⟨(a.getD i default).id, (a.getD i default).field, default⟩ :: diffG (a.drop (i + 1)) (b.drop k) := fun h1 h2 => by rw [hs, if_pos h1, if_neg h2]
    have h5 : ¬ i < a.length → k < b.length → diffG (a.drop i) (b.drop k) = b.getD k default :: diffG (a.drop i) (b.drop (k + 1)) := fun h1 h2 => by rw [hs, if_neg h1, if_pos h2]
    have h6 : ¬ i < a.length → ¬ k < b.length → diffG (a.drop i) (b.drop k) = [] := fun h1 h2 => by rw [hs, if_neg h1, if_neg h2]
    clear hs
    rw [hall]
    simp only [TW, LcQ, v_eq, row_eq]
    have hai : a.length ≤ i ↔ a.length = i := by omega
    simp +contextual (disch := first | omega | assumption) [hai, row_eq, p18, w18, c27, at_getD, -List.getD_eq_getElem?_getD, roomy, map_row_snoc, map_row_inj, h1, h2, h2', h3, h4, h5, h6, and_assoc]
    repeat' (first | (intro _) | (refine And.intro ?_ ?_))
    all_goals omega
theorem putG_step (a b : List CellR) (i k : Nat) : putG (a.drop i) (b.drop k) = if k < b.length then (if i < a.length then (if ord (a.getD i default) (b.getD k default) < 0 then a.getD i default :: putG (a.drop (i + 1)) (b.drop k) else if ord (a.getD i default) (b.getD k default) = 0 then wr (b.getD k default) ++ putG (a.drop (i + 1)) (b.drop (k + 1)) else wr (b.getD k default) ++ putG (a.drop i) (b.drop (k + 1))) else wr (b.getD k default) ++ putG (a.drop i) (b.drop (k + 1))) else a.drop i := by
  split
  · rename_i h
    rw [drop_at h]
    split
    · rename_i h2
      rw [drop_at h2, putG]
    · rename_i h2
      rw [List.drop_eq_nil_of_le (show a.length ≤ i by omega), putG]
  · rename_i h
    rw [List.drop_eq_nil_of_le (show b.length ≤ k by omega), putG]
end Go.Proofs.Ytgjkdmjgefmcmaa
