/- A part of the proof: Con2. -/
import Derived.Test.YtgjkdmjgefmcmaaCon1
set_option linter.unusedVariables false
set_option linter.unusedSimpArgs false
set_option linter.unnecessarySimpa false
set_option linter.unusedSectionVars false
namespace Go.Proofs.Ytgjkdmjgefmcmaa
open Go Go.Vm Go.Proofs
theorem drop_at {α : Type} [Inhabited α] {l : List α} {i : Nat} (h : i < l.length) : l.drop i = l.getD i default :: l.drop (i + 1) := by
  rw [List.drop_eq_getElem_cons h]; simp [List.getD, h]
theorem row_eq (id field : Int) (v : Val) : TV.int .i64 id :: TV.int .i64 field :: v.row = CellR.row ⟨id, field, v⟩ := rfl
@[simp] theorem zrow : [TV.int .i64 0, .bool false, .str ⟨#[]⟩, .int .i64 0] = (default : Val).row := rfl
@[simp] theorem zrowc (id field : Int) : [TV.int .i64 id, .int .i64 field, .int .i64 0, .bool false, .str ⟨#[]⟩, .int .i64 0] = CellR.row ⟨id, field, default⟩ := rfl
theorem vrow_inj (v w : Val) : v.row = w.row ↔ v = w := by
  cases v; cases w; simp [Val.row]
theorem crow_inj (v w : CellR) : v.row = w.row ↔ v = w := by
  rcases v with ⟨_, _, ⟨_, _, _, _⟩⟩; rcases w with ⟨_, _, ⟨_, _, _, _⟩⟩; simp [CellR.row]
theorem getS_step (l : List CellR) (i : Nat) (id field : Int) (h : i < l.length) : getS (l.drop i) id field = if (l.getD i default).id = id ∧ (l.getD i default).field = field then (l.getD i default).v else getS (l.drop (i + 1)) id field := by
  rw [drop_at h]; rfl
theorem c20 (l : List CellR) (id field : Int) (hl : l.length ≤ 1000) : callE Try.prog NoPhi 20 [.sl 6 (l.map CellR.row), .int .i64 id, .int .i64 field] = some (.agg (getS l id field).row) := by
  refine call_loop Try.f20 hd20 29 Try.func20 (by kernel_rfl) rfl p20 rfl _ (fun i => i ≤ l.length ∧ getS l id field = getS (l.drop i) id field) (fun i => l.length - i) ⟨_, e20 l id field, ?_⟩ (fun i n ⟨hi, hall⟩ g => ⟨_, r20 l id field i g n, ?_⟩)
  · exact ⟨rfl, rfl, 0, rfl, by simp⟩
  · have hs := getS_step l i id field
    have he : l.length ≤ i → getS l id field = default := fun h => by rw [hall, List.drop_eq_nil_of_le h]; rfl
    rw [hall] at he ⊢
    simp +contextual (disch := omega) [TW, LcQ, p20, at_getD, vrow_inj, -List.getD_eq_getElem?_getD]
    grind
theorem c22 (l : List CellR) (id field : Int) (hl : l.length ≤ 1000) : callE Try.prog NoPhi 22 [.sl 6 (l.map CellR.row), .int .i64 id, .int .i64 field] = some (.agg (getS l id field).row) := by
  refine call_loop Try.f22 hd22 36 Try.func22 (by kernel_rfl) rfl p22 rfl _ (fun i => i ≤ l.length ∧ getS l id field = getS (l.drop i) id field) (fun i => l.length - i) ⟨_, e22 l id field, ?_⟩ (fun i n ⟨hi, hall⟩ g => ⟨_, r22 l id field i g n, ?_⟩)
  · exact ⟨rfl, rfl, 0, rfl, by simp⟩
  · have hs := getS_step l i id field
    have he : l.length ≤ i → getS l id field = default := fun h => by rw [hall, List.drop_eq_nil_of_le h]; rfl
    rw [hall] at he ⊢
    simp +contextual (disch := omega) [TW, LcQ, p22, at_getD, vrow_inj, -List.getD_eq_getElem?_getD]
    grind
@[simp] theorem take_map {α β : Type} (f : α → β) (l : List α) : List.take l.length (List.map f l) = List.map f l := by
  rw [List.take_of_length_le (by simp)]
theorem map_row_inj : ∀ (a b : List CellR), List.map CellR.row a = List.map CellR.row b ↔ b = a
  | [], [] => by simp
  | [], _ :: _ => by simp
  | _ :: _, [] => by simp
  | x :: a, y :: b => by simp only [List.map_cons, List.cons.injEq, crow_inj, map_row_inj a b]; exact ⟨fun ⟨h1, h2⟩ => ⟨h1.symm, h2⟩, fun ⟨h1, h2⟩ => ⟨h1.symm, h2⟩⟩
theorem map_row_snoc (a b : List CellR) (c : CellR) : List.map CellR.row a ++ [c.row] = List.map CellR.row b ↔ b = a ++ [c] := by
  rw [← map_row_inj]; simp
theorem map_row_app (a b c : List CellR) : List.map CellR.row a ++ List.map CellR.row b = List.map CellR.row c ↔ c = a ++ b := by
  rw [← map_row_inj]; simp
theorem c23 (l : List CellR) (id : Int) (hl : l.length ≤ 1000) : callE Try.prog NoPhi 23 [.sl 6 (l.map CellR.row), .int .i64 id] = some (.own (0, 0) 31 6 ((ofS l id).map CellR.row)) := by
  refine call_loop (ι := Nat × Stamp × List CellR) Try.f23 hd23 24 Try.func23 (by kernel_rfl) rfl p23 rfl _ (fun x => x.1 ≤ l.length ∧ x.2.2.length ≤ x.1 ∧ ofS l id = x.2.2 ++ ofS (l.drop x.1) id) (fun x => l.length - x.1) ⟨_, e23 l id, ?_⟩ (fun x n ⟨hi, hn, hall⟩ g => ⟨_, r23 l id x.1 x.2.1 x.2.2 g n, ?_⟩)
  · exact ⟨rfl, rfl, (0, (2, 0), []), rfl, by simp⟩
  · obtain ⟨i, ⟨γ1, γ2⟩, out⟩ := x
    simp only at hi hn hall ⊢
    have hs : i < l.length → ofS (l.drop i) id = (if (l.getD i default).id = id then [l.getD i default] else []) ++ ofS (l.drop (i + 1)) id := fun h => by
      rw [drop_at h]; simp only [ofS, List.filter_cons, beq_iff_eq]; split <;> rfl
    have he : l.length ≤ i → ofS (l.drop i) id = [] := fun h => by rw [List.drop_eq_nil_of_le h]; rfl
    rw [hall]
    simp +contextual (disch := omega) [TW, LcQ, p23, at_getD, -List.getD_eq_getElem?_getD, roomy, map_row_snoc, map_row_inj, he, hs]
    grind
theorem c24 (l : List CellR) (id : Int) (hl : l.length ≤ 1000) : callE Try.prog NoPhi 24 [.sl 6 (l.map CellR.row), .int .i64 id] = some (.own (0, 0) 31 6 ((ofS l id).map CellR.row)) := by
  refine call_loop (ι := Nat × Stamp × List CellR) Try.f24 hd24 28 Try.func24 (by kernel_rfl) rfl p24 rfl _ (fun x => x.1 ≤ l.length ∧ x.2.2.length ≤ x.1 ∧ ofS l id = x.2.2 ++ ofS (l.drop x.1) id) (fun x => l.length - x.1) ⟨_, e24 l id, ?_⟩ (fun x n ⟨hi, hn, hall⟩ g => ⟨_, r24 l id x.1 x.2.1 x.2.2 g n, ?_⟩)
  · exact ⟨rfl, rfl, (0, (2, 0), []), rfl, by simp⟩
  · obtain ⟨i, ⟨γ1, γ2⟩, out⟩ := x
    simp only at hi hn hall ⊢
    have hs : i < l.length → ofS (l.drop i) id = (if (l.getD i default).id = id then [l.getD i default] else []) ++ ofS (l.drop (i + 1)) id := fun h => by
      rw [drop_at h]; simp only [ofS, List.filter_cons, beq_iff_eq]; split <;> rfl
    have he : l.length ≤ i → ofS (l.drop i) id = [] := fun h => by rw [List.drop_eq_nil_of_le h]; rfl
    rw [hall]
    simp +contextual (disch := omega) [TW, LcQ, p24, at_getD, -List.getD_eq_getElem?_getD, roomy, map_row_snoc, map_row_inj, he, hs]
    grind
theorem c30 (l : List CellR) (hl : l.length ≤ 2000) : callE Try.prog NoPhi 30 [.sl 6 (l.map CellR.row)] = some (.own (0, 0) 31 6 ((solidS l).map CellR.row)) := by
  refine call_loop (ι := Nat × Stamp × List CellR) Try.f30 hd30 26 Try.func30 (by kernel_rfl) rfl p30 rfl _ (fun x => x.1 ≤ l.length ∧ x.2.2.length ≤ x.1 ∧ solidS l = x.2.2 ++ solidS (l.drop x.1)) (fun x => l.length - x.1) ⟨_, e30 l, ?_⟩ (fun x n ⟨hi, hn, hall⟩ g => ⟨_, r30 l x.1 x.2.1 x.2.2 g n, ?_⟩)
  · exact ⟨rfl, rfl, (0, (2, 0), []), rfl, by simp⟩
  · obtain ⟨i, ⟨γ1, γ2⟩, out⟩ := x
    simp only at hi hn hall ⊢
    have hs : i < l.length → solidS (l.drop i) = (if (l.getD i default).v = default then [] else [l.getD i default]) ++ solidS (l.drop (i + 1)) := fun h => by
      rw [drop_at h]; simp only [solidS, List.filter_cons, bne_iff_ne, ne_eq, ite_not]; split <;> rfl
    have he : l.length ≤ i → solidS (l.drop i) = [] := fun h => by rw [List.drop_eq_nil_of_le h]; rfl
    rw [hall]
    simp only [TW, LcQ, v_zero]
    simp +contextual (disch := omega) [p30, at_getD, -List.getD_eq_getElem?_getD, roomy, map_row_snoc, map_row_inj, he, hs]
    grind
theorem c_eq (a b : CellR) : (a.id == b.id && (a.field == b.field && (a.v.n == b.v.n && (a.v.flag == b.v.flag && (a.v.text.toList == b.v.text.toList && (a.v.ref == b.v.ref && true)))))) = decide (a = b) := by
  rw [v_eq]
  rcases a with ⟨i, f, v⟩; rcases b with ⟨i', f', v'⟩
  rw [Bool.eq_iff_iff]; simp
theorem c15 (a b : List CellR) (ha : a.length ≤ 2000) : callE Try.prog NoPhi 15 [.sl 6 (a.map CellR.row), .sl 6 (b.map CellR.row)] = some (.bool (a == b)) := by
  refine call_loop Try.f15 hd15 26 Try.func15 (by kernel_rfl) rfl p15 rfl _ (fun i => i ≤ a.length ∧ a.length = b.length ∧ (a == b) = (a.drop i == b.drop i)) (fun i => a.length - i) ⟨_, e15 a b, ?_⟩ (fun i n ⟨hi, hn, hall⟩ g => ⟨_, r15 a b i g n, ?_⟩)
  · have h : a.length ≠ b.length → (a == b) = false := fun h => by rw [Bool.eq_false_iff]; intro h'; rw [beq_iff_eq.1 h'] at h; exact h rfl
    simp +contextual [TW, LcQ, p15]
    exact fun h h' => h (by rw [h'])
  · have hs : i < a.length → (a.drop i == b.drop i) = (decide (a.getD i default = b.getD i default) && (a.drop (i + 1) == b.drop (i + 1))) := fun h => by
      rw [drop_at h, drop_at (show i < b.length by omega)]; rw [Bool.eq_iff_iff]; simp
    have he : a.length ≤ i → (a.drop i == b.drop i) = true := fun h => by rw [List.drop_eq_nil_of_le h, List.drop_eq_nil_of_le (by omega)]; rfl
    rw [hall]
    simp only [TW, LcQ, c_eq]
    simp +contextual (disch := omega) [p15, at_getD, -List.getD_eq_getElem?_getD, he, hs, hn]
    exact fun h _ => by omega
theorem overS_step (a b : List CellR) (i k : Nat) : overS (a.drop i) (b.drop k) = if i < a.length then (if k < b.length then (if ord (a.getD i default) (b.getD k default) < 0 then a.getD i default :: overS (a.drop (i + 1)) (b.drop k) else if ord (a.getD i default) (b.getD k default) = 0 then overS (a.drop (i + 1)) (b.drop k) else b.getD k default :: overS (a.drop i) (b.drop (k + 1))) else a.getD i default :: overS (a.drop (i + 1)) (b.drop k)) else if k < b.length then b.getD k default :: overS (a.drop i) (b.drop (k + 1)) else [] := by
  split
  · rename_i h
    rw [drop_at h]
    split
    · rename_i h2
      rw [drop_at h2, overS]
    · rename_i h2
      rw [List.drop_eq_nil_of_le (show b.length ≤ k by omega), overS]
      cases a.drop (i + 1) <;> simp [overS]
  · rename_i h
    rw [List.drop_eq_nil_of_le (show a.length ≤ i by omega), overS]
    split
    · rename_i h2
      rw [drop_at h2, overS]
    · rename_i h2
      rw [List.drop_eq_nil_of_le (show b.length ≤ k by omega)]
theorem c31 (a b : List CellR) (ha : a.length ≤ 1000) (hb : b.length ≤ 1000) : callE Try.prog NoPhi 31 [.sl 6 (a.map CellR.row), .sl 6 (b.map CellR.row)] = some (.own (0, 0) 31 6 ((overS a b).map CellR.row)) := by
  refine call_loop (ι := Nat × Nat × Stamp × List CellR) Try.f31 hd31 77 Try.func31 (by kernel_rfl) rfl p31 rfl _ (fun x => x.1 ≤ a.length ∧ x.2.1 ≤ b.length ∧ x.2.2.2.length ≤ x.1 + x.2.1 ∧ overS a b = x.2.2.2 ++ overS (a.drop x.1) (b.drop x.2.1)) (fun x => (a.length - x.1) + (b.length - x.2.1)) ⟨_, e31 a b, ?_⟩ (fun x n ⟨hi, hk, hn, hall⟩ g => ⟨_, r31 a b x.1 x.2.1 x.2.2.1 x.2.2.2 g n, ?_⟩)
  · exact ⟨rfl, rfl, (0, 0, (2, 0), []), rfl, by simp⟩
  · obtain ⟨i, k, ⟨γ1, γ2⟩, out⟩ := x
    simp only at hi hk hn hall ⊢
    have hs := overS_step a b i k
    have h1 : i < a.length → k < b.length → ord (a.getD i default) (b.getD k default) < 0 → overS (a.drop i) (b.drop k) = a.getD i default :: overS (a.drop (i + 1)) (b.drop k) := fun h1 h2 h3 => by rw [hs, if_pos h1, if_pos h2, if_pos h3]
    have h2 : i < a.length → k < b.length → ord (a.getD i default) (b.getD k default) = 0 → overS (a.drop i) (b.drop k) = overS (a.drop (i + 1)) (b.drop k) := fun h1 h2 h3 => by rw [hs, if_pos h1, if_pos h2, if_neg (by omega), if_pos h3]
    have h3 : i < a.length → k < b.length → 0 < ord (a.getD i default) (b.getD k default) → overS (a.drop i) (b.drop k) = b.getD k default :: overS (a.drop i) (b.drop (k + 1)) := fun h1 h2 h3 => by rw [hs, if_pos h1, if_pos h2, if_neg (by omega), if_neg (by omega)]
    have h4 : i < a.length → ¬ k < b.length → overS (a.drop i) (b.drop k) = a.getD i default :: overS (a.drop (i + 1)) (b.drop k) := fun h1 h2 => by rw [hs, if_pos h1, if_neg h2]
    have h5 : ¬ i < a.length → k < b.length → overS (a.drop i) (b.drop k) = b.getD k default :: overS (a.drop i) (b.drop (k + 1)) := fun h1 h2 => by rw [hs, if_neg h1, if_pos h2]
    have h6 : ¬ i < a.length → ¬ k < b.length → overS (a.drop i) (b.drop k) = [] := fun h1 h2 => by rw [hs, if_neg h1, if_neg h2]
    clear hs
    rw [hall]
    simp +contextual (disch := omega) [TW, LcQ, p31, c29, c21, at_getD, -List.getD_eq_getElem?_getD, roomy, map_row_snoc, map_row_inj, h1, h2, h3, h4, h5, h6, and_assoc]
    repeat' (first | (intro _) | (refine And.intro ?_ ?_))
    all_goals omega
end Go.Proofs.Ytgjkdmjgefmcmaa
