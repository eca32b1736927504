/- A part of the proof: SCon10. -/
import Derived.Test.YtgfpbhbogfabmaaSCon9
set_option linter.unusedVariables false
set_option linter.unusedSimpArgs false
set_option linter.unnecessarySimpa false
set_option linter.unusedSectionVars false
namespace Go.Proofs.Ytgfpbhbogfabmaa
open Go Go.Vm Go.Proofs
theorem apply_nil (n : Int) (c : CellR) (u : List CellR) : applyS n [] (c :: u) = oneS n c :: applyS n [] u := by rw [applyS]
theorem apply_lt (n : Int) (s : SlotR) (l : List SlotR) (c : CellR) (u : List CellR) (h : ordP c.id c.field s.id s.field < 0) : applyS n (s :: l) (c :: u) = oneS n c :: applyS n (s :: l) u := by rw [applyS, if_pos h]
theorem apply_eq (n : Int) (s : SlotR) (l : List SlotR) (c : CellR) (u : List CellR) (h : ¬ ordP c.id c.field s.id s.field < 0) (h2 : c.id = s.id ∧ c.field = s.field) : applyS n (s :: l) (c :: u) = oneS n c :: applyS n l u := by rw [applyS, if_neg h, if_pos h2]
theorem apply_gt (n : Int) (s : SlotR) (l : List SlotR) (c : CellR) (u : List CellR) (h : ¬ ordP c.id c.field s.id s.field < 0) (h2 : ¬ (c.id = s.id ∧ c.field = s.field)) : applyS n (s :: l) (c :: u) = s :: applyS n l (c :: u) := by rw [applyS, if_neg h, if_neg h2]
theorem apply_end (n : Int) (s : SlotR) (l : List SlotR) : applyS n (s :: l) [] = s :: applyS n l [] := by rw [applyS, applyS]
inductive H13 where
  | a (δ : Stamp) (r : List SlotR) (γ : Stamp) (i j : Nat)
  | b (δ : Stamp) (r : List SlotR) (γ : Stamp) (i : Nat)
  | c (δ : Stamp) (r : List SlotR) (γ ε : Stamp) (i j : Nat)
  | an (γ : Stamp) (i j : Nat)
  | bn (γ : Stamp) (i : Nat)
  | cn (γ ε : Stamp) (i j : Nat)
def at13 : H13 → List Bool | .a .. => p13a | .b .. => p13b | .c .. => p13c | .an .. => p13an | .bn .. => p13bn | .cn .. => p13cn
section
variable (l : List SlotR) (n : Int) (ps qs : List (List TV)) (t : ByteArray) (w u : List CellR)
def vals13 : H13 → List TV
  | .a δ r γ i j => w13a l n ps qs t w δ r γ u i j
  | .b δ r γ i => w13b l n ps qs t w δ r γ u i
  | .c δ r γ ε i j => w13c l n ps qs t w δ r γ ε u (l.getD j default) i j
  | .an γ i j => w13an l n ps qs t w γ u i j
  | .bn γ i => w13bn l n ps qs t w γ u i
  | .cn γ ε i j => w13cn l n ps qs t w γ ε u (l.getD j default) i j
def inv13 : H13 → Prop
  | .a δ r γ i j => i ≤ u.length ∧ j ≤ l.length ∧ applyS n l u = r ++ applyS n (l.drop j) (u.drop i)
  | .b δ r γ i => i ≤ u.length ∧ applyS n l u = r ++ applyS n [] (u.drop i)
  | .c δ r γ ε i j => i ≤ u.length ∧ j < l.length ∧ applyS n l u = r ++ applyS n (l.drop j) (u.drop i)
  | .an γ i j => i ≤ u.length ∧ j ≤ l.length ∧ applyS n l u = [] ++ applyS n (l.drop j) (u.drop i)
  | .bn γ i => i ≤ u.length ∧ applyS n l u = [] ++ applyS n [] (u.drop i)
  | .cn γ ε i j => i ≤ u.length ∧ j < l.length ∧ applyS n l u = [] ++ applyS n (l.drop j) (u.drop i)
def mu13 : H13 → Nat
  | .a δ r γ i j => 3 * (l.length - j) + 3 * (u.length - i) + 3
  | .b δ r γ i => 3 * (u.length - i) + 1
  | .c δ r γ ε i j => 3 * (l.length - j) + 3 * (u.length - i) + 2
  | .an γ i j => 3 * (l.length - j) + 3 * (u.length - i) + 3
  | .bn γ i => 3 * (u.length - i) + 1
  | .cn γ ε i j => 3 * (l.length - j) + 3 * (u.length - i) + 2
end
theorem c13 (l : List SlotR) (n : Int) (ps qs : List (List TV)) (t : ByteArray) (w : List CellR) (hl : l.length ≤ 100000) (ha : ∀ s ∈ l, s.alts.length ≤ 1000000) (hu : (lastS w).length ≤ 100000)
    (h37 : callE Try.prog NoPhi 37 [.sl 6 (w.map CellR.row)] = some (.own (0, 0) 44 6 ((lastS w).map CellR.row))) :
    callE Try.prog NoPhi 13 [.agg [.sl 3 (l.map SlotR.row)], .agg [.int .i64 n, .sl 1 ps, .sl 1 qs, .str t, .sl 6 (w.map CellR.row)]] = some (.agg [.sl 3 ((applyS n l (lastS w)).map SlotR.row)]) := by
  have hlen := apply_len n l (lastS w)
  have he := e13 l n ps qs t w
  generalize lastS w = u at *
  refine call_heads (ι := H13) Try.f13 hd13 110 Try.func13 (by kernel_rfl) rfl at13 (by rintro (_ | _ | _ | _ | _ | _) <;> rfl) (vals13 l n ps qs t w u) (inv13 l n u) (mu13 l u) ⟨_, he, ?_⟩ (fun x nx hx g => ?_)
  · simp only [TW, LcQ, h37, true_and]
    exact ⟨.an (6, 0) 0 0, rfl, rfl, Nat.zero_le _, Nat.zero_le _, by simp⟩
  · rcases x with ⟨δ, r, γ, i, j⟩ | ⟨δ, r, γ, i⟩ | ⟨δ, r, γ, ε, i, j⟩ | ⟨γ, i, j⟩ | ⟨γ, i⟩ | ⟨γ, ε, i, j⟩
    · obtain ⟨hi, hj, hR⟩ := hx
      refine ⟨_, r13a l n ps qs t w δ r γ u i j g nx, ?_⟩
      by_cases hlt : j < l.length
      · have jC : ∀ ε, ∃ x, p13c = at13 x ∧ w13c l n ps qs t w δ r γ ε u (l.getD j default) i j = vals13 l n ps qs t w u x ∧ inv13 l n u x ∧ mu13 l u x < mu13 l u (.a δ r γ i j) := fun ε => ⟨.c δ r γ ε i j, rfl, rfl, ⟨hi, hlt, hR⟩, by simp only [mu13]; omega⟩
        simp only [w13c, p13c, List.length_map] at jC
        generalize mu13 l u (.a δ r γ i j) = M at *
        simp (disch := omega) [TW, LcQ, at_getD, -List.getD_eq_getElem?_getD, -Bool.default_bool, hlt]
        exact jC _
      · have hj2 : j = l.length := by omega
        have jB : ∃ x, p13b = at13 x ∧ w13b l n ps qs t w δ r γ u i = vals13 l n ps qs t w u x ∧ inv13 l n u x ∧ mu13 l u x < mu13 l u (.a δ r γ i j) := ⟨.b δ r γ i, rfl, rfl, ⟨hi, by rw [hR, List.drop_eq_nil_of_le (by omega : l.length ≤ j)]⟩, by simp only [mu13]; omega⟩
        simp only [w13b, p13b] at jB
        have h1 : ¬ ((j : Int) < (l.length : Int)) := by omega
        simp only [TW, LcQ, List.length_map, h1, decide_false, true_and]
        exact ⟨fun h => (by cases h), fun _ => jB⟩
    · obtain ⟨hi, hR⟩ := hx
      have hrl : r.length ≤ l.length + u.length := by rw [hR] at hlen; simp only [List.length_append] at hlen; omega
      have hro : roomy (r.length + 1) 40 = true := by simp [roomy]; omega
      refine ⟨_, r13b l n ps qs t w δ r γ u i g nx, ?_⟩
      by_cases hlt : i < u.length
      · have hw : IntKind.wrap .i64 ((i : Int) + 1) = ((i + 1 : Nat) : Int) := by rw [wrap64 _ (by omega) (by omega)]; rfl
        have h39 := c39 (u.getD i default) n
        simp only [CellR.row] at h39
        have jB : ∀ δ', ∃ x, p13b = at13 x ∧ w13b l n ps qs t w δ' (r ++ [oneS n (u.getD i default)]) γ u (i + 1) = vals13 l n ps qs t w u x ∧ inv13 l n u x ∧ mu13 l u x < mu13 l u (.b δ r γ i) := fun δ' =>
          ⟨.b δ' (r ++ [oneS n (u.getD i default)]) γ (i + 1), rfl, rfl, ⟨hlt, by rw [hR, drop_getD hlt, apply_nil]; simp⟩, by simp only [mu13]; omega⟩
        simp only [w13b, p13b, List.map_append, List.map_cons, List.map_nil, SlotR.row, oneS, List.nil_append] at jB
        generalize mu13 l u (.b δ r γ i) = M at *
        simp only [TW, LcQ, List.length_map, hw, h39, take_map_len, Nat.zero_add, List.map_cons, List.map_nil]
        simp (disch := omega) [at_getD, -List.getD_eq_getElem?_getD, -Bool.default_bool, hlt, hro, List.map_cons]
        simp [-List.getD_eq_getElem?_getD, -Bool.default_bool] at jB ⊢
        exact jB _ _
      · have h1 : ¬ ((i : Int) < (u.length : Int)) := by omega
        have hR2 : applyS n l u = r := by rw [hR, List.drop_eq_nil_of_le (by omega)]; simp [applyS]
        rw [hR2]
        simp [TW, LcQ, h1]
        try omega
    · obtain ⟨hi, hj, hR⟩ := hx
      have hrl : r.length ≤ l.length + u.length := by rw [hR] at hlen; simp only [List.length_append] at hlen; omega
      have hro : roomy (r.length + 1) 40 = true := by simp [roomy]; omega
      refine ⟨_, r13c l n ps qs t w δ r γ ε u (l.getD j default) i j g nx, ?_⟩
      have hwj : IntKind.wrap .i64 ((j : Int) + 1) = ((j + 1 : Nat) : Int) := by rw [wrap64 _ (by omega) (by omega)]; rfl
      have hwi : IntKind.wrap .i64 ((i : Int) + 1) = ((i + 1 : Nat) : Int) := by rw [wrap64 _ (by omega) (by omega)]; rfl
      have h29 := c29 (l.getD j default)
      have h40 := c40 ((l.getD j default).alts.map AltR.row) (by simpa using ha _ (getD_mem' hj))
      have h39 := c39 (u.getD i default) n
      have h38 := c38 (u.getD i default)
      simp only [CellR.row] at h39 h38
      simp only [SlotR.row] at h29
      have hdj : l.drop j = l.getD j default :: l.drop (j + 1) := drop_getD hj
      have jX : (¬ i < u.length ∨ (¬ ordP (u.getD i default).id (u.getD i default).field (l.getD j default).id (l.getD j default).field < 0 ∧ ¬ ((u.getD i default).id = (l.getD j default).id ∧ (u.getD i default).field = (l.getD j default).field))) →
          ∀ δ', ∃ x, p13a = at13 x ∧ w13a l n ps qs t w δ' (r ++ [l.getD j default]) γ u i (j + 1) = vals13 l n ps qs t w u x ∧ inv13 l n u x ∧ mu13 l u x < mu13 l u (.c δ r γ ε i j) := fun hc δ' =>
        ⟨.a δ' (r ++ [l.getD j default]) γ i (j + 1), rfl, rfl, ⟨hi, hj, by
          rw [hR, hdj]
          rcases Nat.lt_or_ge i u.length with h | h
          · rcases hc with hc | hc
            · exact absurd h hc
            · rw [drop_getD h, apply_gt _ _ _ _ _ hc.1 hc.2]; simp
          · rw [List.drop_eq_nil_of_le h, apply_end]; simp⟩, by simp only [mu13]; omega⟩
      have jL : i < u.length → ordP (u.getD i default).id (u.getD i default).field (l.getD j default).id (l.getD j default).field < 0 →
          ∀ δ', ∃ x, p13c = at13 x ∧ w13c l n ps qs t w δ' (r ++ [oneS n (u.getD i default)]) γ ε u (l.getD j default) (i + 1) j = vals13 l n ps qs t w u x ∧ inv13 l n u x ∧ mu13 l u x < mu13 l u (.c δ r γ ε i j) := fun h hc δ' =>
        ⟨.c δ' (r ++ [oneS n (u.getD i default)]) γ ε (i + 1) j, rfl, rfl, ⟨h, hj, by
          rw [hR, hdj, drop_getD h, apply_lt _ _ _ _ _ hc]; simp⟩, by simp only [mu13]; omega⟩
      have jE : i < u.length → ¬ ordP (u.getD i default).id (u.getD i default).field (l.getD j default).id (l.getD j default).field < 0 → (u.getD i default).id = (l.getD j default).id ∧ (u.getD i default).field = (l.getD j default).field →
          ∀ δ', ∃ x, p13a = at13 x ∧ w13a l n ps qs t w δ' (r ++ [oneS n (u.getD i default)]) γ u (i + 1) (j + 1) = vals13 l n ps qs t w u x ∧ inv13 l n u x ∧ mu13 l u x < mu13 l u (.c δ r γ ε i j) := fun h hc he δ' =>
        ⟨.a δ' (r ++ [oneS n (u.getD i default)]) γ (i + 1) (j + 1), rfl, rfl, ⟨h, hj, by
          rw [hR, hdj, drop_getD h, apply_eq _ _ _ _ _ hc he]; simp⟩, by simp only [mu13]; omega⟩
      clear hR hdj
      simp only [w13a, p13a, w13c, p13c, List.map_append, List.map_cons, List.map_nil, SlotR.row, oneS, List.nil_append, List.length_map] at jX jL jE
      simp only [TW, LcQ, List.length_map, hwi, hwj, h39, h38, h29, h40, c28, take_map_len, Nat.zero_add, List.map_cons, List.map_nil]
      generalize mu13 l u (.c δ r γ ε i j) = M at *
      by_cases hlt : i < u.length
      · by_cases ho : ordP (u.getD i default).id (u.getD i default).field (l.getD j default).id (l.getD j default).field < 0
        · have := jL hlt ho
          simp (disch := omega) [at_getD, -List.getD_eq_getElem?_getD, -Bool.default_bool, hlt, ho, hro, List.map_cons]
          simp [-List.getD_eq_getElem?_getD, -Bool.default_bool] at this ⊢
          exact this _ _
        · by_cases he2 : (u.getD i default).id = (l.getD j default).id ∧ (u.getD i default).field = (l.getD j default).field
          · have hb : ((u.getD i default).id == (l.getD j default).id && ((u.getD i default).field == (l.getD j default).field && true)) = true := by
              simp only [Bool.and_eq_true, beq_iff_eq, Bool.and_true]; exact he2
            have := jE hlt ho he2
            clear he2
            simp only [hb, ho, decide_false]
            simp (disch := omega) [at_getD, -List.getD_eq_getElem?_getD, -Bool.default_bool, hlt, hro, List.map_cons]
            simp [-List.getD_eq_getElem?_getD, -Bool.default_bool] at this ⊢
            exact this _ _
          · have hb : ((u.getD i default).id == (l.getD j default).id && ((u.getD i default).field == (l.getD j default).field && true)) = false := by
              rw [Bool.eq_false_iff]; simp only [ne_eq, Bool.and_eq_true, beq_iff_eq, Bool.and_true]; exact he2
            have := jX (.inr ⟨ho, he2⟩)
            simp only [hb, ho, decide_false]
            simp (disch := omega) [at_getD, -List.getD_eq_getElem?_getD, -Bool.default_bool, hlt, ho, hro, List.map_cons]
            simp [-List.getD_eq_getElem?_getD, -Bool.default_bool] at this ⊢
            exact this _ _
      · have := jX (.inl hlt)
        simp (disch := omega) [at_getD, -List.getD_eq_getElem?_getD, -Bool.default_bool, hlt, hro, List.map_cons]
        simp [-List.getD_eq_getElem?_getD, -Bool.default_bool] at this ⊢
        exact this _ _
    · obtain ⟨hi, hj, hR⟩ := hx
      refine ⟨_, r13an l n ps qs t w γ u i j g nx, ?_⟩
      by_cases hlt : j < l.length
      · have jC : ∀ ε, ∃ x, p13cn = at13 x ∧ w13cn l n ps qs t w γ ε u (l.getD j default) i j = vals13 l n ps qs t w u x ∧ inv13 l n u x ∧ mu13 l u x < mu13 l u (.an γ i j) := fun ε => ⟨.cn γ ε i j, rfl, rfl, ⟨hi, hlt, hR⟩, by simp only [mu13]; omega⟩
        simp only [w13cn, p13cn, List.length_map] at jC
        generalize mu13 l u (.an γ i j) = M at *
        simp (disch := omega) [TW, LcQ, at_getD, -List.getD_eq_getElem?_getD, -Bool.default_bool, hlt]
        exact jC _
      · have hj2 : j = l.length := by omega
        have jB : ∃ x, p13bn = at13 x ∧ w13bn l n ps qs t w γ u i = vals13 l n ps qs t w u x ∧ inv13 l n u x ∧ mu13 l u x < mu13 l u (.an γ i j) := ⟨.bn γ i, rfl, rfl, ⟨hi, by rw [hR, List.drop_eq_nil_of_le (by omega : l.length ≤ j)]⟩, by simp only [mu13]; omega⟩
        simp only [w13bn, p13bn] at jB
        have h1 : ¬ ((j : Int) < (l.length : Int)) := by omega
        simp only [TW, LcQ, List.length_map, h1, decide_false, true_and]
        exact ⟨fun h => (by cases h), fun _ => jB⟩
    · obtain ⟨hi, hR⟩ := hx
      refine ⟨_, r13bn l n ps qs t w γ u i g nx, ?_⟩
      by_cases hlt : i < u.length
      · have hw : IntKind.wrap .i64 ((i : Int) + 1) = ((i + 1 : Nat) : Int) := by rw [wrap64 _ (by omega) (by omega)]; rfl
        have h39 := c39 (u.getD i default) n
        simp only [CellR.row] at h39
        have jB : ∀ δ', ∃ x, p13b = at13 x ∧ w13b l n ps qs t w δ' ([] ++ [oneS n (u.getD i default)]) γ u (i + 1) = vals13 l n ps qs t w u x ∧ inv13 l n u x ∧ mu13 l u x < mu13 l u (.bn γ i) := fun δ' =>
          ⟨.b δ' ([] ++ [oneS n (u.getD i default)]) γ (i + 1), rfl, rfl, ⟨hlt, by rw [hR, drop_getD hlt, apply_nil]; simp⟩, by simp only [mu13]; omega⟩
        simp only [w13b, p13b, List.map_append, List.map_cons, List.map_nil, SlotR.row, oneS, List.nil_append] at jB
        generalize mu13 l u (.bn γ i) = M at *
        simp only [TW, LcQ, List.length_map, hw, h39, take_map_len, Nat.zero_add, List.map_cons, List.map_nil]
        simp (disch := omega) [at_getD, -List.getD_eq_getElem?_getD, -Bool.default_bool, hlt, List.map_cons]
        simp [-List.getD_eq_getElem?_getD, -Bool.default_bool] at jB ⊢
        exact jB _ _
      · have h1 : ¬ ((i : Int) < (u.length : Int)) := by omega
        have hR2 : applyS n l u = [] := by rw [hR, List.drop_eq_nil_of_le (by omega)]; simp [applyS]
        rw [hR2]
        simp [TW, LcQ, h1]
        try omega
    · obtain ⟨hi, hj, hR⟩ := hx
      refine ⟨_, r13cn l n ps qs t w γ ε u (l.getD j default) i j g nx, ?_⟩
      have hwj : IntKind.wrap .i64 ((j : Int) + 1) = ((j + 1 : Nat) : Int) := by rw [wrap64 _ (by omega) (by omega)]; rfl
      have hwi : IntKind.wrap .i64 ((i : Int) + 1) = ((i + 1 : Nat) : Int) := by rw [wrap64 _ (by omega) (by omega)]; rfl
      have h29 := c29 (l.getD j default)
      have h40 := c40 ((l.getD j default).alts.map AltR.row) (by simpa using ha _ (getD_mem' hj))
      have h39 := c39 (u.getD i default) n
      have h38 := c38 (u.getD i default)
      simp only [CellR.row] at h39 h38
      simp only [SlotR.row] at h29
      have hdj : l.drop j = l.getD j default :: l.drop (j + 1) := drop_getD hj
      have jX : (¬ i < u.length ∨ (¬ ordP (u.getD i default).id (u.getD i default).field (l.getD j default).id (l.getD j default).field < 0 ∧ ¬ ((u.getD i default).id = (l.getD j default).id ∧ (u.getD i default).field = (l.getD j default).field))) →
          ∀ δ', ∃ x, p13a = at13 x ∧ w13a l n ps qs t w δ' ([] ++ [l.getD j default]) γ u i (j + 1) = vals13 l n ps qs t w u x ∧ inv13 l n u x ∧ mu13 l u x < mu13 l u (.cn γ ε i j) := fun hc δ' =>
        ⟨.a δ' ([] ++ [l.getD j default]) γ i (j + 1), rfl, rfl, ⟨hi, hj, by
          rw [hR, hdj]
          rcases Nat.lt_or_ge i u.length with h | h
          · rcases hc with hc | hc
            · exact absurd h hc
            · rw [drop_getD h, apply_gt _ _ _ _ _ hc.1 hc.2]; simp
          · rw [List.drop_eq_nil_of_le h, apply_end]; simp⟩, by simp only [mu13]; omega⟩
      have jL : i < u.length → ordP (u.getD i default).id (u.getD i default).field (l.getD j default).id (l.getD j default).field < 0 →
          ∀ δ', ∃ x, p13c = at13 x ∧ w13c l n ps qs t w δ' ([] ++ [oneS n (u.getD i default)]) γ ε u (l.getD j default) (i + 1) j = vals13 l n ps qs t w u x ∧ inv13 l n u x ∧ mu13 l u x < mu13 l u (.cn γ ε i j) := fun h hc δ' =>
        ⟨.c δ' ([] ++ [oneS n (u.getD i default)]) γ ε (i + 1) j, rfl, rfl, ⟨h, hj, by
          rw [hR, hdj, drop_getD h, apply_lt _ _ _ _ _ hc]; simp⟩, by simp only [mu13]; omega⟩
      have jE : i < u.length → ¬ ordP (u.getD i default).id (u.getD i default).field (l.getD j default).id (l.getD j default).field < 0 → (u.getD i default).id = (l.getD j default).id ∧ (u.getD i default).field = (l.getD j default).field →
          ∀ δ', ∃ x, p13a = at13 x ∧ w13a l n ps qs t w δ' ([] ++ [oneS n (u.getD i default)]) γ u (i + 1) (j + 1) = vals13 l n ps qs t w u x ∧ inv13 l n u x ∧ mu13 l u x < mu13 l u (.cn γ ε i j) := fun h hc he δ' =>
        ⟨.a δ' ([] ++ [oneS n (u.getD i default)]) γ (i + 1) (j + 1), rfl, rfl, ⟨h, hj, by
          rw [hR, hdj, drop_getD h, apply_eq _ _ _ _ _ hc he]; simp⟩, by simp only [mu13]; omega⟩
      clear hR hdj
      simp only [w13a, p13a, w13c, p13c, List.map_append, List.map_cons, List.map_nil, SlotR.row, oneS, List.nil_append, List.length_map] at jX jL jE
      simp only [TW, LcQ, List.length_map, hwi, hwj, h39, h38, h29, h40, c28, take_map_len, Nat.zero_add, List.map_cons, List.map_nil]
      generalize mu13 l u (.cn γ ε i j) = M at *
      by_cases hlt : i < u.length
      · by_cases ho : ordP (u.getD i default).id (u.getD i default).field (l.getD j default).id (l.getD j default).field < 0
        · have := jL hlt ho
          simp (disch := omega) [at_getD, -List.getD_eq_getElem?_getD, -Bool.default_bool, hlt, ho, List.map_cons]
          simp [-List.getD_eq_getElem?_getD, -Bool.default_bool] at this ⊢
          exact this _ _
        · by_cases he2 : (u.getD i default).id = (l.getD j default).id ∧ (u.getD i default).field = (l.getD j default).field
          · have hb : ((u.getD i default).id == (l.getD j default).id && ((u.getD i default).field == (l.getD j default).field && true)) = true := by
              simp only [Bool.and_eq_true, beq_iff_eq, Bool.and_true]; exact he2
            have := jE hlt ho he2
            clear he2
            simp only [hb, ho, decide_false]
            simp (disch := omega) [at_getD, -List.getD_eq_getElem?_getD, -Bool.default_bool, hlt, List.map_cons]
            simp [-List.getD_eq_getElem?_getD, -Bool.default_bool] at this ⊢
            exact this _ _
          · have hb : ((u.getD i default).id == (l.getD j default).id && ((u.getD i default).field == (l.getD j default).field && true)) = false := by
              rw [Bool.eq_false_iff]; simp only [ne_eq, Bool.and_eq_true, beq_iff_eq, Bool.and_true]; exact he2
            have := jX (.inr ⟨ho, he2⟩)
            simp only [hb, ho, decide_false]
            simp (disch := omega) [at_getD, -List.getD_eq_getElem?_getD, -Bool.default_bool, hlt, ho, List.map_cons]
            simp [-List.getD_eq_getElem?_getD, -Bool.default_bool] at this ⊢
            exact this _ _
      · have := jX (.inl hlt)
        simp (disch := omega) [at_getD, -List.getD_eq_getElem?_getD, -Bool.default_bool, hlt, List.map_cons]
        simp [-List.getD_eq_getElem?_getD, -Bool.default_bool] at this ⊢
        exact this _ _
end Go.Proofs.Ytgfpbhbogfabmaa
