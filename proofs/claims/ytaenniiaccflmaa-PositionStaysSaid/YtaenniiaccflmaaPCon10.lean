/- A part of the proof: PCon10. -/
import Derived.Test.YtaenniiaccflmaaPCon9
import Derived.Test.YtaenniiaccflmaaPBet
set_option linter.unusedVariables false
set_option linter.unusedSimpArgs false
set_option linter.unnecessarySimpa false
set_option linter.unusedSectionVars false
namespace Go.Proofs.Ytaenniiaccflmaa
open Go Go.Vm Go.Proofs
theorem valid_num {s : ByteArray} (h : validK s = true) : low (bts s) ∧ 1 ≤ s.size ∧ s.size ≤ 60 ∧ numK s % 26 ≠ 0 := by
  obtain ⟨h1, h2, h3⟩ := valid_low h
  obtain ⟨h4, _⟩ := strK_num s h1
  rw [← h4, valid_strK _ _ h3 h2] at h
  exact ⟨h1, h3, h2, of_decide_eq_true h⟩
theorem ok_cases {s : ByteArray} (h : okK validK s = true) : low (bts s) ∧ (s.size = 0 ∨ numK s % 26 ≠ 0) ∧ s.size ≤ 60 ∧ (s.size ≠ 0 → validK s = true) := by
  obtain ⟨h1, h2⟩ := ok_low h
  unfold okK at h
  rw [Bool.or_eq_true] at h
  rcases h with h | h
  · have h0 : s.size = 0 := of_decide_eq_true h
    exact ⟨h1, .inl h0, h2, fun h => absurd h0 h⟩
  · exact ⟨h1, .inr (valid_num h).2.2.2, h2, fun _ => h⟩
/-- What 'Between' answers. -/
theorem bet_spec (lo hi : ByteArray) : (betK lo hi = (⟨#[]⟩, 5) ∧ ¬ (okK validK lo = true ∧ okK validK hi = true)) ∨
    (betK lo hi = (⟨#[]⟩, 12) ∧ okK validK lo = true ∧ okK validK hi = true ∧ lo.size ≠ 0 ∧ hi.size ≠ 0 ∧ ltK lo hi = false) ∨
    (okK validK lo = true ∧ okK validK hi = true ∧ (lo.size = 0 ∨ hi.size = 0 ∨ ltK lo hi = true) ∧
      ((betK lo hi = (⟨#[]⟩, 17) ∧ ∀ m, 1 ≤ m → m ≤ 60 → (levelK lo hi m).length = 0) ∨ ∃ n k, 1 ≤ n ∧ n ≤ 60 ∧ k ∈ levelK lo hi n ∧ betK lo hi = (strK n k, 0) ∧ ∀ m, 1 ≤ m → m ≤ 60 → (levelK lo hi m).length ≠ 0 → n ≤ m)) := by
  by_cases h : (okK validK lo && okK validK hi) = true
  · have h' := h
    rw [Bool.and_eq_true] at h'
    by_cases h2 : lo.size ≠ 0 ∧ hi.size ≠ 0 ∧ ltK lo hi = false
    · refine .inr (.inl ⟨?_, h'.1, h'.2, h2⟩)
      unfold betK betG; rw [if_pos h, if_pos h2]
    · have hb : betK lo hi = betF lo hi 1 60 := by unfold betK betG; rw [if_pos h, if_neg h2]
      refine .inr (.inr ⟨h'.1, h'.2, ?_, ?_⟩)
      · by_cases a : lo.size = 0
        · exact .inl a
        · by_cases b : hi.size = 0
          · exact .inr (.inl b)
          · refine .inr (.inr ?_)
            cases hc : ltK lo hi with
            | true => rfl
            | false => exact absurd ⟨a, b, hc⟩ h2
      · rw [hb]
        rcases bet_cases lo hi 60 1 with ⟨h3, h4⟩ | ⟨n, k, h3, h4, h5, h6⟩
        · exact .inl ⟨h3, fun m h5 h6 => h4 m h5 (by omega)⟩
        · refine .inr ⟨n, k, h3, by omega, h5, h6, fun m h7 h8 h9 => ?_⟩
          obtain ⟨n', k', h10, h11, h12, h13⟩ := bet_found lo hi m h9 60 1 h7 (by omega)
          rw [h6] at h13
          have : strK n k = strK n' k' := (Prod.mk.inj h13).1
          have h14 : n = n' := by rw [← strK_size n k, this, strK_size]
          omega
  · refine .inl ⟨?_, fun h2 => h (by rw [h2.1, h2.2]; rfl)⟩
    unfold betK betG; rw [if_neg h]
theorem short_main (lo hi key : ByteArray) (hv : validK key = true) (hlo : lo.size = 0 ∨ ltK lo key = true) (hhi : hi.size = 0 ∨ ltK key hi = true) : (betK lo hi).2 = 5 ∨ ((betK lo hi).2 = 0 ∧ (betK lo hi).1.size ≤ key.size) := by
  obtain ⟨k1, k2, k3, k4⟩ := valid_num hv
  rcases bet_spec lo hi with ⟨h, _⟩ | ⟨h, h1, h2, h3, h4, h5⟩ | ⟨h1, h2, h3, h4⟩
  · exact .inl (by rw [h])
  · exfalso
    have a := hlo.elim (fun h => absurd h h3) id
    have b := hhi.elim (fun h => absurd h h4) id
    rw [ordK.trans _ _ _ a b] at h5; cases h5
  · obtain ⟨l1, _, _, _⟩ := ok_cases h1
    obtain ⟨l2, _, _, _⟩ := ok_cases h2
    have hin := in_level l1 l2 k1 k2 k4 hlo hhi
    have hne : (levelK lo hi key.size).length ≠ 0 := fun h => by rw [List.length_eq_zero_iff.1 h] at hin; simp at hin
    rcases h4 with ⟨_, h6⟩ | ⟨n, k, h5, h6, h7, h8, h9⟩
    · exact absurd (h6 key.size k2 k3) hne
    · refine .inr ⟨by rw [h8], ?_⟩
      rw [h8]; show (strK n k).size ≤ _
      rw [strK_size]; exact h9 key.size k2 k3 hne
theorem l7 (lo : ByteArray) (y1 : lo.size ≤ 9223372036854775807) (hi : ByteArray) (y2 : hi.size ≤ 9223372036854775807) (key : ByteArray) (y3 : key.size ≤ 9223372036854775807) : callE Try.prog NoPhi 7 [.str lo, .str hi, .str key] = some (.bool true) := by
  refine call_flat Try.f7 Try.func7 (by kernel_rfl) rfl ⟨_, e7 lo hi key, ?_⟩
  have hm := short_main lo hi key
  have e1 : Op.bytesLess lo.toList key.toList = ltK lo key := rfl
  have e2 : Op.bytesLess key.toList hi.toList = ltK key hi := rfl
  have e3 : decide (((betK lo hi).1.size : Int) ≤ (key.size : Int)) = decide ((betK lo hi).1.size ≤ key.size) := by
    rw [Bool.eq_iff_iff, decide_eq_true_eq, decide_eq_true_eq]; omega
  have e4 : ((betK lo hi).2 == 5) = decide ((betK lo hi).2 = 5) := by rw [Bool.eq_iff_iff, beq_iff_eq, decide_eq_true_eq]
  have e5 : ((betK lo hi).2 == 0) = decide ((betK lo hi).2 = 0) := by rw [Bool.eq_iff_iff, beq_iff_eq, decide_eq_true_eq]
  have hm' : validK key = true → (decide (lo.size = 0) || ltK lo key) = true → (decide (hi.size = 0) || ltK key hi) = true → (decide ((betK lo hi).2 = 5) || (decide ((betK lo hi).2 = 0) && decide ((betK lo hi).1.size ≤ key.size))) = true := fun h1 h2 h3 => by
    have := hm h1 (by simpa using h2) (by simpa using h3)
    simpa using this
  have c12' := c12 lo hi
  clear hm
  simp only [TW, LcQ, c11, c12', c14, empty_iff, e1, e2, e3, e4, e5]
  generalize decide ((betK lo hi).2 = 5) = A5 at *
  generalize decide ((betK lo hi).2 = 0) = A0 at *
  generalize decide ((betK lo hi).1.size ≤ key.size) = As at *
  generalize decide (lo.size = 0) = E1 at *
  generalize decide (hi.size = 0) = E2 at *
  generalize validK key = V at *
  generalize ltK lo key = L1 at *
  generalize ltK key hi = L2 at *
  cases A5 <;> cases A0 <;> cases As <;> cases E1 <;> cases E2 <;> cases V <;> cases L1 <;> cases L2 <;> simp at hm' ⊢
theorem inside_found {lo hi : ByteArray} (h : (betK lo hi).2 = 0) : validK (betK lo hi).1 = true ∧ (lo.size ≠ 0 → ltK lo (betK lo hi).1 = true) ∧ (hi.size ≠ 0 → ltK (betK lo hi).1 hi = true) ∧ okK validK lo = true ∧ okK validK hi = true := by
  rcases bet_spec lo hi with ⟨h1, _⟩ | ⟨h1, _⟩ | ⟨h1, h2, h3, h4⟩
  · rw [h1] at h; exact absurd h (by decide)
  · rw [h1] at h; exact absurd h (by decide)
  · rcases h4 with ⟨h5, _⟩ | ⟨n, k, h5, h6, h7, h8, _⟩
    · rw [h5] at h; exact absurd h (by decide)
    · obtain ⟨l1, _, _, _⟩ := ok_cases h1
      obtain ⟨l2, _, _, _⟩ := ok_cases h2
      obtain ⟨f1, f2, f3, f4⟩ := found_between l1 l2 h5 h7
      rw [h8]
      exact ⟨by rw [valid_strK n k h5 h6]; exact decide_eq_true f2, f3, f4, h1, h2⟩
theorem inside_ex {lo hi : ByteArray} (h1 : okK validK lo = true) (h2 : okK validK hi = true) (hlt : lo.size = 0 ∨ hi.size = 0 ∨ ltK lo hi = true) (hp : lo.size ≠ 0 ∨ hi.size ≠ 0) (hs1 : lo.size < 60) (hs2 : hi.size < 60) : (betK lo hi).2 = 0 := by
  obtain ⟨l1, m1, _, _⟩ := ok_cases h1
  obtain ⟨l2, m2, _, _⟩ := ok_cases h2
  have hne := between_ex l1 l2 m1 (fun h => m2.elim (fun h' => absurd h' h) id) hlt hp
  rcases bet_spec lo hi with ⟨h3, h4⟩ | ⟨h3, _, _, h4, h5, h6⟩ | ⟨_, _, _, h4⟩
  · exact absurd ⟨h1, h2⟩ h4
  · exfalso
    rcases hlt with h | h | h
    · exact h4 h
    · exact h5 h
    · rw [h6] at h; cases h
  · rcases h4 with ⟨h5, h6⟩ | ⟨n, k, _, _, _, h8, _⟩
    · exact absurd (h6 (max lo.size hi.size + 1) (by omega) (by omega)) hne
    · rw [h8]
theorem not_found (lo hi : ByteArray) (h : (betK lo hi).2 ≠ 0) : (betK lo hi).1 = ⟨#[]⟩ := by
  rcases bet_spec lo hi with ⟨h1, _⟩ | ⟨h1, _⟩ | ⟨_, _, _, h4⟩
  · rw [h1]
  · rw [h1]
  · rcases h4 with ⟨h5, _⟩ | ⟨n, k, _, _, _, h8, _⟩
    · rw [h5]
    · rw [h8] at h; exact absurd rfl h
theorem inside_main (lo hi : ByteArray) (h : (betK lo hi).2 = 0) (hs : (betK lo hi).1.size < 60) (hs1 : lo.size < 60) (hs2 : hi.size < 60) :
    (betK lo (betK lo hi).1).2 = 0 ∧ (betK (betK lo hi).1 hi).2 = 0 ∧ ltK (betK lo (betK lo hi).1).1 (betK lo hi).1 = true ∧ ltK (betK lo hi).1 (betK (betK lo hi).1 hi).1 = true := by
  obtain ⟨h1, h2, h3, h4, h5⟩ := inside_found h
  generalize (betK lo hi).1 = a at *
  obtain ⟨v1, v2, v3, v4⟩ := valid_num h1
  have ha : okK validK a = true := by unfold okK; rw [h1]; simp
  have hx := inside_ex h4 ha (by by_cases h0 : lo.size = 0; exact .inl h0; exact .inr (.inr (h2 h0))) (.inr (by omega)) hs1 hs
  have hy := inside_ex ha h5 (by by_cases h0 : hi.size = 0; exact .inr (.inl h0); exact .inr (.inr (h3 h0))) (.inl (by omega)) hs hs2
  exact ⟨hx, hy, (inside_found hx).2.2.1 (by omega), (inside_found hy).2.1 (by omega)⟩
set_option maxHeartbeats 2000000 in
theorem l6 (lo : ByteArray) (y1 : lo.size ≤ 9223372036854775807) (hi : ByteArray) (y2 : hi.size ≤ 9223372036854775807) : callE Try.prog NoPhi 6 [.str lo, .str hi] = some (.bool true) := by
  refine call_flat Try.f6 Try.func6 (by kernel_rfl) rfl ⟨_, e6 lo hi, ?_⟩
  have hF := inside_found (lo := lo) (hi := hi)
  have hM := inside_main lo hi
  have hN := not_found lo hi
  have e0 : ∀ a b : ByteArray, Op.bytesLess a.toList b.toList = ltK a b := fun a b => rfl
  have e5 : ∀ z : Int, (z == 0) = decide (z = 0) := fun z => by rw [Bool.eq_iff_iff, beq_iff_eq, decide_eq_true_eq]
  have c1 := c12 lo hi
  have c2 := c12 lo (betK lo hi).1
  have c3 := c12 (betK lo hi).1 hi
  have c4 := c14 (betK lo hi).1
  have ez : ∀ s : ByteArray, decide ((s.size : Int) < 60) = decide (s.size < 60) := fun s => by
    rw [Bool.eq_iff_iff, decide_eq_true_eq, decide_eq_true_eq]; omega
  simp only [TW, LcQ, c11, c1, c2, c3, c4, empty_iff, e0, e5, ez, bne]
  by_cases he : (betK lo hi).2 = 0
  · obtain ⟨h1, h2, h3, h4, h5⟩ := hF he
    have hM2 := hM he
    clear hM hN hF c1 c2 c3 c4
    generalize hx : betK lo (betK lo hi).1 = X at *
    generalize hy : betK (betK lo hi).1 hi = Y at *
    generalize hz : (betK lo hi).1 = a at *
    generalize hz2 : (betK lo hi).2 = e at *
    subst he
    clear hx hy hz hz2
    have hM1 : (!decide (a.size < 60) || (!decide (lo.size < 60) || (!decide (hi.size < 60) || (decide (X.2 = 0) && (decide (Y.2 = 0) && (ltK X.1 a && ltK a Y.1)))))) = true := by
      by_cases q3 : a.size < 60 <;> by_cases q4 : lo.size < 60 <;> by_cases q5 : hi.size < 60 <;> simp [q3, q4, q5]
      simpa using hM2 q3 q4 q5
    have hlo : (decide (lo.size = 0) || ltK lo a) = true := by by_cases q : lo.size = 0 <;> simp [q, h2]
    have hhi : (decide (hi.size = 0) || ltK a hi) = true := by by_cases q : hi.size = 0 <;> simp [q, h3]
    simp only [h1, decide_true]
    clear h2 h3 hM2 h4 h5 h1
    generalize decide (lo.size = 0) = E1 at *
    generalize decide (hi.size = 0) = E2 at *
    generalize ltK lo a = L1 at *
    generalize ltK a hi = L2 at *
    generalize decide (a.size < 60) = S1 at *
    generalize decide (lo.size < 60) = S2 at *
    generalize decide (hi.size < 60) = S3 at *
    generalize decide (X.2 = 0) = F at *
    generalize decide (Y.2 = 0) = G at *
    generalize ltK X.1 a = L3 at *
    generalize ltK a Y.1 = L4 at *
    clear e0 e5 ez y1 y2
    have key : S1 = true → S2 = true → S3 = true → F = true ∧ G = true ∧ L3 = true ∧ L4 = true := fun a b c => by
      subst a b c; simpa using hM1
    clear hM1
    cases E1 <;> cases L1 <;> simp only [Bool.or_false, Bool.or_true, Bool.false_eq_true] at hlo <;> cases E2 <;> cases L2 <;> simp only [Bool.or_false, Bool.or_true, Bool.false_eq_true] at hhi <;> simp <;> cases S1 <;> simp <;> cases S2 <;> simp <;> cases S3 <;> simp <;> (obtain ⟨rfl, rfl, rfl, rfl⟩ := key rfl rfl rfl; simp)
  · have := hN he
    have hs : (betK lo hi).1.size = 0 := by rw [this]; rfl
    simp [he, hs]
end Go.Proofs.Ytaenniiaccflmaa
