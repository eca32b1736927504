/- A part of the proof: PCon1. -/
import Derived.Test.YtaenniiaccflmaaPTrees1
set_option linter.unusedVariables false
set_option linter.unusedSimpArgs false
set_option linter.unnecessarySimpa false
set_option linter.unusedSectionVars false
namespace Go.Proofs.Ytaenniiaccflmaa
open Go Go.Vm Go.Proofs
theorem empty_iff (s : ByteArray) : (s.toList == ByteArray.toList ⟨#[]⟩) = decide (s.size = 0) := by
  rw [Bool.eq_iff_iff, beq_iff_eq, toList_inj', decide_eq_true_eq]
  constructor
  · rintro rfl; rfl
  · intro h
    rcases s with ⟨⟨s⟩⟩
    have : s = [] := List.length_eq_zero_iff.1 h
    rw [this]
theorem okByte (l : List Int) : allTo (fun i => decide (97 ≤ l.getD i 0) && decide (l.getD i 0 ≤ 122)) 0 = true := rfl
theorem c14 (s : ByteArray) : callE Try.prog NoPhi 14 [.str s] = some (.bool (validK s)) := by
  refine call_loop Try.f14 hd14 35 Try.func14 (by kernel_rfl) rfl p14 rfl (fun i => w14 s i) (fun i => i ≤ s.size ∧ s.size ≠ 0 ∧ s.size ≤ 60 ∧ (bts s).getD (s.size - 1) 0 ≠ 97 ∧ allTo (fun i => decide (97 ≤ (bts s).getD i 0) && decide ((bts s).getD i 0 ≤ 122)) i = true) (fun i => s.size - i) ⟨_, e14 s, ?_⟩ (fun i n ⟨hi, h0, h60, hl, hall⟩ g => ⟨_, r14 s i g n, ?_⟩)
  · have hv : validK s = (decide (s.size ≠ 0) && decide (s.size ≤ 60) && decide ((bts s).getD (s.size - 1) 0 ≠ 97) && allTo (fun i => decide (97 ≤ (bts s).getD i 0) && decide ((bts s).getD i 0 ≤ 122)) s.size) := by unfold validK validL; rw [bts_len]
    by_cases h0 : s.size = 0
    · simp only [TW, LcQ, empty_iff, h0]
      simp +contextual [hv, h0]
    · have he : ¬ s = ByteArray.empty := by rintro rfl; exact h0 rfl
      simp only [TW, LcQ, empty_iff]
      simp +contextual (disch := omega) [p14, w14, byte_get, -List.getD_eq_getElem?_getD, allTo, hv, he]
      grind
  · have hv : validK s = allTo (fun i => decide (97 ≤ (bts s).getD i 0) && decide ((bts s).getD i 0 ≤ 122)) s.size := by
      unfold validK validL; rw [bts_len]; simp [h0, h60, hl, -List.getD_eq_getElem?_getD]
    have he : ¬ s = ByteArray.empty := by rintro rfl; exact h0 rfl
    have hf : i < s.size → (97 ≤ (bts s).getD i 0 → 122 < (bts s).getD i 0) → validK s = false := fun h1 h2 => by
      rw [hv]; refine allTo_false h1 ?_
      rw [Bool.and_eq_false_iff, decide_eq_false_iff_not, decide_eq_false_iff_not]; omega
    have ht : s.size ≤ i → validK s = true := fun h => by rw [hv, show s.size = i by omega]; exact hall
    simp +contextual (disch := omega) [TW, LcQ, p14, w14, byte_get, -List.getD_eq_getElem?_getD, allTo, hall, ht, h0, h60, hl, he]
    grind
theorem c15 (s : ByteArray) : callE Try.prog NoPhi 15 [.str s] = some (.bool (validK s)) := by
  refine call_loop Try.f15 hd15 36 Try.func15 (by kernel_rfl) rfl p15 rfl (fun i => w15 s i) (fun i => i ≤ s.size ∧ s.size ≠ 0 ∧ s.size ≤ 60 ∧ (bts s).getD (s.size - 1) 0 ≠ 97 ∧ allTo (fun i => decide (97 ≤ (bts s).getD i 0) && decide ((bts s).getD i 0 ≤ 122)) i = true) (fun i => s.size - i) ⟨_, e15 s, ?_⟩ (fun i n ⟨hi, h0, h60, hl, hall⟩ g => ⟨_, r15 s i g n, ?_⟩)
  · have hv : validK s = (decide (s.size ≠ 0) && decide (s.size ≤ 60) && decide ((bts s).getD (s.size - 1) 0 ≠ 97) && allTo (fun i => decide (97 ≤ (bts s).getD i 0) && decide ((bts s).getD i 0 ≤ 122)) s.size) := by unfold validK validL; rw [bts_len]
    by_cases h0 : s.size = 0
    · simp only [TW, LcQ, empty_iff, h0]
      simp +contextual [hv, h0]
    · have he : ¬ s = ByteArray.empty := by rintro rfl; exact h0 rfl
      simp only [TW, LcQ, empty_iff]
      simp +contextual (disch := omega) [p15, w15, byte_get, -List.getD_eq_getElem?_getD, allTo, hv, he]
      grind
  · have hv : validK s = allTo (fun i => decide (97 ≤ (bts s).getD i 0) && decide ((bts s).getD i 0 ≤ 122)) s.size := by
      unfold validK validL; rw [bts_len]; simp [h0, h60, hl, -List.getD_eq_getElem?_getD]
    have he : ¬ s = ByteArray.empty := by rintro rfl; exact h0 rfl
    have hf : i < s.size → (97 ≤ (bts s).getD i 0 → 122 < (bts s).getD i 0) → validK s = false := fun h1 h2 => by
      rw [hv]; refine allTo_false h1 ?_
      rw [Bool.and_eq_false_iff, decide_eq_false_iff_not, decide_eq_false_iff_not]; omega
    have ht : s.size ≤ i → validK s = true := fun h => by rw [hv, show s.size = i by omega]; exact hall
    simp +contextual (disch := omega) [TW, LcQ, p15, w15, byte_get, -List.getD_eq_getElem?_getD, allTo, hall, ht, h0, h60, hl, he]
    grind
theorem c17 (a b : List ByteArray) (ha : a.length ≤ 2000) : callE Try.prog NoPhi 17 [.sl 1 (a.map strRow), .sl 1 (b.map strRow)] = some (.bool (decide (a = b))) := by
  refine call_loop Try.f17 hd17 26 Try.func17 (by kernel_rfl) rfl p17 rfl (fun i => w17 a b i) (fun i => i ≤ a.length ∧ a.length = b.length ∧ decide (a = b) = decide (a.drop i = b.drop i)) (fun i => a.length - i) ⟨_, e17 a b, ?_⟩ (fun i n ⟨hi, hn, hall⟩ g => ⟨_, r17 a b i g n, ?_⟩)
  · simp +contextual [TW, LcQ, p17, w17]
    intro h h'; rw [h'] at h; exact h rfl
  · have hs : i < a.length → decide (a.drop i = b.drop i) = (decide (a.getD i default = b.getD i default) && decide (a.drop (i + 1) = b.drop (i + 1))) := fun h => by
      rw [drop_getD h, drop_getD (show i < b.length by omega)]; rw [Bool.eq_iff_iff]; simp
    have he : a.length ≤ i → decide (a.drop i = b.drop i) = true := fun h => by rw [List.drop_eq_nil_of_le h, List.drop_eq_nil_of_le (by omega)]; rfl
    have hx : (ByteArray.toList (a.getD i default) == ByteArray.toList (b.getD i default)) = decide (a.getD i default = b.getD i default) := by rw [Bool.eq_iff_iff, beq_iff_eq, toList_inj', decide_eq_true_eq]
    rw [hall]
    simp only [TW, LcQ, hx]
    simp +contextual (disch := omega) [p17, w17, at_getD, -List.getD_eq_getElem?_getD, he, hs, hn]
    exact fun h _ => by omega
theorem at_le {n d : Int} {i : Nat} (h : 0 ≤ n ∧ n ≤ 400) (hd : d = 650 / (n + 1)) (hi : (i : Int) ≤ n) : 0 ≤ (i : Int) * d ∧ (i : Int) * d < 650 := by
  have h1 : 0 ≤ d := by rw [hd]; exact Int.ediv_nonneg (by omega) (by omega)
  have h2 : (n + 1) * d ≤ 650 := by rw [hd]; exact Int.mul_ediv_self_le (by omega)
  have h0 : 1 ≤ d := by rw [hd]; exact (Int.le_ediv_iff_mul_le (by omega)).2 (by omega)
  have h3 : (i : Int) * d ≤ n * d := Int.mul_le_mul_of_nonneg_right hi h1
  have h4 : (n + 1) * d = n * d + d := by rw [Int.add_mul, Int.one_mul]
  exact ⟨Int.mul_nonneg (by omega) h1, by omega⟩
/-- The arithmetic of a key of 'Spread'. -/
theorem spread_at {n : Int} (h0 : 0 ≤ n) (h4 : n ≤ 400) (i : Nat) (hi : (i : Int) + 1 ≤ n) : ∃ at1, ((i : Int) + 1) * (650 / (n + 1)) = at1 ∧ 0 ≤ at1 ∧ at1 < 650 ∧ IntKind.wrap .i64 at1 = at1 ∧ IntKind.wrap .u8 (IntKind.wrap .i64 (97 + IntKind.wrap .i64 (Int.tdiv at1 25))) = 97 + at1 / 25 ∧ IntKind.wrap .u8 (IntKind.wrap .i64 (98 + Int.tmod at1 25)) = 98 + at1 % 25 ∧ spreadK (650 / (n + 1)) i = ofB [97 + at1 / 25, 98 + at1 % 25] := by
  have hle := at_le (n := n) (i := i + 1) ⟨h0, h4⟩ rfl (by omega)
  have hk : spreadK (650 / (n + 1)) i = ofB [97 + ((i : Int) + 1) * (650 / (n + 1)) / 25, 98 + ((i : Int) + 1) * (650 / (n + 1)) % 25] := rfl
  rw [show ((i + 1 : Nat) : Int) = (i : Int) + 1 by omega] at hle
  generalize ((i : Int) + 1) * (650 / (n + 1)) = at1 at *
  have hq1 : Int.tdiv at1 25 = at1 / 25 := Int.tdiv_eq_ediv_of_nonneg hle.1
  have hq2 : Int.tmod at1 25 = at1 % 25 := Int.tmod_eq_emod_of_nonneg hle.1
  refine ⟨at1, rfl, hle.1, hle.2, wrap64 _ (by omega) (by omega), ?_, ?_, hk⟩
  · rw [hq1, wrap64 (at1 / 25) (by omega) (by omega), wrap64 _ (by omega) (by omega), wrapU8 _ (by omega) (by omega)]
  · rw [hq2, wrap64 _ (by omega) (by omega), wrapU8 _ (by omega) (by omega)]
theorem quo_wrap {n : Int} (h1 : 0 ≤ n) (h2 : n ≤ 400) : IntKind.wrap .i64 (Int.tdiv 650 (n + 1)) = 650 / (n + 1) := by
  rw [Int.tdiv_eq_ediv_of_nonneg (by omega)]
  exact wrap64 _ (by have := Int.ediv_nonneg (a := 650) (b := n + 1) (by omega) (by omega); omega) (by have := Int.ediv_le_self (a := 650) (n + 1) (by omega); omega)
theorem c18 (n : Int) (hb : -9223372036854775808 ≤ n ∧ n ≤ 9223372036854775807) : callE Try.prog NoPhi 18 [.int .i64 n] = some (.own (0, 0) 9 1 ((spreadS n).map strRow)) := by
  refine call_loop (ι := Nat × Stamp × List ByteArray) Try.f18 hd18 38 Try.func18 (by kernel_rfl) rfl p18 rfl (fun x => w18 n (650 / (n + 1)) (x.1 + 1) x.2.1 x.2.2) (fun x => (x.1 : Int) ≤ n ∧ 0 ≤ n ∧ n ≤ 400 ∧ x.2.2 = (List.range x.1).map (spreadK (650 / (n + 1)))) (fun x => (n - x.1).toNat) ⟨_, e18 n, ?_⟩ (fun x nx ⟨hi, h0, h4, hout⟩ g => ⟨_, r18 n _ _ x.2.1 x.2.2 g nx, ?_⟩)
  · have hw : 0 ≤ n → n ≤ 400 → IntKind.wrap .i64 (n + 1) = n + 1 := fun _ _ => wrap64 _ (by omega) (by omega)
    have hw2 : 0 ≤ n → n ≤ 400 → IntKind.wrap .i64 (Int.tdiv 650 (n + 1)) = 650 / (n + 1) := quo_wrap
    simp +contextual (disch := omega) [TW, LcQ, p18, w18, spreadS, hw, hw2]
    exact ⟨fun h => ⟨by omega, fun h4 => ⟨by omega, 0, ⟨rfl, rfl⟩, by simpa using h⟩⟩, by omega⟩
  · obtain ⟨i, ⟨γ1, γ2⟩, out⟩ := x
    simp only at hi hout ⊢
    have hsp : spreadS n = (List.range n.toNat).map (spreadK (650 / (n + 1))) := by unfold spreadS; rw [if_pos ⟨h0, h4⟩]
    have hend : n < (i : Int) + 1 → spreadS n = out := fun h => by rw [hsp, show n.toNat = i by omega, hout]
    have hlen : out.length = i := by rw [hout]; simp
    by_cases hin : (i : Int) + 1 ≤ n
    · obtain ⟨at1, ha, hl1, hl2, hw, hw3, hw4, hk⟩ := spread_at h0 h4 i hin
      have hr : (List.range (i + 1)).map (spreadK (650 / (n + 1))) = out ++ [ofB [97 + at1 / 25, 98 + at1 % 25]] := by rw [List.range_succ, List.map_append, hout, ← hk]; rfl
      have hcast : ((i + 1 : Nat) : Int) = (i : Int) + 1 := by omega
      simp only [TW, LcQ, hcast, ha, hw, hw3, hw4, hin, decide_true, Bool.true_eq_false, false_implies, and_true, true_implies]
      have hw5 : IntKind.wrap .i64 ((i : Int) + 1 + 1) = (i : Int) + 1 + 1 := wrap64 _ (by omega) (by omega)
      simp +contextual (disch := omega) [p18, w18, roomy, bytesOf?, map_str_snoc, and_assoc, hw5]
      repeat' (refine And.intro ?_ ?_)
      all_goals (first | rfl | omega | exact hr.symm)
    · simp only [TW, LcQ]
      simp +contextual (disch := omega) [p18, w18, hend]
      omega
theorem c16 (n : Int) (hb : -9223372036854775808 ≤ n ∧ n ≤ 9223372036854775807) : callE Try.prog NoPhi 16 [.int .i64 n] = some (.own (0, 0) 9 1 ((spreadS n).map strRow)) := by
  refine call_loop (ι := Nat × Stamp × List ByteArray) Try.f16 hd16 39 Try.func16 (by kernel_rfl) rfl p16 rfl (fun x => w16 n (650 / (n + 1)) x.1 x.2.1 x.2.2) (fun x => (x.1 : Int) ≤ n ∧ 0 ≤ n ∧ n ≤ 400 ∧ x.2.2 = (List.range x.1).map (spreadK (650 / (n + 1)))) (fun x => (n - x.1).toNat) ⟨_, e16 n, ?_⟩ (fun x nx ⟨hi, h0, h4, hout⟩ g => ⟨_, r16 n _ _ x.2.1 x.2.2 g nx, ?_⟩)
  · have hw : 0 ≤ n → n ≤ 400 → IntKind.wrap .i64 (n + 1) = n + 1 := fun _ _ => wrap64 _ (by omega) (by omega)
    have hw2 : 0 ≤ n → n ≤ 400 → IntKind.wrap .i64 (Int.tdiv 650 (n + 1)) = 650 / (n + 1) := quo_wrap
    simp +contextual (disch := omega) [TW, LcQ, p16, w16, spreadS, hw, hw2]
    exact ⟨fun h => ⟨by omega, fun h4 => by omega⟩, by omega⟩
  · obtain ⟨i, ⟨γ1, γ2⟩, out⟩ := x
    simp only at hi hout ⊢
    have hsp : spreadS n = (List.range n.toNat).map (spreadK (650 / (n + 1))) := by unfold spreadS; rw [if_pos ⟨h0, h4⟩]
    have hend : n < (i : Int) + 1 → spreadS n = out := fun h => by rw [hsp, show n.toNat = i by omega, hout]
    have hlen : out.length = i := by rw [hout]; simp
    by_cases hin : (i : Int) + 1 ≤ n
    · obtain ⟨at1, ha, hl1, hl2, hw, hw3, hw4, hk⟩ := spread_at h0 h4 i hin
      have hr : (List.range (i + 1)).map (spreadK (650 / (n + 1))) = out ++ [ofB [97 + at1 / 25, 98 + at1 % 25]] := by rw [List.range_succ, List.map_append, hout, ← hk]; rfl
      have hw5 : IntKind.wrap .i64 ((i : Int) + 1) = (i : Int) + 1 := wrap64 _ (by omega) (by omega)
      have hin' : (i : Int) < n := by omega
      simp only [TW, LcQ, hw5, ha, hw, hw3, hw4, hin', decide_true, Bool.true_eq_false, false_implies, and_true, true_implies]
      simp +contextual (disch := omega) [p16, w16, roomy, bytesOf?, map_str_snoc, and_assoc]
      repeat' (refine And.intro ?_ ?_)
      all_goals (first | rfl | omega | exact hr.symm)
    · simp only [TW, LcQ]
      have hin' : ¬ (i : Int) < n := by omega
      simp +contextual (disch := omega) [p16, w16, hend, hin']
end Go.Proofs.Ytaenniiaccflmaa
