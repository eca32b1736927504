/- A part of the proof: PCon8. -/
import Derived.Test.YtaenniiaccflmaaPTrees6
set_option linter.unusedVariables false
set_option linter.unusedSimpArgs false
set_option linter.unnecessarySimpa false
set_option linter.unusedSectionVars false
namespace Go.Proofs.Ytaenniiaccflmaa
open Go Go.Vm Go.Proofs
/-- The string with a number, or the empty one. -/
def sK (n t : Nat) : ByteArray := if t < 26 ^ n then strK n t else ⟨#[]⟩
theorem sK_size (n t : Nat) : (sK n t).size = if t < 26 ^ n then n else 0 := by
  unfold sK; split
  · exact strK_size n t
  · rfl
theorem sK_low (n t : Nat) : low (bts (sK n t)) := by
  unfold sK; split
  · rw [bts_strK]; exact strN_low n t
  · intro x hx; simp [bts] at hx
theorem valid_low {s : ByteArray} (h : validK s = true) : low (bts s) ∧ s.size ≤ 60 ∧ 1 ≤ s.size := by
  unfold validK validL at h
  simp only [Bool.and_eq_true, decide_eq_true_eq, allTo_iff, bts_len] at h
  obtain ⟨⟨⟨h1, h2⟩, h3⟩, h4⟩ := h
  refine ⟨fun x hx => ?_, h2, by omega⟩
  obtain ⟨i, hi, rfl⟩ := List.mem_iff_getElem.1 hx
  have := h4 i (by rw [← bts_len]; exact hi)
  rw [show (bts s).getD i 0 = (bts s)[i] from by rw [List.getD, List.getElem?_eq_getElem hi]; rfl] at this
  simpa using this
theorem valid_strK (n t : Nat) (h1 : 1 ≤ n) (h60 : n ≤ 60) : validK (strK n t) = decide (t % 26 ≠ 0) := by
  have hlg := last_get n t (by omega)
  have hlow := strN_low n t
  unfold validK validL
  rw [bts_strK, strN_len]
  have h3 : allTo (fun i => decide (97 ≤ (strN n t).getD i 0) && decide ((strN n t).getD i 0 ≤ 122)) n = true := by
    rw [allTo_iff]
    intro i hi
    have := hlow ((strN n t).getD i 0) (by simp [List.getD, hi])
    simpa using this
  rw [h3, Bool.and_true, decide_eq_true (by omega), decide_eq_true h60]
  simp only [Bool.true_and]
  rw [Bool.eq_iff_iff, decide_eq_true_eq, decide_eq_true_eq]
  have hlg' : (strN n t).getD (n - 1) 0 = 97 + ((t % 26 : Nat) : Int) := hlg
  rw [hlg']; omega
theorem after_strK (n t : Nat) (ht : t < 26 ^ n) : afterK (strK n t) n = sK n (t + 1) := by
  have h : floorN (bts (strK n t)) n = t + 1 := by
    unfold floorN; rw [bts_strK, strN_len, if_neg (by omega), List.take_of_length_le (by simp), code_str n t ht]
  unfold afterK sK; rw [Int.toNat_natCast, h]
theorem next_strK (n t : Nat) (hn : 1 ≤ n) (ht : t < 26 ^ n) : nextK (strK n t) = sK n (fixN (t + 1)) := by
  unfold nextK sK
  rw [strK_size, num_strK n t ht]
  have := fix_lt n (t + 1) (by omega)
  by_cases h : t + 1 < 26 ^ n
  · rw [if_pos h, if_pos (this h)]
  · rw [if_neg h, if_neg (by unfold fixN; split <;> omega)]
theorem after_sK (lo : ByteArray) (n : Nat) : afterK lo n = sK n (floorN (bts lo) n) := by unfold afterK sK; rw [Int.toNat_natCast]
theorem above_sK (lo : ByteArray) (n : Nat) (hn : 1 ≤ n) : aboveK lo n = sK n (fixN (floorN (bts lo) n)) := by
  unfold aboveK sK; rw [Int.toNat_natCast]
  have := fix_lt n (floorN (bts lo) n) (by omega)
  by_cases h : floorN (bts lo) n < 26 ^ n
  · rw [if_pos h, if_pos (this h)]
  · rw [if_neg h, if_neg (by unfold fixN; split <;> omega)]
/-- What a loop over the strings of n letters asks. -/
theorem sK_empty (n t : Nat) (hn : 1 ≤ n) : ((sK n t).toList == ByteArray.toList ⟨#[]⟩) = decide (26 ^ n ≤ t) := by
  rw [empty_iff, sK_size, Bool.eq_iff_iff, decide_eq_true_eq, decide_eq_true_eq]
  split <;> omega
theorem sK_less {hi : ByteArray} (hh : low (bts hi)) (n t : Nat) (h0 : hi.size ≠ 0) (ht : t < 26 ^ n) : Op.bytesLess (sK n t).toList hi.toList = decide (t < capH hi n) := by
  have : sK n t = strK n t := by unfold sK; rw [if_pos ht]
  rw [this]; exact lt_strK hh n t ht h0
theorem c27 (lo hi : ByteArray) (n : Nat) (hl : low (bts lo)) (hh : low (bts hi)) (hls : lo.size ≤ 1000) (hn1 : 1 ≤ n) (hn : n ≤ 60) : callE Try.prog NoPhi 27 [.str lo, .str hi, .int .i64 (n : Int)] = some (.own (0, 0) 9 1 ((keysK lo hi n).map strRow)) := by
  have hcap := capH_le hh n
  refine call_loop (ι := Nat × Stamp × List Nat) Try.f27 hd27 38 Try.func27 (by kernel_rfl) rfl p27 rfl (fun x => w27 lo hi n x.2.1 (x.2.2.map (strK n)) (sK n x.1)) (fun x => x.2.2.length ≤ 100 ∧ (levelK lo hi n).take 100 = x.2.2 ++ (keysN x.1 (capH hi n)).take (100 - x.2.2.length)) (fun x => 26 ^ n - x.1) ⟨_, e27 lo hi n, ?_⟩ (fun x nx ⟨hlen, hk⟩ g => ⟨_, r27 lo hi n x.2.1 (x.2.2.map (strK n)) (sK n x.1) g nx, ?_⟩)
  · have hc := c28 lo n hl hls hn1 (by omega)
    simp only [TW, LcQ]
    refine ⟨hc, trivial, rfl, (floorN (bts lo) n, (2, 0), []), ?_, by simp, by simp [levelK]⟩
    simp [w27, after_sK]
  · obtain ⟨t, ⟨γ1, γ2⟩, ys⟩ := x
    simp only at hlen hk ⊢
    have hE := sK_empty n t hn1
    have hlow := sK_low n t
    have hsz := sK_size n t
    have hend : capH hi n ≤ t → keysK lo hi n = ys.map (strK n) := fun h => by
      unfold keysK; rw [Int.toNat_natCast, hk, keysN_nil h]; simp
    have hend2 : 100 ≤ ys.length → keysK lo hi n = ys.map (strK n) := fun h => by
      unfold keysK; rw [Int.toNat_natCast, hk, show 100 - ys.length = 0 by omega]; simp
    by_cases ht : t < 26 ^ n
    · have hs : sK n t = strK n t := by unfold sK; rw [if_pos ht]
      have hc28 := c28 (sK n t) n hlow (by rw [hsz, if_pos ht]; omega) hn1 (by omega)
      rw [hs, after_strK n t ht] at hc28
      have hva := valid_strK n t hn1 hn
      have hEf : ((strK n t).toList == ByteArray.toList ⟨#[]⟩) = false := by rw [← hs, hE, decide_eq_false (by omega)]
      have hstep0 : t % 26 = 0 → (levelK lo hi n).take 100 = ys ++ (keysN (t + 1) (capH hi n)).take (100 - ys.length) := fun h => by rw [hk, keysN_skip h]
      have hstep1 : t % 26 ≠ 0 → t < capH hi n → ys.length < 100 → (levelK lo hi n).take 100 = (ys ++ [t]) ++ (keysN (t + 1) (capH hi n)).take (100 - (ys ++ [t]).length) := fun h h1 h2 => by
        rw [hk, keysN_take h h1, show 100 - ys.length = (100 - (ys ++ [t]).length) + 1 by simp; omega, List.take_succ_cons]; simp
      have j0 : t % 26 = 0 → ∃ x : Nat × Stamp × List Nat, w27 lo hi n (γ1, γ2) (ys.map (strK n)) (sK n (t + 1)) = w27 lo hi n x.2.1 (x.2.2.map (strK n)) (sK n x.1) ∧ (x.2.2.length ≤ 100 ∧ (levelK lo hi n).take 100 = x.2.2 ++ (keysN x.1 (capH hi n)).take (100 - x.2.2.length)) ∧ 26 ^ n - x.1 < 26 ^ n - t := fun h =>
        ⟨(t + 1, (γ1, γ2), ys), rfl, ⟨hlen, hstep0 h⟩, by show 26 ^ n - (t + 1) < 26 ^ n - t; omega⟩
      have j1 : ∀ γ, t % 26 ≠ 0 → t < capH hi n → ys.length < 100 → ∃ x : Nat × Stamp × List Nat, w27 lo hi n γ (ys.map (strK n) ++ [strK n t]) (sK n (t + 1)) = w27 lo hi n x.2.1 (x.2.2.map (strK n)) (sK n x.1) ∧ (x.2.2.length ≤ 100 ∧ (levelK lo hi n).take 100 = x.2.2 ++ (keysN x.1 (capH hi n)).take (100 - x.2.2.length)) ∧ 26 ^ n - x.1 < 26 ^ n - t := fun γ h h1 h2 =>
        ⟨(t + 1, γ, ys ++ [t]), by simp [w27], ⟨by simp; omega, hstep1 h h1 h2⟩, by show 26 ^ n - (t + 1) < 26 ^ n - t; omega⟩
      have hcond : t < capH hi n ∨ capH hi n ≤ t := by omega
      have hh0 : hi.size = 0 → t < capH hi n := fun h => by unfold capH; rw [if_pos h]; exact ht
      have hless : hi.size ≠ 0 → Op.bytesLess (strK n t).toList hi.toList = decide (t < capH hi n) := fun h => by rw [← hs]; exact sK_less hh n t h ht
      have hym : (ys.map (strK n)).length = ys.length := by simp
      have after_S := after_strK n t ht
      rw [hs]
      generalize hY : ys.map (strK n) = Y at *
      generalize hS : strK n t = S at *
      generalize hS2 : sK n (t + 1) = S2 at *
      have hSne : ¬ S.size = 0 := by rw [empty_iff] at hEf; simpa using hEf
      have hSA : afterK S n = S2 := after_S
      have e : ∀ Y : List ByteArray, (Y ++ [S]).map strRow = Y.map strRow ++ [[.str S]] := fun Y => by simp [strRow]
      simp only [w27, e] at j0 j1
      clear hstep0 hstep1 hk hE hlow hsz hs hS hS2 hl hh after_S hEf
      have hlt100 : ((Y.length : Int) < 100) ↔ Y.length < 100 := by omega
      have hSne' : ¬ S = ByteArray.empty := fun h => hSne (by rw [h]; rfl)
      have d1 : keysK lo hi n = Y → some (TV.own (0, 0) 9 1 (List.take Y.length (List.map strRow Y))) = some (TV.own (0, 0) 9 1 ((keysK lo hi n).map strRow)) := fun h => by rw [h]; simp
      simp only [TW, LcQ, empty_iff, List.length_map, p27] at *
      by_cases h0 : hi.size = 0
      · have hcap' := hh0 h0
        simp +contextual (disch := omega) [h0, hSne', c15, hva, hc28, hlt100, roomy, hSA]
        refine ⟨fun h1 => ⟨fun h2 => ⟨by omega, ?_⟩, fun h2 => ?_⟩, fun h1 => by rw [hend2 (by omega)]⟩
        · obtain ⟨⟨a, ⟨b, c⟩, d⟩, h'⟩ := j1 _ h2 hcap' (by omega)
          exact ⟨a, b, c, d, h'⟩
        · obtain ⟨⟨a, ⟨b, c⟩, d⟩, h'⟩ := j0 h2
          exact ⟨a, b, c, d, h'⟩
      · have hl' := hless h0
        simp +contextual (disch := omega) [h0, hSne', c15, hva, hc28, hlt100, roomy, hl', hSA]
        refine ⟨fun hcap' => ⟨fun h1 => ⟨fun h2 => ⟨by omega, ?_⟩, fun h2 => ?_⟩, fun h1 => by rw [hend2 (by omega)]⟩, fun h1 => by rw [hend (by omega)]⟩
        · obtain ⟨⟨a, ⟨b, c⟩, d⟩, h'⟩ := j1 _ h2 hcap' (by omega)
          exact ⟨a, b, c, d, h'⟩
        · obtain ⟨⟨a, ⟨b, c⟩, d⟩, h'⟩ := j0 h2
          exact ⟨a, b, c, d, h'⟩
    · have hs : (sK n t).size = 0 := by rw [hsz, if_neg ht]
      have := hend (by omega)
      simp only [TW, LcQ, empty_iff, hs]
      simp [this]
theorem ok_low {s : ByteArray} (h : okK validK s = true) : low (bts s) ∧ s.size ≤ 60 := by
  unfold okK at h
  rw [Bool.or_eq_true] at h
  rcases h with h | h
  · have h0 : s.size = 0 := by simpa using h
    refine ⟨fun x hx => ?_, by omega⟩
    have : (bts s).length = 0 := by rw [bts_len, h0]
    rw [List.length_eq_zero_iff.1 this] at hx; simp at hx
  · exact ⟨(valid_low h).1, (valid_low h).2.1⟩
theorem mid_wrap (L : Nat) (h0 : 0 < L) (h : L ≤ 1000) : IntKind.wrap .i64 (Int.tdiv (IntKind.wrap .i64 ((L : Int) - 1)) 2) = (((L - 1) / 2 : Nat) : Int) := by
  rw [wrap64 ((L : Int) - 1) (by omega) (by omega), Int.tdiv_eq_ediv_of_nonneg (by omega), wrap64 _ (by omega) (by omega)]; omega
theorem map_getD' {α β : Type} [Inhabited α] [Inhabited β] (f : α → β) (l : List α) (i : Nat) (d : α) (h : i < l.length) : (l.map f).getD i default = f (l.getD i d) := by
  simp [List.getD, h]
def invB (lo hi : ByteArray) (n : Nat) : Prop := 1 ≤ n ∧ n ≤ 61 ∧ okK validK lo = true ∧ okK validK hi = true ∧ (∀ m, 1 ≤ m → m < n → levelK lo hi m = []) ∧ betK lo hi = betF lo hi n (61 - n)
theorem bet_entry (lo hi : ByteArray) : ((okK validK lo && okK validK hi) = false → betK lo hi = (⟨#[]⟩, 5)) ∧
    ((okK validK lo && okK validK hi) = true → decide (lo.size = 0) = false → decide (hi.size = 0) = false → ltK lo hi = false → betK lo hi = (⟨#[]⟩, 12)) ∧
    ((okK validK lo && okK validK hi) = true → (!decide (lo.size = 0) && (!decide (hi.size = 0) && !ltK lo hi)) = false → invB lo hi 1) := by
  refine ⟨fun h => ?_, fun h h1 h2 h3 => ?_, fun h h1 => ?_⟩
  · unfold betK betG; rw [if_neg (by rw [h]; simp)]
  · unfold betK betG
    rw [if_pos h, if_pos ⟨of_decide_eq_false h1, of_decide_eq_false h2, h3⟩]
  · have h' := h
    rw [Bool.and_eq_true] at h'
    refine ⟨by omega, by omega, h'.1, h'.2, fun m h4 h5 => by omega, ?_⟩
    unfold betK betG
    rw [if_pos h, if_neg (fun h6 => by
      rw [decide_eq_false h6.1, decide_eq_false h6.2.1, h6.2.2] at h1; simp at h1)]
theorem c13 (lo hi : ByteArray) : callE Try.prog NoPhi 13 [.str lo, .str hi] = some (.tup [.str (betK lo hi).1, .int .i64 (betK lo hi).2]) := by
  refine call_loop (ι := Nat) Try.f13 hd13 53 Try.func13 (by kernel_rfl) rfl p13 rfl (fun n => w13 lo hi n) (invB lo hi) (fun n => 61 - n) ⟨_, e13 lo hi, ?_⟩ (fun n nx ⟨hn1, hn2, hl, hh, hall, hb⟩ g => ⟨_, r13 lo hi n g nx, ?_⟩)
  · obtain ⟨h5, h12, hgo⟩ := bet_entry lo hi
    have hlt : Op.bytesLess lo.toList hi.toList = ltK lo hi := rfl
    have hj : invB lo hi 1 → ∃ n : Nat, [TV.str lo, TV.str hi, TV.int .i64 1] = w13 lo hi n ∧ invB lo hi n := fun h => ⟨1, rfl, h⟩
    unfold okK at h5 h12 hgo
    simp only [TW, LcQ, empty_iff, hlt, c15, p13]
    generalize invB lo hi 1 = I1 at *
    generalize (∃ n : Nat, [TV.str lo, TV.str hi, TV.int .i64 1] = w13 lo hi n ∧ invB lo hi n) = J at *
    generalize betK lo hi = B at *
    generalize ltK lo hi = Lt at *
    generalize validK lo = Vl at *
    generalize validK hi = Vh at *
    generalize decide (lo.size = 0) = E1 at *
    generalize decide (hi.size = 0) = E2 at *
    cases E1 <;> cases E2 <;> cases Vl <;> cases Vh <;> cases Lt <;> simp at h5 h12 hgo ⊢ <;> first | exact hj hgo | (rw [h5]; simp) | (rw [h12]; simp) | skip
  · obtain ⟨hlo, hls⟩ := ok_low hl
    obtain ⟨hhi, hhs⟩ := ok_low hh
    have h27 := fun h : n ≤ 60 => c27 lo hi n hlo hhi (by omega) hn1 h
    have hfew := level_few hlo hhi n hn1 hall
    have hkk : keysK lo hi n = (levelK lo hi n).map (strK n) := by unfold keysK; rw [Int.toNat_natCast, List.take_of_length_le (by omega)]
    rw [hkk] at h27
    have hlen : ((levelK lo hi n).map (strK n)).length = (levelK lo hi n).length := by simp
    by_cases h60 : n ≤ 60
    · have hc := h27 h60
      have hbF : betF lo hi n (61 - n) = if (levelK lo hi n).length = 0 then betF lo hi (n + 1) (61 - (n + 1)) else (strK n ((levelK lo hi n).getD (((levelK lo hi n).length - 1) / 2) 0), 0) := by
        rw [show 61 - n = (61 - (n + 1)) + 1 by omega, betF]
      have hi60 : ((n : Nat) : Int) ≤ 60 := by omega
      have hw : IntKind.wrap .i64 ((n : Int) + 1) = ((n + 1 : Nat) : Int) := by rw [wrap64 _ (by omega) (by omega)]; rfl
      simp only [TW, LcQ, hkk, List.length_map, hc, hi60, decide_true, hw]
      by_cases h0 : (levelK lo hi n).length = 0
      · have hnil : levelK lo hi n = [] := List.length_eq_zero_iff.1 h0
        have hj : ∃ m : Nat, w13 lo hi (n + 1) = w13 lo hi m ∧ invB lo hi m ∧ 61 - m < 61 - n :=
          ⟨n + 1, rfl, ⟨by omega, by omega, hl, hh, fun k h1 h2 => by
            rcases Nat.lt_or_ge k n with h | h
            · exact hall k h1 h
            · rw [show k = n by omega]; exact hnil, by rw [hb, hbF, if_pos h0]⟩, by omega⟩
        simp only [h0]
        refine ⟨fun _ => ⟨trivial, fun h => (by simp at h), fun _ => ⟨trivial, rfl, hj⟩⟩, fun h => (by cases h)⟩
      · have hmid := mid_wrap (levelK lo hi n).length (by omega) (by omega)
        have hres : betK lo hi = (strK n ((levelK lo hi n).getD (((levelK lo hi n).length - 1) / 2) 0), 0) := by rw [hb, hbF, if_neg h0]
        have hgd := map_getD' (strK n) (levelK lo hi n) (((levelK lo hi n).length - 1) / 2) 0 (by omega)
        have hmg : ((levelK lo hi n).map (strK n)).map strRow = ((levelK lo hi n).map (strK n)).map strRow := rfl
        simp only [hmid, hres, Int.toNat_natCast, Nat.zero_add, hgd]
        refine ⟨fun _ => ⟨trivial, fun h => ⟨rfl, by simp; omega, by simp, ?_, trivial⟩, fun h => ?_⟩, fun h => (by cases h)⟩
        · rw [List.getElem?_eq_getElem (by simp; omega)]
          simp [List.getD, show ((levelK lo hi n).length - 1) / 2 < (levelK lo hi n).length by omega]
        · have := of_decide_eq_false h; omega
    · have h61 : n = 61 := by omega
      have hi60 : ¬ ((n : Nat) : Int) ≤ 60 := by omega
      have hres : betK lo hi = (⟨#[]⟩, 17) := by rw [hb, h61]; rfl
      simp only [TW, LcQ, hi60, decide_false, hres]
      exact ⟨fun h => (by cases h), fun _ => trivial⟩
abbrev bigM : Nat := 26 ^ 60 + 2
def inv12 (lo hi : ByteArray) : Nat ⊕ (Nat × Nat × Stamp × List Nat) → Prop
  | .inl n => invB lo hi n
  | .inr (n, t, γ, ys) => invB lo hi n ∧ n ≤ 60 ∧ levelK lo hi n = ys ++ keysN t (capH hi n) ∧ (t % 26 ≠ 0 ∨ 26 ^ n ≤ t)
def vals12 (lo hi : ByteArray) : Nat ⊕ (Nat × Nat × Stamp × List Nat) → List TV
  | .inl n => w12a lo hi n
  | .inr (n, t, γ, ys) => w12b lo hi n γ (ys.map (strK n)) (sK n t)
def at12 : Nat ⊕ (Nat × Nat × Stamp × List Nat) → List Bool
  | .inl n => p12a
  | .inr (n, t, γ, ys) => p12b
def mu12 : Nat ⊕ (Nat × Nat × Stamp × List Nat) → Nat
  | .inl n => (61 - n) * bigM
  | .inr (n, t, γ, ys) => (60 - n) * bigM + (26 ^ n - t) + 1
theorem big_lt {n : Nat} (h : n ≤ 60) : 26 ^ n + 1 < bigM := by
  have := Nat.pow_le_pow_right (show 0 < 26 by omega) h
  show 26 ^ n + 1 < 26 ^ 60 + 2
  omega
theorem c12 (lo hi : ByteArray) : callE Try.prog NoPhi 12 [.str lo, .str hi] = some (.tup [.str (betK lo hi).1, .int .i64 (betK lo hi).2]) := by
  refine call_heads (ι := Nat ⊕ (Nat × Nat × Stamp × List Nat)) Try.f12 hd12 70 Try.func12 (by kernel_rfl) rfl at12 (by rintro (_ | ⟨_, _, _, _⟩) <;> rfl) (vals12 lo hi) (inv12 lo hi) mu12 ⟨_, e12 lo hi, ?_⟩ (fun x nx hx g => ?_)
  · obtain ⟨h5, h12, hgo⟩ := bet_entry lo hi
    have hlt : Op.bytesLess lo.toList hi.toList = ltK lo hi := rfl
    have hj : invB lo hi 1 → ∃ n : Nat ⊕ (Nat × Nat × Stamp × List Nat), [true, true, true, false, true, false] = at12 n ∧ [TV.str lo, TV.str hi, TV.int .i64 1] = vals12 lo hi n ∧ inv12 lo hi n := fun h => ⟨.inl 1, rfl, rfl, h⟩
    unfold okK at h5 h12 hgo
    simp only [TW, LcQ, empty_iff, hlt, c14]
    generalize invB lo hi 1 = I1 at *
    generalize (∃ n : Nat ⊕ (Nat × Nat × Stamp × List Nat), [true, true, true, false, true, false] = at12 n ∧ [TV.str lo, TV.str hi, TV.int .i64 1] = vals12 lo hi n ∧ inv12 lo hi n) = J at *
    generalize betK lo hi = B at *
    generalize ltK lo hi = Lt at *
    generalize validK lo = Vl at *
    generalize validK hi = Vh at *
    generalize decide (lo.size = 0) = E1 at *
    generalize decide (hi.size = 0) = E2 at *
    cases E1 <;> cases E2 <;> cases Vl <;> cases Vh <;> cases Lt <;> simp at h5 h12 hgo ⊢ <;> first | exact hj hgo | (rw [h5]; simp) | (rw [h12]; simp) | skip
  · rcases x with n | ⟨n, t, ⟨γ1, γ2⟩, ys⟩
    · obtain ⟨hn1, hn2, hl, hh, hall, hb⟩ := hx
      have hI : invB lo hi n := ⟨hn1, hn2, hl, hh, hall, hb⟩
      refine ⟨_, r12a lo hi n g nx, ?_⟩
      obtain ⟨hlo, hls⟩ := ok_low hl
      obtain ⟨hhi, hhs⟩ := ok_low hh
      by_cases h60 : n ≤ 60
      · have hc := c25 lo n hlo (by omega) hn1 (by omega)
        have hi60 : ((n : Nat) : Int) ≤ 60 := by omega
        simp only [TW, LcQ, hc, hi60, decide_true]
        refine ⟨fun _ => ⟨trivial, trivial, .inr (n, fixN (floorN (bts lo) n), (nx + 2, 0), []), rfl, ?_, ⟨hI, h60, ?_, ?_⟩, ?_⟩, fun h => (by cases h)⟩
        · simp [vals12, w12b, above_sK lo n hn1]
        · rw [keysN_fix]; rfl
        · unfold fixN; split
          · exact .inl (by omega)
          · exact .inl (by assumption)
        · have := big_lt h60
          have hpp : 0 < 26 ^ n := Nat.pow_pos (by omega)
          simp only [mu12]
          rw [show 61 - n = (60 - n) + 1 by omega, Nat.add_mul]
          generalize bigM = M at *
          omega
      · have h61 : n = 61 := by omega
        have hi60 : ¬ ((n : Nat) : Int) ≤ 60 := by omega
        have hres : betK lo hi = (⟨#[]⟩, 17) := by rw [hb, h61]; rfl
        simp only [TW, LcQ, hi60, decide_false, hres]
        exact ⟨fun h => (by cases h), fun _ => trivial⟩
    · obtain ⟨hI, h60, hk, ht26⟩ := hx
      obtain ⟨hn1, hn2, hl, hh, hall, hb⟩ := hI
      refine ⟨_, r12b lo hi n (γ1, γ2) (ys.map (strK n)) (sK n t) g nx, ?_⟩
      obtain ⟨hlo, hls⟩ := ok_low hl
      obtain ⟨hhi, hhs⟩ := ok_low hh
      have hcap := capH_le hhi n
      have hfew := level_few hlo hhi n hn1 hall
      have hyl : ys.length ≤ 60 := by rw [hk, List.length_append] at hfew; omega
      have hE := sK_empty n t hn1
      have hlow := sK_low n t
      have hsz := sK_size n t
      have hbF : betF lo hi n (61 - n) = if (levelK lo hi n).length = 0 then betF lo hi (n + 1) (61 - (n + 1)) else (strK n ((levelK lo hi n).getD (((levelK lo hi n).length - 1) / 2) 0), 0) := by
        rw [show 61 - n = (61 - (n + 1)) + 1 by omega, betF]
      have hw : IntKind.wrap .i64 ((n : Int) + 1) = ((n + 1 : Nat) : Int) := by rw [wrap64 _ (by omega) (by omega)]; rfl
      have hym : (ys.map (strK n)).length = ys.length := by simp
      have hend : capH hi n ≤ t → levelK lo hi n = ys := fun h => by rw [hk, keysN_nil h]; simp
      have jA : capH hi n ≤ t → ys.length = 0 → ∃ x, p12a = at12 x ∧ w12a lo hi (n + 1) = vals12 lo hi x ∧ inv12 lo hi x ∧ mu12 x < mu12 (.inr (n, t, (γ1, γ2), ys)) := fun h h0 => by
        have hnil : levelK lo hi n = [] := by rw [hend h]; exact List.length_eq_zero_iff.1 h0
        refine ⟨.inl (n + 1), rfl, rfl, ⟨by omega, by omega, hl, hh, fun k h1 h2 => ?_, by rw [hb, hbF, if_pos (by rw [hnil]; rfl)]⟩, ?_⟩
        · rcases Nat.lt_or_ge k n with h | h
          · exact hall k h1 h
          · rw [show k = n by omega]; exact hnil
        · simp only [mu12]; rw [show 61 - (n + 1) = 60 - n by omega]; omega
      have jB : ∀ γ, t < capH hi n → t < 26 ^ n → ∃ x, p12b = at12 x ∧ w12b lo hi n γ (ys.map (strK n) ++ [strK n t]) (nextK (strK n t)) = vals12 lo hi x ∧ inv12 lo hi x ∧ mu12 x < mu12 (.inr (n, t, (γ1, γ2), ys)) := fun γ h h1 => by
        have h26 : t % 26 ≠ 0 := ht26.elim id (fun h => by omega)
        refine ⟨.inr (n, fixN (t + 1), γ, ys ++ [t]), rfl, ?_, ⟨⟨hn1, hn2, hl, hh, hall, hb⟩, h60, ?_, ?_⟩, ?_⟩
        · simp [vals12, w12b, next_strK n t hn1 h1]
        · rw [keysN_fix, hk, keysN_take h26 h]; simp
        · unfold fixN; split
          · exact .inl (by omega)
          · exact .inl (by assumption)
        · simp only [mu12]; unfold fixN; split <;> omega
      have jR : capH hi n ≤ t → ys.length ≠ 0 → IntKind.wrap .i64 (Int.tdiv (IntKind.wrap .i64 ((ys.length : Int) - 1)) 2) = (((ys.length - 1) / 2 : Nat) : Int) ∧ betK lo hi = ((ys.map (strK n)).getD ((ys.length - 1) / 2) default, 0) := fun h h0 => by
        refine ⟨mid_wrap ys.length (by omega) (by omega), ?_⟩
        rw [hb, hbF, hend h, if_neg h0, map_getD' (strK n) ys _ 0 (by omega)]
      have hcond : (decide (26 ^ n ≤ t) = true ∨ decide (t < capH hi n) = false) → capH hi n ≤ t := fun h => by
        rcases h with h | h
        · have := of_decide_eq_true h; omega
        · have := of_decide_eq_false h; omega
      have hgm : ys.length ≠ 0 → (List.map strRow (ys.map (strK n)))[(ys.length - 1) / 2]? = some (strRow ((ys.map (strK n)).getD ((ys.length - 1) / 2) default)) := fun h0 => by
        rw [List.getElem?_eq_getElem (by simp; omega)]
        simp [List.getD, show (ys.length - 1) / 2 < ys.length by omega]
      have e : ∀ Y : List ByteArray, ∀ S : ByteArray, (Y ++ [S]).map strRow = Y.map strRow ++ [[.str S]] := fun Y S => by simp [strRow]
      simp only [w12a, w12b, e, p12a, p12b] at jA jB
      have hroom : roomy (ys.length + 1) 16 = true := by simp [roomy]; omega
      have hlp : ((ys.length : Int) > 0) ↔ ys.length ≠ 0 := by omega
      by_cases ht : t < 26 ^ n
      · have hs : sK n t = strK n t := by unfold sK; rw [if_pos ht]
        have hc26 := c26 (sK n t) hlow (by rw [hsz, if_pos ht]; omega) (by rw [hsz, if_pos ht]; omega)
        have hh0 : hi.size = 0 → t < capH hi n := fun h => by unfold capH; rw [if_pos h]; exact ht
        have hless : hi.size ≠ 0 → Op.bytesLess (sK n t).toList hi.toList = decide (t < capH hi n) := fun h => sK_less hhi n t h ht
        have hEf : decide (26 ^ n ≤ t) = false := decide_eq_false (by omega)
        rw [hs] at *
        simp only [TW, LcQ, List.length_map, hE, hEf, hym, hc26, hroom, Nat.zero_add]
        simp only [empty_iff]
        generalize hY : ys.map (strK n) = Y at *
        generalize hS : strK n t = S at *
        have htk : List.take ys.length (List.map strRow Y) = List.map strRow Y := by rw [List.take_of_length_le (by simp; omega)]
        have hSz : S.size = n := by rw [← hS]; exact strK_size n t
        have hSne : ¬ S = ByteArray.empty := fun h => by rw [h] at hSz; have : (0 : Nat) = n := hSz; omega
        simp only [htk]
        by_cases h0 : hi.size = 0
        · simp only [h0, decide_true]
          have hj := jB (nx + 11 + 1 + 1 + 1, 0) (hh0 h0) ht
          simp [hSne]
          exact hj
        · have hl' := hless h0
          simp only [h0, decide_false, hl']
          by_cases hcp : t < capH hi n
          · have hj := jB (nx + 11 + 1 + 1 + 1, 0) hcp ht
            simp only [hcp, decide_true]
            simp [hSne]
            exact hj
          · have hge : capH hi n ≤ t := by omega
            by_cases hy0 : ys.length = 0
            · have hj := jA hge hy0
              simp only [hcp, decide_false, hy0, hw]
              simp [hSne]
              exact hj
            · obtain ⟨hm1, hm2⟩ := jR hge hy0
              have hgm' := hgm hy0
              simp only [hcp, decide_false, hm1, hm2, Int.toNat_natCast, hgm']
              simp [hSne]
              exact ⟨fun _ => by omega, fun h => absurd (by rw [h]; rfl) hy0⟩
      · have hs : (sK n t).size = 0 := by rw [hsz, if_neg ht]
        have hge : capH hi n ≤ t := by omega
        generalize hS : sK n t = S at *
        generalize hY : ys.map (strK n) = Y at *
        have hSe : S = ByteArray.empty := by
          rcases S with ⟨⟨S⟩⟩
          have : S = [] := List.length_eq_zero_iff.1 hs
          rw [this]; rfl
        have htk : List.take ys.length (List.map strRow Y) = List.map strRow Y := by rw [List.take_of_length_le (by simp; omega)]
        simp only [TW, LcQ, List.length_map, hym, Nat.zero_add]
        simp only [empty_iff, htk]
        by_cases hy0 : ys.length = 0
        · have hj := jA hge hy0
          simp only [hy0, hw, hs]
          simp [hs]
          exact hj
        · obtain ⟨hm1, hm2⟩ := jR hge hy0
          have hgm' := hgm hy0
          simp only [hm1, hm2, Int.toNat_natCast, hgm', hs]
          simp [hs]
          exact ⟨fun _ => by omega, fun h => absurd (by rw [h]; rfl) hy0⟩
end Go.Proofs.Ytaenniiaccflmaa
