/- Keys between two keys: plain facts. -/
import Derived.Test.YtaenniiaccflmaaPNum
set_option linter.unusedVariables false
set_option linter.unusedSimpArgs false
set_option linter.unnecessarySimpa false
set_option linter.unusedSectionVars false
namespace Go.Proofs.Ytaenniiaccflmaa
open Go Go.Vm Go.Proofs
theorem floor_nil (n : Nat) : floorN [] n = if 0 < n then 0 else 1 := by
  unfold floorN codeL; simp
/-- The number of a key that lies between is among those of its level. -/
theorem in_level {lo hi key : ByteArray} (hl : low (bts lo)) (hh : low (bts hi)) (hk : low (bts key)) (h1 : 1 ≤ key.size) (hm : numK key % 26 ≠ 0) (hlo : lo.size = 0 ∨ ltK lo key = true) (hhi : hi.size = 0 ∨ ltK key hi = true) : numK key ∈ levelK lo hi key.size := by
  obtain ⟨hs, hlt⟩ := strK_num key hk
  refine mem_keys.2 ⟨?_, ?_, hm⟩
  · rcases hlo with h | h
    · have : bts lo = [] := List.length_eq_zero_iff.1 (by rw [bts_len, h])
      rw [this, floor_nil, if_pos (by omega)]; omega
    · unfold ltK at h; rw [less_eq] at h
      conv at h => lhs; rw [← hs]
      rw [bts_strK, floor_le hl _ _ hlt (.inr trivial)] at h
      exact of_decide_eq_true h
  · unfold capH
    rcases hhi with h | h
    · rw [if_pos h]; exact hlt
    · split
      · exact hlt
      · unfold ltK at h; rw [less_eq] at h
        conv at h => lhs; rw [← hs]
        rw [bts_strK, lt_cap hh _ _ hlt] at h
        exact of_decide_eq_true h
/-- What the search finds. -/
theorem bet_found (lo hi : ByteArray) (m : Nat) (hm : (levelK lo hi m).length ≠ 0) : ∀ (f n : Nat), n ≤ m → m < n + f → ∃ n' k, n ≤ n' ∧ n' ≤ m ∧ k ∈ levelK lo hi n' ∧ betF lo hi n f = (strK n' k, 0)
  | 0, n, h1, h2 => by omega
  | f + 1, n, h1, h2 => by
    rw [betF]
    by_cases h0 : (levelK lo hi n).length = 0
    · rw [if_pos h0]
      have : n ≠ m := fun e => hm (by rw [← e]; exact h0)
      obtain ⟨n', k, h3, h4, h5, h6⟩ := bet_found lo hi m hm f (n + 1) (by omega) (by omega)
      exact ⟨n', k, by omega, h4, h5, h6⟩
    · rw [if_neg h0]
      refine ⟨n, (levelK lo hi n).getD (((levelK lo hi n).length - 1) / 2) 0, Nat.le_refl _, h1, ?_, rfl⟩
      have : ((levelK lo hi n).length - 1) / 2 < (levelK lo hi n).length := by omega
      simp [List.getD, this]
theorem bet_cases (lo hi : ByteArray) : ∀ (f n : Nat), (betF lo hi n f = (⟨#[]⟩, 17) ∧ ∀ m, n ≤ m → m < n + f → (levelK lo hi m).length = 0) ∨ ∃ n' k, n ≤ n' ∧ n' < n + f ∧ k ∈ levelK lo hi n' ∧ betF lo hi n f = (strK n' k, 0)
  | 0, n => .inl ⟨rfl, fun m h1 h2 => by omega⟩
  | f + 1, n => by
    rw [betF]
    by_cases h0 : (levelK lo hi n).length = 0
    · rw [if_pos h0]
      rcases bet_cases lo hi f (n + 1) with ⟨h1, h2⟩ | ⟨n', k, h3, h4, h5, h6⟩
      · refine .inl ⟨h1, fun m h3 h4 => ?_⟩
        by_cases e : m = n
        · rw [e]; exact h0
        · exact h2 m (by omega) (by omega)
      · exact .inr ⟨n', k, by omega, by omega, h5, h6⟩
    · rw [if_neg h0]
      refine .inr ⟨n, (levelK lo hi n).getD (((levelK lo hi n).length - 1) / 2) 0, Nat.le_refl _, by omega, ?_, rfl⟩
      have : ((levelK lo hi n).length - 1) / 2 < (levelK lo hi n).length := by omega
      simp [List.getD, this]
/-- A key that the search finds lies between. -/
theorem found_between {lo hi : ByteArray} (hl : low (bts lo)) (hh : low (bts hi)) {n k : Nat} (hn : 1 ≤ n) (hk : k ∈ levelK lo hi n) : k < 26 ^ n ∧ k % 26 ≠ 0 ∧ (lo.size ≠ 0 → ltK lo (strK n k) = true) ∧ (hi.size ≠ 0 → ltK (strK n k) hi = true) := by
  obtain ⟨h1, h2, h3⟩ := mem_keys.1 hk
  have hlt : k < 26 ^ n := Nat.lt_of_lt_of_le h2 (capH_le hh n)
  refine ⟨hlt, h3, fun h0 => ?_, fun h0 => ?_⟩
  · unfold ltK; rw [less_eq, bts_strK, floor_le hl n k hlt (.inr trivial)]; exact decide_eq_true h1
  · rw [lt_strK hh n k hlt h0]; exact decide_eq_true h2
/-- Between two keys there is another one, of one letter more. -/
theorem between_ex {lo hi : ByteArray} (hl : low (bts lo)) (hh : low (bts hi)) (hml : lo.size = 0 ∨ numK lo % 26 ≠ 0) (hmh : hi.size ≠ 0 → numK hi % 26 ≠ 0) (hlt : lo.size = 0 ∨ hi.size = 0 ∨ ltK lo hi = true) (hp : lo.size ≠ 0 ∨ hi.size ≠ 0) : (levelK lo hi (max lo.size hi.size + 1)).length ≠ 0 := by
  obtain ⟨hsl, hcl⟩ := strK_num lo hl
  obtain ⟨hsh, hch⟩ := strK_num hi hh
  generalize hM : max lo.size hi.size = M
  have hfl : floorN (bts lo) (M + 1) = 26 * (numK lo * 26 ^ (M - lo.size)) := by
    unfold floorN; rw [bts_len, if_pos (by omega), show M + 1 - lo.size = (M - lo.size) + 1 by omega, Nat.pow_succ]
    show codeL (bts lo) * _ = 26 * (codeL (bts lo) * _)
    ac_rfl
  have hkey : 26 * (numK lo * 26 ^ (M - lo.size)) + 1 < capH hi (M + 1) := by
    unfold capH
    split
    · rename_i h0
      have hMl : M = lo.size := by omega
      rw [hMl, Nat.sub_self, Nat.pow_zero, Nat.mul_one, Nat.pow_succ]; omega
    · rename_i h0
      have hcap : capN (bts hi) (M + 1) = 26 * (numK hi * 26 ^ (M - hi.size)) := by
        unfold capN; rw [bts_len, if_pos (by omega), show M + 1 - hi.size = (M - hi.size) + 1 by omega, Nat.pow_succ]
        show codeL (bts hi) * _ = 26 * (codeL (bts hi) * _)
        ac_rfl
      rw [hcap]
      have hlt' : numK lo * 26 ^ (M - lo.size) < numK hi * 26 ^ (M - hi.size) := by
        rcases Nat.lt_or_ge hi.size lo.size with hc | hc
        · have hMl : M = lo.size := by omega
          have h : ltK lo hi = true := hlt.elim (fun h => by omega) (fun h => h.elim (fun h => absurd h h0) id)
          unfold ltK at h; rw [less_eq] at h
          conv at h => lhs; rw [← hsl]
          rw [bts_strK, lt_cap hh _ _ hcl] at h
          have := of_decide_eq_true h
          unfold capN at this; rw [bts_len, if_pos (by omega)] at this
          rw [hMl, Nat.sub_self, Nat.pow_zero, Nat.mul_one]; exact this
        · have hMh : M = hi.size := by omega
          have hm := hmh h0
          rw [hMh, Nat.sub_self, Nat.pow_zero, Nat.mul_one]
          by_cases hl0 : lo.size = 0
          · have : numK lo = 0 := by
              unfold numK
              have : bts lo = [] := List.length_eq_zero_iff.1 (by rw [bts_len, hl0])
              rw [this]; rfl
            rw [this]; omega
          · have h : ltK lo hi = true := hlt.elim (fun h => absurd h hl0) (fun h => h.elim (fun h => absurd h h0) id)
            unfold ltK at h; rw [less_eq] at h
            conv at h => lhs; rw [← hsh]
            rw [bts_strK, floor_le hl _ _ hch (.inr trivial)] at h
            have := of_decide_eq_true h
            unfold floorN at this; rw [bts_len] at this
            split at this
            · rename_i hlt2
              have hne : numK lo * 26 ^ (hi.size - lo.size) ≠ numK hi := fun e => by
                obtain ⟨t, ht⟩ : ∃ t, hi.size - lo.size = t + 1 := ⟨hi.size - lo.size - 1, by omega⟩
                rw [ht, Nat.pow_succ, ← Nat.mul_assoc] at e
                omega
              have h7 : numK lo * 26 ^ (hi.size - lo.size) ≤ numK hi := this
              omega
            · have he : lo.size = hi.size := by omega
              rw [he, Nat.sub_self, Nat.pow_zero, Nat.mul_one]
              rw [List.take_of_length_le (by rw [bts_len]; omega)] at this
              exact this
      omega
  intro h0
  have : 26 * (numK lo * 26 ^ (M - lo.size)) + 1 ∈ levelK lo hi (M + 1) := mem_keys.2 ⟨by rw [hfl]; omega, hkey, by omega⟩
  rw [List.length_eq_zero_iff.1 h0] at this; simp at this
end Go.Proofs.Ytaenniiaccflmaa
