/- A part of the proof: PCon7. -/
import Derived.Test.YtaenniiaccflmaaPTrees5
set_option linter.unusedVariables false
set_option linter.unusedSimpArgs false
set_option linter.unnecessarySimpa false
set_option linter.unusedSectionVars false
namespace Go.Proofs.Ytaenniiaccflmaa
open Go Go.Vm Go.Proofs
theorem strN_get' (j n q e r : Nat) (hj : j < n) (he : e < 26) (hr : r < 26 ^ j) : (strN n ((q * 26 + e) * 26 ^ j + r)).getD (n - 1 - j) default = 97 + (e : Int) := strN_get j n q e r hj he hr
theorem last_get (n k : Nat) (hn : 0 < n) : (strN n k).getD (n - 1) default = 97 + ((k % 26 : Nat) : Int) := by
  have := strN_get' 0 n (k / 26) (k % 26) 0 hn (by omega) (by simp)
  rw [show (k / 26 * 26 + k % 26) * 26 ^ 0 + 0 = k by simp; omega] at this
  exact this
theorem last_set (n k : Nat) (hn : 0 < n) (h : k % 26 = 0) : (strN n k).set (n - 1) 98 = strN n (k + 1) := by
  have := strN_set 0 n (k / 26) 1 0 0 hn (by omega) (by omega) (by simp)
  rw [show (k / 26 * 26 + 0) * 26 ^ 0 + 0 = k by simp; omega, show (k / 26 * 26 + 1) * 26 ^ 0 + 0 = k + 1 by simp; omega] at this
  exact this
theorem map_byte_getD (b : List Int) (i : Nat) (h : i < b.length) : (List.map byteRow b).getD i default = byteRow (b.getD i default) := by simp [List.getD, h]
theorem take_full {α β : Type} (f : α → β) (b : List α) : List.take b.length (List.map f b) = List.map f b := by rw [List.take_of_length_le (by simp)]
theorem c26 (s : ByteArray) (hs : low (bts s)) (h1 : 1 ≤ s.size) (h60 : s.size ≤ 1000) : callE Try.prog NoPhi 26 [.str s] = some (.str (nextK s)) := by
  obtain ⟨hstr, hK⟩ := strK_num s hs
  have hb0 : bts s = strN s.size (numK s) := by conv => lhs; rw [← hstr]; rw [bts_strK]
  generalize hKe : numK s = K at *
  refine call_loop (ι := Nat × Stamp) Try.f26 hd26 46 Try.func26 (by kernel_rfl) rfl p26 rfl (fun x => w26 s ((s.size : Int) - 1 - x.1) x.2 (strN s.size (K / 26 ^ x.1 * 26 ^ x.1))) (fun x => x.1 ≤ s.size ∧ (K + 1) % 26 ^ x.1 = 0) (fun x => s.size - x.1) ⟨_, e26 s, ?_⟩ (fun x nx ⟨hj, hm⟩ g => ⟨_, r26 s _ x.2 _ g nx, ?_⟩)
  · have hw : IntKind.wrap .i64 ((s.size : Int) - 1) = (s.size : Int) - 1 := wrap64 _ (by omega) (by omega)
    simp only [TW, LcQ, rows_bts, List.length_map, bts_len, hw]
    refine ⟨by simp; omega, trivial, rfl, (0, (3, 0)), ?_, by simp, by simp [Nat.mod_one]⟩
    simp [w26, hb0]
  · obtain ⟨j, γ1, γ2⟩ := x
    simp only at hj hm ⊢
    have hP : 0 < 26 ^ j := Nat.pow_pos (by omega)
    by_cases hjn : j = s.size
    · have hKn : K + 1 = 26 ^ s.size := by
        rw [hjn] at hm hP
        have := Nat.dvd_of_mod_eq_zero hm
        exact Nat.le_antisymm (by omega) (Nat.le_of_dvd (by omega) this)
      have hnx : nextK s = ⟨#[]⟩ := by unfold nextK; rw [if_neg (by omega)]
      have hi : (s.size : Int) - 1 - (j : Int) = -1 := by omega
      rw [hi]
      simp [TW, LcQ, hnx]
    · have hjl : j < s.size := by omega
      have hi : (s.size : Int) - 1 - (j : Int) = ((s.size - 1 - j : Nat) : Int) := by omega
      have hQ : K / 26 ^ j = (K / 26 ^ j / 26) * 26 + K / 26 ^ j % 26 := by omega
      have hk1 : K + 1 = (K / 26 ^ j + 1) * 26 ^ j := by
        have h := Nat.div_add_mod K (26 ^ j)
        have h2 := Nat.div_add_mod (K + 1) (26 ^ j)
        have h3 : K % 26 ^ j < 26 ^ j := Nat.mod_lt _ hP
        rw [hm, Nat.add_zero] at h2
        have h4 : K % 26 ^ j = 26 ^ j - 1 := by
          have h5 : (K % 26 ^ j + 1) % 26 ^ j = 0 := by rw [← hm, Nat.add_mod, Nat.mod_mod, ← Nat.add_mod]
          rcases Nat.lt_or_ge (K % 26 ^ j + 1) (26 ^ j) with h6 | h6
          · rw [Nat.mod_eq_of_lt h6] at h5; omega
          · omega
        rw [Nat.add_mul, Nat.mul_comm (K / 26 ^ j)]; omega
      have hget := strN_get' j s.size (K / 26 ^ j / 26) (K / 26 ^ j % 26) 0 hjl (by omega) hP
      rw [← hQ, Nat.add_zero] at hget
      have hset : ∀ d : Nat, d < 26 → (strN s.size (K / 26 ^ j * 26 ^ j)).set (s.size - 1 - j) (97 + (d : Int)) = strN s.size ((K / 26 ^ j / 26 * 26 + d) * 26 ^ j) := fun d hd => by
        have := strN_set j s.size (K / 26 ^ j / 26) d (K / 26 ^ j % 26) 0 hjl hd (by omega) hP
        rw [← hQ, Nat.add_zero, Nat.add_zero] at this; exact this
      have hlen : (strN s.size (K / 26 ^ j * 26 ^ j)).length = s.size := strN_len _ _
      generalize hB : strN s.size (K / 26 ^ j * 26 ^ j) = B at *
      rw [hi]
      have hmg : (List.map byteRow B).getD (s.size - 1 - j) default = byteRow (B.getD (s.size - 1 - j) default) := map_byte_getD _ _ (by omega)
      have hil : s.size - 1 - j < B.length := by omega
      have hw1 : IntKind.wrap .i64 (((s.size - 1 - j : Nat) : Int) - 1) = (s.size : Int) - 1 - ((j + 1 : Nat) : Int) := by rw [wrap64 _ (by omega) (by omega)]; omega
      have hwn : IntKind.wrap .i64 ((s.size : Int) - 1) = ((s.size - 1 : Nat) : Int) := by rw [wrap64 _ (by omega) (by omega)]; omega
      by_cases he : K / 26 ^ j % 26 = 25
      · have hz : B.getD (s.size - 1 - j) default = 122 := by rw [hget, he]; rfl
        have hs0 : B.set (s.size - 1 - j) 97 = strN s.size (K / 26 ^ (j + 1) * 26 ^ (j + 1)) := by
          have := hset 0 (by omega)
          rw [show (97 : Int) + ((0 : Nat) : Int) = 97 by rfl] at this
          rw [this, Nat.pow_succ, ← Nat.div_div_eq_div_mul, Nat.add_zero, Nat.mul_assoc, Nat.mul_comm 26]
        have hm1 : (K + 1) % 26 ^ (j + 1) = 0 := by
          rw [hk1, Nat.pow_succ]
          have : K / 26 ^ j + 1 = (K / 26 ^ j / 26 + 1) * 26 := by omega
          rw [this, Nat.mul_assoc, Nat.mul_comm 26, Nat.mul_mod_left]
        have hjj : ∃ x : Nat × Stamp, w26 s ((s.size : Int) - 1 - ((j + 1 : Nat) : Int)) (γ1, γ2) (strN s.size (K / 26 ^ (j + 1) * 26 ^ (j + 1))) = w26 s ((s.size : Int) - 1 - x.1) x.2 (strN s.size (K / 26 ^ x.1 * 26 ^ x.1)) ∧ (x.1 ≤ s.size ∧ (K + 1) % 26 ^ x.1 = 0) ∧ s.size - x.1 < s.size - j :=
          ⟨(j + 1, (γ1, γ2)), rfl, ⟨hjl, hm1⟩, by show s.size - (j + 1) < s.size - j; omega⟩
        simp only [TW, LcQ, List.length_map, Nat.zero_add, set_byte, Int.toNat_natCast, hw1, hs0, hz]
        simp +contextual (disch := omega) [at_getD, -List.getD_eq_getElem?_getD, -Int.default_eq_zero, hlen, hil, hmg, hz, p26]
        exact ⟨by omega, j + 1, ⟨γ1, γ2, rfl⟩, ⟨hjl, hm1⟩, by omega⟩
      · have hd1 : K / 26 ^ j % 26 + 1 < 26 := by omega
        have hz : B.getD (s.size - 1 - j) default ≠ 122 := by rw [hget]; omega
        have hwu : IntKind.wrap .u8 (B.getD (s.size - 1 - j) default + 1) = 97 + ((K / 26 ^ j % 26 + 1 : Nat) : Int) := by rw [hget, wrapU8 _ (by omega) (by omega)]; omega
        have hs1 : B.set (s.size - 1 - j) (97 + ((K / 26 ^ j % 26 + 1 : Nat) : Int)) = strN s.size (K + 1) := by
          rw [hset _ hd1, hk1]
          congr 2; omega
        have hKn : K + 1 < 26 ^ s.size := by
          obtain ⟨t, ht⟩ : ∃ t, s.size = j + 1 + t := ⟨s.size - (j + 1), by omega⟩
          rcases Nat.lt_or_ge (K + 1) (26 ^ s.size) with h | h
          · exact h
          · exfalso
            have hEq : K + 1 = 26 ^ s.size := by omega
            rw [hk1, ht, Nat.pow_add, Nat.pow_succ] at hEq
            have h7 : K / 26 ^ j + 1 = 26 * 26 ^ t := by
              refine Nat.eq_of_mul_eq_mul_right hP ?_
              rw [hEq]; ac_rfl
            omega
        have hnx : nextK s = strK s.size (fixN (K + 1)) := by unfold nextK; rw [hKe, if_pos hKn]
        have hlg := last_get s.size (K + 1) (by omega)
        have hls := last_set s.size (K + 1) (by omega)
        have hlen2 : (strN s.size (K + 1)).length = s.size := strN_len _ _
        have hfix : strK s.size (fixN (K + 1)) = if (K + 1) % 26 = 0 then ofB ((strN s.size (K + 1)).set (s.size - 1) 98) else ofB (strN s.size (K + 1)) := by
          unfold fixN strK
          split
          · rename_i h; rw [hls h]
          · rfl
        rw [hnx, hfix]
        simp only [TW, LcQ, List.length_map, List.length_set, Nat.zero_add, set_byte, Int.toNat_natCast, hwu, hs1, hlen, hlen2, hwn]
        clear hfix hnx hKn hset hget hm hk1 hQ hls hstr hK hb0 hB hwu hs1
        generalize hL : strN s.size (K + 1) = L at *
        have hll : s.size - 1 < L.length := by omega
        have hmg2 : (List.map byteRow L).getD (s.size - 1) default = byteRow (L.getD (s.size - 1) default) := map_byte_getD _ _ hll
        have hb1 := bytes_of L
        have hb2 := bytes_of (L.set (s.size - 1) 98)
        have ht1 : List.take s.size (List.map byteRow L) = List.map byteRow L := by rw [List.take_of_length_le (by simp; omega)]
        have ht2 : List.take s.size (List.map byteRow (L.set (s.size - 1) 98)) = List.map byteRow (L.set (s.size - 1) 98) := by rw [List.take_of_length_le (by simp; omega)]
        simp only [List.drop_zero, ht1, ht2, hb1, hb2]
        have hn0 : ¬ ((s.size - 1 - j : Nat) : Int) < 0 := by omega
        have hl0 : ((K + 1) % 26 = 0) ↔ L.getD (s.size - 1) default = 97 := by rw [hlg]; omega
        by_cases hc : (K + 1) % 26 = 0
        · have h97 := hl0.1 hc
          simp +contextual (disch := omega) [at_getD, -List.getD_eq_getElem?_getD, -Int.default_eq_zero, -List.map_set, hlen, hil, hmg, hmg2, hz, p26, hn0, h97, hc, hll]
          omega
        · have h97 : ¬ L.getD (s.size - 1) default = 97 := fun h => hc (hl0.2 h)
          simp +contextual (disch := omega) [at_getD, -List.getD_eq_getElem?_getD, -Int.default_eq_zero, -List.map_set, hlen, hil, hmg, hmg2, hz, p26, hn0, h97, hc, hll]
          omega
theorem bts_append (a b : ByteArray) : bts (a ++ b) = bts a ++ bts b := by
  simp [bts, ByteArray.data_append]
theorem bts_extract (s : ByteArray) (n : Nat) : bts (s.extract 0 n) = (bts s).take n := by
  simp [bts, ByteArray.data_extract, Array.toList_extract, List.extract_eq_take_drop]
theorem c25 (s : ByteArray) (n : Nat) (hs : low (bts s)) (h60 : s.size ≤ 1000) (hn1 : 1 ≤ n) (hn : n ≤ 1000) : callE Try.prog NoPhi 25 [.str s, .int .i64 (n : Int)] = some (.str (aboveK s n)) := by
  obtain ⟨hstr, hK⟩ := strK_num s hs
  have hb0 : bts s = strN s.size (numK s) := by conv => lhs; rw [← hstr]; rw [bts_strK]
  refine call_loop (ι := Nat × Stamp) Try.f25 hd25 36 Try.func25 (by kernel_rfl) rfl p25 rfl (fun x => w25 s n (s.size + x.1 : Nat) x.2 (bts s ++ List.replicate x.1 97 ++ List.replicate (n - s.size - x.1) 0)) (fun x => s.size < n ∧ s.size + x.1 ≤ n) (fun x => n - x.1) ⟨_, e25 s n, ?_⟩ (fun x nx ⟨hlt, hj⟩ g => ⟨_, r25 s n _ x.2 _ g nx, ?_⟩)
  · have hrep : List.replicate n [TV.int .u8 0] = (List.replicate n (0 : Int)).map byteRow := by simp [byteRow]
    have hex : (s.extract 0 n).size = min n s.size := by rw [← bts_len, bts_extract, List.length_take, bts_len]
    have hlow : low (bts (s.extract 0 n)) := by rw [bts_extract]; exact low_take hs n
    simp only [TW, LcQ, rows_bts, List.length_map, bts_len, hrep, List.length_replicate, Int.toNat_natCast]
    refine ⟨by simp; omega, by simp, by simp [roomy]; omega, fun h => ?_, fun h => ?_⟩
    · have hlt : s.size < n := by simp at h; omega
      refine ⟨trivial, trivial, trivial, rfl, (0, (3, 0)), ?_, hlt, by simp; omega⟩
      have e1 : List.take (min s.size n) (List.map byteRow (bts s)) = List.map byteRow (bts s) := by
        rw [List.take_of_length_le (by simp; omega)]
      have e2 : List.drop (0 + min s.size n) (List.map byteRow (List.replicate n 0)) = List.map byteRow (List.replicate (n - s.size) 0) := by
        rw [← List.map_drop, List.drop_replicate, show n - (0 + min s.size n) = n - s.size by omega]
      rw [e1, e2]
      simp [w25]
    · have hge : n ≤ s.size := by simp at h; omega
      have hc := c26 (s.extract 0 n) hlow (by omega) (by omega)
      have hab : aboveK s n = nextK (s.extract 0 n) := by
        have hz : (s.extract 0 n).size = n := by omega
        have hfl : floorN (bts s) n = codeL ((bts s).take n) + 1 := by unfold floorN; rw [bts_len, if_neg (by omega)]
        unfold aboveK nextK numK
        rw [hz, bts_extract, Int.toNat_natCast, hfl]
      rw [hab]
      refine ⟨by simp; omega, hc, rfl⟩
  · obtain ⟨j, γ1, γ2⟩ := x
    simp only at hj ⊢
    have hlen : (bts s ++ List.replicate j 97 ++ List.replicate (n - s.size - j) 0).length = n := by simp; omega
    by_cases hjn : s.size + j < n
    · have hset : (bts s ++ List.replicate j 97 ++ List.replicate (n - s.size - j) 0).set (s.size + j) 97 = bts s ++ List.replicate (j + 1) 97 ++ List.replicate (n - s.size - (j + 1)) 0 := by
        rw [List.set_append_right _ _ (by simp), show n - s.size - j = (n - s.size - (j + 1)) + 1 by omega, List.replicate_succ]
        simp [List.replicate_succ']
      have hw : IntKind.wrap .i64 (((s.size + j : Nat) : Int) + 1) = ((s.size + (j + 1) : Nat) : Int) := by rw [wrap64 _ (by omega) (by omega)]; rfl
      simp only [TW, LcQ, List.length_map, Nat.zero_add, set_byte, Int.toNat_natCast, hset, hw, hlen]
      generalize hB : bts s ++ List.replicate j 97 ++ List.replicate (n - s.size - j) 0 = B at *
      have hmg : (List.map byteRow B).getD (s.size + j) default = byteRow (B.getD (s.size + j) default) := map_byte_getD _ _ (by omega)
      have hil : s.size + j < B.length := by omega
      have h1 : ((s.size + j : Nat) : Int) < (n : Int) := by omega
      simp +contextual (disch := omega) only [h1, decide_true, decide_eq_true_eq, true_and, true_implies, Bool.true_eq_false, false_implies, and_true]
      refine ⟨by omega, ?_, rfl, (j + 1, (γ1, γ2)), rfl, ⟨hlt, by show s.size + (j + 1) ≤ n; omega⟩, by show n - (j + 1) < n - j; omega⟩
      rw [List.getElem?_eq_getElem (by simp; omega), at_getD, hmg]
    · have hjn' : s.size + j = n := by omega
      have hB : bts s ++ List.replicate j 97 ++ List.replicate (n - s.size - j) 0 = strN n (numK s * 26 ^ j) := by
        rw [show n - s.size - j = 0 by omega, hb0, ← hjn', strN_pad]; simp
      have hj0 : 0 < j := by omega
      have hm0 : numK s * 26 ^ j % 26 = 0 := by
        obtain ⟨t, rfl⟩ : ∃ t, j = t + 1 := ⟨j - 1, by omega⟩
        rw [Nat.pow_succ, ← Nat.mul_assoc, Nat.mul_mod_left]
      have hls := last_set n (numK s * 26 ^ j) (by omega) hm0
      have hfl : floorN (bts s) n = numK s * 26 ^ j := by
        unfold floorN numK; rw [if_pos (by rw [bts_len]; exact hlt), bts_len, show n - s.size = j by omega]
      have hflt : numK s * 26 ^ j < 26 ^ n := by
        rw [← hjn', Nat.pow_add]; exact Nat.mul_lt_mul_of_pos_right hK (Nat.pow_pos (by omega))
      have hab : aboveK s n = ofB (strN n (numK s * 26 ^ j + 1)) := by
        unfold aboveK; rw [Int.toNat_natCast, hfl, if_pos hflt]; unfold fixN strK; rw [if_pos hm0]
      rw [hab, hB]
      clear hlen
      have hw : IntKind.wrap .i64 ((n : Int) - 1) = ((n - 1 : Nat) : Int) := by rw [wrap64 _ (by omega) (by omega)]; omega
      rw [hjn']
      generalize hL : strN n (numK s * 26 ^ j) = L at *
      have hlen : L.length = n := by rw [← hL]; exact strN_len _ _
      have hmg : (List.map byteRow L).getD (n - 1) default = byteRow (L.getD (n - 1) default) := map_byte_getD _ _ (by omega)
      have hb2 := bytes_of (L.set (n - 1) 98)
      have hlen3 : (L.set (n - 1) 98).length = n := by simp [hlen]
      have ht2 : List.take n (List.map byteRow (L.set (n - 1) 98)) = List.map byteRow (L.set (n - 1) 98) := by rw [List.take_of_length_le (by simp; omega)]
      simp only [TW, LcQ, List.length_map, Nat.zero_add, set_byte, Int.toNat_natCast, hw, List.append_nil, List.nil_append, List.length_set, hlen, List.drop_zero, ht2, hb2, hls]
      have hil : n - 1 < L.length := by omega
      simp +contextual (disch := omega) [at_getD, -List.getD_eq_getElem?_getD, -Int.default_eq_zero, -List.map_set, hlen, hil, hmg]
      have ht3 : List.take n (List.map byteRow (strN n (numK s * 26 ^ j + 1))) = List.map byteRow (strN n (numK s * 26 ^ j + 1)) := by rw [List.take_of_length_le (by simp)]
      rw [ht3]
      obtain ⟨a, h1, h2⟩ := Option.map_eq_some_iff.1 (bytes_of (strN n (numK s * 26 ^ j + 1)))
      exact ⟨by omega, a, h1, by simpa using h2⟩
inductive H28 where
  | a (j : Nat) (γ : Stamp)
  | b (t : Nat)
  | c (t : Nat) (γ : Stamp)
def at28 : H28 → List Bool | .a .. => p28a | .b .. => p28b | .c .. => p28c
def padK (s : ByteArray) (t : Nat) : ByteArray := ofB (bts s ++ List.replicate t 97)
def vals28 (s : ByteArray) (n K : Nat) : H28 → List TV
  | .a j γ => w28a s n ((n : Int) - 1 - (j : Int)) γ (strN n K)
  | .b t => w28b s n (padK s t)
  | .c t γ => w28c s n ((n - t : Nat) : Int) γ (strN n (K + 26 ^ t))
def inv28 (s : ByteArray) (n K : Nat) : H28 → Prop
  | .a j γ => n ≤ s.size ∧ j ≤ n ∧ (K + 1) % 26 ^ j = 0
  | .b t => s.size < n ∧ s.size + t ≤ n
  | .c t γ => n ≤ s.size ∧ t ≤ n ∧ (K + 1) % 26 ^ t = 0 ∧ K + 1 < 26 ^ n
def mu28 (n : Nat) : H28 → Nat
  | .a j γ => n + 1 + (n - j)
  | .b t => n - t
  | .c t γ => t
theorem bts_ofB_low (l : List Int) (h : low l) : bts (ofB l) = l := bts_ofB l fun x hx => by have := h x hx; omega
theorem pow_digit {K j : Nat} (hP : 0 < 26 ^ j) (hm : (K + 1) % 26 ^ j = 0) : K + 1 = (K / 26 ^ j + 1) * 26 ^ j ∧ K % 26 ^ j = 26 ^ j - 1 := by
  have h := Nat.div_add_mod K (26 ^ j)
  have h3 : K % 26 ^ j < 26 ^ j := Nat.mod_lt _ hP
  have h4 : K % 26 ^ j = 26 ^ j - 1 := by
    have h5 : (K % 26 ^ j + 1) % 26 ^ j = 0 := by rw [← hm, Nat.add_mod, Nat.mod_mod, ← Nat.add_mod]
    rcases Nat.lt_or_ge (K % 26 ^ j + 1) (26 ^ j) with h6 | h6
    · rw [Nat.mod_eq_of_lt h6] at h5; omega
    · omega
  refine ⟨?_, h4⟩
  rw [Nat.add_mul, Nat.mul_comm (K / 26 ^ j)]; omega
theorem c28 (s : ByteArray) (n : Nat) (hs : low (bts s)) (h60 : s.size ≤ 1000) (hn1 : 1 ≤ n) (hn : n ≤ 1000) : callE Try.prog NoPhi 28 [.str s, .int .i64 (n : Int)] = some (.str (afterK s n)) := by
  obtain ⟨hstr, hK⟩ := strK_num s hs
  have hb0 : bts s = strN s.size (numK s) := by conv => lhs; rw [← hstr]; rw [bts_strK]
  generalize hKe : codeL ((bts s).take n) = K at *
  have hnK : n ≤ s.size → K < 26 ^ n ∧ (bts s).take n = strN n K := fun h => by
    have h2 : ((bts s).take n).length = n := by rw [List.length_take, bts_len]; omega
    have := str_code n _ h2 (low_take hs n)
    rw [hKe] at this; exact ⟨this.2, this.1.symm⟩
  refine call_heads (ι := H28) Try.f28 hd28 54 Try.func28 (by kernel_rfl) rfl at28 (by rintro (_ | _ | _) <;> rfl) (vals28 s n K) (inv28 s n K) (mu28 n) ⟨_, e28 s n, ?_⟩ (fun x nx hx g => ?_)
  · have hex : (s.extract 0 n).size = min n s.size := by rw [← bts_len, bts_extract, List.length_take, bts_len]
    have hw : IntKind.wrap .i64 ((n : Int) - 1) = (n : Int) - 1 := wrap64 _ (by omega) (by omega)
    simp only [TW, LcQ, rows_bts, Int.toNat_natCast, hw]
    refine ⟨fun h => ?_, fun h => ?_⟩
    · have hlt : s.size < n := by simp at h; omega
      refine ⟨trivial, .b 0, rfl, ?_, hlt, by omega⟩
      simp [vals28, w28b, padK, ofB_bts]
    · have hge : n ≤ s.size := by simp at h; omega
      refine ⟨by simp; omega, by simp; omega, trivial, .a 0 (9, 0), rfl, ?_, hge, by omega, by simp [Nat.mod_one]⟩
      rw [bts_extract, (hnK hge).2]
      simp [vals28, w28a]
  · rcases x with ⟨j, γ⟩ | ⟨t⟩ | ⟨t, γ⟩
    · obtain ⟨hge, hj, hm⟩ := hx
      obtain ⟨hKn, htk⟩ := hnK hge
      refine ⟨_, r28a s n _ γ _ g nx, ?_⟩
      have hP : 0 < 26 ^ j := Nat.pow_pos (by omega)
      have hfl : floorN (bts s) n = K + 1 := by unfold floorN; rw [bts_len, if_neg (by omega), hKe]
      by_cases hjn : j = n
      · have hKn' : K + 1 = 26 ^ n := by
          rw [hjn] at hm hP
          have := Nat.dvd_of_mod_eq_zero hm
          exact Nat.le_antisymm (by omega) (Nat.le_of_dvd (by omega) this)
        have hnx : afterK s n = ⟨#[]⟩ := by unfold afterK; rw [Int.toNat_natCast, hfl, if_neg (by omega)]
        have hi : (n : Int) - 1 - (j : Int) = -1 := by omega
        rw [hi]
        simp [TW, LcQ, hnx]
      · have hjl : j < n := by omega
        have hi : (n : Int) - 1 - (j : Int) = ((n - 1 - j : Nat) : Int) := by omega
        obtain ⟨hk1, hkm⟩ := pow_digit hP hm
        generalize K / 26 ^ j = Q at *
        have hQ : Q = (Q / 26) * 26 + Q % 26 := by omega
        have hKd : K = Q * 26 ^ j + (26 ^ j - 1) := by rw [Nat.add_mul] at hk1; omega
        have hget := strN_get' j n (Q / 26) (Q % 26) (26 ^ j - 1) hjl (by omega) (by omega)
        rw [← hQ, ← hKd] at hget
        have hset := fun (d : Nat) (hd : d < 26) => strN_set j n (Q / 26) d (Q % 26) (26 ^ j - 1) hjl hd (by omega) (by omega)
        rw [← hQ, ← hKd] at hset
        have hlen : (strN n K).length = n := strN_len _ _
        have hw1 : IntKind.wrap .i64 (((n - 1 - j : Nat) : Int) - 1) = (n : Int) - 1 - ((j + 1 : Nat) : Int) := by rw [wrap64 _ (by omega) (by omega)]; omega
        have hw2 : IntKind.wrap .i64 (((n - 1 - j : Nat) : Int) + 1) = ((n - j : Nat) : Int) := by rw [wrap64 _ (by omega) (by omega)]; omega
        by_cases he : Q % 26 = 25
        · have hm1 : (K + 1) % 26 ^ (j + 1) = 0 := by
            rw [hk1, Nat.pow_succ]
            have : Q + 1 = (Q / 26 + 1) * 26 := by omega
            rw [this, Nat.mul_assoc, Nat.mul_comm 26, Nat.mul_mod_left]
          have hjj : ∃ x, p28a = at28 x ∧ w28a s n ((n : Int) - 1 - ((j + 1 : Nat) : Int)) γ (strN n K) = vals28 s n K x ∧ inv28 s n K x ∧ mu28 n x < mu28 n (.a j γ) :=
            ⟨.a (j + 1) γ, rfl, rfl, ⟨hge, hjl, hm1⟩, by simp only [mu28]; omega⟩
          have hz : ¬ (strN n K).getD (n - 1 - j) default < 122 := by rw [hget, he]; omega
          rw [hi]
          simp only [TW, LcQ, List.length_map, Nat.zero_add, set_byte, Int.toNat_natCast, hw1, hlen]
          generalize strN n K = B at *
          have hmg : (List.map byteRow B).getD (n - 1 - j) default = byteRow (B.getD (n - 1 - j) default) := map_byte_getD _ _ (by omega)
          have hil : n - 1 - j < B.length := by omega
          simp only [w28a, p28a] at hjj
          clear hset hget hK hstr hb0 hKn htk hk1 hkm hKd hQ hm1
          simp +contextual (disch := omega) [at_getD, -List.getD_eq_getElem?_getD, -Int.default_eq_zero, -List.map_set, hlen, hil, hmg, hz]
          exact ⟨by omega, hjj⟩
        · have hd1 : Q % 26 + 1 < 26 := by omega
          have hz : (strN n K).getD (n - 1 - j) default < 122 := by rw [hget]; omega
          have hwu : IntKind.wrap .u8 ((strN n K).getD (n - 1 - j) default + 1) = 97 + ((Q % 26 + 1 : Nat) : Int) := by rw [hget, wrapU8 _ (by omega) (by omega)]; omega
          have hs1 : (strN n K).set (n - 1 - j) (97 + ((Q % 26 + 1 : Nat) : Int)) = strN n (K + 26 ^ j) := by
            rw [hset _ hd1]
            congr 1
            rw [show Q / 26 * 26 + (Q % 26 + 1) = Q + 1 by omega, Nat.add_mul]; omega
          have hKn' : K + 1 < 26 ^ n := by
            obtain ⟨t, ht⟩ : ∃ t, n = j + 1 + t := ⟨n - (j + 1), by omega⟩
            rcases Nat.lt_or_ge (K + 1) (26 ^ n) with h | h
            · exact h
            · exfalso
              have hEq : K + 1 = 26 ^ n := by omega
              rw [hk1, ht, Nat.pow_add, Nat.pow_succ] at hEq
              have h7 : Q + 1 = 26 * 26 ^ t := by
                refine Nat.eq_of_mul_eq_mul_right hP ?_
                rw [hEq]; ac_rfl
              omega
          have hjj : ∃ x, p28c = at28 x ∧ w28c s n ((n - j : Nat) : Int) γ (strN n (K + 26 ^ j)) = vals28 s n K x ∧ inv28 s n K x ∧ mu28 n x < mu28 n (.a j γ) :=
            ⟨.c j γ, rfl, rfl, ⟨hge, hj, hm, hKn'⟩, by simp only [mu28]; omega⟩
          rw [hi]
          simp only [TW, LcQ, List.length_map, Nat.zero_add, set_byte, Int.toNat_natCast, hw2, hlen, hwu, hs1]
          generalize strN n (K + 26 ^ j) = B2 at *
          generalize strN n K = B at *
          have hmg : (List.map byteRow B).getD (n - 1 - j) default = byteRow (B.getD (n - 1 - j) default) := map_byte_getD _ _ (by omega)
          have hil : n - 1 - j < B.length := by omega
          simp only [w28c, p28c] at hjj
          clear hset hget hK hstr hb0 hKn htk hk1 hkm hKd hQ hKn' hs1 hwu
          simp +contextual (disch := omega) [at_getD, -List.getD_eq_getElem?_getD, -Int.default_eq_zero, -List.map_set, hlen, hil, hmg, hz]
          exact ⟨by omega, hjj⟩
    · obtain ⟨hlt, ht⟩ := hx
      refine ⟨_, r28b s n (padK s t) g nx, ?_⟩
      have hlp : low (bts s ++ List.replicate t 97) := fun x hx => by
        rcases List.mem_append.1 hx with h | h
        · exact hs x h
        · rw [List.eq_of_mem_replicate h]; omega
      have hsz : (padK s t).size = s.size + t := by rw [← bts_len, padK, bts_ofB_low _ hlp]; simp
      have happ : padK s t ++ ⟨#[97]⟩ = padK s (t + 1) := by
        apply bts_inj
        have hlp1 : low (bts s ++ List.replicate (t + 1) 97) := fun x hx => by
          rcases List.mem_append.1 hx with h | h
          · exact hs x h
          · rw [List.eq_of_mem_replicate h]; omega
        rw [bts_append, padK, padK, bts_ofB_low _ hlp, bts_ofB_low _ hlp1, List.replicate_succ', ← List.append_assoc]; rfl
      by_cases hlt2 : s.size + t < n
      · have hjj : ∃ x, p28b = at28 x ∧ w28b s n (padK s (t + 1)) = vals28 s n K x ∧ inv28 s n K x ∧ mu28 n x < mu28 n (.b t) :=
          ⟨.b (t + 1), rfl, rfl, ⟨hlt, by omega⟩, by simp only [mu28]; omega⟩
        simp only [w28b, p28b] at hjj
        simp only [TW, LcQ, hsz, happ]
        have h1 : ((s.size + t : Nat) : Int) < (n : Int) := by omega
        rw [decide_eq_true h1]
        exact ⟨fun _ => ⟨by simp; omega, trivial, hjj⟩, fun h => (by cases h)⟩
      · have hjn : s.size + t = n := by omega
        have hpk : padK s t = afterK s n := by
          unfold afterK padK
          have hfl : floorN (bts s) n = numK s * 26 ^ t := by
            unfold floorN numK; rw [if_pos (by rw [bts_len]; exact hlt), bts_len, show n - s.size = t by omega]
          have hflt : numK s * 26 ^ t < 26 ^ n := by
            rw [← hjn, Nat.pow_add]; exact Nat.mul_lt_mul_of_pos_right hK (Nat.pow_pos (by omega))
          rw [Int.toNat_natCast, hfl, if_pos hflt, strK, ← hjn, strN_pad, ← hb0]
        simp only [TW, LcQ, hsz]
        have h1 : ¬ ((s.size + t : Nat) : Int) < (n : Int) := by omega
        rw [decide_eq_false h1]
        exact ⟨fun h => (by cases h), fun _ => by rw [hpk]⟩
    · obtain ⟨hge, ht, hm, hKn'⟩ := hx
      refine ⟨_, r28c s n _ γ _ g nx, ?_⟩
      have hfl : floorN (bts s) n = K + 1 := by unfold floorN; rw [bts_len, if_neg (by omega), hKe]
      have hak : afterK s n = ofB (strN n (K + 1)) := by unfold afterK; rw [Int.toNat_natCast, hfl, if_pos hKn']; rfl
      cases t with
      | zero =>
        have hb1 := bytes_of (strN n (K + 1))
        have h1 : ¬ ((n - 0 : Nat) : Int) < (n : Int) := by omega
        simp only [TW, LcQ, Nat.pow_zero, List.length_map, strN_len, List.drop_zero, hak]
        rw [List.take_of_length_le (by simp), decide_eq_false h1]
        exact ⟨fun h => (by cases h), fun _ => ⟨by simp, hb1, trivial⟩⟩
      | succ t =>
        have hP : 0 < 26 ^ t := Nat.pow_pos (by omega)
        have hm1 : (K + 1) % 26 ^ t = 0 := by
          rw [Nat.pow_succ] at hm
          have := Nat.dvd_of_mod_eq_zero hm
          exact Nat.mod_eq_zero_of_dvd (Nat.dvd_trans ⟨26, rfl⟩ this)
        have hk2 := pow_digit (K := K) (j := t + 1) (Nat.pow_pos (by omega)) hm
        have hi : ((n - (t + 1) : Nat) : Int) = ((n - 1 - t : Nat) : Int) := by omega
        have hw : IntKind.wrap .i64 (((n - 1 - t : Nat) : Int) + 1) = ((n - t : Nat) : Int) := by rw [wrap64 _ (by omega) (by omega)]; omega
        generalize hA : K / 26 ^ (t + 1) = A at hk2
        have hKA : K + 26 ^ (t + 1) = ((A + 1) * 26 + 25) * 26 ^ t + (26 ^ t - 1) := by
          have := hk2.1
          rw [Nat.pow_succ] at this ⊢
          have e1 : (A + 1) * (26 ^ t * 26) = (A + 1) * 26 * 26 ^ t := by ac_rfl
          rw [e1] at this
          rw [Nat.add_mul]; omega
        have hKB : K + 26 ^ t = ((A + 1) * 26 + 0) * 26 ^ t + (26 ^ t - 1) := by
          have := hk2.1
          rw [Nat.pow_succ] at this
          have e1 : (A + 1) * (26 ^ t * 26) = (A + 1) * 26 * 26 ^ t := by ac_rfl
          rw [e1] at this
          rw [Nat.add_zero]; omega
        have hset := strN_set t n (A + 1) 0 25 (26 ^ t - 1) (by omega) (by omega) (by omega) (by omega)
        rw [← hKA, ← hKB] at hset
        have hset : (strN n (K + 26 ^ (t + 1))).set (n - 1 - t) 97 = strN n (K + 26 ^ t) := hset
        have hjj : ∃ x, p28c = at28 x ∧ w28c s n ((n - t : Nat) : Int) γ (strN n (K + 26 ^ t)) = vals28 s n K x ∧ inv28 s n K x ∧ mu28 n x < mu28 n (.c (t + 1) γ) :=
          ⟨.c t γ, rfl, rfl, ⟨hge, by omega, hm1, hKn'⟩, by simp only [mu28]; omega⟩
        have hlen : (strN n (K + 26 ^ (t + 1))).length = n := strN_len _ _
        rw [hi]
        simp only [TW, LcQ, List.length_map, Nat.zero_add, set_byte, Int.toNat_natCast, hw, hlen, hset]
        generalize strN n (K + 26 ^ t) = B2 at *
        generalize strN n (K + 26 ^ (t + 1)) = B at *
        have hmg : (List.map byteRow B).getD (n - 1 - t) default = byteRow (B.getD (n - 1 - t) default) := map_byte_getD _ _ (by omega)
        have hil : n - 1 - t < B.length := by omega
        simp only [w28c, p28c] at hjj
        have h1 : ((n - 1 - t : Nat) : Int) < (n : Int) := by omega
        clear hset hKA hKB hk2 hak hK hstr hb0 hnK
        simp +contextual (disch := omega) [at_getD, -List.getD_eq_getElem?_getD, -Int.default_eq_zero, -List.map_set, hlen, hil, hmg, h1]
        exact hjj
end Go.Proofs.Ytaenniiaccflmaa
