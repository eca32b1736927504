/- Strings of n letters as numbers. -/
import Derived.Test.YtaenniiaccflmaaPKeep
set_option linter.unusedVariables false
set_option linter.unusedSimpArgs false
set_option linter.unnecessarySimpa false
set_option linter.unusedSectionVars false
namespace Go.Proofs.Ytaenniiaccflmaa
open Go Go.Vm Go.Proofs
/-- The string of n letters with a number. -/
def strN : Nat → Nat → List Int
  | 0, _ => []
  | n + 1, k => strN n (k / 26) ++ [97 + ((k % 26 : Nat) : Int)]
/-- The number of a string of letters. -/
def codeL (l : List Int) : Nat := l.foldl (fun a x => 26 * a + (x - 97).toNat) 0
def low (l : List Int) : Prop := ∀ x ∈ l, 97 ≤ x ∧ x ≤ 122
@[simp] theorem strN_len : ∀ n k, (strN n k).length = n
  | 0, _ => rfl
  | n + 1, k => by rw [strN, List.length_append, strN_len n]; rfl
theorem strN_low : ∀ n k, low (strN n k)
  | 0, _ => by simp [low, strN]
  | n + 1, k => by
    intro x hx
    rw [strN, List.mem_append] at hx
    rcases hx with hx | hx
    · exact strN_low n _ x hx
    · simp at hx; subst hx; omega
theorem codeL_snoc (l : List Int) (x : Int) : codeL (l ++ [x]) = 26 * codeL l + (x - 97).toNat := by
  unfold codeL; rw [List.foldl_append]; rfl
theorem code_str : ∀ n k, k < 26 ^ n → codeL (strN n k) = k
  | 0, k, h => by simp at h; subst h; rfl
  | n + 1, k, h => by
    rw [strN, codeL_snoc, code_str n (k / 26) (by rw [Nat.pow_succ] at h; omega)]
    have : (97 + ((k % 26 : Nat) : Int) - 97).toNat = k % 26 := by omega
    rw [this]; omega
theorem snoc_cases (l : List Int) : l = [] ∨ ∃ r x, l = r ++ [x] := by
  rcases List.eq_nil_or_concat l with h | ⟨r, x, h⟩
  · exact .inl h
  · exact .inr ⟨r, x, by simpa using h⟩
theorem str_code : ∀ (n : Nat) (l : List Int), l.length = n → low l → strN n (codeL l) = l ∧ codeL l < 26 ^ n
  | 0, l, h, _ => by rw [List.length_eq_zero_iff.1 h]; exact ⟨rfl, by decide⟩
  | n + 1, l, h, hl => by
    rcases snoc_cases l with rfl | ⟨r, x, rfl⟩
    · simp at h
    · have hr : r.length = n := by simpa using h
      have hx := hl x (by simp)
      obtain ⟨h1, h2⟩ := str_code n r hr fun y hy => hl y (by simp [hy])
      rw [codeL_snoc, strN, Nat.pow_succ]
      have e : (x - 97).toNat < 26 := by omega
      refine ⟨?_, by omega⟩
      rw [show (26 * codeL r + (x - 97).toNat) / 26 = codeL r by omega, show (26 * codeL r + (x - 97).toNat) % 26 = (x - 97).toNat by omega, h1]
      congr 2; omega
theorem strN_inj {n a b : Nat} (ha : a < 26 ^ n) (hb : b < 26 ^ n) (h : strN n a = strN n b) : a = b := by
  rw [← code_str n a ha, h, code_str n b hb]
theorem ltL_snoc : ∀ (a b : List Int) (x y : Int), a.length = b.length → ltL (a ++ [x]) (b ++ [y]) = (ltL a b || (decide (a = b) && decide (x < y)))
  | [], [], x, y, _ => by simp [ltL]
  | [], _ :: _, _, _, h => by simp at h
  | _ :: _, [], _, _, h => by simp at h
  | p :: a, q :: b, x, y, h => by
    rw [List.cons_append, List.cons_append, ltL, ltL, ltL_snoc a b x y (by simpa using h)]
    by_cases h1 : p < q
    · simp [h1]
    · by_cases h2 : p = q
      · subst h2; simp
      · simp [h1, h2]
/-- The order of strings of one length is that of their numbers. -/
theorem lt_str : ∀ n a b, a < 26 ^ n → b < 26 ^ n → ltL (strN n a) (strN n b) = decide (a < b)
  | 0, a, b, ha, hb => by simp at ha hb; subst ha hb; rfl
  | n + 1, a, b, ha, hb => by
    rw [Nat.pow_succ] at ha hb
    rw [strN, strN, ltL_snoc _ _ _ _ (by simp), lt_str n _ _ (by omega) (by omega)]
    have e : decide (strN n (a / 26) = strN n (b / 26)) = decide (a / 26 = b / 26) := by
      rw [Bool.eq_iff_iff, decide_eq_true_eq, decide_eq_true_eq]
      exact ⟨fun h => strN_inj (by omega) (by omega) h, fun h => by rw [h]⟩
    rw [e, Bool.eq_iff_iff]
    simp only [Bool.or_eq_true, Bool.and_eq_true, decide_eq_true_eq]
    omega
theorem ltL_app_len : ∀ (a b r : List Int), a.length = b.length → ltL (a ++ r) b = ltL a b
  | [], [], r, _ => by cases r <;> rfl
  | [], _ :: _, _, h => by simp at h
  | _ :: _, [], _, h => by simp at h
  | p :: a, q :: b, r, h => by rw [List.cons_append, ltL, ltL, ltL_app_len a b r (by simpa using h)]
theorem ltL_app_right : ∀ (a b r : List Int), a.length = b.length → r ≠ [] → ltL a (b ++ r) = (ltL a b || decide (a = b))
  | [], [], r, _, h => by cases r <;> simp_all [ltL]
  | [], _ :: _, _, h, _ => by simp at h
  | _ :: _, [], _, h, _ => by simp at h
  | p :: a, q :: b, r, h, hr => by
    rw [List.cons_append, ltL, ltL, ltL_app_right a b r (by simpa using h) hr]
    by_cases h1 : p < q
    · simp [h1]
    · by_cases h2 : p = q
      · subst h2; simp
      · simp [h1, h2]
theorem str_split : ∀ (m n k : Nat), ∃ r, strN (n + m) k = strN n (k / 26 ^ m) ++ r ∧ r.length = m
  | 0, n, k => ⟨[], by simp, rfl⟩
  | m + 1, n, k => by
    obtain ⟨r, h1, h2⟩ := str_split m n (k / 26)
    refine ⟨r ++ [97 + ((k % 26 : Nat) : Int)], ?_, by simp [h2]⟩
    rw [← Nat.add_assoc, strN, h1, List.append_assoc, Nat.div_div_eq_div_mul, Nat.pow_succ, Nat.mul_comm (26 ^ m)]
/-- How many strings of n letters come before 'hi'. -/
def capN (hi : List Int) (n : Nat) : Nat :=
  if hi.length ≤ n then codeL hi * 26 ^ (n - hi.length) else codeL (hi.take n) + 1
/-- The number of the first string of n letters behind 'lo'. -/
def floorN (lo : List Int) (n : Nat) : Nat :=
  if lo.length < n then codeL lo * 26 ^ (n - lo.length) else codeL (lo.take n) + 1
theorem low_take {l : List Int} (h : low l) (n : Nat) : low (l.take n) := fun x hx => h x (List.mem_of_mem_take hx)
theorem lt_cap {hi : List Int} (hl : low hi) (n k : Nat) (hk : k < 26 ^ n) : ltL (strN n k) hi = decide (k < capN hi n) := by
  unfold capN
  split
  · rename_i h
    obtain ⟨m, rfl⟩ : ∃ m, n = hi.length + m := ⟨n - hi.length, by omega⟩
    obtain ⟨r, h1, h2⟩ := str_split m hi.length k
    obtain ⟨h3, h4⟩ := str_code hi.length hi rfl hl
    rw [h1, ltL_app_len _ _ _ (by simp)]
    have hk2 : k / 26 ^ m < 26 ^ hi.length := by
      rw [Nat.pow_add] at hk
      exact Nat.div_lt_of_lt_mul (by rw [Nat.mul_comm]; exact hk)
    conv => lhs; rw [← h3]
    rw [strN_len, lt_str _ _ _ hk2 h4, show hi.length + m - hi.length = m by omega]
    rw [Bool.eq_iff_iff, decide_eq_true_eq, decide_eq_true_eq]
    exact Nat.div_lt_iff_lt_mul (by exact Nat.pow_pos (by omega))
  · rename_i h
    have e : hi = hi.take n ++ hi.drop n := (List.take_append_drop n hi).symm
    have hn : (hi.take n).length = n := by simp; omega
    obtain ⟨h3, h4⟩ := str_code n (hi.take n) hn (low_take hl n)
    conv => lhs; rw [e]
    rw [ltL_app_right _ _ _ (by simp; omega) (by intro h'; have := congrArg List.length h'; simp at this; omega)]
    conv => lhs; rw [← h3]
    rw [lt_str _ _ _ hk h4]
    have e2 : decide (strN n k = strN n (codeL (hi.take n))) = decide (k = codeL (hi.take n)) := by
      rw [Bool.eq_iff_iff, decide_eq_true_eq, decide_eq_true_eq]
      exact ⟨fun h => strN_inj hk h4 h, fun h => by rw [h]⟩
    rw [e2, Bool.eq_iff_iff]
    simp only [Bool.or_eq_true, decide_eq_true_eq]
    omega
theorem floor_le {lo : List Int} (hl : low lo) (n k : Nat) (hk : k < 26 ^ n) (hn : lo.length < n ∨ True) : ltL lo (strN n k) = decide (floorN lo n ≤ k) := by
  unfold floorN
  split
  · rename_i h
    obtain ⟨m, rfl⟩ : ∃ m, n = lo.length + m := ⟨n - lo.length, by omega⟩
    obtain ⟨r, h1, h2⟩ := str_split m lo.length k
    obtain ⟨h3, h4⟩ := str_code lo.length lo rfl hl
    have hk2 : k / 26 ^ m < 26 ^ lo.length := by
      rw [Nat.pow_add] at hk
      exact Nat.div_lt_of_lt_mul (by rw [Nat.mul_comm]; exact hk)
    rw [h1, ltL_app_right _ _ _ (by simp) (by intro h'; rw [h'] at h2; simp at h2; omega)]
    conv => lhs; rw [← h3]
    have e2 : decide (strN (strN lo.length (codeL lo)).length (codeL lo) = strN (strN lo.length (codeL lo)).length (k / 26 ^ m)) = decide (codeL lo = k / 26 ^ m) := by
      rw [strN_len, Bool.eq_iff_iff, decide_eq_true_eq, decide_eq_true_eq]
      exact ⟨fun h => strN_inj h4 hk2 h, fun h => by rw [h]⟩
    rw [show lo.length + m - lo.length = m by omega]
    rw [strN_len] at e2 ⊢
    rw [lt_str _ _ _ h4 hk2, e2, Bool.eq_iff_iff]
    simp only [Bool.or_eq_true, decide_eq_true_eq]
    rw [← Nat.le_div_iff_mul_le (Nat.pow_pos (by omega))]
    omega
  · rename_i h
    have e : lo = lo.take n ++ lo.drop n := (List.take_append_drop n lo).symm
    have hn : (lo.take n).length = n := by simp; omega
    obtain ⟨h3, h4⟩ := str_code n (lo.take n) hn (low_take hl n)
    conv => lhs; rw [e]
    rw [ltL_app_len _ _ _ (by simp; omega)]
    conv => lhs; rw [← h3]
    rw [lt_str _ _ _ h4 hk, Bool.eq_iff_iff, decide_eq_true_eq, decide_eq_true_eq]
    omega
/-! From one number of letters to the next. -/
theorem code_take_succ {l : List Int} (hl : low l) {n : Nat} (h : n < l.length) : ∃ d, d < 26 ∧ codeL (l.take (n + 1)) = 26 * codeL (l.take n) + d := by
  refine ⟨(l[n] - 97).toNat, ?_, ?_⟩
  · have := hl l[n] (List.getElem_mem h); omega
  · rw [List.take_succ_eq_append_getElem h, codeL_snoc]
theorem cap_step {hi : List Int} (hl : low hi) (n : Nat) : capN hi (n + 1) ≤ 26 * capN hi n := by
  unfold capN
  by_cases h1 : hi.length ≤ n
  · rw [if_pos (by omega), if_pos h1, show n + 1 - hi.length = (n - hi.length) + 1 by omega, Nat.pow_succ, ← Nat.mul_assoc]; omega
  · obtain ⟨d, hd, he⟩ := code_take_succ hl (show n < hi.length by omega)
    rw [if_neg h1]
    by_cases h2 : hi.length ≤ n + 1
    · rw [if_pos h2, show n + 1 - hi.length = 0 by omega]
      rw [List.take_of_length_le h2] at he
      omega
    · rw [if_neg h2]; omega
theorem floor_step {lo : List Int} (hl : low lo) (n : Nat) : 26 * floorN lo n ≤ floorN lo (n + 1) + 26 := by
  unfold floorN
  by_cases h1 : lo.length < n
  · rw [if_pos h1, if_pos (by omega), show n + 1 - lo.length = (n - lo.length) + 1 by omega, Nat.pow_succ, show codeL lo * (26 ^ (n - lo.length) * 26) = 26 * (codeL lo * 26 ^ (n - lo.length)) by ac_rfl]; omega
  · rw [if_neg h1]
    by_cases h2 : lo.length < n + 1
    · rw [if_pos h2, show n + 1 - lo.length = 1 by omega, List.take_of_length_le (by omega)]; omega
    · obtain ⟨d, hd, he⟩ := code_take_succ hl (show n < lo.length by omega)
      rw [if_neg h2]; omega
/-! Digits. -/
theorem strN_set : ∀ (j n q d e r : Nat), j < n → d < 26 → e < 26 → r < 26 ^ j →
    (strN n ((q * 26 + e) * 26 ^ j + r)).set (n - 1 - j) (97 + (d : Int)) = strN n ((q * 26 + d) * 26 ^ j + r)
  | 0, n + 1, q, d, e, r, _, hd, he, hr => by
    simp at hr; subst hr
    simp only [Nat.pow_zero, Nat.mul_one, Nat.add_zero, strN]
    rw [show (q * 26 + e) / 26 = q by omega, show (q * 26 + d) / 26 = q by omega, show (q * 26 + d) % 26 = d by omega, List.set_append_right _ _ (by simp)]
    simp
  | j + 1, n + 1, q, d, e, r, hj, hd, he, hr => by
    rw [Nat.pow_succ] at hr ⊢
    have h1 : ∀ x, ((q * 26 + x) * (26 ^ j * 26) + r) / 26 = (q * 26 + x) * 26 ^ j + r / 26 := fun x => by
      rw [← Nat.mul_assoc]; omega
    have h2 : ∀ x, ((q * 26 + x) * (26 ^ j * 26) + r) % 26 = r % 26 := fun x => by
      rw [← Nat.mul_assoc]; omega
    rw [strN, strN, h1, h1, h2, h2, List.set_append_left _ _ (by simp; omega), show n + 1 - 1 - (j + 1) = n - 1 - j by omega,
      strN_set j n q d e (r / 26) (by omega) hd he (by omega)]
theorem strN_get : ∀ (j n q e r : Nat), j < n → e < 26 → r < 26 ^ j →
    (strN n ((q * 26 + e) * 26 ^ j + r)).getD (n - 1 - j) 0 = 97 + (e : Int)
  | 0, n + 1, q, e, r, _, he, hr => by
    simp at hr; subst hr
    simp only [Nat.pow_zero, Nat.mul_one, Nat.add_zero, strN, List.getD]
    rw [List.getElem?_append_right (by simp)]
    simp; omega
  | j + 1, n + 1, q, e, r, hj, he, hr => by
    rw [Nat.pow_succ] at hr ⊢
    have h1 : ((q * 26 + e) * (26 ^ j * 26) + r) / 26 = (q * 26 + e) * 26 ^ j + r / 26 := by
      rw [← Nat.mul_assoc]; omega
    have := strN_get j n q e (r / 26) (by omega) he (by omega)
    simp only [List.getD] at this ⊢
    rw [strN, h1, List.getElem?_append_left (by simp; omega), show n + 1 - 1 - (j + 1) = n - 1 - j by omega, this]
theorem strN_pad : ∀ (t n k : Nat), strN (n + t) (k * 26 ^ t) = strN n k ++ List.replicate t 97
  | 0, n, k => by simp
  | t + 1, n, k => by
    rw [← Nat.add_assoc, strN, Nat.pow_succ, ← Nat.mul_assoc, Nat.mul_div_cancel _ (by omega), strN_pad t n k, Nat.mul_mod_left, List.replicate_succ']
    simp
def fixN (k : Nat) : Nat := if k % 26 = 0 then k + 1 else k
def numK (s : ByteArray) : Nat := codeL (bts s)
def strK (n k : Nat) : ByteArray := ofB (strN n k)
def emptyK : ByteArray := ⟨#[]⟩
theorem bts_strK (n k : Nat) : bts (strK n k) = strN n k := bts_ofB _ fun x hx => by have := strN_low n k x hx; omega
theorem strK_size (n k : Nat) : (strK n k).size = n := by rw [← bts_len, bts_strK, strN_len]
theorem strK_num (s : ByteArray) (h : low (bts s)) : strK s.size (numK s) = s ∧ numK s < 26 ^ s.size := by
  have := str_code s.size (bts s) (bts_len s) h
  exact ⟨bts_inj (by rw [bts_strK]; exact this.1), this.2⟩
theorem num_strK (n k : Nat) (h : k < 26 ^ n) : numK (strK n k) = k := by unfold numK; rw [bts_strK, code_str n k h]
def nextK (s : ByteArray) : ByteArray := if numK s + 1 < 26 ^ s.size then strK s.size (fixN (numK s + 1)) else ⟨#[]⟩
def afterK (lo : ByteArray) (n : Int) : ByteArray := if floorN (bts lo) n.toNat < 26 ^ n.toNat then strK n.toNat (floorN (bts lo) n.toNat) else ⟨#[]⟩
def aboveK (lo : ByteArray) (n : Int) : ByteArray := if floorN (bts lo) n.toNat < 26 ^ n.toNat then strK n.toNat (fixN (floorN (bts lo) n.toNat)) else ⟨#[]⟩
theorem pow_mod (n : Nat) (h : 0 < n) : 26 ^ n % 26 = 0 := by
  obtain ⟨m, rfl⟩ : ∃ m, n = m + 1 := ⟨n - 1, by omega⟩
  rw [Nat.pow_succ, Nat.mul_mod_left]
theorem fix_lt (n k : Nat) (hn : 0 < n) (h : k < 26 ^ n) : fixN k < 26 ^ n := by
  unfold fixN
  have := pow_mod n hn
  split <;> omega
/-! Keys of n letters. -/
def valsN : Nat → Nat → List Nat
  | _, 0 => []
  | t, m + 1 => if t % 26 = 0 then valsN (t + 1) m else t :: valsN (t + 1) m
/-- The numbers from L on, below H, that are those of keys. -/
def keysN (L H : Nat) : List Nat := valsN L (H - L)
theorem keysN_nil {L H : Nat} (h : H ≤ L) : keysN L H = [] := by unfold keysN; rw [show H - L = 0 by omega]; rfl
theorem keysN_skip {t H : Nat} (h : t % 26 = 0) : keysN t H = keysN (t + 1) H := by
  unfold keysN
  by_cases h1 : t < H
  · rw [show H - t = (H - (t + 1)) + 1 by omega, valsN, if_pos h]
  · rw [show H - t = 0 by omega, show H - (t + 1) = 0 by omega]; rfl
theorem keysN_take {t H : Nat} (h : t % 26 ≠ 0) (h1 : t < H) : keysN t H = t :: keysN (t + 1) H := by
  unfold keysN
  rw [show H - t = (H - (t + 1)) + 1 by omega, valsN, if_neg h]
theorem keysN_fix (t H : Nat) : keysN (fixN t) H = keysN t H := by
  unfold fixN; split
  · rename_i h; exact (keysN_skip h).symm
  · rfl
theorem valsN_len : ∀ (m t : Nat), (valsN t m).length ≤ m
  | 0, _ => by simp [valsN]
  | m + 1, t => by
    have := valsN_len m (t + 1)
    unfold valsN; split
    · omega
    · simp; omega
theorem keysN_len (L H : Nat) : (keysN L H).length ≤ H - L := valsN_len _ _
theorem mem_keysN : ∀ (m t k : Nat), k ∈ valsN t m ↔ t ≤ k ∧ k < t + m ∧ k % 26 ≠ 0
  | 0, t, k => by simp [valsN]; omega
  | m + 1, t, k => by
    have ih := mem_keysN m (t + 1) k
    unfold valsN; split
    · rename_i h
      rw [ih]
      constructor
      · rintro ⟨h1, h2, h3⟩; exact ⟨by omega, by omega, h3⟩
      · rintro ⟨h1, h2, h3⟩
        have : k ≠ t := fun e => h3 (by rw [e]; exact h)
        exact ⟨by omega, by omega, h3⟩
    · rename_i h
      rw [List.mem_cons, ih]
      constructor
      · rintro (rfl | ⟨h1, h2, h3⟩)
        · exact ⟨by omega, by omega, h⟩
        · exact ⟨by omega, by omega, h3⟩
      · rintro ⟨h1, h2, h3⟩
        by_cases e : k = t
        · exact .inl e
        · exact .inr ⟨by omega, by omega, h3⟩
theorem mem_keys {L H k : Nat} : k ∈ keysN L H ↔ L ≤ k ∧ k < H ∧ k % 26 ≠ 0 := by
  unfold keysN; rw [mem_keysN]
  constructor <;> rintro ⟨h1, h2, h3⟩ <;> exact ⟨by omega, by omega, h3⟩
theorem empty_close {L H : Nat} (h : keysN L H = []) : H ≤ L + 1 := by
  rcases Nat.lt_or_ge (L + 1) H with h1 | h1
  · exfalso
    by_cases h2 : L % 26 = 0
    · have : L + 1 ∈ keysN L H := mem_keys.2 ⟨by omega, h1, by omega⟩
      rw [h] at this; simp at this
    · have : L ∈ keysN L H := mem_keys.2 ⟨by omega, by omega, h2⟩
      rw [h] at this; simp at this
  · exact h1
def capH (hi : ByteArray) (n : Nat) : Nat := if hi.size = 0 then 26 ^ n else capN (bts hi) n
def levelK (lo hi : ByteArray) (n : Nat) : List Nat := keysN (floorN (bts lo) n) (capH hi n)
theorem capN_le {hi : List Int} (hl : low hi) (n : Nat) : capN hi n ≤ 26 ^ n := by
  unfold capN
  split
  · rename_i h
    have := (str_code hi.length hi rfl hl).2
    obtain ⟨m, rfl⟩ : ∃ m, n = hi.length + m := ⟨n - hi.length, by omega⟩
    rw [show hi.length + m - hi.length = m by omega, Nat.pow_add]
    exact Nat.mul_le_mul_right _ (by omega)
  · rename_i h
    have := (str_code n (hi.take n) (by simp; omega) (low_take hl n)).2
    omega
theorem capH_le {hi : ByteArray} (hl : low (bts hi)) (n : Nat) : capH hi n ≤ 26 ^ n := by
  unfold capH; split
  · exact Nat.le_refl _
  · exact capN_le hl n
theorem capH_step {hi : ByteArray} (hl : low (bts hi)) (n : Nat) : capH hi (n + 1) ≤ 26 * capH hi n := by
  unfold capH; split
  · rw [Nat.pow_succ]; omega
  · exact cap_step hl n
/-- FEW KEYS: those of the first number of letters for which there are any. -/
theorem level_few {lo hi : ByteArray} (hl : low (bts lo)) (hh : low (bts hi)) (n : Nat) (hn : 1 ≤ n) (h : ∀ m, 1 ≤ m → m < n → levelK lo hi m = []) : (levelK lo hi n).length ≤ 60 := by
  have hlen := keysN_len (floorN (bts lo) n) (capH hi n)
  by_cases h1 : n = 1
  · subst h1
    have := capH_le hh 1
    unfold levelK
    omega
  · obtain ⟨m, rfl⟩ : ∃ m, n = m + 1 := ⟨n - 1, by omega⟩
    have h2 := empty_close (h m (by omega) (by omega))
    have h3 := capH_step hh m
    have h4 := floor_step hl m
    unfold levelK
    omega
def betF (lo hi : ByteArray) : Nat → Nat → ByteArray × Int
  | _, 0 => (⟨#[]⟩, 17)
  | n, f + 1 => if (levelK lo hi n).length = 0 then betF lo hi (n + 1) f else (strK n ((levelK lo hi n).getD (((levelK lo hi n).length - 1) / 2) 0), 0)
def okK (V : ByteArray → Bool) (s : ByteArray) : Bool := decide (s.size = 0) || V s
def betG (V : ByteArray → Bool) (lo hi : ByteArray) : ByteArray × Int :=
  if okK V lo && okK V hi then (if lo.size ≠ 0 ∧ hi.size ≠ 0 ∧ ltK lo hi = false then (⟨#[]⟩, 12) else betF lo hi 1 60) else (⟨#[]⟩, 5)
theorem lt_strK {hi : ByteArray} (hh : low (bts hi)) (n t : Nat) (ht : t < 26 ^ n) (h0 : hi.size ≠ 0) : ltK (strK n t) hi = decide (t < capH hi n) := by
  unfold ltK; rw [less_eq, bts_strK, lt_cap hh n t ht]; unfold capH; rw [if_neg h0]
end Go.Proofs.Ytaenniiaccflmaa
