/- A part of the proof: PCon5. -/
import Derived.Test.YtaenniiaccflmaaPCon4
set_option linter.unusedVariables false
set_option linter.unusedSimpArgs false
set_option linter.unnecessarySimpa false
set_option linter.unusedSectionVars false
namespace Go.Proofs.Ytaenniiaccflmaa
open Go Go.Vm Go.Proofs
theorem zip_drop {α β : Type} : ∀ (a : List α) (b : List β) (k : Nat), (a.zip b).drop k = (a.drop k).zip (b.drop k)
  | a, b, 0 => rfl
  | [], b, k + 1 => by simp
  | x :: a, [], k + 1 => by simp
  | x :: a, y :: b, k + 1 => by simp [zip_drop a b k]
inductive H22 where
  | a (j : Nat) (γ : Stamp)
  | b (i : Nat) (most : Int) (γ : Stamp)
  | c (q : Nat) (most : Int) (γ δ : Stamp) (pre : List Bool) (last : ByteArray)
  | d (m k : Nat) (c : Int) (γ : Stamp)
def at22 : H22 → List Bool | .a .. => p22a | .b .. => p22b | .c .. => p22c | .d .. => p22d
def vals22 (l : List ByteArray) : H22 → List TV
  | .a j γ => w22a l l.length ((j : Int) - 1) γ (longK l j)
  | .b i most γ => w22b l l.length most γ (BK l) i
  | .c q most γ δ pre last => w22c l l.length most γ δ (BK l) (pre ++ List.replicate (l.length - q) false) last q
  | .d m k c γ => w22d l l.length m γ ((longK l (m + 1)).set m c) k
def inv22 (l : List ByteArray) : H22 → Prop
  | .a j γ => j ≤ l.length
  | .b i most γ => i ≤ l.length ∧ 0 ≤ most ∧ max most (mostS ((BK l).drop i)) = mostS (BK l)
  | .c q most γ δ pre last => q ≤ l.length ∧ pre.length = q ∧ 0 ≤ most ∧ most ≤ 10000 ∧ keepS l = pre ++ pickS ltK (((BK l).zip l).drop q) most last
  | .d m k c γ => m < l.length ∧ m + 1 ≤ k ∧ k ≤ l.length ∧ validK (l.getD m default) = true ∧ 1 ≤ c ∧ (BK l).getD m default = (((BK l).zip l).drop k).foldl (stepB ltK (l.getD m default)) c
def mu22 (l : List ByteArray) : H22 → Nat
  | .a j γ => 2 * l.length + 3 + j * (l.length + 2)
  | .b i most γ => l.length + 1 + (l.length - i)
  | .c q most γ δ pre last => l.length - q
  | .d m k c γ => 2 * l.length + 3 + m * (l.length + 2) + (l.length - k) + 1
theorem BK_bound (l : List ByteArray) (q : Nat) (h : q < l.length) : 0 ≤ (BK l).getD q default ∧ (BK l).getD q default ≤ l.length ∧ (0 < (BK l).getD q default → validK (l.getD q default) = true) := by
  have h2 : (BK l).getD q default = if validK (l.getD q default) then (cnt ltK (gr ltK validK (l.drop (q + 1))) (l.getD q default) : Int) + 1 else 0 := best_at validK ordK l q h
  have h3 := cnt_le (lt := ltK) (gr ltK validK (l.drop (q + 1))) (l.getD q default)
  have h4 := gr_len (lt := ltK) validK (l.drop (q + 1))
  simp only [List.length_drop] at h4
  cases hv : validK (l.getD q default) with
  | true => rw [hv, if_pos rfl] at h2; exact ⟨by omega, by omega, fun _ => rfl⟩
  | false => rw [hv] at h2; simp only [Bool.false_eq_true, if_false] at h2; exact ⟨by omega, by omega, fun h => by omega⟩
theorem mostS_max (b : Int) (r : List Int) : mostS (b :: r) = max b (mostS r) := by
  show (if b > mostS r then b else mostS r) = _
  split <;> omega
theorem less_empty {s : ByteArray} (h : validK s = true) : ltK ⟨#[]⟩ s = true := by
  unfold ltK; rw [less_eq]
  have : (bts s).length ≠ 0 := by
    intro h0
    unfold validK validL at h; rw [h0] at h; simp at h
  cases hb : bts s with
  | nil => rw [hb] at this; simp at this
  | cons b r => rfl
theorem c22 (l : List ByteArray) (hl : l.length ≤ 1000) : callE Try.prog NoPhi 22 [.sl 1 (l.map strRow)] = some (.own (0, 0) 4 1 ((keepS l).map boolRow)) := by
  refine call_heads (ι := H22) Try.f22 hd22 117 Try.func22 (by kernel_rfl) rfl at22 (by rintro (_ | _ | _ | _) <;> rfl) (vals22 l) (inv22 l) (mu22 l) ⟨_, e22 l, ?_⟩ (fun j nx hj g => ?_)
  · have h0 : longK l l.length = List.replicate l.length 0 := by unfold longK; rw [List.drop_eq_nil_of_le (by rw [BK_len]; omega)]; simp
    have h3 : List.replicate l.length [TV.int .i64 0] = (List.replicate l.length 0).map intRow := by simp [intRow]
    have hw : IntKind.wrap .i64 ((l.length : Int) - 1) = (l.length : Int) - 1 := wrap64 _ (by omega) (by omega)
    simp only [TW, LcQ, List.length_map, h3, hw]
    refine ⟨by simp; omega, by simp, by simp [roomy]; omega, trivial, .a l.length (6, 0), rfl, ?_, ?_⟩
    · simp only [vals22, w22a, h0]
    · exact Nat.le_refl _
  · rcases j with ⟨j, γ⟩ | ⟨i, most, γ⟩ | ⟨q, most, γ, δ, pre, last⟩ | ⟨m, k, c, γ⟩
    · replace hj : j ≤ l.length := hj
      refine ⟨_, r22a l l.length _ γ _ g nx, ?_⟩
      cases j with
      | zero =>
        simp only [TW, LcQ, List.length_map, show ((0 : Nat) : Int) - 1 = -1 by rfl]
        simp
        exact ⟨.b 0 0 γ, rfl, by simp [vals22, w22b, longK], ⟨by omega, by omega, by have := mostS_nonneg (BK l); rw [List.drop_zero]; omega⟩, by simp [mu22]; omega⟩
      | succ m =>
        have hm : m < l.length := by omega
        have e1 : ((m + 1 : Nat) : Int) - 1 = (m : Int) := by omega
        have hw : IntKind.wrap .i64 ((m : Int) - 1) = (m : Int) - 1 := wrap64 _ (by omega) (by omega)
        have hw2 : IntKind.wrap .i64 ((m : Int) + 1) = ((m + 1 : Nat) : Int) := by rw [wrap64 _ (by omega) (by omega)]; rfl
        have hll := longK_len l (m + 1) (by omega)
        have hmg : (List.map intRow (longK l (m + 1))).getD m default = intRow ((longK l (m + 1)).getD m default) := by simp [List.getD, hll, hm]
        rw [e1]
        simp only [TW, LcQ, List.length_map, Int.toNat_natCast, hw, hw2, c15, Nat.zero_add, set_int]
        simp +contextual (disch := omega) [at_getD, -List.getD_eq_getElem?_getD, -Int.default_eq_zero, -List.map_set, hm, hll, hmg]
        refine ⟨fun hv => ⟨.a m γ, rfl, ?_, by show m ≤ l.length; omega, by show _ < _; simp [mu22, Nat.add_mul]⟩, fun hv => ⟨.d m (m + 1) 1 γ, rfl, ?_, ?_, ?_⟩⟩
        · have h0 : (BK l).getD m default = 0 := by rw [best_at validK ordK l m hm, hv]; rfl
          simp only [vals22, w22a]
          rw [show longK l m = longK l (m + 1) from (rep_zero (BK l) m (by rw [BK_len]; exact hm) h0).symm]
        · simp [vals22, w22d]
        · refine ⟨hm, by omega, by omega, hv, by omega, ?_⟩
          have h1 : (bestL ltK validK l).drop m = bestL ltK validK (l.drop m) := bestL_drop validK l m
          rw [drop_getD (l := l) hm, bestL, drop_getD (show m < (bestL ltK validK l).length by rw [bestL_len]; exact hm), hv, if_pos rfl] at h1
          rw [(List.cons.inj h1).1, zip_drop, bestL_drop]
        · simp only [mu22, Nat.add_mul]; omega
    · obtain ⟨hi, h0, hmx⟩ := hj
      refine ⟨_, r22b l l.length most γ (BK l) i g nx, ?_⟩
      have hbl := BK_len l
      by_cases hlt : i < l.length
      · have hb := BK_bound l i hlt
        have hmg : (List.map intRow (BK l)).getD i default = intRow ((BK l).getD i default) := by simp [List.getD, hbl, hlt]
        simp only [TW, LcQ, List.length_map, Nat.zero_add]
        simp +contextual (disch := omega) [at_getD, -List.getD_eq_getElem?_getD, -Int.default_eq_zero, hlt, hbl, hmg]
        refine ⟨.b (i + 1) _ γ, rfl, rfl, ⟨by omega, ?_, ?_⟩, by simp only [mu22]; omega⟩
        · split <;> omega
        · rw [← hmx, drop_getD (show i < (BK l).length by omega), mostS_max]; split <;> omega
      · have h3 : List.replicate l.length [TV.bool false] = (List.replicate l.length false).map boolRow := by simp [boolRow]
        have h4 := mostS_le l
        have hmost : most = mostS (BK l) := by
          rw [List.drop_eq_nil_of_le (by omega)] at hmx
          rw [← hmx]; simp [mostS]; omega
        simp only [TW, LcQ, List.length_map, Nat.zero_add, Int.toNat_natCast, h3]
        simp +contextual (disch := omega) [hlt, roomy]
        refine ⟨by omega, by omega, .c 0 most γ (nx + 3 + 1, 0) [] ⟨#[]⟩, rfl, by simp [vals22, w22c], ⟨by omega, rfl, h0, by omega, by rw [hmost]; simp [keepS, keepG, bestK]⟩, by simp only [mu22]; omega⟩
    · obtain ⟨hq, hp, hm0, hm1, hk⟩ := hj
      refine ⟨_, r22c l l.length most γ δ (BK l) (pre ++ List.replicate (l.length - q) false) last q g nx, ?_⟩
      have hol : (pre ++ List.replicate (l.length - q) false).length = l.length := by simp; omega
      have hend : l.length ≤ q → keepS l = pre ++ List.replicate (l.length - q) false := fun h => by
        rw [hk, List.drop_eq_nil_of_le (by simp [BK_len]; omega), show l.length - q = 0 by omega]; rfl
      by_cases hlt : q < l.length
      · have hset : (pre ++ List.replicate (l.length - q) false).set q true = (pre ++ [true]) ++ List.replicate (l.length - (q + 1)) false := by
          rw [List.set_append_right _ _ (by omega), hp, Nat.sub_self, show l.length - q = (l.length - (q + 1)) + 1 by omega, List.replicate_succ]; simp
        have hsame : pre ++ List.replicate (l.length - q) false = (pre ++ [false]) ++ List.replicate (l.length - (q + 1)) false := by
          rw [show l.length - q = (l.length - (q + 1)) + 1 by omega, List.replicate_succ]; simp
        have hz : ((BK l).zip l).drop q = ((BK l).getD q default, l.getD q default) :: ((BK l).zip l).drop (q + 1) := by
          rw [List.drop_eq_getElem_cons (by simp [BK_len]; exact hlt), List.getElem_zip, at_getD, at_getD]
        have hyes : 0 < most → (BK l).getD q default = most → ltK last (l.getD q default) = true → keepS l = (pre ++ [true]) ++ pickS ltK (((BK l).zip l).drop (q + 1)) (most - 1) (l.getD q default) := fun h1 h2 h3 => by
          rw [hk, hz, pickS, if_pos ⟨h1, h2, h3⟩, List.append_assoc]; rfl
        have hno : ¬ (0 < most ∧ (BK l).getD q default = most ∧ ltK last (l.getD q default) = true) → keepS l = (pre ++ [false]) ++ pickS ltK (((BK l).zip l).drop (q + 1)) most last := fun h => by
          rw [hk, hz, pickS, if_neg h, List.append_assoc]; rfl
        have hbl : (BK l).length = l.length := BK_len l
        have hbb := BK_bound l q hlt
        have hw : 0 < most → IntKind.wrap .i64 (most - 1) = most - 1 := fun h => wrap64 _ (by omega) (by omega)
        have jyes : 0 < most → (BK l).getD q default = most → ltK last (l.getD q default) = true → ∃ j, p22c = at22 j ∧ w22c l l.length (most - 1) γ δ (BK l) ((pre ++ List.replicate (l.length - q) false).set q true) (l.getD q default) (q + 1) = vals22 l j ∧ inv22 l j ∧ mu22 l j < mu22 l (.c q most γ δ pre last) := fun h1 h2 h3 =>
          ⟨.c (q + 1) (most - 1) γ δ (pre ++ [true]) (l.getD q default), rfl, by rw [hset]; rfl, ⟨by omega, by simp; exact hp, by omega, by omega, hyes h1 h2 h3⟩, by simp only [mu22]; omega⟩
        have jno : ¬ (0 < most ∧ (BK l).getD q default = most ∧ ltK last (l.getD q default) = true) → ∃ j, p22c = at22 j ∧ w22c l l.length most γ δ (BK l) (pre ++ List.replicate (l.length - q) false) last (q + 1) = vals22 l j ∧ inv22 l j ∧ mu22 l j < mu22 l (.c q most γ δ pre last) := fun h =>
          ⟨.c (q + 1) most γ δ (pre ++ [false]) last, rfl, by simp only [vals22]; rw [hsame], ⟨by omega, by simp; exact hp, by omega, by omega, hno h⟩, by simp only [mu22]; omega⟩
        have hemp : (last.toList == ByteArray.toList ⟨#[]⟩) = decide (last = ⟨#[]⟩) := by rw [Bool.eq_iff_iff, beq_iff_eq, toList_inj', decide_eq_true_eq]
        have hlast : last = ⟨#[]⟩ → 0 < most → (BK l).getD q default = most → ltK last (l.getD q default) = true := fun h1 h2 h3 => by
          rw [h1]; exact less_empty (hbb.2.2 (by omega))
        have ec : ((q + 1 : Nat) : Int) = (q : Int) + 1 := rfl
        have hlk : Op.bytesLess last.toList (l.getD q default).toList = ltK last (l.getD q default) := rfl
        generalize hout : pre ++ List.replicate (l.length - q) false = out at *
        have hmg3 : (List.map boolRow out).getD q default = boolRow (out.getD q default) := by simp [List.getD, hol, hlt]
        have hmg : (List.map intRow (BK l)).getD q default = intRow ((BK l).getD q default) := by simp [List.getD, hbl, hlt]
        have hmg2 : (List.map strRow l).getD q default = strRow (l.getD q default) := by simp [List.getD, hlt]
        simp only [w22c, List.length_map, p22c, ec] at jyes jno
        simp only [TW, LcQ, List.length_map, Nat.zero_add, set_bool, hemp, hlk]
        simp +contextual (disch := omega) [at_getD, -List.getD_eq_getElem?_getD, -Int.default_eq_zero, -List.map_set, hlt, hol, hbl, hw, hmg, hmg2, hmg3]
        refine ⟨fun h1 => ⟨fun h2 => ⟨fun _ => ⟨fun h3 => jyes h1 h2 h3, fun h3 => jno (fun h => by rw [h.2.2] at h3; cases h3)⟩, fun h3 => by subst h3; exact jyes h1 h2 (hlast rfl h1 h2)⟩, fun h2 => jno (fun h => h2 h.2.1)⟩, fun h1 => jno (fun h => by omega)⟩
      · have hge : l.length ≤ q := by omega
        simp only [TW, LcQ, List.length_map]
        simp +contextual (disch := omega) [hlt, hend hge, hge]
    · obtain ⟨hm, hmk, hkl, hv, hc, hfold⟩ := hj
      refine ⟨_, r22d l l.length m γ ((longK l (m + 1)).set m c) k g nx, ?_⟩
      have hll := longK_len l (m + 1) (by omega)
      have hbl : (BK l).length = l.length := BK_len l
      generalize hL : (longK l (m + 1)).set m c = L at *
      have hLl : L.length = l.length := by rw [← hL]; simp [hll]
      have hLm : L.getD m default = c := by rw [← hL]; simp [List.getD, hll, hm]
      have hw2 : IntKind.wrap .i64 ((m : Int) - 1) = (m : Int) - 1 := wrap64 _ (by omega) (by omega)
      by_cases hlt : k < l.length
      · have hLk : L.getD k default = (BK l).getD k default := by
          rw [← hL]
          simp only [List.getD]
          rw [List.getElem?_set_ne (by omega)]
          unfold longK
          rw [List.getElem?_append_right (by simp; omega)]
          simp only [List.length_replicate, List.getElem?_drop]
          rw [show m + 1 + (k - (m + 1)) = k by omega]
        have hbb := BK_bound l k hlt
        have hz : ((BK l).zip l).drop k = ((BK l).getD k default, l.getD k default) :: ((BK l).zip l).drop (k + 1) := by
          rw [List.drop_eq_getElem_cons (by simp [BK_len]; exact hlt), List.getElem_zip, at_getD, at_getD]
        rw [hz, List.foldl_cons] at hfold
        have hyes : 0 < (BK l).getD k default → ltK (l.getD m default) (l.getD k default) = true → (BK l).getD m default = (((BK l).zip l).drop (k + 1)).foldl (stepB ltK (l.getD m default)) (if (BK l).getD k default + 1 > c then (BK l).getD k default + 1 else c) := fun h1 h2 => by
          rw [hfold, stepB, if_pos ⟨h1, h2⟩]
        have hno : ¬ (0 < (BK l).getD k default ∧ ltK (l.getD m default) (l.getD k default) = true) → (BK l).getD m default = (((BK l).zip l).drop (k + 1)).foldl (stepB ltK (l.getD m default)) c := fun h => by
          rw [hfold, stepB, if_neg h]
        have hw : IntKind.wrap .i64 ((BK l).getD k default + 1) = (BK l).getD k default + 1 := wrap64 _ (by omega) (by omega)
        have ec : ((k + 1 : Nat) : Int) = (k : Int) + 1 := rfl
        have jyes : 0 < (BK l).getD k default → ltK (l.getD m default) (l.getD k default) = true → ∃ j, p22d = at22 j ∧ w22d l l.length m γ (L.set m (if (BK l).getD k default + 1 > c then (BK l).getD k default + 1 else c)) (k + 1) = vals22 l j ∧ inv22 l j ∧ mu22 l j < mu22 l (.d m k c γ) := fun h1 h2 =>
          ⟨.d m (k + 1) (if (BK l).getD k default + 1 > c then (BK l).getD k default + 1 else c) γ, rfl, by simp only [vals22]; rw [← hL, List.set_set], ⟨hm, by omega, by omega, hv, by split <;> omega, hyes h1 h2⟩, by simp only [mu22]; omega⟩
        have jno : ¬ (0 < (BK l).getD k default ∧ ltK (l.getD m default) (l.getD k default) = true) → ∃ j, p22d = at22 j ∧ w22d l l.length m γ L (k + 1) = vals22 l j ∧ inv22 l j ∧ mu22 l j < mu22 l (.d m k c γ) := fun h =>
          ⟨.d m (k + 1) c γ, rfl, by simp only [vals22]; rw [hL], ⟨hm, by omega, by omega, hv, hc, hno h⟩, by simp only [mu22]; omega⟩
        have hlk : Op.bytesLess (l.getD m default).toList (l.getD k default).toList = ltK (l.getD m default) (l.getD k default) := rfl
        have hmg : (List.map intRow L).getD m default = intRow (L.getD m default) := by simp [List.getD, hLl, hm]
        have hmg1 : (List.map intRow L).getD k default = intRow (L.getD k default) := by simp [List.getD, hLl, hlt]
        have hmg2 : (List.map strRow l).getD m default = strRow (l.getD m default) := by simp [List.getD, hm]
        have hmg3 : (List.map strRow l).getD k default = strRow (l.getD k default) := by simp [List.getD, hlt]
        simp only [w22d, p22d, ec] at jyes jno
        simp only [TW, LcQ, List.length_map, Nat.zero_add, set_int, Int.toNat_natCast, hlk, hLk, hLm, hw]
        simp +contextual (disch := omega) [at_getD, -List.getD_eq_getElem?_getD, -Int.default_eq_zero, -List.map_set, hlt, hm, hLl, hmg, hmg1, hmg2, hmg3, hLk, hLm]
        refine ⟨fun h1 => ⟨fun h2 => jyes h1 h2, fun h2 => jno (fun h => by rw [h.2] at h2; cases h2)⟩, fun h1 => jno (fun h => by omega)⟩
      · have hBm : (BK l).getD m default = c := by
          rw [hfold, List.drop_eq_nil_of_le (by simp [hbl]; omega)]; rfl
        have hset : L = longK l m := by rw [← hL, ← hBm]; exact rep_set (BK l) m (by omega)
        have hj : ∃ j, p22a = at22 j ∧ w22a l l.length ((m : Int) - 1) γ L = vals22 l j ∧ inv22 l j ∧ mu22 l j < mu22 l (.d m k c γ) :=
          ⟨.a m γ, rfl, by rw [hset]; rfl, by show m ≤ l.length; omega, by simp only [mu22]; omega⟩
        simp only [w22a, p22a] at hj
        simp only [TW, LcQ, List.length_map, hw2]
        simp +contextual (disch := omega) [hlt]
        exact hj
end Go.Proofs.Ytaenniiaccflmaa
