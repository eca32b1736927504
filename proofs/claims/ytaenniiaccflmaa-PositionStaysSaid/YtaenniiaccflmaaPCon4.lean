/- A part of the proof: PCon4. -/
import Derived.Test.YtaenniiaccflmaaPTrees3
set_option linter.unusedVariables false
set_option linter.unusedSimpArgs false
set_option linter.unnecessarySimpa false
set_option linter.unusedSectionVars false
namespace Go.Proofs.Ytaenniiaccflmaa
open Go Go.Vm Go.Proofs

theorem c19 (l : List ByteArray) (hb : ∀ s ∈ l, s.size ≤ 9223372036854775807) : callE Try.prog NoPhi 19 [.sl 1 (l.map strRow)] = some (.bool (lightS l)) := by
  refine call_loop Try.f19 hd19 19 Try.func19 (by kernel_rfl) rfl p19 rfl (fun i => w19 l i) (fun i => i ≤ l.length ∧ l.length ≤ 60 ∧ allTo (fun i => decide ((l.getD i default).size ≤ 100)) i = true) (fun i => l.length - i) ⟨_, e19 l, ?_⟩ (fun i n ⟨hi, h60, hall⟩ g => ⟨_, r19 l i g n, ?_⟩)
  · have h1 : 60 < l.length → lightS l = false := fun h => by unfold lightS; rw [decide_eq_false (by omega)]; rfl
    have h2 : ((l.length : Int) ≤ 60) ↔ l.length ≤ 60 := by omega
    have h3 : (60 < (l.length : Int)) ↔ 60 < l.length := by omega
    simp +contextual (disch := omega) [TW, LcQ, p19, w19, allTo, h1, h2, h3]
  · have hv : lightS l = allTo (fun i => decide ((l.getD i default).size ≤ 100)) l.length := by unfold lightS; rw [decide_eq_true h60]; rfl
    have hf : i < l.length → 100 < (l.getD i default).size → lightS l = false := fun h1 h2 => by rw [hv]; exact allTo_false h1 (by simp [h2, -List.getD_eq_getElem?_getD])
    have ht : l.length ≤ i → lightS l = true := fun h => by rw [hv, show l.length = i by omega]; exact hall
    have h2 : ((l.getD i default).size : Int) ≤ 100 ↔ (l.getD i default).size ≤ 100 := by omega
    have h3 : 100 < ((l.getD i default).size : Int) ↔ 100 < (l.getD i default).size := by omega
    simp +contextual (disch := omega) [TW, LcQ, p19, w19, at_getD, -List.getD_eq_getElem?_getD, allTo, hall, ht, hf, h2, h3]
    grind
theorem c20 (a b : List Bool) (ha : a.length ≤ 2000) : callE Try.prog NoPhi 20 [.sl 1 (a.map boolRow), .sl 1 (b.map boolRow)] = some (.bool (decide (a = b))) := by
  refine call_loop Try.f20 hd20 26 Try.func20 (by kernel_rfl) rfl p20 rfl (fun i => w20 a b i) (fun i => i ≤ a.length ∧ a.length = b.length ∧ decide (a = b) = decide (a.drop i = b.drop i)) (fun i => a.length - i) ⟨_, e20 a b, ?_⟩ (fun i n ⟨hi, hn, hall⟩ g => ⟨_, r20 a b i g n, ?_⟩)
  · simp +contextual [TW, LcQ, p20, w20]
    intro h h'; rw [h'] at h; exact h rfl
  · have hs : i < a.length → decide (a.drop i = b.drop i) = (decide (a.getD i default = b.getD i default) && decide (a.drop (i + 1) = b.drop (i + 1))) := fun h => by
      rw [drop_getD h, drop_getD (show i < b.length by omega)]; rw [Bool.eq_iff_iff]; simp
    have he : a.length ≤ i → decide (a.drop i = b.drop i) = true := fun h => by rw [List.drop_eq_nil_of_le h, List.drop_eq_nil_of_le (by omega)]; rfl
    have hx : (a.getD i default == b.getD i default) = decide (a.getD i default = b.getD i default) := by rw [Bool.eq_iff_iff, beq_iff_eq, decide_eq_true_eq]
    rw [hall]
    simp only [TW, LcQ, hx]
    simp +contextual (disch := omega) [p20, w20, at_getD, -List.getD_eq_getElem?_getD, he, hs, hn]
    grind
abbrev BK (l : List ByteArray) : List Int := bestL ltK validK l
abbrev GK (l : List ByteArray) (j : Nat) : List ByteArray := gr ltK validK (l.drop j)
theorem BK_len (l : List ByteArray) : (BK l).length = l.length := bestL_len validK l
theorem GK_len (l : List ByteArray) (j : Nat) : (GK l j).length ≤ l.length := by
  have := gr_len (lt := ltK) validK (l.drop j)
  simp only [List.length_drop] at this; unfold GK; omega
def longK (l : List ByteArray) (j : Nat) : List Int := List.replicate j 0 ++ (BK l).drop j
theorem longK_len (l : List ByteArray) (j : Nat) (h : j ≤ l.length) : (longK l j).length = l.length := by
  unfold longK; simp [BK_len]; omega
/-- The places of the first loop's heads. -/
inductive H21 where
  | a (j : Nat) (γ δ : Stamp)
  | b (q : Nat) (most : Int) (γ δ : Stamp) (pre : List Bool) (last : ByteArray)
  | c (m lo hi : Nat) (γ δ : Stamp)
def at21 : H21 → List Bool | .a .. => p21a | .b .. => p21b | .c .. => p21c
def vals21 (l : List ByteArray) : H21 → List TV
  | .a j γ δ => w21a l l.length (mostS ((BK l).drop j)) ((j : Int) - 1) γ δ (longK l j) (GK l j)
  | .b q most γ δ pre last => w21b l most γ δ (BK l) (pre ++ List.replicate (l.length - q) false) last q
  | .c m lo hi γ δ => w21c l l.length (mostS ((BK l).drop (m + 1))) m γ δ (longK l (m + 1)) (GK l (m + 1)) lo hi
def inv21 (l : List ByteArray) : H21 → Prop
  | .a j γ δ => j ≤ l.length
  | .b q most γ δ pre last => q ≤ l.length ∧ pre.length = q ∧ 0 ≤ most ∧ most ≤ 10000 ∧ keepS l = pre ++ pickS ltK (((BK l).zip l).drop q) most last
  | .c m lo hi γ δ => m < l.length ∧ validK (l.getD m default) = true ∧ lo ≤ cnt ltK (GK l (m + 1)) (l.getD m default) ∧ cnt ltK (GK l (m + 1)) (l.getD m default) ≤ hi ∧ hi ≤ (GK l (m + 1)).length
def mu21 (l : List ByteArray) : H21 → Nat
  | .a j γ δ => l.length + 1 + j * (l.length + 2)
  | .b q most γ δ pre last => l.length - q
  | .c m lo hi γ δ => l.length + 1 + m * (l.length + 2) + (hi - lo) + 1
theorem mostS_le (l : List ByteArray) : mostS (BK l) ≤ l.length := by
  have key : ∀ j, mostS ((BK l).drop j) ≤ l.length := by
    intro j
    suffices ∀ k j, k + j = l.length → mostS ((BK l).drop j) ≤ l.length by
      rcases Nat.lt_or_ge j l.length with h | h
      · exact this (l.length - j) j (by omega)
      · rw [List.drop_eq_nil_of_le (by rw [BK_len]; omega)]; simp [mostS]
    intro k
    induction k with
    | zero => intro j hj; rw [List.drop_eq_nil_of_le (by rw [BK_len]; omega)]; simp [mostS]
    | succ k ih =>
      intro j hj
      rw [mostS_drop _ _ (by rw [BK_len]; omega)]
      have := ih (j + 1) (by omega)
      have h2 := best_at validK ordK l j (by omega)
      have h3 := cnt_le (lt := ltK) (gr ltK validK (l.drop (j + 1))) (l.getD j default)
      have h4 := gr_len (lt := ltK) validK (l.drop (j + 1))
      simp only [List.length_drop] at h4
      split
      · rw [h2]; split <;> omega
      · exact this
  simpa using key 0
theorem c21 (l : List ByteArray) (hl : l.length ≤ 1000) : callE Try.prog NoPhi 21 [.sl 1 (l.map strRow)] = some (.own (0, 0) 4 1 ((keepS l).map boolRow)) := by
  refine call_heads (ι := H21) Try.f21 hd21 118 Try.func21 (by kernel_rfl) rfl at21 (by rintro (_ | _ | _) <;> rfl) (vals21 l) (inv21 l) (mu21 l) ⟨_, e21 l, ?_⟩ (fun j nx hj g => ?_)
  · have h0 : longK l l.length = List.replicate l.length 0 := by unfold longK; rw [List.drop_eq_nil_of_le (by rw [BK_len]; omega)]; simp
    have h1 : GK l l.length = [] := by unfold GK; simp [gr]
    have h2 : mostS ((BK l).drop l.length) = 0 := by rw [List.drop_eq_nil_of_le (by rw [BK_len]; omega)]; rfl
    have h3 : List.replicate l.length [TV.int .i64 0] = (List.replicate l.length 0).map intRow := by simp [intRow]
    have hw : IntKind.wrap .i64 ((l.length : Int) - 1) = (l.length : Int) - 1 := wrap64 _ (by omega) (by omega)
    simp only [TW, LcQ, List.length_map, h3, hw]
    refine ⟨by simp; omega, by simp, by simp [roomy]; omega, trivial, .a l.length (6, 0) (8, 0), rfl, ?_, ?_⟩
    · simp only [vals21, w21a, h0, h1, h2]; rfl
    · exact Nat.le_refl _
  · rcases j with ⟨j, γ, δ⟩ | ⟨q, most, γ, δ, pre, last⟩ | ⟨m, lo, hi, γ, δ⟩
    · replace hj : j ≤ l.length := hj
      refine ⟨_, r21a l l.length _ _ γ δ _ _ g nx, ?_⟩
      cases j with
      | zero =>
        have h3 : List.replicate l.length [TV.bool false] = (List.replicate l.length false).map boolRow := by simp [boolRow]
        have h4 := mostS_le l
        have h5 := mostS_nonneg (BK l)
        simp only [TW, LcQ, List.length_map, show ((0 : Nat) : Int) - 1 = -1 by rfl, Int.toNat_natCast, h3]
        simp [roomy]
        refine ⟨by omega, by omega, .b 0 (mostS (BK l)) γ (nx + 2 + 1, 0) [] ⟨#[]⟩, rfl, ?_, ?_, ?_⟩
        · simp [vals21, w21b, longK]
        · exact ⟨by omega, rfl, h5, by omega, by simp [keepS, keepG, bestK]⟩
        · simp [mu21]
      | succ m =>
        have hm : m < l.length := by omega
        have hB := best_at validK ordK l m hm
        have e1 : ((m + 1 : Nat) : Int) - 1 = (m : Int) := by omega
        have hw : IntKind.wrap .i64 ((m : Int) - 1) = (m : Int) - 1 := wrap64 _ (by omega) (by omega)
        rw [e1]
        simp only [TW, LcQ, List.length_map, Int.toNat_natCast, hw, c14]
        simp +contextual (disch := omega) [at_getD, -List.getD_eq_getElem?_getD, hm]
        refine ⟨fun hv => ⟨.a m γ δ, rfl, ?_, by show m ≤ l.length; omega, by show _ < _; simp [mu21, Nat.add_mul]⟩, fun hv => ⟨.c m 0 (GK l (m + 1)).length γ δ, rfl, ?_, ?_, ?_⟩⟩
        · have h0 : (BK l).getD m default = 0 := by rw [hB, hv]; rfl
          have h1 : GK l m = GK l (m + 1) := by show gr _ _ _ = gr _ _ _; rw [drop_getD hm, gr, hv]; rfl
          have h2 : mostS ((BK l).drop m) = mostS ((BK l).drop (m + 1)) := by
            rw [mostS_drop _ _ (by rw [BK_len]; exact hm), h0, if_neg (by have := mostS_nonneg ((BK l).drop (m + 1)); omega)]
          simp only [vals21, w21a, h1, h2]
          rw [show longK l m = longK l (m + 1) from (rep_zero (BK l) m (by rw [BK_len]; exact hm) h0).symm]
        · simp [vals21, w21c]
        · exact ⟨hm, hv, by omega, cnt_le _ _, Nat.le_refl _⟩
        · have := GK_len l (m + 1)
          simp only [mu21, Nat.add_mul]; omega
    · obtain ⟨hq, hp, hm0, hm1, hk⟩ := hj
      refine ⟨_, r21b l most γ δ (BK l) (pre ++ List.replicate (l.length - q) false) last q g nx, ?_⟩
      have hol : (pre ++ List.replicate (l.length - q) false).length = l.length := by simp; omega
      have hend : l.length ≤ q → keepS l = pre ++ List.replicate (l.length - q) false := fun h => by
        rw [hk, List.drop_eq_nil_of_le (by simp [BK_len]; omega), show l.length - q = 0 by omega]; rfl
      by_cases hlt : q < l.length
      · have hset : (pre ++ List.replicate (l.length - q) false).set q true = (pre ++ [true]) ++ List.replicate (l.length - (q + 1)) false := by
          rw [List.set_append_right _ _ (by omega), hp, Nat.sub_self, show l.length - q = (l.length - (q + 1)) + 1 by omega, List.replicate_succ]; simp
        have hsame : pre ++ List.replicate (l.length - q) false = (pre ++ [false]) ++ List.replicate (l.length - (q + 1)) false := by
          rw [show l.length - q = (l.length - (q + 1)) + 1 by omega, List.replicate_succ]; simp
        have hz : ((BK l).zip l).drop q = ((BK l).getD q default, l.getD q default) :: ((BK l).zip l).drop (q + 1) := by
          rw [List.drop_eq_getElem_cons (by simp [BK_len]; exact hlt), List.getElem_zip, at_getD, at_getD]
        have hyes : 0 < most → (BK l).getD q default = most → ltK last (l.getD q default) = true → keepS l = (pre ++ [true]) ++ pickS ltK (((BK l).zip l).drop (q + 1)) (most - 1) (l.getD q default) := fun h1 h2 h3 => by
          rw [hk, hz, pickS, if_pos ⟨h1, h2, h3⟩, List.append_assoc]; rfl
        have hno : ¬ (0 < most ∧ (BK l).getD q default = most ∧ ltK last (l.getD q default) = true) → keepS l = (pre ++ [false]) ++ pickS ltK (((BK l).zip l).drop (q + 1)) most last := fun h => by
          rw [hk, hz, pickS, if_neg h, List.append_assoc]; rfl
        have hbl : (BK l).length = l.length := BK_len l
        have hw : 0 < most → IntKind.wrap .i64 (most - 1) = most - 1 := fun h => wrap64 _ (by omega) (by omega)
        have jyes : 0 < most → (BK l).getD q default = most → ltK last (l.getD q default) = true → ∀ n', ∃ j, p21b = at21 j ∧ w21b l (most - 1) γ δ (BK l) ((pre ++ List.replicate (l.length - q) false).set q true) (l.getD q default) (q + 1) = vals21 l j ∧ inv21 l j ∧ mu21 l j < mu21 l (.b q most γ δ pre last) := fun h1 h2 h3 _ =>
          ⟨.b (q + 1) (most - 1) γ δ (pre ++ [true]) (l.getD q default), rfl, by rw [hset]; rfl, ⟨by omega, by simp; exact hp, by omega, by omega, hyes h1 h2 h3⟩, by simp only [mu21]; omega⟩
        have jno : ¬ (0 < most ∧ (BK l).getD q default = most ∧ ltK last (l.getD q default) = true) → ∃ j, p21b = at21 j ∧ w21b l most γ δ (BK l) (pre ++ List.replicate (l.length - q) false) last (q + 1) = vals21 l j ∧ inv21 l j ∧ mu21 l j < mu21 l (.b q most γ δ pre last) := fun h =>
          ⟨.b (q + 1) most γ δ (pre ++ [false]) last, rfl, by simp only [vals21]; rw [hsame], ⟨by omega, by simp; exact hp, by omega, by omega, hno h⟩, by simp only [mu21]; omega⟩
        generalize hout : pre ++ List.replicate (l.length - q) false = out at *
        have ec : ((q + 1 : Nat) : Int) = (q : Int) + 1 := rfl
        simp only [w21b, List.length_map, p21b, List.map_set, ec] at jyes jno
        simp only [TW, LcQ, List.length_map, gtK, Nat.zero_add, set_bool]
        simp +contextual (disch := omega) [at_getD, -List.getD_eq_getElem?_getD, -Int.default_eq_zero, hlt, hol, hbl, hw]
        refine ⟨fun h1 => ⟨fun h2 => ⟨fun h3 => jyes h1 h2 h3 (by omega), fun h3 => jno (fun h => by rw [h.2.2] at h3; cases h3)⟩, fun h2 => jno (fun h => h2 h.2.1)⟩, fun h1 => jno (fun h => by omega)⟩
      · have hge : l.length ≤ q := by omega
        simp only [TW, LcQ, List.length_map, gtK]
        simp +contextual (disch := omega) [hlt, hend hge, hge]
    · obtain ⟨hm, hv, h1, h2, h3⟩ := hj
      refine ⟨_, r21c l l.length _ m γ δ _ _ lo hi g nx, ?_⟩
      have hgl := GK_len l (m + 1)
      have hdi := desc_idx ordK (GK l (m + 1)) (l.getD m default) (gr_desc ordK validK _)
      have hll := longK_len l (m + 1) (by omega)
      by_cases hlt : lo < hi
      · have hmid : IntKind.wrap .i64 (Int.tdiv (IntKind.wrap .i64 ((lo : Int) + (hi : Int))) 2) = (((lo + hi) / 2 : Nat) : Int) := by
          rw [wrap64 ((lo : Int) + (hi : Int)) (by omega) (by omega), Int.tdiv_eq_ediv_of_nonneg (by omega), wrap64 _ (by omega) (by omega)]; omega
        have hmid1 : IntKind.wrap .i64 ((((lo + hi) / 2 : Nat) : Int) + 1) = (((lo + hi) / 2 + 1 : Nat) : Int) := by rw [wrap64 _ (by omega) (by omega)]; rfl
        have hd := hdi ((lo + hi) / 2) (by omega)
        have jyes : ltK (l.getD m default) ((GK l (m + 1)).getD ((lo + hi) / 2) default) = true → ∃ j, p21c = at21 j ∧ w21c l l.length (mostS ((BK l).drop (m + 1))) m γ δ (longK l (m + 1)) (GK l (m + 1)) ((lo + hi) / 2 + 1) hi = vals21 l j ∧ inv21 l j ∧ mu21 l j < mu21 l (.c m lo hi γ δ) := fun h =>
          ⟨.c m ((lo + hi) / 2 + 1) hi γ δ, rfl, rfl, ⟨hm, hv, by have := hd.1 h; omega, h2, h3⟩, by simp only [mu21]; omega⟩
        have jno : ltK (l.getD m default) ((GK l (m + 1)).getD ((lo + hi) / 2) default) = false → ∃ j, p21c = at21 j ∧ w21c l l.length (mostS ((BK l).drop (m + 1))) m γ δ (longK l (m + 1)) (GK l (m + 1)) lo ((lo + hi) / 2) = vals21 l j ∧ inv21 l j ∧ mu21 l j < mu21 l (.c m lo hi γ δ) := fun h =>
          ⟨.c m lo ((lo + hi) / 2) γ δ, rfl, rfl, ⟨hm, hv, h1, by
            rcases Nat.lt_or_ge ((lo + hi) / 2) (cnt ltK (GK l (m + 1)) (l.getD m default)) with h' | h'
            · rw [hd.2 h'] at h; cases h
            · exact h', by omega⟩, by simp only [mu21]; omega⟩
        have hml : (lo + hi) / 2 < (GK l (m + 1)).length := by omega
        generalize (lo + hi) / 2 = mid at *
        simp only [w21c, p21c] at jyes jno
        simp only [TW, LcQ, List.length_map, gtK, hmid, hmid1, Int.toNat_natCast, Nat.zero_add]
        simp +contextual (disch := omega) [at_getD, -List.getD_eq_getElem?_getD, -Int.default_eq_zero, hlt, hm, hml]
        exact ⟨jyes, jno⟩
      · have hlo : lo = cnt ltK (GK l (m + 1)) (l.getD m default) := by omega
        have hBm : (BK l).getD m default = (lo : Int) + 1 := by rw [best_at validK ordK l m hm, hv, hlo]; rfl
        have hset : (longK l (m + 1)).set m ((lo : Int) + 1) = longK l m := by rw [← hBm]; exact rep_set (BK l) m (by rw [BK_len]; exact hm)
        have hw : IntKind.wrap .i64 ((lo : Int) + 1) = (lo : Int) + 1 := wrap64 _ (by omega) (by omega)
        have hw2 : IntKind.wrap .i64 ((m : Int) - 1) = (m : Int) - 1 := wrap64 _ (by omega) (by omega)
        have hget : (longK l m).getD m default = (lo : Int) + 1 := by
          rw [← hset]; simp [List.getD, hll, hm]
        have hmost : (if (lo : Int) + 1 > mostS ((BK l).drop (m + 1)) then (lo : Int) + 1 else mostS ((BK l).drop (m + 1))) = mostS ((BK l).drop m) := by
          rw [mostS_drop (BK l) m (by rw [BK_len]; exact hm), hBm]
        have hG : GK l m = grow ltK (GK l (m + 1)) (l.getD m default) := by show gr _ _ _ = _; rw [drop_getD hm, gr, hv]; rfl
        have hG1 : lo = (GK l (m + 1)).length → GK l (m + 1) ++ [l.getD m default] = GK l m := fun h => by rw [hG, grow, if_pos (by omega)]
        have hG2 : ¬ lo = (GK l (m + 1)).length → (GK l (m + 1)).set lo (if (!Op.bytesLess ((GK l (m + 1)).getD lo default).toList (l.getD m default).toList) = true then (GK l (m + 1)).getD lo default else l.getD m default) = GK l m := fun h => by
          have hg : grow ltK (GK l (m + 1)) (l.getD m default) = (GK l (m + 1)).set (cnt ltK (GK l (m + 1)) (l.getD m default)) (mx ltK ((GK l (m + 1)).getD (cnt ltK (GK l (m + 1)) (l.getD m default)) default) (l.getD m default)) := by unfold grow; exact if_neg (by omega)
          rw [hG, hg, ← hlo]; rfl
        have hlm := longK_len l m (by omega)
        have hj : ∀ γ' δ', ∃ j, p21a = at21 j ∧ w21a l l.length (mostS ((BK l).drop m)) ((m : Int) - 1) γ' δ' (longK l m) (GK l m) = vals21 l j ∧ inv21 l j ∧ mu21 l j < mu21 l (.c m lo hi γ δ) := fun γ' δ' =>
          ⟨.a m γ' δ', rfl, rfl, by show m ≤ l.length; omega, by simp only [mu21]; omega⟩
        simp only [w21a, p21a] at hj
        simp only [TW, LcQ, List.length_map, Int.toNat_natCast, Nat.zero_add, hw, hw2, set_int, set_str, hset, hget, hmost]
        have hmg : (List.map strRow l).getD m default = strRow (l.getD m default) := by simp [List.getD, hm]
        by_cases hfull : lo = (GK l (m + 1)).length
        · have hG1' := hG1 hfull
          have hc : ((lo : Int) == ((GK l (m + 1)).length : Int)) = true := by simp; omega
          have ht : List.take (GK l (m + 1)).length (List.map strRow (GK l (m + 1))) ++ [[TV.str (l.getD m default)]] = List.map strRow (GK l m) := by
            rw [← hG1']; simp [strRow]
          have hr : roomy ((GK l (m + 1)).length + 1) 16 = true := by simp [roomy]; omega
          simp only [hc, ht, hr]
          simp +contextual (disch := omega) [at_getD, -List.getD_eq_getElem?_getD, -Int.default_eq_zero, hlt, hm, hlm, hll, hget, hmg]
          exact hj _ _
        · have := hG2 hfull
          have hc : ((lo : Int) == ((GK l (m + 1)).length : Int)) = false := by rw [Bool.eq_false_iff]; simp; omega
          have hmg2 : (List.map strRow (GK l (m + 1))).getD lo default = strRow ((GK l (m + 1)).getD lo default) := by simp [List.getD, show lo < (GK l (m + 1)).length by omega]
          simp only [this, hc]
          simp +contextual (disch := omega) [at_getD, -List.getD_eq_getElem?_getD, -Int.default_eq_zero, hlt, hm, hlm, hll, hget, hmg, hmg2]
          exact ⟨by omega, hj _ _⟩
end Go.Proofs.Ytaenniiaccflmaa
