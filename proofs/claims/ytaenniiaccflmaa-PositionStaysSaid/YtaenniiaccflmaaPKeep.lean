/- The longest ascending choice: two ways to find it. -/
import Derived.Test.YtaenniiaccflmaaVm30
set_option linter.unusedVariables false
set_option linter.unusedSimpArgs false
set_option linter.unnecessarySimpa false
set_option linter.unusedSectionVars false
namespace Go.Proofs.Ytaenniiaccflmaa
open Go Go.Vm Go.Proofs
structure Ord' (α : Type) (lt : α → α → Bool) : Prop where
  irrefl : ∀ a, lt a a = false
  trans : ∀ a b c, lt a b = true → lt b c = true → lt a c = true
  total : ∀ a b, lt a b = false → lt b a = false → a = b
section
variable {α : Type} [Inhabited α] {lt : α → α → Bool} (ho : Ord' α lt) (V : α → Bool)
include ho
theorem Ord'.asymm {a b : α} (h : lt a b = true) : lt b a = false := by
  cases h' : lt b a with
  | false => rfl
  | true => have := ho.trans a b a h h'; rw [ho.irrefl] at this; cases this
/-- not greater, and less: less -/
theorem Ord'.le_lt {a b c : α} (h : lt b a = false) (h2 : lt b c = true) : lt a c = true := by
  cases h' : lt a b with
  | true => exact ho.trans _ _ _ h' h2
  | false => rw [ho.total a b h' h]; exact h2
theorem Ord'.lt_le {a b c : α} (h : lt a b = true) (h2 : lt c b = false) : lt a c = true := by
  cases h' : lt b c with
  | true => exact ho.trans _ _ _ h h'
  | false => rw [← ho.total b c h' h2]; exact h
theorem Ord'.le_trans {a b c : α} (h : lt b a = false) (h2 : lt c b = false) : lt c a = false := by
  cases h' : lt c a with
  | false => rfl
  | true => rw [ho.le_lt h2 h'] at h; cases h
omit ho
variable (lt)
def stepM (t : α) (c : Int) (p : Int × α) : Int := if p.1 > 0 ∧ lt t p.2 = true then (if p.1 > c then p.1 else c) else c
def stepB (t : α) (c : Int) (p : Int × α) : Int := if p.1 > 0 ∧ lt t p.2 = true then (if p.1 + 1 > c then p.1 + 1 else c) else c
def bestL : List α → List Int
  | [] => []
  | s :: ss => (if V s then ((bestL ss).zip ss).foldl (stepB lt s) 1 else 0) :: bestL ss
def cnt (g : List α) (t : α) : Nat := g.countP (fun x => lt t x)
def mx (a b : α) : α := if !lt a b then a else b
def grow (g : List α) (s : α) : List α := if cnt lt g s = g.length then g ++ [s] else g.set (cnt lt g s) (mx lt (g.getD (cnt lt g s) default) s)
def gr : List α → List α
  | [] => []
  | s :: ss => if V s then grow lt (gr ss) s else gr ss
def mOf (ss : List α) (t : α) : Int := ((bestL lt V ss).zip ss).foldl (stepM lt t) 0
variable {lt}
theorem bestL_len (ss : List α) : (bestL lt V ss).length = ss.length := by
  induction ss with
  | nil => rfl
  | cons s ss ih => simp [bestL, ih]
theorem fold_BM (t : α) : ∀ (l : List (Int × α)) (c : Int), l.foldl (stepB lt t) (c + 1) = l.foldl (stepM lt t) c + 1
  | [], _ => rfl
  | p :: l, c => by
    have : stepB lt t (c + 1) p = stepM lt t c p + 1 := by
      unfold stepB stepM
      split
      · split <;> split <;> omega
      · rfl
    rw [List.foldl_cons, List.foldl_cons, this, fold_BM t l]
theorem fold_max (t : α) : ∀ (l : List (Int × α)) (c : Int), 0 ≤ c → l.foldl (stepM lt t) c = max c (l.foldl (stepM lt t) 0)
  | [], c, h => by simp; omega
  | p :: l, c, h => by
    rw [List.foldl_cons, List.foldl_cons]
    have h1 : 0 ≤ stepM lt t c p := by unfold stepM; split <;> (try split) <;> omega
    have h2 : 0 ≤ stepM lt t 0 p := by unfold stepM; split <;> (try split) <;> omega
    rw [fold_max t l _ h1, fold_max t l _ h2]
    have : stepM lt t c p = max c (stepM lt t 0 p) := by unfold stepM; split <;> (try split) <;> (try split) <;> omega
    rw [this]; omega
theorem best_eq (s : α) (ss : List α) : ((bestL lt V ss).zip ss).foldl (stepB lt s) 1 = mOf lt V ss s + 1 := fold_BM s _ 0
theorem mOf_nonneg (ss : List α) (t : α) : 0 ≤ mOf lt V ss t := by
  unfold mOf
  generalize (bestL lt V ss).zip ss = l
  have : ∀ (l : List (Int × α)) (c : Int), 0 ≤ c → 0 ≤ l.foldl (stepM lt t) c := by
    intro l
    induction l with
    | nil => intro c h; exact h
    | cons p l ih => intro c h; exact ih _ (by unfold stepM; split <;> (try split) <;> omega)
  exact this l 0 (by omega)
theorem mOf_cons (s : α) (ss : List α) (t : α) : mOf lt V (s :: ss) t = if V s = true ∧ lt t s = true then max (mOf lt V ss s + 1) (mOf lt V ss t) else mOf lt V ss t := by
  have hn := mOf_nonneg (lt := lt) V ss s
  have hn2 := mOf_nonneg (lt := lt) V ss t
  rw [mOf, bestL, List.zip_cons_cons, List.foldl_cons, fold_max t _ _ (by unfold stepM; split <;> (try split) <;> omega)]
  rw [best_eq]
  show max (stepM lt t 0 _) (mOf lt V ss t) = _
  unfold stepM
  by_cases hv : V s = true
  · by_cases hl : lt t s = true
    · simp only [hv, hl, if_true, and_self, and_true]
      rw [if_pos (by omega), if_pos (by omega)]
    · simp only [hv, hl, and_false, if_false]; simp; omega
  · simp only [hv, if_false, false_and]; simp; omega
/-- Descending. -/
def Desc (lt : α → α → Bool) (g : List α) : Prop := g.Pairwise fun a b => lt a b = false
include ho
theorem desc_idx : ∀ (g : List α) (t : α), Desc lt g → ∀ i, i < g.length → (lt t (g.getD i default) = true ↔ i < cnt lt g t)
  | [], _, _, i, h => by simp at h
  | x :: g, t, hd, i, h => by
    have hd' := List.pairwise_cons.1 hd
    have ih := desc_idx g t hd'.2
    unfold cnt
    by_cases hx : lt t x = true
    · rw [List.countP_cons_of_pos (by exact hx)]
      cases i with
      | zero => simp [hx]
      | succ i => rw [List.getD_cons_succ, ih i (by simpa using h)]; unfold cnt; omega
    · have hx' : lt t x = false := by simpa using hx
      have h0 : g.countP (fun y => lt t y) = 0 := by
        rw [List.countP_eq_zero]
        intro y hy
        have := ho.le_trans (hd'.1 y hy) (by exact hx') |> fun h => h
        have h3 : lt t y = false := by
          cases h4 : lt t y with
          | false => rfl
          | true => have := ho.lt_le h4 (hd'.1 y hy); rw [hx'] at this; cases this
        simp [h3]
      rw [List.countP_cons_of_neg (by simp [hx']), h0]
      cases i with
      | zero => simp [hx']
      | succ i =>
        rw [List.getD_cons_succ, ih i (by simpa using h)]; unfold cnt; rw [h0]; simp
omit ho
theorem cnt_le (g : List α) (t : α) : cnt lt g t ≤ g.length := List.countP_le_length
theorem mx_lt (a b t : α) (ho : Ord' α lt) : lt t (mx lt a b) = true ↔ lt t a = true ∨ lt t b = true := by
  unfold mx
  cases h : lt a b with
  | false =>
    simp only [Bool.not_false, if_true]
    exact ⟨.inl, fun h' => h'.elim id fun h2 => ho.lt_le h2 h⟩
  | true =>
    simp only [Bool.not_true, Bool.false_eq_true, if_false]
    exact ⟨.inr, fun h' => h'.elim (fun h2 => ho.trans _ _ _ h2 h) id⟩
include ho
theorem grow_desc (g : List α) (s : α) (hd : Desc lt g) : Desc lt (grow lt g s) := by
  have hi := desc_idx ho g s hd
  have hd2 : ∀ i j, i < j → j < g.length → lt (g.getD i default) (g.getD j default) = false := by
    intro i j hij hj
    have := List.pairwise_iff_getElem.1 hd i j (by omega) hj hij
    simpa [List.getD, hj, show i < g.length by omega] using this
  unfold grow
  split
  · rename_i h
    refine List.pairwise_append.2 ⟨hd, List.pairwise_singleton _ _, fun a ha b hb => ?_⟩
    rw [List.mem_singleton.1 hb]
    obtain ⟨i, hi', rfl⟩ := List.mem_iff_getElem.1 ha
    have := (hi i hi').2 (by omega)
    rw [at_getD]
    exact ho.asymm this
  · rename_i h
    have hc : cnt lt g s < g.length := by have := cnt_le (lt := lt) g s; omega
    refine List.pairwise_iff_getElem.2 fun i j hi' hj' hij => ?_
    simp only [List.length_set] at hi' hj'
    rw [List.getElem_set, List.getElem_set]
    split
    · rename_i e1
      split
      · omega
      · rw [at_getD]
        cases h4 : lt (mx lt (g.getD (cnt lt g s) default) s) (g.getD j default) with
        | false => rfl
        | true =>
          have h5 := hd2 (cnt lt g s) j (by omega) hj'
          have h6 : lt s (g.getD j default) = false := by
            cases h7 : lt s (g.getD j default) with
            | false => rfl
            | true => have := (hi j hj').1 h7; omega
          unfold mx at h4
          split at h4
          · rw [h5] at h4; cases h4
          · rw [h6] at h4; cases h4
    · split
      · rename_i e1 e2
        have h7 := (hi i hi').2 (by omega)
        have h8 := hd2 i (cnt lt g s) (by omega) hc
        rw [at_getD]
        unfold mx
        split
        · exact h8
        · exact ho.asymm h7
      · rw [at_getD, at_getD]; exact hd2 i j hij hj'
theorem grow_cnt (g : List α) (s : α) (hd : Desc lt g) (t : α) : cnt lt (grow lt g s) t = if lt t s = true then max (cnt lt g s + 1) (cnt lt g t) else cnt lt g t := by
  have his := desc_idx ho g s hd
  have hit := desc_idx ho g t hd
  unfold grow
  split
  · rename_i h
    have e : cnt lt (g ++ [s]) t = cnt lt g t + if lt t s = true then 1 else 0 := by
      unfold cnt; rw [List.countP_append, List.countP_singleton]
    rw [e]
    by_cases hs : lt t s = true
    · rw [if_pos hs, if_pos hs]
      have : cnt lt g t = g.length := by
        rcases Nat.lt_or_ge (cnt lt g t) g.length with h' | h'
        · exfalso
          have h1 := (his (cnt lt g t) h').2 (by omega)
          have h2 := (hit (cnt lt g t) h').1 (ho.trans _ _ _ hs h1)
          omega
        · have := cnt_le (lt := lt) g t; omega
      omega
    · rw [if_neg hs, if_neg hs]; rfl
  · rename_i h
    have hc : cnt lt g s < g.length := by have := cnt_le (lt := lt) g s; omega
    have e : cnt lt (g.set (cnt lt g s) (mx lt (g.getD (cnt lt g s) default) s)) t = cnt lt g t - (if lt t (g.getD (cnt lt g s) default) = true then 1 else 0) + (if lt t (mx lt (g.getD (cnt lt g s) default) s) = true then 1 else 0) := by
      show List.countP _ _ = _
      rw [List.countP_set hc, at_getD]; rfl
    rw [e]
    have hmx := mx_lt (g.getD (cnt lt g s) default) s t ho
    have hold := hit (cnt lt g s) hc
    have hns : ¬ lt s (g.getD (cnt lt g s) default) = true := fun h' => by have := (his _ hc).1 h'; omega
    by_cases hs : lt t s = true
    · rw [if_pos hs, if_pos (hmx.2 (.inr hs))]
      by_cases ht : lt t (g.getD (cnt lt g s) default) = true
      · rw [if_pos ht]; have := hold.1 ht; omega
      · rw [if_neg ht]
        have h1 : ¬ cnt lt g s < cnt lt g t := fun h' => ht (hold.2 h')
        have h2 : cnt lt g s ≤ cnt lt g t := by
          rcases Nat.lt_or_ge (cnt lt g t) (cnt lt g s) with h' | h'
          · exfalso
            have h3 := (his (cnt lt g t) (by omega)).2 h'
            have h4 := (hit (cnt lt g t) (by omega)).1 (ho.trans _ _ _ hs h3)
            omega
          · exact h'
        omega
    · rw [if_neg hs]
      by_cases ht : lt t (g.getD (cnt lt g s) default) = true
      · rw [if_pos ht, if_pos (hmx.2 (.inl ht))]; have := hold.1 ht; omega
      · rw [if_neg ht, if_neg (fun h' => (hmx.1 h').elim ht hs)]; omega
theorem gr_desc : ∀ ss : List α, Desc lt (gr lt V ss)
  | [] => List.Pairwise.nil
  | s :: ss => by
    rw [gr]; split
    · exact grow_desc ho _ _ (gr_desc ss)
    · exact gr_desc ss
/-- THE TWO WAYS AGREE. -/
theorem gr_cnt : ∀ (ss : List α) (t : α), (cnt lt (gr lt V ss) t : Int) = mOf lt V ss t
  | [], _ => rfl
  | s :: ss, t => by
    have ih := gr_cnt ss
    rw [mOf_cons, gr]
    by_cases hv : V s = true
    · rw [if_pos hv, grow_cnt ho _ _ (gr_desc ho V ss)]
      by_cases hl : lt t s = true
      · rw [if_pos hl, if_pos ⟨hv, hl⟩, ← ih s, ← ih t]; omega
      · rw [if_neg hl, if_neg (fun h => hl h.2)]; exact ih t
    · rw [if_neg hv, if_neg (fun h => hv h.1)]; exact ih t
end
/-- The order of strings, on their bytes. -/
def ltL : List Int → List Int → Bool
  | _, [] => false
  | [], _ :: _ => true
  | a :: x, b :: y => decide (a < b) || (decide (a = b) && ltL x y)
theorem less_eq (a b : ByteArray) : Op.bytesLess a.toList b.toList = ltL (bts a) (bts b) := by
  simp only [ByteArray.toList_eq, bts]
  generalize a.data.toList = x
  generalize b.data.toList = y
  induction x generalizing y with
  | nil => cases y <;> rfl
  | cons p x ih =>
    cases y with
    | nil => rfl
    | cons q y =>
      simp only [Op.bytesLess, List.map_cons, ltL, ih y]
      have h1 : decide (p < q) = decide ((p.toNat : Int) < (q.toNat : Int)) := by rw [Bool.eq_iff_iff]; simp [UInt8.lt_iff_toNat_lt]
      have h2 : (p == q) = decide ((p.toNat : Int) = (q.toNat : Int)) := by
        rw [Bool.eq_iff_iff, beq_iff_eq, decide_eq_true_eq]
        exact ⟨fun h => by rw [h], fun h => UInt8.toNat_inj.1 (by omega)⟩
      rw [h1, h2]
def ltK (a b : ByteArray) : Bool := Op.bytesLess a.toList b.toList
theorem ltL_irrefl : ∀ x : List Int, ltL x x = false
  | [] => rfl
  | a :: x => by simp [ltL, ltL_irrefl x]
theorem ltL_trans : ∀ x y z : List Int, ltL x y = true → ltL y z = true → ltL x z = true
  | _, [], _, h, _ => by cases ‹List Int› <;> simp [ltL] at h
  | _, _ :: _, [], _, h => by simp [ltL] at h
  | [], _ :: _, _ :: _, _, _ => rfl
  | a :: x, b :: y, c :: z, h1, h2 => by
    simp only [ltL, Bool.or_eq_true, Bool.and_eq_true, decide_eq_true_eq] at h1 h2 ⊢
    rcases h1 with h1 | ⟨rfl, h1⟩ <;> rcases h2 with h2 | ⟨rfl, h2⟩
    · exact .inl (by omega)
    · exact .inl h1
    · exact .inl h2
    · exact .inr ⟨rfl, ltL_trans x y z h1 h2⟩
theorem ltL_total : ∀ x y : List Int, ltL x y = false → ltL y x = false → x = y
  | [], [], _, _ => rfl
  | [], _ :: _, h, _ => by simp [ltL] at h
  | _ :: _, [], _, h => by simp [ltL] at h
  | a :: x, b :: y, h1, h2 => by
    simp only [ltL, Bool.or_eq_false_iff, Bool.and_eq_false_iff, decide_eq_false_iff_not] at h1 h2
    have : a = b := by omega
    subst this
    rw [ltL_total x y (by simpa using h1.2) (by simpa using h2.2)]
theorem ordK : Ord' ByteArray ltK where
  irrefl a := by unfold ltK; rw [less_eq]; exact ltL_irrefl _
  trans a b c h1 h2 := by unfold ltK at *; rw [less_eq] at *; exact ltL_trans _ _ _ h1 h2
  total a b h1 h2 := by unfold ltK at *; rw [less_eq] at *; exact bts_inj (ltL_total _ _ h1 h2)
theorem gtK (a b : ByteArray) : (!(Op.bytesLess a.toList b.toList || a.toList == b.toList)) = ltK b a := by
  have h : (a.toList == b.toList) = decide (a = b) := by rw [Bool.eq_iff_iff, beq_iff_eq, toList_inj', decide_eq_true_eq]
  rw [h]
  show (!(ltK a b || decide (a = b))) = ltK b a
  cases h1 : ltK a b with
  | true => simp [ordK.asymm h1]
  | false =>
    by_cases h2 : a = b
    · subst h2; simp [ordK.irrefl]
    · cases h3 : ltK b a with
      | true => simp [h2]
      | false => exact absurd (ordK.total a b h1 h3) h2
section
variable {α : Type} (lt : α → α → Bool)
def pickS : List (Int × α) → Int → α → List Bool
  | [], _, _ => []
  | (b, k) :: r, most, last => if most > 0 ∧ b = most ∧ lt last k = true then true :: pickS r (most - 1) k else false :: pickS r most last
end
def mostS : List Int → Int
  | [] => 0
  | b :: r => if b > mostS r then b else mostS r
def bestK (V : ByteArray → Bool) (l : List ByteArray) : List Int := bestL ltK V l
def keepG (V : ByteArray → Bool) (l : List ByteArray) : List Bool := pickS ltK ((bestK V l).zip l) (mostS (bestK V l)) ⟨#[]⟩
section
variable {α : Type} [Inhabited α] {lt : α → α → Bool} (V : α → Bool)
theorem bestL_drop : ∀ (l : List α) (j : Nat), (bestL lt V l).drop j = bestL lt V (l.drop j)
  | [], j => by simp [bestL]
  | s :: l, 0 => rfl
  | s :: l, j + 1 => by rw [bestL, List.drop_succ_cons, List.drop_succ_cons, bestL_drop l j]
theorem gr_len : ∀ l : List α, (gr lt V l).length ≤ l.length
  | [] => by simp [gr]
  | s :: l => by
    have := gr_len l
    rw [gr]; split
    · unfold grow; split
      · simp; omega
      · simp; omega
    · simp; omega
theorem best_at (ho : Ord' α lt) (l : List α) (m : Nat) (h : m < l.length) : (bestL lt V l).getD m default = if V (l.getD m default) then (cnt lt (gr lt V (l.drop (m + 1))) (l.getD m default) : Int) + 1 else 0 := by
  have h1 : (bestL lt V l).drop m = bestL lt V (l.drop m) := bestL_drop V l m
  rw [drop_getD (l := l) h, bestL, drop_getD (show m < (bestL lt V l).length by rw [bestL_len]; exact h)] at h1
  rw [(List.cons.inj h1).1, best_eq, gr_cnt ho]
end
theorem mostS_nonneg : ∀ l, 0 ≤ mostS l
  | [] => by simp [mostS]
  | b :: r => by have := mostS_nonneg r; unfold mostS; split <;> omega
theorem mostS_drop (l : List Int) (m : Nat) (h : m < l.length) : mostS (l.drop m) = if l.getD m default > mostS (l.drop (m + 1)) then l.getD m default else mostS (l.drop (m + 1)) := by
  rw [drop_getD h, mostS]
theorem rep_set (B : List Int) (m : Nat) (h : m < B.length) : (List.replicate (m + 1) 0 ++ B.drop (m + 1)).set m (B.getD m default) = List.replicate m 0 ++ B.drop m := by
  rw [drop_getD h, List.replicate_succ', List.append_assoc, List.set_append_right _ _ (by simp)]
  simp
theorem rep_zero (B : List Int) (m : Nat) (h : m < B.length) (h0 : B.getD m default = 0) : List.replicate (m + 1) 0 ++ B.drop (m + 1) = List.replicate m 0 ++ B.drop m := by
  rw [drop_getD h, h0, List.replicate_succ', List.append_assoc]; rfl
section
variable {α : Type} [Inhabited α] {lt : α → α → Bool} (V : α → Bool)
theorem best_mOf (l : List α) (m : Nat) (h : m < l.length) : (bestL lt V l).getD m default = if V (l.getD m default) then mOf lt V (l.drop (m + 1)) (l.getD m default) + 1 else 0 := by
  have h1 : (bestL lt V l).drop m = bestL lt V (l.drop m) := bestL_drop V l m
  rw [drop_getD (l := l) h, bestL, drop_getD (show m < (bestL lt V l).length by rw [bestL_len]; exact h)] at h1
  rw [(List.cons.inj h1).1, best_eq]
theorem mOf_drop (l : List α) (m : Nat) (h : m < l.length) (t : α) : mOf lt V (l.drop m) t = if V (l.getD m default) = true ∧ lt t (l.getD m default) = true then max ((bestL lt V l).getD m default) (mOf lt V (l.drop (m + 1)) t) else mOf lt V (l.drop (m + 1)) t := by
  rw [drop_getD (l := l) h, mOf_cons, best_mOf V l m h]
  split
  · rename_i h'; rw [h'.1]; rfl
  · rfl
theorem mOf_anti (ho : Ord' α lt) : ∀ (ss : List α) (t u : α), lt t u = true → mOf lt V ss u ≤ mOf lt V ss t
  | [], _, _, _ => Int.le_refl _
  | s :: ss, t, u, h => by
    have ih := mOf_anti ho ss t u h
    rw [mOf_cons, mOf_cons]
    split
    · rename_i h1
      rw [if_pos ⟨h1.1, ho.trans _ _ _ h h1.2⟩]; omega
    · split <;> omega
end
theorem mostS_cons (b : Int) (r : List Int) : mostS (b :: r) = max b (mostS r) := by
  show (if b > mostS r then b else mostS r) = _
  split <;> omega
theorem mOf_all {α : Type} [Inhabited α] {lt : α → α → Bool} (V : α → Bool) (e : α) (he : ∀ s, V s = true → lt e s = true) : ∀ ss : List α, mOf lt V ss e = mostS (bestL lt V ss)
  | [] => rfl
  | s :: ss => by
    have ih := mOf_all V e he ss
    have hn := mOf_nonneg (lt := lt) V ss s
    have hm := mostS_nonneg (bestL lt V ss)
    rw [mOf_cons, bestL, best_eq, mostS_cons]
    by_cases hv : V s = true
    · rw [if_pos ⟨hv, he s hv⟩, if_pos hv, ih]
    · rw [if_neg (fun h => hv h.1), if_neg hv, ih]; omega
end Go.Proofs.Ytaenniiaccflmaa
