/- A part of the proof: Con6. -/
import Derived.Test.YtgjkdmjgefmcmaaCon5
set_option linter.unusedVariables false
set_option linter.unusedSimpArgs false
set_option linter.unnecessarySimpa false
set_option linter.unusedSectionVars false
namespace Go.Proofs.Ytgjkdmjgefmcmaa
open Go Go.Vm Go.Proofs
theorem ord_gt (a b : CellR) : 0 < ord a b ↔ b.id < a.id ∨ a.id = b.id ∧ b.field < a.field := by
  unfold ord; repeat' split
  all_goals omega
theorem lt_trans' {a b c : CellR} (h1 : ord a b < 0) (h2 : ord b c < 0) : ord a c < 0 := by
  simp only [ord_lt] at *; omega
theorem lt_of_eq {a b c : CellR} (h1 : ord a b = 0) (h2 : ord a c < 0) : ord b c < 0 := by
  simp only [ord_lt, ord_eq] at *; omega
theorem lt_of_gt {a b : CellR} (h : 0 < ord a b) : ord b a < 0 := by
  simp only [ord_lt, ord_gt] at *; omega
theorem ne_of_lt {a b : CellR} (h : ord a b < 0) : ord a b ≠ 0 ∧ ord b a ≠ 0 ∧ ¬ ord b a < 0 := by
  simp only [ord_lt, ord_eq, ne_eq] at *; omega
theorem lt_irrefl (a : CellR) : ¬ ord a a < 0 := by simp only [ord_lt]; omega
theorem ord_self (a : CellR) : ord a a = 0 := (ord_eq a a).2 ⟨rfl, rfl⟩
def okC (c : CellR) : Prop := idS c.id = true ∧ 1 ≤ c.field ∧ c.field < 48
def Wr : List CellR → Prop
  | [] => True
  | c :: l => okC c ∧ (∀ d ∈ l, ord c d < 0) ∧ Wr l
theorem okAt_cons (c : CellR) (l : List CellR) (i : Nat) : okAt (c :: l) (i + 1) = (okAt l i && (i != 0 || decide (ord c (l.getD 0 default) < 0))) := by
  cases i with
  | zero => simp [okAt, List.getD_cons_succ, List.getD_cons_zero, -List.getD_eq_getElem?_getD]
  | succ i => simp [okAt, List.getD_cons_succ, -List.getD_eq_getElem?_getD]
theorem writes_cons (c : CellR) (l : List CellR) : writesS (c :: l) = true ↔ okC c ∧ writesS l = true ∧ (∀ d, l.head? = some d → ord c d < 0) := by
  simp only [writesS, allTo_iff, List.length_cons]
  have h0 : okAt (c :: l) 0 = true ↔ okC c := by simp [okAt, okC, List.getD_cons_zero, -List.getD_eq_getElem?_getD, and_assoc]
  constructor
  · intro h
    refine ⟨h0.1 (h 0 (by omega)), fun i hi => ?_, fun d hd => ?_⟩
    · have := h (i + 1) (by omega)
      rw [okAt_cons, Bool.and_eq_true] at this; exact this.1
    · cases l with
      | nil => simp at hd
      | cons e l =>
        have := h 1 (by simp)
        rw [okAt_cons, Bool.and_eq_true] at this
        simp at hd; subst hd
        simpa using this.2
  · rintro ⟨h1, h2, h3⟩ i hi
    cases i with
    | zero => exact h0.2 h1
    | succ i =>
      rw [okAt_cons, Bool.and_eq_true]
      refine ⟨h2 i (by omega), ?_⟩
      cases i with
      | zero =>
        cases l with
        | nil => simp at hi
        | cons e l => simpa using h3 e rfl
      | succ i => simp
theorem writes_iff : ∀ l : List CellR, writesS l = true ↔ Wr l
  | [] => by simp [writesS, Wr, allTo]
  | c :: l => by
    rw [writes_cons, writes_iff l, Wr]
    constructor
    · rintro ⟨h1, h2, h3⟩
      refine ⟨h1, ?_, h2⟩
      cases l with
      | nil => simp
      | cons e l =>
        have he := h3 e rfl
        intro d hd
        rcases List.mem_cons.1 hd with rfl | hd
        · exact he
        · exact lt_trans' he (h2.2.1 d hd)
    · rintro ⟨h1, h2, h3⟩
      refine ⟨h1, h3, fun d hd => h2 d ?_⟩
      cases l with
      | nil => simp at hd
      | cons e l => simp at hd; simp [hd]
theorem valid_iff (l : List CellR) : validS l = true ↔ Wr l ∧ ∀ c ∈ l, c.v ≠ default := by
  unfold validS
  rw [Bool.and_eq_true, writes_iff, allTo_iff, and_comm]
  refine and_congr_right fun _ => ⟨fun h c hc => ?_, fun h i hi => ?_⟩
  · obtain ⟨i, hi, rfl⟩ := List.mem_iff_getElem.1 hc
    have := h i hi
    simpa [List.getD, hi] using this
  · have := h l[i] (List.getElem_mem hi)
    simpa [List.getD, hi] using this
theorem sorted_ext : ∀ x y : List CellR, Wr x → Wr y → (∀ d, d ∈ x ↔ d ∈ y) → x = y
  | [], [], _, _, _ => rfl
  | [], e :: y, _, _, h => by have := (h e).2 (by simp); simp at this
  | c :: x, [], _, _, h => by have := (h c).1 (by simp); simp at this
  | c :: x, e :: y, hx, hy, h => by
    have hce : c = e := by
      have h1 := (h c).1 (by simp)
      have h2 := (h e).2 (by simp)
      rcases List.mem_cons.1 h1 with rfl | h1
      · rfl
      · rcases List.mem_cons.1 h2 with rfl | h2
        · rfl
        · exact absurd (hx.2.1 e h2) (ne_of_lt (hy.2.1 c h1)).2.2
    subst hce
    rw [sorted_ext x y hx.2.2 hy.2.2 fun d => ?_]
    constructor
    · intro hd
      rcases List.mem_cons.1 ((h d).1 (by simp [hd])) with rfl | h'
      · exact absurd (hx.2.1 d hd) (lt_irrefl d)
      · exact h'
    · intro hd
      rcases List.mem_cons.1 ((h d).2 (by simp [hd])) with rfl | h'
      · exact absurd (hy.2.1 d hd) (lt_irrefl d)
      · exact h'
theorem mem_putG (l w : List CellR) (hl : Wr l) (hw : Wr w) : ∀ d, d ∈ putG l w ↔ (d ∈ w ∧ d.v ≠ default) ∨ (d ∈ l ∧ ∀ c ∈ w, ord d c ≠ 0) := by
  induction l, w using putG.induct with
  | case1 l => intro d; simp [putG]
  | case2 c w ih =>
    intro d
    have := ih hl hw.2.2 d
    simp only [putG, List.mem_append, this, wr]
    split <;> simp_all <;> grind
  | case3 x l c w h ih =>
    intro d
    have := ih hl.2.2 hw d
    have hx : ∀ e ∈ c :: w, ord x e ≠ 0 := fun e he => by
      rcases List.mem_cons.1 he with rfl | he
      · exact (ne_of_lt h).1
      · exact (ne_of_lt (lt_trans' h (hw.2.1 e he))).1
    rw [putG, if_pos h, List.mem_cons, this]
    grind
  | case4 x l c w h h2 ih =>
    intro d
    have := ih hl.2.2 hw.2.2 d
    have hx : ∀ e ∈ l, ord e c ≠ 0 := fun e he => (ne_of_lt (lt_of_eq h2 (hl.2.1 e he))).2.1
    rw [putG, if_neg h, if_pos h2, List.mem_append, this]
    unfold wr
    grind
  | case5 x l c w h h2 ih =>
    intro d
    have := ih hl hw.2.2 d
    have hcx : ord c x < 0 := lt_of_gt (by omega)
    have hx : ∀ e ∈ x :: l, ord e c ≠ 0 := fun e he => by
      rcases List.mem_cons.1 he with rfl | he
      · exact (ne_of_lt hcx).2.1
      · exact (ne_of_lt (lt_trans' hcx (hl.2.1 e he))).2.1
    rw [putG, if_neg h, if_neg h2, List.mem_append, this]
    unfold wr
    grind
theorem mem_over (l w : List CellR) (hl : Wr l) (hw : Wr w) : ∀ d, d ∈ overS l w ↔ d ∈ w ∨ (d ∈ l ∧ ∀ c ∈ w, ord d c ≠ 0) := by
  induction l, w using overS.induct with
  | case1 w => intro d; simp [overS]
  | case2 x l => intro d; simp [overS]
  | case3 x l c w h ih =>
    intro d
    have := ih hl.2.2 hw d
    have hx : ∀ e ∈ c :: w, ord x e ≠ 0 := fun e he => by
      rcases List.mem_cons.1 he with rfl | he
      · exact (ne_of_lt h).1
      · exact (ne_of_lt (lt_trans' h (hw.2.1 e he))).1
    rw [overS, if_pos h, List.mem_cons, this]
    grind
  | case4 x l c w h h2 ih =>
    intro d
    have := ih hl.2.2 hw d
    have hx : ∀ e ∈ l, ord e c ≠ 0 := fun e he => (ne_of_lt (lt_of_eq h2 (hl.2.1 e he))).2.1
    rw [overS, if_neg h, if_pos h2, this]
    grind
  | case5 x l c w h h2 ih =>
    intro d
    have := ih hl hw.2.2 d
    have hcx : ord c x < 0 := lt_of_gt (by omega)
    have hx : ∀ e ∈ x :: l, ord e c ≠ 0 := fun e he => by
      rcases List.mem_cons.1 he with rfl | he
      · exact (ne_of_lt hcx).2.1
      · exact (ne_of_lt (lt_trans' hcx (hl.2.1 e he))).2.1
    rw [overS, if_neg h, if_neg h2, List.mem_cons, this]
    grind
theorem Wr_mem : ∀ {l : List CellR} {c : CellR}, Wr l → c ∈ l → okC c
  | _ :: _, _, h, hc => by
    rcases List.mem_cons.1 hc with rfl | hc
    · exact h.1
    · exact Wr_mem h.2.2 hc
theorem Wr_cons {c : CellR} {l : List CellR} (h1 : okC c) (h2 : ∀ d ∈ l, ord c d < 0) (h3 : Wr l) : Wr (c :: l) := ⟨h1, h2, h3⟩
theorem Wr_put (l w : List CellR) (hl : Wr l) (hw : Wr w) : Wr (putG l w) := by
  induction l, w using putG.induct with
  | case1 l => simpa [putG] using hl
  | case2 c w ih =>
    have hm := mem_putG [] w hl hw.2.2
    rw [putG]; unfold wr
    split
    · exact ih hl hw.2.2
    · refine Wr_cons hw.1 (fun d hd => ?_) (ih hl hw.2.2)
      rcases (hm d).1 hd with h | h
      · exact hw.2.1 d h.1
      · simp at h
  | case3 x l c w h ih =>
    have hm := mem_putG l (c :: w) hl.2.2 hw
    rw [putG, if_pos h]
    refine Wr_cons hl.1 (fun d hd => ?_) (ih hl.2.2 hw)
    rcases (hm d).1 hd with h' | h'
    · rcases List.mem_cons.1 h'.1 with rfl | h''
      · exact h
      · exact lt_trans' h (hw.2.1 d h'')
    · exact hl.2.1 d h'.1
  | case4 x l c w h h2 ih =>
    have hm := mem_putG l w hl.2.2 hw.2.2
    rw [putG, if_neg h, if_pos h2]; unfold wr
    split
    · exact ih hl.2.2 hw.2.2
    · refine Wr_cons hw.1 (fun d hd => ?_) (ih hl.2.2 hw.2.2)
      rcases (hm d).1 hd with h' | h'
      · exact hw.2.1 d h'.1
      · exact lt_of_eq h2 (hl.2.1 d h'.1)
  | case5 x l c w h h2 ih =>
    have hm := mem_putG (x :: l) w hl hw.2.2
    have hcx : ord c x < 0 := lt_of_gt (by omega)
    rw [putG, if_neg h, if_neg h2]; unfold wr
    split
    · exact ih hl hw.2.2
    · refine Wr_cons hw.1 (fun d hd => ?_) (ih hl hw.2.2)
      rcases (hm d).1 hd with h' | h'
      · exact hw.2.1 d h'.1
      · rcases List.mem_cons.1 h'.1 with rfl | h''
        · exact hcx
        · exact lt_trans' hcx (hl.2.1 d h'')
theorem Wr_over (l w : List CellR) (hl : Wr l) (hw : Wr w) : Wr (overS l w) := by
  induction l, w using overS.induct with
  | case1 w => simpa [overS] using hw
  | case2 x l => simpa [overS] using hl
  | case3 x l c w h ih =>
    have hm := mem_over l (c :: w) hl.2.2 hw
    rw [overS, if_pos h]
    refine Wr_cons hl.1 (fun d hd => ?_) (ih hl.2.2 hw)
    rcases (hm d).1 hd with h' | h'
    · rcases List.mem_cons.1 h' with rfl | h''
      · exact h
      · exact lt_trans' h (hw.2.1 d h'')
    · exact hl.2.1 d h'.1
  | case4 x l c w h h2 ih =>
    rw [overS, if_neg h, if_pos h2]
    exact ih hl.2.2 hw
  | case5 x l c w h h2 ih =>
    have hm := mem_over (x :: l) w hl hw.2.2
    have hcx : ord c x < 0 := lt_of_gt (by omega)
    rw [overS, if_neg h, if_neg h2]
    refine Wr_cons hw.1 (fun d hd => ?_) (ih hl hw.2.2)
    rcases (hm d).1 hd with h' | h'
    · exact hw.2.1 d h'
    · rcases List.mem_cons.1 h'.1 with rfl | h''
      · exact hcx
      · exact lt_trans' hcx (hl.2.1 d h'')
theorem Wr_filter (p : CellR → Bool) : ∀ l : List CellR, Wr l → Wr (l.filter p)
  | [], _ => trivial
  | c :: l, h => by
    rw [List.filter_cons]
    split
    · exact Wr_cons h.1 (fun d hd => h.2.1 d (List.mem_filter.1 hd).1) (Wr_filter p l h.2.2)
    · exact Wr_filter p l h.2.2
theorem put_eq (l w : List CellR) : putS l w = putR l w := by
  unfold putS putR
  split
  · rename_i h
    rw [Bool.and_eq_true, valid_iff, writes_iff] at h
    obtain ⟨⟨h1, h2⟩, h3⟩ := h
    refine sorted_ext _ _ (Wr_put l w h1 h3) (Wr_filter _ _ (Wr_over l w h1 h3)) fun d => ?_
    unfold solidS
    rw [mem_putG l w h1 h3, List.mem_filter, mem_over l w h1 h3]
    have := h2 d
    simp only [bne_iff_ne, ne_eq]
    grind
  · rfl
theorem getS_none : ∀ (l : List CellR) (i f : Int), (∀ c ∈ l, ¬ (c.id = i ∧ c.field = f)) → getS l i f = default
  | [], _, _, _ => rfl
  | c :: l, i, f, h => by
    rw [getS, if_neg (h c (by simp))]
    exact getS_none l i f fun d hd => h d (by simp [hd])
theorem getS_mem : ∀ {l : List CellR} {c : CellR}, Wr l → c ∈ l → getS l c.id c.field = c.v
  | x :: l, c, h, hc => by
    rw [getS]
    rcases List.mem_cons.1 hc with rfl | hc
    · rw [if_pos ⟨rfl, rfl⟩]
    · have := h.2.1 c hc
      rw [if_neg (fun h' => (ne_of_lt this).1 ((ord_eq _ _).2 h'))]
      exact getS_mem h.2.2 hc
theorem getS_lt {l : List CellR} {c : CellR} (h : ∀ d ∈ l, ord c d < 0) : getS l c.id c.field = default :=
  getS_none _ _ _ fun d hd h' => (ne_of_lt (h d hd)).2.1 ((ord_eq _ _).2 h')
theorem getS_skip {x c : CellR} {l : List CellR} (h : ord x c ≠ 0) : getS (x :: l) c.id c.field = getS l c.id c.field := by
  rw [getS, if_neg (fun h' => h ((ord_eq _ _).2 h'))]
theorem flat_congr {α β : Type} (f g : α → List β) : ∀ l : List α, (∀ c ∈ l, f c = g c) → l.flatMap f = l.flatMap g
  | [], _ => rfl
  | c :: l, h => by
    rw [List.flatMap_cons, List.flatMap_cons, h c (by simp), flat_congr f g l fun d hd => h d (by simp [hd])]
theorem dOne_skipA {x c : CellR} {a b : List CellR} (h : ord x c ≠ 0) : dOne (x :: a) b c = dOne a b c := by
  unfold dOne; rw [getS_skip h]
theorem dOne_skipB {x c : CellR} {a b : List CellR} (h : ord x c ≠ 0) : dOne a (x :: b) c = dOne a b c := by
  unfold dOne; rw [getS_skip h]
theorem over_gt {c : CellR} {l w : List CellR} (h : ∀ d ∈ l, ord c d < 0) : overS l (c :: w) = c :: overS l w := by
  cases l with
  | nil => simp [overS]
  | cons x l =>
    have := ne_of_lt (h x (by simp))
    rw [overS, if_neg this.2.2, if_neg this.2.1]
theorem diff_eq' (a b : List CellR) (ha : Wr a) (hb : Wr b) (za : ∀ c ∈ a, c.v ≠ default) (zb : ∀ c ∈ b, c.v ≠ default) : diffG a b = (overS a b).flatMap (dOne a b) := by
  induction a, b using diffG.induct with
  | case1 b =>
    rw [diffG, overS]
    clear ha za
    induction b with
    | nil => rfl
    | cons c b ih =>
      rw [List.flatMap_cons, flat_congr _ (dOne [] b) b (fun d hd => dOne_skipB (ne_of_lt (hb.2.1 d hd)).1), ← ih hb.2.2 (fun d hd => zb d (by simp [hd]))]
      have h1 : getS (c :: b) c.id c.field = c.v := getS_mem hb (by simp)
      unfold dOne
      rw [h1, if_neg (show ¬ c.v = getS [] c.id c.field from zb c (by simp))]; rfl
  | case2 x l ih =>
    have := ih ha.2.2 hb (fun d hd => za d (by simp [hd])) zb
    have e : overS l [] = l := by cases l <;> simp [overS]
    rw [diffG, overS, List.flatMap_cons, flat_congr _ (dOne l []) l (fun d hd => dOne_skipA (ne_of_lt (ha.2.1 d hd)).1), this, e]
    have h1 : getS (x :: l) x.id x.field = x.v := getS_mem ha (by simp)
    unfold dOne
    rw [h1, if_neg (show ¬ getS [] x.id x.field = x.v from fun h => za x (by simp) h.symm)]; rfl
  | case3 x l c w h ih =>
    have hx : ∀ e ∈ c :: w, ord x e < 0 := fun e he => by
      rcases List.mem_cons.1 he with rfl | he
      · exact h
      · exact lt_trans' h (hb.2.1 e he)
    have hm := mem_over l (c :: w) ha.2.2 hb
    rw [diffG, if_pos h, overS, if_pos h, List.flatMap_cons, flat_congr _ (dOne l (c :: w)) _ (fun d hd => dOne_skipA ?_), ← ih ha.2.2 hb (fun d hd => za d (by simp [hd])) zb]
    · have h1 : getS (x :: l) x.id x.field = x.v := getS_mem ha (by simp)
      have h2 : getS (c :: w) x.id x.field = default := getS_lt hx
      unfold dOne
      rw [h1, h2, if_neg (fun h => za x (by simp) h.symm)]; rfl
    · rcases (hm d).1 hd with h' | h'
      · exact (ne_of_lt (hx d h')).1
      · exact (ne_of_lt (ha.2.1 d h'.1)).1
  | case4 x l c w h h2 ih =>
    have hcx : ord c x < 0 := lt_of_gt h2
    have hx : ∀ e ∈ x :: l, ord c e < 0 := fun e he => by
      rcases List.mem_cons.1 he with rfl | he
      · exact hcx
      · exact lt_trans' hcx (ha.2.1 e he)
    have hm := mem_over (x :: l) w ha hb.2.2
    rw [diffG, if_neg h, if_pos h2, over_gt hx, List.flatMap_cons, flat_congr _ (dOne (x :: l) w) _ (fun d hd => dOne_skipB ?_), ← ih ha hb.2.2 za (fun d hd => zb d (by simp [hd]))]
    · have h1 : getS (c :: w) c.id c.field = c.v := getS_mem hb (by simp)
      have h2 : getS (x :: l) c.id c.field = default := getS_lt hx
      unfold dOne
      rw [h1, h2, if_neg (zb c (by simp))]; rfl
    · rcases (hm d).1 hd with h' | h'
      · exact (ne_of_lt (hb.2.1 d h')).1
      · exact (ne_of_lt (hx d h'.1)).1
  | case5 x l c w h h2 ih =>
    have h0 : ord x c = 0 := by omega
    have hx : ∀ e ∈ l, ord c e < 0 := fun e he => lt_of_eq h0 (ha.2.1 e he)
    have hm := mem_over l w ha.2.2 hb.2.2
    rw [diffG, if_neg h, if_neg h2, overS, if_neg h, if_pos h0, over_gt hx, List.flatMap_cons, flat_congr _ (dOne l w) _ (fun d hd => ?_), ← ih ha.2.2 hb.2.2 (fun d hd => za d (by simp [hd])) (fun d hd => zb d (by simp [hd]))]
    · have h1 : getS (c :: w) c.id c.field = c.v := getS_mem hb (by simp)
      have h2 : getS (x :: l) c.id c.field = x.v := by
        have := getS_mem ha (show x ∈ x :: l by simp)
        rw [(ord_eq _ _).1 h0 |>.1, (ord_eq _ _).1 h0 |>.2] at this; exact this
      unfold dOne
      rw [h1, h2]
      by_cases h3 : x.v = c.v
      · rw [if_pos h3, if_pos h3.symm]
      · rw [if_neg h3, if_neg (fun h => h3 h.symm)]
    · have hd' : ord c d < 0 := by
        rcases (hm d).1 hd with h' | h'
        · exact hb.2.1 d h'
        · exact hx d h'.1
      have hxd : ord x d < 0 := by simp only [ord_lt, ord_eq] at *; omega
      rw [dOne_skipA (ne_of_lt hxd).1, dOne_skipB (ne_of_lt hd').1]
theorem diff_eq (a b : List CellR) : diffS a b = diffR a b := by
  unfold diffS diffR
  split
  · rename_i h
    rw [Bool.and_eq_true, valid_iff, valid_iff] at h
    exact diff_eq' a b h.1.1 h.2.1 h.1.2 h.2.2
  · rfl
theorem wr_len (c : CellR) : (wr c).length ≤ 1 := by unfold wr; split <;> simp
theorem put_len : ∀ a b : List CellR, (putG a b).length ≤ a.length + b.length := by
  intro a b
  induction a, b using putG.induct with
  | case1 l => simp [putG]
  | case2 c w ih => have := wr_len c; rw [putG, List.length_append]; simp at ih ⊢; omega
  | case3 x l c w h ih => rw [putG, if_pos h]; simp at ih ⊢; omega
  | case4 x l c w h h2 ih => have := wr_len c; rw [putG, if_neg h, if_pos h2, List.length_append]; simp at ih ⊢; omega
  | case5 x l c w h h2 ih => have := wr_len c; rw [putG, if_neg h, if_neg h2, List.length_append]; simp at ih ⊢; omega
theorem diff_len : ∀ a b : List CellR, (diffG a b).length ≤ a.length + b.length := by
  intro a b
  induction a, b using diffG.induct with
  | case1 w => simp [diffG]
  | case2 x l ih => rw [diffG]; simp at ih ⊢; omega
  | case3 x l c w h ih => rw [diffG, if_pos h]; simp at ih ⊢; omega
  | case4 x l c w h h2 ih => rw [diffG, if_neg h, if_pos h2]; simp at ih ⊢; omega
  | case5 x l c w h h2 ih =>
    rw [diffG, if_neg h, if_neg h2, List.length_append]
    have : (if x.v = c.v then [] else [c]).length ≤ 1 := by split <;> simp
    simp at ih ⊢; omega
theorem l4 (a b : List CellR) : callE Try.prog NoPhi 4 [.sl 6 (a.map CellR.row), .sl 6 (b.map CellR.row)] = some (.bool true) := by
  refine call_flat Try.f4 Try.func4 (by kernel_rfl) rfl ⟨_, e4 a b, ?_⟩
  have p1 := put_eq a b
  have p2 := diff_eq a b
  have p3 := diff_eq b a
  have q1 : (putS a b).length ≤ a.length + b.length := by unfold putS; split; exact put_len a b; simp
  have q2 : (diffS a b).length ≤ a.length + b.length := by unfold diffS; split; exact diff_len a b; simp
  have q3 : (diffS b a).length ≤ b.length + a.length := by unfold diffS; split; exact diff_len b a; simp
  rw [p1] at q1; rw [p2] at q2; rw [p3] at q3
  simp only [TW, LcQ, p1, p2, p3]
  simp +contextual (disch := omega) [c9, c10, c15, c16, c17, c18, c19, p1, p2, p3]
end Go.Proofs.Ytgjkdmjgefmcmaa
