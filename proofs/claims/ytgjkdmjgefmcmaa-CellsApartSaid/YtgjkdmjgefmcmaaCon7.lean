/- A part of the proof: Con7. -/
import Derived.Test.YtgjkdmjgefmcmaaCon6
set_option linter.unusedVariables false
set_option linter.unusedSimpArgs false
set_option linter.unnecessarySimpa false
set_option linter.unusedSectionVars false
namespace Go.Proofs.Ytgjkdmjgefmcmaa
open Go Go.Vm Go.Proofs
theorem Wr_inj : ∀ {l : List CellR} {c d : CellR}, Wr l → c ∈ l → d ∈ l → ord c d = 0 → c = d
  | x :: l, c, d, h, hc, hd, he => by
    rcases List.mem_cons.1 hc with hc1 | hc1 <;> rcases List.mem_cons.1 hd with hd1 | hd1
    · rw [hc1, hd1]
    · exact absurd he (by rw [hc1]; exact (ne_of_lt (h.2.1 d hd1)).1)
    · exact absurd he (by rw [hd1]; exact (ne_of_lt (h.2.1 c hc1)).2.1)
    · exact Wr_inj h.2.2 hc1 hd1 he
theorem mem_dOne {a b : List CellR} {e d : CellR} (h : d ∈ dOne a b e) : d = ⟨e.id, e.field, getS b e.id e.field⟩ ∧ getS b e.id e.field ≠ getS a e.id e.field := by
  unfold dOne at h
  split at h
  · simp at h
  · rename_i hne; simp at h; exact ⟨h, hne⟩
theorem Wr_flat (a b : List CellR) : ∀ L : List CellR, Wr L → Wr (L.flatMap (dOne a b))
  | [], _ => trivial
  | e :: L, h => by
    have ih := Wr_flat a b L h.2.2
    rw [List.flatMap_cons]
    unfold dOne
    split
    · exact ih
    · refine Wr_cons h.1 (fun d hd => ?_) ih
      obtain ⟨e', he', hd⟩ := List.mem_flatMap.1 hd
      have := h.2.1 e' he'
      rw [(mem_dOne hd).1]
      simp only [ord_lt] at *; omega
theorem putG_lt {x : CellR} {a D : List CellR} (h : ∀ d ∈ D, ord x d < 0) : putG (x :: a) D = x :: putG a D := by
  cases D with
  | nil => simp [putG]
  | cons d D => rw [putG, if_pos (h d (by simp))]
theorem putG_nil : ∀ w : List CellR, (∀ c ∈ w, c.v ≠ default) → putG [] w = w
  | [], _ => by simp [putG]
  | c :: w, h => by rw [putG, wr, if_neg (h c (by simp)), putG_nil w fun d hd => h d (by simp [hd])]; rfl
theorem put_diff (a b : List CellR) (ha : Wr a) (hb : Wr b) (za : ∀ c ∈ a, c.v ≠ default) (zb : ∀ c ∈ b, c.v ≠ default) : putG a (diffG a b) = b := by
  induction a, b using diffG.induct with
  | case1 b => rw [diffG, putG_nil b zb]
  | case2 x l ih =>
    have := ih ha.2.2 hb (fun d hd => za d (by simp [hd])) zb
    have h0 : ord x ⟨x.id, x.field, default⟩ = 0 := (ord_eq _ _).2 ⟨rfl, rfl⟩
    rw [diffG, putG, if_neg (by omega), if_pos h0, this, wr, if_pos rfl]; rfl
  | case3 x l c w h ih =>
    have := ih ha.2.2 hb (fun d hd => za d (by simp [hd])) zb
    have h0 : ord x ⟨x.id, x.field, default⟩ = 0 := (ord_eq _ _).2 ⟨rfl, rfl⟩
    rw [diffG, if_pos h, putG, if_neg (by omega), if_pos h0, this, wr, if_pos rfl]; rfl
  | case4 x l c w h h2 ih =>
    have := ih ha hb.2.2 za (fun d hd => zb d (by simp [hd]))
    rw [diffG, if_neg h, if_pos h2, putG, if_neg h, if_neg (by omega), this, wr, if_neg (zb c (by simp))]; rfl
  | case5 x l c w h h2 ih =>
    have := ih ha.2.2 hb.2.2 (fun d hd => za d (by simp [hd])) (fun d hd => zb d (by simp [hd]))
    have h0 : ord x c = 0 := by omega
    rw [diffG, if_neg h, if_neg h2]
    by_cases hv : x.v = c.v
    · rw [if_pos hv, List.nil_append, putG_lt, this]
      · obtain ⟨h3, h4⟩ := (ord_eq _ _).1 h0
        rcases x with ⟨_, _, _⟩; rcases c with ⟨_, _, _⟩
        simp only at hv h3 h4
        subst hv h3 h4; rfl
      · intro d hd
        rw [diff_eq' l w ha.2.2 hb.2.2 (fun d hd => za d (by simp [hd])) (fun d hd => zb d (by simp [hd]))] at hd
        obtain ⟨e, he, hd⟩ := List.mem_flatMap.1 hd
        rw [(mem_dOne hd).1]
        have : ord x e < 0 := by
          rcases (mem_over l w ha.2.2 hb.2.2 e).1 he with h' | h'
          · have := hb.2.1 e h'; simp only [ord_lt, ord_eq] at *; omega
          · exact ha.2.1 e h'.1
        simp only [ord_lt] at *; omega
    · rw [if_neg hv, List.cons_append, List.nil_append, putG, if_neg h, if_pos h0, this, wr, if_neg (zb c (by simp))]; rfl
theorem back (a b : List CellR) (ha : validS a = true) (hb : validS b = true) : writesS (diffS a b) = true ∧ putS a (diffS a b) = b ∧ ∀ c ∈ diffS a b, getS a c.id c.field ≠ c.v := by
  have ha' := ha; have hb' := hb
  rw [valid_iff] at ha' hb'
  have e : diffS a b = diffG a b := by unfold diffS; rw [ha, hb]; rfl
  have e2 := diff_eq' a b ha'.1 hb'.1 ha'.2 hb'.2
  have hw : writesS (diffS a b) = true := by
    rw [e, writes_iff, e2]; exact Wr_flat _ _ _ (Wr_over a b ha'.1 hb'.1)
  refine ⟨hw, ?_, ?_⟩
  · unfold putS; rw [ha, hw]
    rw [e]; exact put_diff a b ha'.1 hb'.1 ha'.2 hb'.2
  · intro c hc
    rw [e, e2] at hc
    obtain ⟨x, hx, hc⟩ := List.mem_flatMap.1 hc
    obtain ⟨rfl, hne⟩ := mem_dOne hc
    exact fun h => hne h.symm
theorem getD_mem {l : List CellR} {i : Nat} (h : i < l.length) : l.getD i default ∈ l := by
  simp [List.getD, h]
theorem l5 (a b : List CellR) : callE Try.prog NoPhi 5 [.sl 6 (a.map CellR.row), .sl 6 (b.map CellR.row)] = some (.bool true) := by
  have q1 : (diffS a b).length ≤ a.length + b.length := by unfold diffS; split; exact diff_len a b; simp
  refine call_loop (ι := Nat × Stamp) Try.f5 hd5 61 Try.func5 (by kernel_rfl) rfl p5 rfl (fun x => w5 a b x.1 x.2 (diffS a b)) (fun x => x.1 ≤ (diffS a b).length ∧ a.length ≤ 200 ∧ b.length ≤ 200 ∧ validS a = true ∧ validS b = true) (fun x => (diffS a b).length - x.1) ⟨_, e5 a b, ?_⟩ (fun x n ⟨hi, hla, hlb, ha, hb⟩ g => ⟨_, r5 a b x.1 x.2 (diffS a b) g n, ?_⟩)
  · simp +contextual (disch := omega) [TW, LcQ, p5, w5, c9, c10, c11, c18]
    grind
  · obtain ⟨i, ⟨γ1, γ2⟩⟩ := x
    simp only at hi ⊢
    obtain ⟨h1, h2, h3⟩ := back a b ha hb
    have h4 : i < (diffS a b).length → ¬ getS a ((diffS a b).getD i default).id ((diffS a b).getD i default).field = ((diffS a b).getD i default).v := fun h => h3 _ (getD_mem h)
    generalize hw : diffS a b = w at *
    simp only [TW, LcQ, v_eq]
    simp +contextual (disch := omega) [p5, w5, c9, c10, c13, c15, c16, c20, at_getD, -List.getD_eq_getElem?_getD, h1, h2, h4, hla, hlb, ha, hb]
    omega
def mt (c : CellR) (id field : Int) : Bool := c.id == id && c.field == field
def wantTo (l w : List CellR) (id field : Int) : Nat → Val
  | 0 => getS l id field
  | i + 1 => if (w.getD i default).id = id ∧ (w.getD i default).field = field then (w.getD i default).v else wantTo l w id field i
theorem want_none (l w : List CellR) (id field : Int) : ∀ i, i ≤ w.length → (∀ c ∈ w, ¬ (c.id = id ∧ c.field = field)) → wantTo l w id field i = getS l id field
  | 0, _, _ => rfl
  | i + 1, hi, h => by
    rw [wantTo, if_neg (h _ (getD_mem (by omega)))]
    exact want_none l w id field i (by omega) h
theorem want_some (l w : List CellR) (hw : Wr w) (c : CellR) (hc : c ∈ w) : ∀ i, i ≤ w.length → ∀ j, j < i → w.getD j default = c → wantTo l w c.id c.field i = c.v
  | i + 1, hi, j, hj, h => by
    rw [wantTo]
    split
    · rename_i h'
      rw [Wr_inj hw (getD_mem (show i < w.length by omega)) hc ((ord_eq _ _).2 h')]
    · rename_i h'
      have : j ≠ i := fun e => by subst e; rw [h] at h'; exact h' ⟨rfl, rfl⟩
      exact want_some l w hw c hc i (by omega) j (by omega) h
theorem getS_put_mem (l w : List CellR) (hl : Wr l) (hw : Wr w) {c : CellR} (hc : c ∈ w) : getS (putG l w) c.id c.field = c.v := by
  by_cases hv : c.v = default
  · rw [hv]
    refine getS_none _ _ _ fun d hd hm => ?_
    have hm := (ord_eq d c).2 hm
    rcases (mem_putG l w hl hw d).1 hd with h | h
    · exact h.2 (by rw [Wr_inj hw h.1 hc hm]; exact hv)
    · exact h.2 c hc hm
  · exact getS_mem (Wr_put l w hl hw) ((mem_putG l w hl hw c).2 (.inl ⟨hc, hv⟩))
theorem getS_put_not (l w : List CellR) (hl : Wr l) (hw : Wr w) (id field : Int) (h : ∀ c ∈ w, ¬ (c.id = id ∧ c.field = field)) : getS (putG l w) id field = getS l id field := by
  by_cases hd : ∃ d ∈ l, d.id = id ∧ d.field = field
  · obtain ⟨d, hd, rfl, rfl⟩ := hd
    rw [getS_mem hl hd]
    exact getS_mem (Wr_put l w hl hw) ((mem_putG l w hl hw d).2 (.inr ⟨hd, fun c hc e => h c hc (by have := (ord_eq d c).1 e; exact ⟨this.1.symm, this.2.symm⟩)⟩))
  · rw [getS_none l id field (fun c hc h' => hd ⟨c, hc, h'⟩)]
    refine getS_none _ _ _ fun d hd' hm => ?_
    rcases (mem_putG l w hl hw d).1 hd' with h' | h'
    · exact h d h'.1 hm
    · exact hd ⟨d, h'.1, hm⟩
theorem valid_put (l w : List CellR) (hl : validS l = true) (hw : writesS w = true) : validS (putS l w) = true := by
  unfold putS; rw [hl, hw]
  rw [valid_iff] at hl ⊢
  rw [writes_iff] at hw
  refine ⟨Wr_put l w hl.1 hw, fun c hc => ?_⟩
  rcases (mem_putG l w hl.1 hw c).1 hc with h | h
  · exact h.2
  · exact hl.2 c h.1
theorem registers (l w : List CellR) (hl : validS l = true) (hw : writesS w = true) (id field : Int) : (∀ c ∈ w, getS (putS l w) c.id c.field = c.v) ∧ getS (putS l w) id field = wantTo l w id field w.length := by
  have e : putS l w = putG l w := by unfold putS; rw [hl, hw]; rfl
  rw [e]
  rw [valid_iff] at hl
  rw [writes_iff] at hw
  refine ⟨fun c hc => getS_put_mem l w hl.1 hw hc, ?_⟩
  by_cases h : ∃ c ∈ w, c.id = id ∧ c.field = field
  · obtain ⟨c, hc, rfl, rfl⟩ := h
    obtain ⟨j, hj, e⟩ := List.mem_iff_getElem.1 hc
    rw [getS_put_mem l w hl.1 hw hc, want_some l w hw c hc w.length (by omega) j hj (by simp [List.getD, hj, e])]
  · have h' : ∀ c ∈ w, ¬ (c.id = id ∧ c.field = field) := fun c hc h' => h ⟨c, hc, h'⟩
    rw [getS_put_not l w hl.1 hw id field h', want_none l w id field _ (by omega) h']
theorem l6 (l w : List CellR) (id field : Int) : callE Try.prog NoPhi 6 [.sl 6 (l.map CellR.row), .sl 6 (w.map CellR.row), .int .i64 id, .int .i64 field] = some (.bool true) := by
  have q1 : (putS l w).length ≤ l.length + w.length := by unfold putS; split; exact put_len l w; simp
  refine call_loop (ι := Nat × Stamp × Stamp) Try.f6 hd6 92 Try.func6 (by kernel_rfl) rfl p6 rfl (fun x => w6 l w id field x.1 x.2.1 x.2.2 (putS l w) (wantTo l w id field x.1)) (fun x => x.1 ≤ w.length ∧ l.length ≤ 200 ∧ w.length ≤ 200 ∧ validS l = true ∧ writesS w = true) (fun x => w.length - x.1) ⟨_, e6 l w id field, ?_⟩ (fun x n ⟨hi, hll, hlw, hl, hw⟩ g => ⟨_, r6 l w id field x.1 x.2.1 x.2.2 (putS l w) (wantTo l w id field x.1) g n, ?_⟩)
  · simp +contextual (disch := omega) [TW, LcQ, p6, w6, c9, c10, c11, c13, c16, c20]
    exact ⟨fun _ _ _ _ => ⟨0, ⟨rfl, rfl⟩, by omega⟩, by grind⟩
  · obtain ⟨i, ⟨γ1, γ2⟩, ⟨δ1, δ2⟩⟩ := x
    simp only at hi ⊢
    obtain ⟨h1, h2⟩ := registers l w hl hw id field
    have h3 := valid_put l w hl hw
    have h4 : i < w.length → getS (putS l w) (w.getD i default).id (w.getD i default).field = (w.getD i default).v := fun h => h1 _ (getD_mem h)
    have h5 : (w.getD i default).id = id → (w.getD i default).field = field → wantTo l w id field (i + 1) = (w.getD i default).v := fun h h' => by rw [wantTo, if_pos ⟨h, h'⟩]
    have h6 : ¬ ((w.getD i default).id = id ∧ (w.getD i default).field = field) → wantTo l w id field (i + 1) = wantTo l w id field i := fun h => by rw [wantTo, if_neg h]
    have hle : w.length ≤ i → wantTo l w id field i = getS (putS l w) id field := fun h => by rw [h2, show i = w.length by omega]
    generalize hx : putS l w = x at *
    simp only [TW, LcQ, v_eq]
    simp +contextual (disch := omega) [p6, w6, c9, c10, c11, c20, at_getD, vrow_inj, -List.getD_eq_getElem?_getD, h3, h4, hll, hlw, hl, hw, hle]
    grind
end Go.Proofs.Ytgjkdmjgefmcmaa
