/- A part of the proof: SCon12. -/
import Derived.Test.YtgfpbhbogfabmaaSCon11
import Derived.Test.YtgfpbhbogfabmaaSTrees5
import Derived.Test.YtgfpbhbogfabmaaSCon2
import Derived.Test.YtgfpbhbogfabmaaVm34
set_option linter.unusedVariables false
set_option linter.unusedSimpArgs false
set_option linter.unnecessarySimpa false
set_option linter.unusedSectionVars false
namespace Go.Proofs.Ytgfpbhbogfabmaa
open Go Go.Vm Go.Proofs
def cellOf (s : SlotR) : CellR := ⟨s.id, s.field, (s.alts.getD 0 default).v⟩
def dOf (c : List CellR) (y : List SlotR) : List CellR := (y.filter fun s => !(wrK c.reverse s.id s.field).isSome).map cellOf
theorem cell_asc {x : List SlotR} (h : x.Pairwise ltS) : (x.map cellOf).Pairwise ltC := by
  rw [List.pairwise_map]; exact h
theorem d_asc {c : List CellR} {y : List SlotR} (h : y.Pairwise ltS) : (dOf c y).Pairwise ltC := cell_asc (h.sublist List.filter_sublist)
theorem d_len (c : List CellR) (y : List SlotR) : (dOf c y).length ≤ y.length := by
  unfold dOf; rw [List.length_map]; exact List.length_filter_le _ _
theorem wr_none_iff {w : List CellR} {id field : Int} : wrK w id field = none ↔ ∀ s ∈ w, ¬ (s.id = id ∧ s.field = field) := by
  constructor
  · intro h s hs hk
    unfold wrK at h
    rw [Option.map_eq_none_iff, List.find?_eq_none] at h
    exact h s hs (by simpa using hk)
  · exact wrK_none
theorem d_apart (c : List CellR) (y : List SlotR) (id field : Int) : wrK c id field = none ∨ wrK (dOf c y) id field = none := by
  by_cases h : wrK c id field = none
  · exact .inl h
  · right
    rw [wr_none_iff]
    rintro s hs ⟨rfl, rfl⟩
    unfold dOf at hs
    rw [List.mem_map] at hs
    obtain ⟨t, ht, rfl⟩ := hs
    rw [List.mem_filter] at ht
    have h2 : wrK c.reverse t.id t.field = none := by simpa using ht.2
    rw [wr_none_iff] at h2
    exact h (wr_none_iff.2 fun s hs => h2 s (by simpa using hs))
theorem d_step {c : List CellR} {y : List SlotR} {i : Nat} (h : i < y.length) : dOf c (y.take (i + 1)) = dOf c (y.take i) ++ (if (wrK c.reverse (y.getD i default).id (y.getD i default).field).isSome = true then [] else [cellOf (y.getD i default)]) := by
  unfold dOf
  rw [List.take_succ_eq_append_getElem h, List.filter_append, List.map_append, at_getD y i h]
  congr 1
  rw [List.filter_cons]
  split <;> split <;> simp_all
abbrev N1 : Int := 7340033
abbrev N2 : Int := 8388609
def cmN (n : Int) (c : List CellR) : TV := .agg [.int .i64 n, .sl 1 [], .sl 1 [], .str ⟨#[]⟩, .sl 6 (c.map CellR.row)]
theorem cAp (n : Int) (l : List SlotR) (c : List CellR) (hl : l.length ≤ 1000) (ha : ∀ s ∈ l, s.alts.length ≤ 1000) (hc : c.Pairwise ltC) (hn : c.length ≤ 1000) :
    callE Try.prog NoPhi 13 [.agg [.sl 3 (l.map SlotR.row)], .agg [.int .i64 n, .sl 1 [], .sl 1 [], .str ⟨#[]⟩, .sl 6 (c.map CellR.row)]] = some (.agg [.sl 3 ((applyS n l c).map SlotR.row)]) := by
  have := c13 l n [] [] ⟨#[]⟩ c (by omega) (fun s hs => by have := ha s hs; omega) (by rw [last_asc c hc]; omega) (c37 c hc (by omega))
  rwa [last_asc c hc] at this
theorem ap_alts (n : Int) (l : List SlotR) (c : List CellR) (k : Nat) (hk : 1 ≤ k) (ha : ∀ s ∈ l, s.alts.length ≤ k) : ∀ s ∈ applyS n l c, s.alts.length ≤ k := by
  intro s hs
  rcases apply_mem n l c s hs with h | ⟨d, _, rfl⟩
  · exact ha s h
  · simp [oneS]; omega
/-- What the end of the law asks. -/
structure Tail (s : List SlotR) (c d : List CellR) : Prop where
  a1 : callE Try.prog NoPhi 13 [.agg [.sl 3 (s.map SlotR.row)], .agg [.int .i64 7340033, .sl 1 [], .sl 1 [], .str ⟨#[]⟩, .sl 6 (c.map CellR.row)]] = some (.agg [.sl 3 ((applyS 7340033 s c).map SlotR.row)])
  a2 : callE Try.prog NoPhi 13 [.agg [.sl 3 ((applyS 7340033 s c).map SlotR.row)], .agg [.int .i64 8388609, .sl 1 [], .sl 1 [], .str ⟨#[]⟩, .sl 6 (d.map CellR.row)]] = some (.agg [.sl 3 ((applyS 8388609 (applyS 7340033 s c) d).map SlotR.row)])
  a3 : callE Try.prog NoPhi 13 [.agg [.sl 3 (s.map SlotR.row)], .agg [.int .i64 8388609, .sl 1 [], .sl 1 [], .str ⟨#[]⟩, .sl 6 (d.map CellR.row)]] = some (.agg [.sl 3 ((applyS 8388609 s d).map SlotR.row)])
  a4 : callE Try.prog NoPhi 13 [.agg [.sl 3 ((applyS 8388609 s d).map SlotR.row)], .agg [.int .i64 7340033, .sl 1 [], .sl 1 [], .str ⟨#[]⟩, .sl 6 (c.map CellR.row)]] = some (.agg [.sl 3 ((applyS 7340033 (applyS 8388609 s d) c).map SlotR.row)])
  a5 : callE Try.prog NoPhi 13 [.agg [.sl 3 ((applyS 7340033 s c).map SlotR.row)], .agg [.int .i64 7340033, .sl 1 [], .sl 1 [], .str ⟨#[]⟩, .sl 6 (c.map CellR.row)]] = some (.agg [.sl 3 ((applyS 7340033 (applyS 7340033 s c) c).map SlotR.row)])
  e1 : applyS 8388609 (applyS 7340033 s c) d = applyS 7340033 (applyS 8388609 s d) c
  e2 : applyS 7340033 (applyS 7340033 s c) c = applyS 7340033 s c
  b1 : callE Try.prog NoPhi 16 [.agg [.sl 3 ((applyS 8388609 (applyS 7340033 s c) d).map SlotR.row)], .agg [.sl 3 ((applyS 7340033 (applyS 8388609 s d) c).map SlotR.row)]] = some (.bool (decide (applyS 8388609 (applyS 7340033 s c) d = applyS 7340033 (applyS 8388609 s d) c)))
  b2 : callE Try.prog NoPhi 16 [.agg [.sl 3 ((applyS 7340033 (applyS 7340033 s c) c).map SlotR.row)], .agg [.sl 3 ((applyS 7340033 s c).map SlotR.row)]] = some (.bool (decide (applyS 7340033 (applyS 7340033 s c) c = applyS 7340033 s c)))
  v : callE Try.prog NoPhi 8 [.agg [.sl 3 ((applyS 7340033 s c).map SlotR.row)]] = some (.bool (stateS (applyS 7340033 s c)))
  ok : stateS (applyS 7340033 s c) = true
  lc : lastS c = c
  ld : lastS d = d
theorem tail_of (s : List SlotR) (c d : List CellR) (hs : stateS s = true) (h1 : s.length ≤ 40) (h2 : ∀ x ∈ s, x.alts.length ≤ 40) (hc : c.Pairwise ltC) (hd : d.Pairwise ltC) (h3 : c.length ≤ 40) (h4 : d.length ≤ 40)
    (hi : ∀ x ∈ c, idS x.id = true ∧ fieldS x.field = true) (hap : ∀ id field, wrK c id field = none ∨ wrK d id field = none) : Tail s c d := by
  have hs' := ((state_iff s).1 hs).2
  have l1 := apply_len 7340033 s c
  have l2 := apply_len 8388609 s d
  have l3 := apply_len 8388609 (applyS 7340033 s c) d
  have l4 := apply_len 7340033 (applyS 7340033 s c) c
  have m1 := ap_alts 7340033 s c 40 (by omega) h2
  have m2 := ap_alts 8388609 s d 40 (by omega) h2
  have m3 := ap_alts 8388609 (applyS 7340033 s c) d 40 (by omega) m1
  have m4 := ap_alts 7340033 (applyS 7340033 s c) c 40 (by omega) m1
  have up : ∀ l : List SlotR, (∀ x ∈ l, x.alts.length ≤ 40) → ∀ x ∈ l, x.alts.length ≤ 1000 := fun l h x hx => by have := h x hx; omega
  have up2 : ∀ l : List SlotR, (∀ x ∈ l, x.alts.length ≤ 40) → ∀ x ∈ l, x.alts.length ≤ 4611686018427387904 := fun l h x hx => by have := h x hx; omega
  have up3 : ∀ l : List SlotR, (∀ x ∈ l, x.alts.length ≤ 40) → ∀ x ∈ l, x.alts.length ≤ 9223372036854775807 := fun l h x hx => by have := h x hx; omega
  exact {
    a1 := cAp _ s c (by omega) (up _ h2) hc (by omega)
    a2 := cAp _ _ d (by omega) (up _ m1) hd (by omega)
    a3 := cAp _ s d (by omega) (up _ h2) hd (by omega)
    a4 := cAp _ _ c (by omega) (up _ m2) hc (by omega)
    a5 := cAp _ _ c (by omega) (up _ m1) hc (by omega)
    e1 := apply_swap _ _ s c d hs' hc hd hap
    e2 := apply_once _ s c hs' hc
    b1 := c16 _ _ (by omega) (up2 _ m3)
    b2 := c16 _ _ (by omega) (up2 _ m4)
    v := c8 _ (by omega) (up3 _ m1)
    ok := apply_state _ s c hs hc hi (by rw [idS_eq]; decide)
    lc := last_asc c hc
    ld := last_asc d hd }
inductive H5 where
  | a (γ : Stamp) (i : Nat)
  | an
  | bd (δ : Stamp) (i : Nat)
  | bdn (i : Nat)
  | bdF
  | bnd (δ : Stamp) (i : Nat)
  | bndn (i : Nat)
  | bndF
def at5 : H5 → List Bool | .a .. => p5a | .an => p5an | .bd .. => p5bd | .bdn .. => p5bdn | .bdF => p5bdF | .bnd .. => p5bnd | .bndn .. => p5bndn | .bndF => p5bndF
def fz5 : H5 → List Nat | .a .. => [] | .an => [] | .bdF => [8, 9] | .bndF => [8, 9] | _ => [8]
section
variable (l a b : List MarkR) (s x y : List SlotR)
def vals5 : H5 → List TV
  | .a γ i => w5a l a b s x y γ ((x.take i).map cellOf) i
  | .an => w5an l a b s x y 0
  | .bd δ i => w5bd l a b s y (x.map cellOf) δ (dOf (x.map cellOf) (y.take i)) i
  | .bdn i => w5bdn l a b s y (x.map cellOf) i
  | .bdF => w5bdF l a b s y (x.map cellOf) (dOf (x.map cellOf) y) y.length
  | .bnd δ i => w5bnd l a b s y δ (dOf [] (y.take i)) i
  | .bndn i => w5bndn l a b s y i
  | .bndF => w5bndF l a b s y (dOf [] y) y.length
def inv5 : H5 → Prop
  | .a γ i => i ≤ x.length
  | .an => True
  | .bd δ i => i < y.length
  | .bdn i => i ≤ y.length ∧ dOf (x.map cellOf) (y.take i) = []
  | .bdF => True
  | .bnd δ i => x = [] ∧ i < y.length
  | .bndn i => x = [] ∧ i ≤ y.length ∧ dOf [] (y.take i) = []
  | .bndF => x = []
def mu5 : H5 → Nat
  | .a γ i => x.length - i + y.length + 10
  | .an => x.length + y.length + 11
  | .bd δ i => y.length - i + 1
  | .bdn i => y.length - i + 1
  | .bdF => 0
  | .bnd δ i => y.length - i + 1
  | .bndn i => y.length - i + 1
  | .bndF => 0
end
theorem lv_a : liveAt hd5 p5a = [7, 8, 9, 10, 11, 12] := rfl
theorem lv_b : liveAt hd5 p5bd = [7, 8, 9, 11, 13] := rfl
set_option maxRecDepth 4000 in
theorem l5w (l a b : List MarkR) (hl : l.length ≤ 9223372036854775807) (ha : a.length ≤ 9223372036854775807) (hb : b.length ≤ 9223372036854775807) : Ctr Try.prog 5 [.sl 3 (l.map MarkR.row), .sl 3 (a.map MarkR.row), .sl 3 (b.map MarkR.row)] (.bool true) := by
  have hs := of_ok l
  have hx := of_ok a
  have hy := of_ok b
  have h11 := c11 l hl
  have h11a := c11 a ha
  have h11b := c11 b hb
  have he := e5 l a b
  generalize stateOf l = s at *
  generalize stateOf a = x at *
  generalize stateOf b = y at *
  obtain ⟨hs1, hs2, hs3⟩ := hs
  obtain ⟨hx1, hx2, hx3⟩ := hx
  obtain ⟨hy1, hy2, hy3⟩ := hy
  have hxa := ((state_iff x).1 hx1)
  have hya := ((state_iff y).1 hy1)
  have hca : (x.map cellOf).Pairwise ltC := cell_asc hxa.2
  have hda : ∀ c, (dOf c y).Pairwise ltC := fun c => d_asc hya.2
  have hci : ∀ z ∈ x.map cellOf, idS z.id = true ∧ fieldS z.field = true := by
    intro z hz
    rw [List.mem_map] at hz
    obtain ⟨t, ht, rfl⟩ := hz
    exact ⟨(hxa.1 t ht).1, (hxa.1 t ht).2.1⟩
  have htail := tail_of s (x.map cellOf) (dOf (x.map cellOf) y) hs1 hs2 hs3 hca (hda _) (by simpa using hx2) (Nat.le_trans (d_len _ y) hy2) hci (d_apart _ y)
  have hx0 : ∀ i, i < x.length → 0 < (x.getD i default).alts.length := fun i hi => by have := (hxa.1 _ (getD_mem' hi)).2.2.1; omega
  have hy0 : ∀ i, i < y.length → 0 < (y.getD i default).alts.length := fun i hi => by have := (hya.1 _ (getD_mem' hi)).2.2.1; omega
  refine ctr_cut (ι := H5) mixed noPhi_ok Try.f5 hd5 139 Try.func5 (by kernel_rfl) rfl at5 (by rintro (_ | _ | _ | _ | _ | _ | _ | _) <;> rfl) fz5 (by rintro (_ | _ | _ | _ | _ | _ | _ | _) <;> rfl) (vals5 l a b s x y) (inv5 x y) (mu5 x y) ⟨_, he, ?_⟩ (fun z nx hz g => ?_)
  · simp only [TW, LcQ, h11, h11a, h11b, true_and]
    exact ⟨.an, rfl, rfl, trivial⟩
  · rcases z with ⟨γ, i⟩ | _ | ⟨δ, i⟩ | ⟨i⟩ | _ | ⟨δ, i⟩ | ⟨i⟩ | _
    · simp only [inv5] at hz
      refine ⟨_, r5a l a b s x y γ ((x.take i).map cellOf) i g nx, ?_⟩
      by_cases hlt : i < x.length
      · have hw : IntKind.wrap .i64 ((i : Nat) + 1 : Int) = ((i + 1 : Nat) : Int) := by rw [wrap64 _ (by omega) (by omega)]; rfl
        have ht : (x.take (i + 1)).map cellOf = (x.take i).map cellOf ++ [cellOf (x.getD i default)] := by
          rw [List.take_succ_eq_append_getElem hlt, List.map_append, at_getD x i hlt]; rfl
        have jA : ∀ γ', ∃ j, p5a = at5 j ∧ frzL (fz5 j) (liveAt hd5 p5a) (w5a l a b s x y γ' ((x.take (i + 1)).map cellOf) (i + 1)) = vals5 l a b s x y j ∧ inv5 x y j ∧ mu5 x y j < mu5 x y (.a γ i) := fun γ' =>
          ⟨.a γ' (i + 1), rfl, rfl, hlt, by simp only [mu5]; omega⟩
        rw [ht] at jA
        simp only [w5a, p5a, List.map_append, List.map_cons, List.map_nil, CellR.row, cellOf, List.nil_append] at jA
        have h0 := hx0 i hlt
        have hcl : ((x.take i).map cellOf).length = i := by simp; omega
        generalize (x.take i).map cellOf = c at *
        simp only [TW, LcQ, hw, take_map_len, List.length_map]
        simp (disch := omega) [at_getD, -List.getD_eq_getElem?_getD, -Bool.default_bool, hlt, h0, roomy, hcl]
        simp [-List.getD_eq_getElem?_getD, -Bool.default_bool] at jA ⊢
        exact ⟨by omega, jA _ _⟩
      · have hxe : x.take i = x := List.take_of_length_le (by omega)
        have jB : ∃ j, p5bdn = at5 j ∧ frzL (fz5 j) (liveAt hd5 p5bdn) [.box (4, 0) [.sl 3 (s.map SlotR.row)], .box (8, 0) [.int .i64 7340033, .nil 1, .nil 1, .str ⟨#[]⟩, .own γ 44 6 ((x.map cellOf).map CellR.row)], .box (9, 0) [.int .i64 8388609, .nil 1, .nil 1, .str ⟨#[]⟩, .nil 6], .box (17, 0) [.sl 3 (y.map SlotR.row)], .int .i64 (0 : Nat)] = vals5 l a b s x y j ∧ inv5 x y j ∧ mu5 x y j < mu5 x y (.a γ i) :=
          ⟨.bdn 0, rfl, rfl, ⟨Nat.zero_le _, rfl⟩, by simp only [mu5]; omega⟩
        have h1 : ¬ ((i : Int) < (x.length : Int)) := by omega
        simp only [p5bdn] at jB
        rw [hxe]
        simp only [TW, LcQ, List.length_map, h1, decide_false, true_and]
        exact ⟨fun h => (by cases h), fun _ => jB⟩
    · simp only [inv5] at hz
      obtain ⟨i, hi0⟩ : ∃ i : Nat, i = 0 := ⟨0, rfl⟩
      have hz : i ≤ x.length := by omega
      refine ⟨_, r5an l a b s x y 0 g nx, ?_⟩
      by_cases hlt : 0 < x.length
      · have hw : IntKind.wrap .i64 ((0 : Nat) + 1 : Int) = ((0 + 1 : Nat) : Int) := by rw [wrap64 _ (by omega) (by omega)]; rfl
        have ht : (x.take (0 + 1)).map cellOf = [] ++ [cellOf (x.getD 0 default)] := by
          rw [List.take_succ_eq_append_getElem hlt, List.map_append, at_getD x 0 hlt]; rfl
        have jA : ∀ γ', ∃ j, p5a = at5 j ∧ frzL (fz5 j) (liveAt hd5 p5a) (w5a l a b s x y γ' ((x.take (0 + 1)).map cellOf) (0 + 1)) = vals5 l a b s x y j ∧ inv5 x y j ∧ mu5 x y j < mu5 x y (.an) := fun γ' =>
          ⟨.a γ' (0 + 1), rfl, rfl, hlt, by simp only [mu5]; omega⟩
        rw [ht] at jA
        simp only [w5a, p5a, List.map_append, List.map_cons, List.map_nil, CellR.row, cellOf, List.nil_append] at jA
        have h0 := hx0 0 hlt
        simp only [TW, LcQ, hw, take_map_len, List.length_map]
        simp (disch := omega) [at_getD, -List.getD_eq_getElem?_getD, -Bool.default_bool, hlt, h0]
        simp [-List.getD_eq_getElem?_getD, -Bool.default_bool] at jA ⊢
        exact jA _ _
      · have hxn : x = [] := List.length_eq_zero_iff.1 (by omega)
        have jB : ∃ j, p5bndn = at5 j ∧ frzL (fz5 j) (liveAt hd5 p5bndn) (w5bndn l a b s y 0) = vals5 l a b s x y j ∧ inv5 x y j ∧ mu5 x y j < mu5 x y (.an) :=
          ⟨.bndn 0, rfl, rfl, ⟨hxn, Nat.zero_le _, rfl⟩, by simp only [mu5]; omega⟩
        have h1 : ¬ (((0 : Nat) : Int) < (x.length : Int)) := by omega
        simp only [w5bndn, p5bndn] at jB
        simp only [TW, LcQ, List.length_map, h1, decide_false, true_and]
        exact ⟨fun h => (by cases h), fun _ => jB⟩
    · simp only [inv5] at hz
      have hlt := hz
      refine ⟨_, r5bd l a b s y (x.map cellOf) δ (dOf (x.map cellOf) (y.take i)) i g nx, ?_⟩
      have hw : IntKind.wrap .i64 ((i : Int) + 1) = ((i + 1 : Nat) : Int) := by rw [wrap64 _ (by omega) (by omega)]; rfl
      have hst := d_step (c := (x.map cellOf)) hlt
      have h15 := c15 (x.map cellOf) (y.getD i default).id (y.getD i default).field (by simp; try omega)
      have h0 := hy0 i hlt
      have hdl := d_len (x.map cellOf) (y.take i)
      rw [List.length_take] at hdl
      have jO : ∀ δ', dOf (x.map cellOf) (y.take (i + 1)) = dOf (x.map cellOf) (y.take (i + 1)) → ∃ j, p5bd = at5 j ∧ frzL (fz5 j) (liveAt hd5 p5bd) [.box (4, 0) [.sl 3 (s.map SlotR.row)], .box (8, 0) [.int .i64 7340033, .nil 1, .nil 1, .str ⟨#[]⟩, .sl 6 ((x.map cellOf).map CellR.row)], .box (9, 0) [.int .i64 8388609, .nil 1, .nil 1, .str ⟨#[]⟩, .own δ' 44 6 ((dOf (x.map cellOf) (y.take (i + 1))).map CellR.row)], .box (17, 0) [.sl 3 (y.map SlotR.row)], .int .i64 (i + 1 : Nat)] = vals5 l a b s x y j ∧ inv5 x y j ∧ mu5 x y j < mu5 x y (.bd δ i) := fun δ' _ => by
        by_cases h : i + 1 < y.length
        · exact ⟨.bd δ' (i + 1), rfl, rfl, h, by simp only [mu5]; omega⟩
        · have he : y.take (i + 1) = y := List.take_of_length_le (by omega)
          have he2 : i + 1 = y.length := by omega
          rw [he, he2]
          exact ⟨.bdF, rfl, rfl, trivial, by simp only [mu5]; omega⟩
      simp only [TW, LcQ, List.length_map, hw, h15, take_map_len]
      cases hsome : (wrK (x.map cellOf).reverse (y.getD i default).id (y.getD i default).field).isSome with
      | true =>
        rw [hsome, if_pos rfl, List.append_nil] at hst
        rw [hst] at jO
        have := jO δ rfl
        simp only [p5bd] at this
        generalize mu5 x y (.bd δ i) = M at *
        simp (disch := omega) [at_getD, -List.getD_eq_getElem?_getD, -Bool.default_bool, hlt, hsome]
        simp [-List.getD_eq_getElem?_getD, -Bool.default_bool] at this ⊢
        exact this
      | false =>
        rw [hsome, if_neg (by simp)] at hst
        rw [hst] at jO
        simp only [p5bd, List.map_append, List.map_cons, List.map_nil, CellR.row, cellOf, List.nil_append, true_implies] at jO
        generalize mu5 x y (.bd δ i) = M at *
        simp (disch := omega) [at_getD, -List.getD_eq_getElem?_getD, -Bool.default_bool, hlt, h0, hsome, roomy]
        simp [-List.getD_eq_getElem?_getD, -Bool.default_bool] at jO ⊢
        exact ⟨by omega, jO _ _⟩
    · simp only [inv5] at hz
      obtain ⟨hz, hdn⟩ := hz
      refine ⟨_, r5bdn l a b s y (x.map cellOf) i g nx, ?_⟩
      by_cases hlt : i < y.length
      · have hw : IntKind.wrap .i64 ((i : Int) + 1) = ((i + 1 : Nat) : Int) := by rw [wrap64 _ (by omega) (by omega)]; rfl
        have hst := d_step (c := (x.map cellOf)) hlt
        have h15 := c15 (x.map cellOf) (y.getD i default).id (y.getD i default).field (by simp; try omega)
        have h0 := hy0 i hlt
        have hdl := d_len (x.map cellOf) (y.take i)
        rw [List.length_take] at hdl
        have jO : ∀ δ', dOf (x.map cellOf) (y.take (i + 1)) = dOf (x.map cellOf) (y.take (i + 1)) → ∃ j, p5bd = at5 j ∧ frzL (fz5 j) (liveAt hd5 p5bd) [.box (4, 0) [.sl 3 (s.map SlotR.row)], .box (8, 0) [.int .i64 7340033, .nil 1, .nil 1, .str ⟨#[]⟩, .sl 6 ((x.map cellOf).map CellR.row)], .box (9, 0) [.int .i64 8388609, .nil 1, .nil 1, .str ⟨#[]⟩, .own δ' 44 6 ((dOf (x.map cellOf) (y.take (i + 1))).map CellR.row)], .box (17, 0) [.sl 3 (y.map SlotR.row)], .int .i64 (i + 1 : Nat)] = vals5 l a b s x y j ∧ inv5 x y j ∧ mu5 x y j < mu5 x y (.bdn i) := fun δ' _ => by
          by_cases h : i + 1 < y.length
          · exact ⟨.bd δ' (i + 1), rfl, rfl, h, by simp only [mu5]; omega⟩
          · have he : y.take (i + 1) = y := List.take_of_length_le (by omega)
            have he2 : i + 1 = y.length := by omega
            rw [he, he2]
            exact ⟨.bdF, rfl, rfl, trivial, by simp only [mu5]; omega⟩
        have jN : dOf (x.map cellOf) (y.take (i + 1)) = [] → ∃ j, p5bdn = at5 j ∧ frzL (fz5 j) (liveAt hd5 p5bdn) [.box (4, 0) [.sl 3 (s.map SlotR.row)], .box (8, 0) [.int .i64 7340033, .nil 1, .nil 1, .str ⟨#[]⟩, .sl 6 ((x.map cellOf).map CellR.row)], .box (9, 0) [.int .i64 8388609, .nil 1, .nil 1, .str ⟨#[]⟩, .nil 6], .box (17, 0) [.sl 3 (y.map SlotR.row)], .int .i64 (i + 1 : Nat)] = vals5 l a b s x y j ∧ inv5 x y j ∧ mu5 x y j < mu5 x y (.bdn i) := fun h =>
          ⟨.bdn (i + 1), rfl, rfl, ⟨hlt, h⟩, by simp only [mu5]; omega⟩
        rw [hdn] at hst
        simp only [TW, LcQ, List.length_map, hw, h15, take_map_len]
        cases hsome : (wrK (x.map cellOf).reverse (y.getD i default).id (y.getD i default).field).isSome with
        | true =>
          rw [hsome, if_pos rfl, List.append_nil] at hst
          have := jN hst
          simp only [p5bdn] at this
          generalize mu5 x y (.bdn i) = M at *
          simp (disch := omega) [at_getD, -List.getD_eq_getElem?_getD, -Bool.default_bool, hlt, hsome]
          simp [-List.getD_eq_getElem?_getD, -Bool.default_bool] at this ⊢
          exact this
        | false =>
          rw [hsome, if_neg (by simp)] at hst
          rw [hst] at jO
          simp only [p5bd, List.map_append, List.map_cons, List.map_nil, CellR.row, cellOf, List.nil_append, true_implies] at jO
          generalize mu5 x y (.bdn i) = M at *
          simp (disch := omega) [at_getD, -List.getD_eq_getElem?_getD, -Bool.default_bool, hlt, h0, hsome, roomy]
          simp [-List.getD_eq_getElem?_getD, -Bool.default_bool] at jO ⊢
          exact jO _ _
      · have he : y.take i = y := List.take_of_length_le (by omega)
        rw [he] at hdn
        have h1 : ¬ ((i : Int) < (y.length : Int)) := by omega
        obtain ⟨a1, a2, a3, a4, a5, f1, f2, b1, b2, v, ok, lc, ld⟩ := htail
        rw [hdn] at a2 a3 a4 f1 b1 ld
        simp only [List.map_nil, applyS] at a1 a2 a3 a4 a5 f1 f2 b1 b2 v ok
        simp only [TW, LcQ, List.length_map, h1, decide_false, lc, ld, a1, a2, a3, a4, a5, b1, b2, v, ok, c10]
        simp [a1, a2, a3, a4, a5, b1, b2, v, f2, c10]
    · refine ⟨_, r5bdF l a b s y (x.map cellOf) (dOf (x.map cellOf) y) y.length g nx, ?_⟩
      have h1 : ¬ ((y.length : Int) < (y.length : Int)) := by omega
      obtain ⟨a1, a2, a3, a4, a5, f1, f2, b1, b2, v, ok, lc, ld⟩ := htail
      simp only [TW, LcQ, List.length_map, h1, decide_false, lc, ld, a1, a2, a3, a4, a5, b1, b2, v, ok, c10]
      simp [f1, f2]
    · simp only [inv5] at hz
      obtain ⟨hxn, hz⟩ := hz
      have hlt := hz
      refine ⟨_, r5bnd l a b s y δ (dOf ([] : List CellR) (y.take i)) i g nx, ?_⟩
      have hw : IntKind.wrap .i64 ((i : Int) + 1) = ((i + 1 : Nat) : Int) := by rw [wrap64 _ (by omega) (by omega)]; rfl
      have hst := d_step (c := ([] : List CellR)) hlt
      have h15 := c15 ([] : List CellR) (y.getD i default).id (y.getD i default).field (by simp; try omega)
      have h0 := hy0 i hlt
      have hdl := d_len ([] : List CellR) (y.take i)
      rw [List.length_take] at hdl
      have jO : ∀ δ', dOf ([] : List CellR) (y.take (i + 1)) = dOf ([] : List CellR) (y.take (i + 1)) → ∃ j, p5bnd = at5 j ∧ frzL (fz5 j) (liveAt hd5 p5bnd) [.box (4, 0) [.sl 3 (s.map SlotR.row)], .box (8, 0) [.int .i64 7340033, .nil 1, .nil 1, .str ⟨#[]⟩, .nil 6], .box (9, 0) [.int .i64 8388609, .nil 1, .nil 1, .str ⟨#[]⟩, .own δ' 44 6 ((dOf ([] : List CellR) (y.take (i + 1))).map CellR.row)], .box (17, 0) [.sl 3 (y.map SlotR.row)], .int .i64 (i + 1 : Nat)] = vals5 l a b s x y j ∧ inv5 x y j ∧ mu5 x y j < mu5 x y (.bnd δ i) := fun δ' _ => by
        by_cases h : i + 1 < y.length
        · exact ⟨.bnd δ' (i + 1), rfl, rfl, ⟨hxn, h⟩, by simp only [mu5]; omega⟩
        · have he : y.take (i + 1) = y := List.take_of_length_le (by omega)
          have he2 : i + 1 = y.length := by omega
          rw [he, he2]
          exact ⟨.bndF, rfl, rfl, hxn, by simp only [mu5]; omega⟩
      have hsome : (wrK ([] : List CellR).reverse (y.getD i default).id (y.getD i default).field).isSome = false := rfl
      simp only [List.map_nil, List.reverse_nil] at h15
      have hv : (wrK ([] : List CellR) (y.getD i default).id (y.getD i default).field) = none := rfl
      simp only [hv, Option.getD_none, Option.isSome_none] at h15
      rw [hsome, if_neg (by simp)] at hst
      simp only [TW, LcQ, List.length_map, hw, h15, take_map_len]
      rw [hst] at jO
      simp only [p5bnd, List.map_append, List.map_cons, List.map_nil, CellR.row, cellOf, List.nil_append, true_implies] at jO
      generalize mu5 x y (.bnd δ i) = M at *
      simp (disch := omega) [at_getD, -List.getD_eq_getElem?_getD, -Bool.default_bool, hlt, h0, roomy]
      simp [-List.getD_eq_getElem?_getD, -Bool.default_bool] at jO ⊢
      exact ⟨by omega, jO _ _⟩
    · simp only [inv5] at hz
      obtain ⟨hxn, hz, hdn⟩ := hz
      refine ⟨_, r5bndn l a b s y i g nx, ?_⟩
      by_cases hlt : i < y.length
      · have hw : IntKind.wrap .i64 ((i : Int) + 1) = ((i + 1 : Nat) : Int) := by rw [wrap64 _ (by omega) (by omega)]; rfl
        have hst := d_step (c := ([] : List CellR)) hlt
        have h15 := c15 ([] : List CellR) (y.getD i default).id (y.getD i default).field (by simp; try omega)
        have h0 := hy0 i hlt
        have hdl := d_len ([] : List CellR) (y.take i)
        rw [List.length_take] at hdl
        have jO : ∀ δ', dOf ([] : List CellR) (y.take (i + 1)) = dOf ([] : List CellR) (y.take (i + 1)) → ∃ j, p5bnd = at5 j ∧ frzL (fz5 j) (liveAt hd5 p5bnd) [.box (4, 0) [.sl 3 (s.map SlotR.row)], .box (8, 0) [.int .i64 7340033, .nil 1, .nil 1, .str ⟨#[]⟩, .nil 6], .box (9, 0) [.int .i64 8388609, .nil 1, .nil 1, .str ⟨#[]⟩, .own δ' 44 6 ((dOf ([] : List CellR) (y.take (i + 1))).map CellR.row)], .box (17, 0) [.sl 3 (y.map SlotR.row)], .int .i64 (i + 1 : Nat)] = vals5 l a b s x y j ∧ inv5 x y j ∧ mu5 x y j < mu5 x y (.bndn i) := fun δ' _ => by
          by_cases h : i + 1 < y.length
          · exact ⟨.bnd δ' (i + 1), rfl, rfl, ⟨hxn, h⟩, by simp only [mu5]; omega⟩
          · have he : y.take (i + 1) = y := List.take_of_length_le (by omega)
            have he2 : i + 1 = y.length := by omega
            rw [he, he2]
            exact ⟨.bndF, rfl, rfl, hxn, by simp only [mu5]; omega⟩
        have jN : dOf ([] : List CellR) (y.take (i + 1)) = [] → ∃ j, p5bndn = at5 j ∧ frzL (fz5 j) (liveAt hd5 p5bndn) [.box (4, 0) [.sl 3 (s.map SlotR.row)], .box (8, 0) [.int .i64 7340033, .nil 1, .nil 1, .str ⟨#[]⟩, .nil 6], .box (9, 0) [.int .i64 8388609, .nil 1, .nil 1, .str ⟨#[]⟩, .nil 6], .box (17, 0) [.sl 3 (y.map SlotR.row)], .int .i64 (i + 1 : Nat)] = vals5 l a b s x y j ∧ inv5 x y j ∧ mu5 x y j < mu5 x y (.bndn i) := fun h =>
          ⟨.bndn (i + 1), rfl, rfl, ⟨hxn, hlt, h⟩, by simp only [mu5]; omega⟩
        rw [hdn] at hst
        have hsome : (wrK ([] : List CellR).reverse (y.getD i default).id (y.getD i default).field).isSome = false := rfl
        simp only [List.map_nil, List.reverse_nil] at h15
        have hv : (wrK ([] : List CellR) (y.getD i default).id (y.getD i default).field) = none := rfl
        simp only [hv, Option.getD_none, Option.isSome_none] at h15
        rw [hsome, if_neg (by simp)] at hst
        simp only [TW, LcQ, List.length_map, hw, h15, take_map_len]
        rw [hst] at jO
        simp only [p5bnd, List.map_append, List.map_cons, List.map_nil, CellR.row, cellOf, List.nil_append, true_implies] at jO
        generalize mu5 x y (.bndn i) = M at *
        simp (disch := omega) [at_getD, -List.getD_eq_getElem?_getD, -Bool.default_bool, hlt, h0, roomy]
        simp [-List.getD_eq_getElem?_getD, -Bool.default_bool] at jO ⊢
        exact jO _ _
      · have he : y.take i = y := List.take_of_length_le (by omega)
        rw [he] at hdn
        have h1 : ¬ ((i : Int) < (y.length : Int)) := by omega
        subst hxn
        obtain ⟨a1, a2, a3, a4, a5, f1, f2, b1, b2, v, ok, lc, ld⟩ := htail
        simp only [List.map_nil] at a1 a2 a3 a4 a5 f1 f2 b1 b2 v ok lc ld
        rw [hdn] at a2 a3 a4 f1 b1 ld
        simp only [List.map_nil, applyS] at a1 a2 a3 a4 a5 f1 f2 b1 b2 v ok
        simp only [TW, LcQ, List.length_map, h1, decide_false, lc, ld, a1, a2, a3, a4, a5, b1, b2, v, ok, c10]
        simp [a1, a2, a3, a4, a5, b1, b2, v, f2, c10]
    · refine ⟨_, r5bndF l a b s y (dOf ([] : List CellR) y) y.length g nx, ?_⟩
      simp only [inv5] at hz
      subst hz
      have h1 : ¬ ((y.length : Int) < (y.length : Int)) := by omega
      obtain ⟨a1, a2, a3, a4, a5, f1, f2, b1, b2, v, ok, lc, ld⟩ := htail
      simp only [List.map_nil, applyS] at a1 a2 a3 a4 a5 f1 f2 b1 b2 v ok
      simp only [List.map_nil] at lc ld
      simp only [TW, LcQ, List.length_map, h1, decide_false, lc, ld, a1, a2, a3, a4, a5, b1, b2, v, ok, c10]
      simp [f1, f2]
theorem l5 (l : List MarkR) (hl : l.length ≤ 9223372036854775807) (a : List MarkR) (ha : a.length ≤ 9223372036854775807) (b : List MarkR) (hb : b.length ≤ 9223372036854775807) : Ctr Try.prog 5 [.sl 3 (l.map MarkR.row), .sl 3 (a.map MarkR.row), .sl 3 (b.map MarkR.row)] (.bool true) := l5w l a b hl ha hb
end Go.Proofs.Ytgfpbhbogfabmaa
