/- A law's row: its arguments are opened, its answer is 'true', its arguments read as they did. -/
import Derived.Test.YtgfpbhbogfabmaaVm22
import Derived.ProofKit
import Derived.Carry
set_option linter.unusedVariables false
set_option linter.unusedSimpArgs false
set_option linter.unnecessarySimpa false
set_option linter.unusedSectionVars false
namespace Go.Vm
open Go.ChangeShapes Go.WideShapes Go.ChangeAt Go.RowKit

section
variable (P : Program)
/-- Fields that lie one behind the other. -/
def okF (rec : TypeId → Bool) : Nat → List Field → Bool
  | _, [] => true
  | o, f :: fs => f.offset == o && rec f.type && okF rec (o + szT P f.type) fs
/-- A type whose values can be opened. -/
def okTy : Nat → TypeId → Bool
  | 0, _ => false
  | d + 1, t => match P.underlying t with
    | some .bool => szT P t == 1
    | some (.int _) => szT P t == 1
    | some .string => szT P t == 1
    | some (.slice e) => szT P t == 1 && szT P e != 0 && okTy d e
    | some (.struct fs) => okF P (okTy d) 0 fs.toList && (fs.toList.map fun f => szT P f.type).sum == szT P t
    | _ => false
def TyF (rec : TypeId → List TV → Prop) : List Field → List TV → Prop
  | [], cs => cs = []
  | f :: fs, cs => ∃ c1 c2, cs = c1 ++ c2 ∧ c1.length = szT P f.type ∧ rec f.type c1 ∧ TyF rec fs c2
/-- The cells of a type's values. -/
def TyC : Nat → TypeId → List TV → Prop
  | 0, _, _ => False
  | d + 1, t, cs => match P.underlying t with
    | some .bool => ∃ b, cs = [.bool b]
    | some (.int k) => ∃ n, cs = [.int k n] ∧ k.min ≤ n ∧ n ≤ k.max
    | some .string => ∃ s : ByteArray, cs = [.str s] ∧ s.size ≤ 9223372036854775807
    | some (.slice e) => ∃ xs, cs = [.sl (szT P e) xs] ∧ xs.length ≤ 9223372036854775807 ∧ ∀ r ∈ xs, TyC d e r
    | some (.struct fs) => TyF P (TyC d) fs.toList cs
    | _ => False
def ArgT (d : Nat) (t : TypeId) (tv : TV) : Prop := if aggT P t then ∃ cs, tv = .agg cs ∧ TyC P d t cs else TyC P d t [tv]
def ArgsT (d : Nat) : List TypeId → List TV → Prop
  | [], ts => ts = []
  | t :: ts, vs => ∃ v vs', vs = v :: vs' ∧ ArgT P d t v ∧ ArgsT d ts vs'
end

section
variable {P : Program} {H : Type} {enc : TypeId × Value → H} {w : World}

theorem choose_list {Q : Nat → List TV → Prop} : ∀ (n : Nat), (∀ i, i < n → ∃ r, Q i r) → ∃ xs : List (List TV), xs.length = n ∧ ∀ i r, xs[i]? = some r → Q i r
  | 0, _ => ⟨[], rfl, by simp⟩
  | n + 1, h => by
    obtain ⟨xs, h1, h2⟩ := choose_list n fun i hi => h i (by omega)
    obtain ⟨r, hr⟩ := h n (by omega)
    refine ⟨xs ++ [r], by simp [h1], fun i r' hi => ?_⟩
    rw [List.getElem?_append] at hi
    split at hi
    · exact h2 i r' hi
    · rename_i hlt
      have : i = n := by
        have := (List.getElem?_eq_some_iff.1 hi).1
        simp at this
        omega
      subst this
      simp [h1] at hi
      exact hi ▸ hr
theorem RepRows_of_get {I : Nat → Prop} {b z : Nat} : ∀ (xs : List (List TV)) (o : Nat), (∀ i r, xs[i]? = some r → r.length = z ∧ RepRow I w b (o + i * z) r) → RepRows I w b o z xs
  | [], _, _ => by simp [RepRows]
  | r :: xs, o, h => by
    simp only [RepRows]
    have h0 := h 0 r rfl
    refine ⟨h0.1, by simpa using h0.2, RepRows_of_get xs (o + z) fun i r' hi => ?_⟩
    have := h (i + 1) r' (by simpa using hi)
    refine ⟨this.1, ?_⟩
    have e := this.2
    rwa [Nat.succ_mul, show o + (i * z + z) = o + z + i * z by omega] at e

theorem cells?_spec {base : Nat} {a : Addr} {n : Nat} {cs : List Value} (h : w.cells? base a n = some cs) : cs.length = n ∧ ∀ j u, cs[j]? = some u → w.cell? (a.add j) = some u := by
  unfold World.cells? at h
  split at h
  · have hl := mapM_some_length h
    simp at hl
    refine ⟨hl, fun j u hj => ?_⟩
    have hlt : j < n := by have := (List.getElem?_eq_some_iff.1 hj).1; omega
    have := mapM_some_get h j j (by simp [List.getElem?_range hlt])
    rw [this, hj]
  · cases h
theorem add_add (a : Addr) (m n : Nat) : (a.add m).add n = a.add (m + n) := by
  unfold Addr.add
  by_cases h1 : m = 0 <;> by_cases h2 : n = 0 <;> simp [h1, h2, Nat.add_assoc]
theorem cell?_plain {a : Addr} {u : Value} (h : w.cell? a = some u) : a = ⟨a.block, a.off, none⟩ ∧ a.block < w.heap.size := by
  unfold World.cell? at h
  split at h
  · rename_i c _ _ hb
    split at h
    · cases h
    · rename_i hs
      obtain ⟨b, o, sp⟩ := a
      cases sp with
      | none => exact ⟨rfl, (Array.getElem?_eq_some_iff.1 hb).1⟩
      | some x => simp at hs
  · cases h

abbrev Old (w : World) : Nat → Prop := fun b => b < w.heap.size

theorem open_cells : ∀ (d fuel : Nat) {base : Nat} {spare : Nat → Bool} {held : Bool} {t : TypeId} {cs : List Value} {x : DataW H × List MemPlace}, okTy P d t = true →
    DataW.trod enc P w base spare held fuel t cs = some x → ∃ ts, RepPs (Old w) w ts cs ∧ TyC P d t ts ∧ ts.length = szT P t
  | 0, _, _, _, _, _, _, _, h, _ => by simp [okTy] at h
  | d + 1, fuel, base, spare, held, t, cs, x, ht, h => by
    unfold okTy at ht
    split at ht
    · rename_i hu
      obtain ⟨b, rfl, _⟩ := DataW.trod_bool hu h
      refine ⟨[.bool b], ⟨_, _, rfl, rfl, rfl⟩, ?_, by simpa using (beq_iff_eq.1 ht).symm⟩
      unfold TyC; rw [hu]; exact ⟨b, rfl⟩
    · rename_i k hu
      obtain ⟨n, rfl, _, hw⟩ := DataW.trod_int hu h
      refine ⟨[.int k n], ⟨_, _, rfl, rfl, rfl⟩, ?_, by simpa using (beq_iff_eq.1 ht).symm⟩
      unfold TyC; rw [hu]
      simp only [Lit.wf, Bool.and_eq_true, decide_eq_true_eq] at hw
      exact ⟨n, rfl, hw.1, hw.2⟩
    · rename_i hu
      obtain ⟨s, rfl, _, hw⟩ := DataW.trod_string hu h
      refine ⟨[.str s], ⟨_, _, rfl, rfl, rfl⟩, ?_, by simpa using (beq_iff_eq.1 ht).symm⟩
      unfold TyC; rw [hu]
      exact ⟨s, rfl, by simpa [maxLen] using hw⟩
    · rename_i e hu
      simp only [Bool.and_eq_true, beq_iff_eq, bne_iff_ne, ne_eq] at ht
      obtain ⟨⟨h1, hz⟩, he⟩ := ht
      rcases DataW.trod_slice hu h with ⟨rfl, _⟩ | ⟨a, len, cap, elems, rest, n, rfl, rfl, _, _, hlc, hcap, hel, hget, _, _⟩
      · refine ⟨[.sl (szT P e) []], ⟨_, _, rfl, ?_, rfl⟩, ?_, by simp [h1]⟩
        · simp only [RepP]; exact ⟨none, 0, rfl, Nat.le_refl _, .inl trivial⟩
        · unfold TyC; rw [hu]; exact ⟨[], rfl, by simp, by simp⟩
      · have hrow : ∀ i, i < len → ∃ r, (∃ ci, w.cells? base (a.add (i * szT P e)) (szT P e) = some ci ∧ RepPs (Old w) w r ci) ∧ TyC P d e r ∧ r.length = szT P e := by
          intro i hi
          have hg := hget i hi
          have hei : ∃ y, elems[i]? = some y := ⟨elems[i]'(by omega), by simp⟩
          obtain ⟨y, hy⟩ := hei
          rw [hy, Option.bind_eq_some_iff] at hg
          obtain ⟨ci, hc, htr⟩ := hg
          obtain ⟨r, h1, h2, h3⟩ := open_cells d n he htr
          exact ⟨r, ⟨ci, hc, h1⟩, h2, h3⟩
        obtain ⟨xs, hxl, hxs⟩ := choose_list len hrow
        refine ⟨[.sl (szT P e) xs], ⟨_, _, rfl, ?_, rfl⟩, ?_, by simp [h1]⟩
        · simp only [RepP]
          refine ⟨some a, cap, by rw [hxl], by omega, ?_⟩
          cases xs with
          | nil => exact .inl rfl
          | cons r0 xs =>
            right
            obtain ⟨⟨c0, hc0, hr0⟩, _, hrl⟩ := hxs 0 r0 rfl
            obtain ⟨hl0, hcell0⟩ := cells?_spec hc0
            have hne : 0 < c0.length := by omega
            obtain ⟨u0, hu0⟩ : ∃ u, c0[0]? = some u := ⟨c0[0], by simp⟩
            have hc := hcell0 0 u0 hu0
            simp only [Nat.zero_mul, add_add, Nat.add_zero] at hc
            rw [show a.add 0 = a by simp [Addr.add]] at hc
            obtain ⟨ha, hblt⟩ := cell?_plain hc
            refine ⟨a.block, a.off, by rw [← ha], hblt, RepRows_of_get _ _ fun i r hi => ?_⟩
            obtain ⟨⟨ci, hci, hri⟩, _, hrl⟩ := hxs i r hi
            obtain ⟨hli, hcelli⟩ := cells?_spec hci
            refine ⟨hrl, RepRow.of hri fun j u hj => ?_⟩
            have := hcelli j u hj
            rw [add_add, ha, cell_add] at this
            rwa [Nat.add_assoc]
        · unfold TyC; rw [hu]
          refine ⟨xs, rfl, by rw [hxl]; simp [maxLen] at hcap; omega, fun r hr => ?_⟩
          obtain ⟨i, hi⟩ := List.getElem?_of_mem hr
          exact (hxs i r hi).2.1
    · rename_i fs hu
      simp only [Bool.and_eq_true, beq_iff_eq] at ht
      obtain ⟨hof, hsum⟩ := ht
      obtain ⟨xs, n, rfl, _, hcl, hxl, hget⟩ := DataW.trod_struct hu h
      have hcl : cs.length = szT P t := hcl
      have key : ∀ (l : List Field) (o : Nat) (ps : List Value), okF P (okTy P d) o l = true → ps = cs.drop o → ps.length = (l.map fun f => szT P f.type).sum →
          (∀ f ∈ l, ∃ y, DataW.trod enc P w base spare held n f.type ((cs.drop f.offset).take (szT P f.type)) = some y) →
          ∃ ts, RepPs (Old w) w ts ps ∧ TyF P (TyC P d) l ts ∧ ts.length = (l.map fun f => szT P f.type).sum := by
        intro l
        induction l with
        | nil => intro o ps _ _ hl _; exact ⟨[], by simpa [RepPs] using hl, rfl, rfl⟩
        | cons f l ih =>
          intro o ps hk hp hl hall
          simp only [okF, Bool.and_eq_true, beq_iff_eq] at hk
          obtain ⟨⟨k1, k2⟩, k3⟩ := hk
          obtain ⟨y, hy⟩ := hall f (by simp)
          obtain ⟨r, h1, h2, h3⟩ := open_cells d n k2 hy
          simp only [List.map_cons, List.sum_cons] at hl
          obtain ⟨ts, e1, e2, e3⟩ := ih (o + szT P f.type) (ps.drop (szT P f.type)) k3 (by rw [hp, List.drop_drop]) (by simp [hl]) fun f' hf' => hall f' (by simp [hf'])
          refine ⟨r ++ ts, ?_, ⟨r, ts, rfl, h3, h2, e2⟩, by simp [h3, e3]⟩
          have := h1.append e1
          rwa [k1, ← hp, List.take_append_drop] at this
      obtain ⟨ts, e1, e2, e3⟩ := key fs.toList 0 cs hof (by simp) (by rw [hcl, hsum]) fun f hf => by
        obtain ⟨i, hi⟩ := List.getElem?_of_mem hf
        have hi' : fs[i]? = some f := by simpa using hi
        have hlt : i < xs.length := by have := (Array.getElem?_eq_some_iff.1 hi').1; omega
        refine ⟨xs[i], ?_⟩
        have := hget i f hi'
        rw [List.getElem?_eq_getElem hlt] at this
        exact this
      refine ⟨ts, e1, ?_, by rw [e3, hsum]⟩
      unfold TyC; rw [hu]; exact e2
    · cases ht

theorem open_arg {d : Nat} {base base' : Nat} {spare : Nat → Bool} {held : Bool} {t : TypeId} {v : Value} {x : DataW H} {ps : List MemPlace} (ht : okTy P d t = true) (hval : Value.okWide P w .any base' t v)
    (h : DataW.Trod enc P w base spare held t v x ps) : ∃ tv, RepA (Old w) w tv v ∧ ArgT P d t tv := by
  obtain ⟨fuel, hf⟩ := h
  obtain ⟨ts, h1, h2, h3⟩ := open_cells d fuel ht hf
  unfold ArgT
  cases d with
  | zero => simp [okTy] at ht
  | succ d =>
    cases hagg : aggT P t with
    | true =>
      simp only [if_true]
      unfold aggT at hagg
      unfold Value.okWide at hval
      split at hagg
      · rename_i fs hu
        rw [hu] at hval
        obtain ⟨cs, rfl, _, _⟩ := hval
        exact ⟨.agg ts, ⟨cs, rfl, h1⟩, ts, rfl, h2⟩
      · rename_i hu
        unfold okTy at ht
        rw [hu] at ht
        cases ht
      · cases hagg
    | false =>
      simp only [Bool.false_eq_true, if_false]
      have hone : szT P t = 1 ∧ ∀ cs, v ≠ .agg cs := by
        unfold okTy at ht
        unfold Value.okWide at hval
        split at ht
        · rename_i hu; rw [hu] at hval; refine ⟨beq_iff_eq.1 ht, ?_⟩; rintro cs rfl; simp [Cell.okWide, hu, Cell.ok] at hval
        · rename_i hu; rw [hu] at hval; refine ⟨beq_iff_eq.1 ht, ?_⟩; rintro cs rfl; simp [Cell.okWide, hu, Cell.ok] at hval
        · rename_i hu; rw [hu] at hval; refine ⟨beq_iff_eq.1 ht, ?_⟩; rintro cs rfl; simp [Cell.okWide, hu, Cell.ok] at hval
        · rename_i hu; rw [hu] at hval
          simp only [Bool.and_eq_true, beq_iff_eq] at ht
          refine ⟨ht.1.1, ?_⟩; rintro cs rfl; simp [Cell.okWide, hu, Cell.ok] at hval
        · rename_i hu; simp [aggT, hu] at hagg
        · cases ht
      rw [hone.1] at h3
      match ts, h3 with
      | [tv], _ =>
        refine ⟨tv, RepA_of ?_, h2⟩
        obtain ⟨u, us, he, hr, hus⟩ := h1
        have hv : v.cells.toList = [v] := by
          cases v with
          | agg cs => exact absurd rfl (hone.2 cs)
          | _ => rfl
        rw [hv] at he
        cases he
        exact hr

theorem open_args {d : Nat} {base base' : Nat} {spare : Nat → Bool} {held : Bool} : ∀ {ts : List TypeId} {vs : List Value} {ds : List (DataW H)} {ps : List MemPlace}, (∀ t ∈ ts, okTy P d t = true) →
    (∀ (j : Nat) t v, ts[j]? = some t → vs[j]? = some v → Value.okWide P w .any base' t v) → DataW.TrodAll enc P w base spare held ts vs ds ps → ds.length = ts.length ∧ ∃ tvs, RepAs (Old w) w tvs vs ∧ ArgsT P d ts tvs
  | [], vs, ds, ps, _, _, h => by
    obtain ⟨rfl, rfl, _⟩ := trodAll_nil h
    exact ⟨rfl, [], rfl, rfl⟩
  | t :: ts, vs, ds, ps, hk, hv, h => by
    obtain ⟨v, vs', d', ds', p, q, rfl, rfl, rfl, h1, h2⟩ := trodAll_cons h
    obtain ⟨tv, r1, r2⟩ := open_arg (hk t (by simp)) (hv 0 t v rfl rfl) h1
    obtain ⟨hl, tvs, r3, r4⟩ := open_args (fun t' ht' => hk t' (by simp [ht'])) (fun j t' v' h1 h2 => hv (j + 1) t' v' (by simpa using h1) (by simpa using h2)) h2
    exact ⟨by simp [hl], tv :: tvs, ⟨v, vs', rfl, r1, r3⟩, tv, tvs, rfl, r2, r4⟩

theorem trodAll_below (hl : laidOutB P = true) {W W' : World} (hb : Below W.heap.size W W') : ∀ {ts : List TypeId} {vs : List Value} {ds : List (DataW H)} {ps : List MemPlace},
    (∀ t ∈ ts, P.readableRec t = true ∧ t < P.types.size) → (∀ x ∈ ps, x.block < W.heap.size) → DataW.TrodAll enc P W 0 (fun _ => true) true ts vs ds ps → DataW.TrodAll enc P W' 0 (fun b => decide (b < W.heap.size)) true ts vs ds ps
  | [], vs, ds, ps, _, _, h => by
    obtain ⟨rfl, rfl, rfl⟩ := trodAll_nil h
    rfl
  | t :: ts, vs, ds, ps, hk, hp, h => by
    obtain ⟨v, vs', d', ds', p, q, rfl, rfl, rfl, h1, h2⟩ := trodAll_cons h
    exact ⟨p, q, Below.trod hl (hk t (by simp)).1 (hk t (by simp)).2 h1 hb (fun x hx => hp x (by simp [hx])), trodAll_below hl hb (fun t' ht' => hk t' (by simp [ht'])) (fun x hx => hp x (by simp [hx])) h2, rfl⟩

def boolT (P : Program) (t : TypeId) : Bool := match P.underlying t with | some .bool => true | _ => false
theorem boolT_und {t : TypeId} (h : boolT P t = true) : P.underlying t = some .bool := by
  unfold boolT at h
  split at h
  · assumption
  · cases h
/-- What is asked of a law's function and row, once for all. -/
def lawOk (P : Program) (d : Nat) (fn : Func) : Bool :=
  laidOutB P && fn.params.toList.all (fun t => okTy P d t && P.readableRec t && decide (t < P.types.size)) &&
  (match fn.resultTypes.toList with | [t] => boolT P t | _ => false)

/-- THE CONTRACT OF A LAW's ROW. -/
theorem law_contract (hm : P.follows .mixedOrders = true) {Φ : FuncId → List TV → Option TV} (hΦ : ∀ f args r, Φ f args = some r → Ctr P f args r) {d : Nat} {f : FuncId} {fn : Func} (hk : lawOk P d fn = true)
    {s : ChangeSpec} (hvars : s.vars = []) (hfn : ∀ ds : List (DataW H), ds.length = fn.params.toList.length → s.fn H ds = { results := [.lit (.bool true)], args := ds })
    (hlaw : ∀ tvs, ArgsT P d fn.params.toList tvs → callE P Φ f tvs = some (.bool true))
    {W : World} {base : Nat} {args : Array Value} {ds gs : List (DataW H)} {before : List MemPlace} {apart fresh handsOn : Bool}
    (hval : ∀ (j : Nat) t v, fn.params[j]? = some t → args[j]? = some v → Value.okWide P W .any base t v) (hW : DataW.Whole enc P fn.params.toList s.vars apart W args.toList ds gs before) :
    Calls P f args W fun e W' => ∃ v, e = .returned v ∧ s.post enc P fn apart fresh handsOn false W args v W' := by
  have hW0 := hW
  simp only [lawOk, Bool.and_eq_true, List.all_eq_true, decide_eq_true_eq] at hk
  obtain ⟨⟨hlo, hps⟩, hrt⟩ := hk
  obtain ⟨p, q, hA, hV, rfl, hfz, hnd⟩ := hW
  rw [hvars] at hV
  obtain ⟨rfl, rfl⟩ := trodVars_none hV
  obtain ⟨hdl, tvs, r1, r2⟩ := open_args (d := d) (fun t ht => (hps t ht).1.1) (fun j t v h1 h2 => hval j t v (by simpa using h1) (by simpa using h2)) hA
  have hc := (callE_ok hm hΦ f tvs _ (hlaw tvs r2)).2
  refine Calls.mono (hc.2 W args (Old W) (fun _ h => h) r1) ?_
  rintro e W' ⟨v, rfl, hkept, η, _, _, hrep⟩
  simp only [imp, impOne, Rep, RepP] at hrep
  subst hrep
  have hb : Below W.heap.size W W' := ⟨hkept.os, hkept.tape, hkept.output, hkept.size, hkept.block⟩
  have hlt : ∀ x ∈ p ++ [], x.block < W.heap.size := fun x hx => hW0.lt x hx
  have hsf : s.fn H (ds ++ []) = { results := [.lit (.bool true)], args := ds } := by rw [List.append_nil]; exact hfn ds hdl
  refine ⟨_, rfl, ds, [], p ++ [], [], p, [], hW0, ?_, ?_, ?_, hb.frame _, fun h => by cases h⟩
  · rw [hsf]
    split at hrt
    · rename_i t hts
      have hsz : fn.resultTypes.size = 1 := by rw [← Array.length_toList, hts]; rfl
      rw [hts, hsz]
      exact ⟨[], [], shut_bool (boolT_und hrt) true, rfl, rfl⟩
    · cases hrt
  · rw [hsf]
    exact trodAll_below hlo hb (fun t ht => ⟨(hps t ht).1.2, (hps t ht).2⟩) (fun x hx => hlt x (by simp [hx])) hA
  · rw [hsf, hvars]
    show DataW.TrodVars enc P W' _ [] _ []
    rfl
end
end Go.Vm
