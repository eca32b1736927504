/- Operations that only read: each does in the model what the evaluator says. -/
import Derived.Test.YtgfpbhbogfabmaaVm5
import Derived.Laws.Entries
import Derived.Laws.StructEq
set_option linter.unusedVariables false
set_option linter.unusedSimpArgs false
set_option linter.unnecessarySimpa false
set_option linter.unusedSectionVars false
namespace Go.Vm

/-- A run that stays within what the slots say. -/
structure Good (P : Program) (K : Nat → Prop) (w0 : World) (N : Nat) (U : Nat → Prop) (s : List TV) (a : Act) (w : World) : Prop where
  defers : a.defers = []
  size : a.tmps.size = N
  sim : ∃ η, Sim K w0 U (get s) (vsOf a) w η

def addU (U : Nat → Prop) (n : Nat) : Nat → Prop := fun m => U m ∨ m = n

section
variable {P : Program} {K : Nat → Prop} {w0 : World} {U : Nat → Prop} {s : List TV} {a : Act} {w : World} {η : Stamp → Value} {N n : Nat}

theorem get_putD (s : List TV) (d : Option Nat) (t : TV) (i : Nat) : get (putD s d t) i = if d = some i then t else get s i := by
  cases d with
  | none => simp [putD]
  | some d => simp only [putD, get_put, Option.some.injEq]

theorem vsOf_put (a : Act) (d : Option Nat) (v : Value) (i : Nat) (hd : ∀ x, d = some x → x < a.tmps.size) : vsOf (a.put d v) i = if d = some i then v else vsOf a i := by
  cases d with
  | none => simp [Act.put, vsOf]
  | some d =>
    have := hd d rfl
    simp only [Act.put, vsOf, Option.some.injEq]
    by_cases h : d = i
    · subst h; simp [this]
    · simp [h, Array.getElem?_setIfInBounds_ne h]
theorem put_size (a : Act) (d : Option Nat) (v : Value) : (a.put d v).tmps.size = a.tmps.size := by cases d <;> simp [Act.put]
theorem put_defers (a : Act) (d : Option Nat) (v : Value) : (a.put d v).defers = a.defers := by cases d <;> simp [Act.put]

/-- What an operation is to show. -/
def Shows (P : Program) (K : Nat → Prop) (w0 : World) (N : Nat) (U : Nat → Prop) (s : List TV) (o : Oper) (r : TV × List Cmd) (a : Act) (w : World) : Prop :=
  ∀ (next : Act → World → Prop) (Q : Exit → Act → World → Prop), (∀ a' w', Good P K w0 N U (after s o.dst r) a' w' → next a' w') → o.wp P a w next Q

theorem Shows.value {o : Oper} {r : TV × List Cmd} {v : Value} {w' : World} (hd : a.defers = []) (hN : a.tmps.size = N) (hdst : ∀ x, o.dst = some x → x < N)
    (hr : (execOp a.eval o).run P w = .ok (.value v) w') (h : ∃ η, Sim K w0 U (get (after s o.dst r)) (fun i => if o.dst = some i then v else vsOf a i) w' η) :
    Shows P K w0 N U s o r a w := by
  intro next Q hn
  unfold Oper.wp
  rw [hr]
  refine hn _ _ ⟨by rw [put_defers, hd], by rw [put_size, hN], ?_⟩
  obtain ⟨η, h⟩ := h
  refine ⟨η, ?_⟩
  have : vsOf (a.put o.dst v) = fun i => if o.dst = some i then v else vsOf a i := funext fun i => vsOf_put a o.dst v i (fun x hx => hN ▸ hdst x hx)
  rw [this]; exact h
theorem Shows.skip {o : Oper} {r : TV × List Cmd} {w' : World} (hd : a.defers = []) (hN : a.tmps.size = N) (hdst : ∀ x, o.dst = some x → x < N)
    (hr : (execOp a.eval o).run P w = .ok .skip w') (h : ∃ η, Sim K w0 U (get (after s o.dst r)) (fun i => if o.dst = some i then undef else vsOf a i) w' η) :
    Shows P K w0 N U s o r a w := by
  intro next Q hn
  unfold Oper.wp
  rw [hr]
  refine hn _ _ ⟨by rw [put_defers, hd], by rw [put_size, hN], ?_⟩
  obtain ⟨η, h⟩ := h
  refine ⟨η, ?_⟩
  have : vsOf (a.put o.dst undef) = fun i => if o.dst = some i then undef else vsOf a i := funext fun i => vsOf_put a o.dst undef i (fun x hx => hN ▸ hdst x hx)
  rw [this]; exact h

/-- A slot that takes a value that owns nothing. -/
theorem Sim.quiet {U' : Nat → Prop} {vs : Nat → Value} (h : Sim K w0 U (get s) vs w η) (hU : ∀ m, U m → U' m) (d : Option Nat) {t : TV} {v : Value} (hf : fpT η t = []) (hst : stT U' t)
    (hr : Rep η (Imm η (get s) w) w t v) (hstU : stT U t) : Sim K w0 U' (get (putD s d t)) (fun i => if d = some i then v else vs i) w η := by
  refine h.step (fun i => d = some i) hU (fun _ _ => rfl) (Kept.refl _ _) (fun i hi => ⟨by rw [get_putD, if_neg hi], by simp [hi]⟩) ?_ ?_ ?_ ?_ ?_
  · intro i hi; rw [get_putD, if_pos hi]; exact hst
  · intro i hi b hb; rw [get_putD, if_pos hi, hf] at hb; cases hb
  · intro i hi; rw [get_putD, if_pos hi, hf]; exact List.nodup_nil
  · intro i j b hi hj _ _; rw [hi] at hj; exact Option.some.inj hj
  · intro hImm hw i hi
    rw [get_putD, if_pos hi]
    simp only [hi, if_true]
    subst hi
    exact Rep.mono (U := U) (fun _ _ => rfl) hImm hw _ _ hstU (fun b hb => rfl) hr

/-- An operation that only reads. -/
theorem Shows.quiet (h : Sim K w0 U (get s) (vsOf a) w η) (hd : a.defers = []) (hN : a.tmps.size = N) {o : Oper} (hdst : ∀ x, o.dst = some x → x < N) {t : TV} {v : Value}
    (hr : (execOp a.eval o).run P w = .ok (.value v) w) (hf : fpT η t = []) (hst : stT U t) (hrep : Rep η (Imm η (get s) w) w t v) (n : Nat) : Shows P K w0 N (addU U n) s o (t, []) a w :=
  Shows.value hd hN hdst hr ⟨η, h.quiet (fun _ h => .inl h) o.dst hf (stT.mono (fun _ h => .inl h) _ hst) hrep hst⟩

theorem Shows.mono {U' : Nat → Prop} {o : Oper} {r : TV × List Cmd} (h : Shows P K w0 N U s o r a w) (hU : ∀ m, U m → U' m) : Shows P K w0 N U' s o r a w :=
  fun next Q hn => h next Q fun a' w' hg => hn a' w' ⟨hg.defers, hg.size, by
    obtain ⟨η, hs⟩ := hg.sim
    exact ⟨η, hs.kept, hs.klt, fun i => stT.mono hU _ (hs.st i), hs.fpK, hs.nd, hs.dj, hs.rep, hU 0 hs.u0, hs.rz, hs.rK⟩⟩

theorem ev_fp {x : Operand} {t : TV} (ht : (ev x).eval s = some t) : fpT η t = [] := by
  cases x with
  | tmp i => simp only [ev, LK.eval_look, LK.eval_ret, Option.some.injEq] at ht; subst ht; exact fpT_view _
  | const v => simp only [ev, LK.eval_ofOption] at ht; unfold ofConst at ht; split at ht <;> cases ht <;> simp [fpT]
  | func f => simp only [ev, LK.eval_ret, Option.some.injEq] at ht; subst ht; simp [fpT]
  | global g => simp [ev] at ht

/-! ### Types -/
theorem szT_info {t : TypeId} (h : szT P t ≠ 0) : ∃ i, P.info? t = some i ∧ i.size = szT P t := by
  unfold szT at *
  cases hi : P.info? t with
  | none => simp [hi] at h
  | some i => exact ⟨i, rfl, by simp⟩
theorem underlying_info {t : TypeId} {d : TypeDesc} (h : P.underlying t = some d) : ∃ i, P.info? t = some i := by
  unfold Program.underlying at h
  split at h
  · rename_i hi; exact ⟨_, hi⟩
  · rename_i hi; exact ⟨_, hi⟩
  · cases h
theorem elemT_und {t e : TypeId} (h : elemT P t = some e) : P.underlying t = some (.slice e) := by
  unfold elemT at h
  split at h
  · rename_i hu; cases h; exact hu
  · cases h
theorem strT_und {t : TypeId} (h : strT P t = true) : P.underlying t = some .string := by
  unfold strT at h
  split at h
  · assumption
  · cases h
theorem fieldT_und {t : TypeId} {f : Nat} {o : Nat} {ft : TypeId} (h : fieldT P t f = some (o, ft)) : ∃ fs x, P.underlying t = some (.struct fs) ∧ fs[f]? = some x ∧ x.offset = o ∧ x.type = ft := by
  unfold fieldT at h
  split at h
  · rename_i fs hu
    cases hx : fs[f]? with
    | none => simp [hx] at h
    | some x => simp [hx] at h; exact ⟨fs, x, hu, hx, h.1, h.2⟩
  · cases h
theorem run_isAgg {t : TypeId} {d : TypeDesc} (h : P.underlying t = some d) (w : World) : (isAgg t).run P w = .ok (aggT P t) w := by
  unfold isAgg aggT
  simp only [Sem.run_bind, run_underlying h, Result.andThen_ok, h]
  split <;> simp_all
theorem run_sizeOf {t : TypeId} {i : TypeInfo} (h : P.info? t = some i) (w : World) : (sizeOf t).run P w = .ok (szT P t) w := by
  simp [sizeOf, typeInfo, h, szT]
theorem run_intOf {v : Value} {k : IntKind} {m : Int} (h : v = .int k m) (w : World) : (asIntOf v).run P w = .ok (k, m) w := by
  subst h; rfl

/-! ### Operations -/
theorem intV_eq {t : TV} {m : Int} (h : (intV t).eval s = some m) : ∃ k, t = .int k m := by
  unfold intV at h
  split at h
  · rename_i k m'; simp only [LK.eval_pure, Option.some.injEq] at h; subst h; exact ⟨k, rfl⟩
  · simp at h

/-- A scalar's value. -/
def conc : TV → Value
  | .int k n => .int k n
  | .bool b => .bool b
  | .str s => .string s
  | _ => undef
theorem conc_rep {I : Nat → Prop} {t : TV} {v : Value} (ht : scalar t = true) (h : Rep η I w t v) : v = conc t := by
  cases t <;> simp_all [scalar, Rep, RepP, conc]
theorem rep_conc {I : Nat → Prop} {t : TV} (ht : scalar t = true) : Rep η I w t (conc t) := by
  cases t <;> simp_all [scalar, Rep, RepP, conc]
theorem scalar_fp {t : TV} (ht : scalar t = true) : fpT η t = [] ∧ stT U t := by
  cases t <;> simp_all [scalar, fpT, stT]

theorem conc_eqIn {x y : TV} {r : Bool} (h : eqCell x y = some r) : scalar x = true ∧ scalar y = true ∧
    ∀ (d : Nat) (t : TypeId) (w : World), cellsE P (d + 1) t = some [kindT x] → aggT P t = false → ∀ D, (Op.equalIn (D + 1) t (conc x) (conc y)).run P w = .ok r w := by
  unfold eqCell at h
  split at h
  · rename_i k a k' b
    split at h
    · rename_i hk
      subst hk
      simp only [Option.some.injEq] at h
      subst h
      refine ⟨rfl, rfl, fun d t w hc ha D => ?_⟩
      simp only [cellsE, kindT] at hc
      split at hc
      · rename_i hu; exact run_equalIn_int w D t _ _ a b hu
      · simp at hc
      · simp at hc
      · rename_i hu; simp [aggT, hu] at ha
      · cases hc
    · cases h
  · simp only [Option.some.injEq] at h
    subst h
    refine ⟨rfl, rfl, fun d t w hc ha D => ?_⟩
    simp only [cellsE, kindT] at hc
    split at hc
    · simp at hc
    · rename_i hu; exact run_equalIn_bool w D t _ _ hu
    · simp at hc
    · rename_i hu; simp [aggT, hu] at ha
    · cases hc
  · simp only [Option.some.injEq] at h
    subst h
    refine ⟨rfl, rfl, fun d t w hc ha D => ?_⟩
    simp only [cellsE, kindT] at hc
    split at hc
    · simp at hc
    · simp at hc
    · rename_i hu; exact run_equalIn_string w D t _ _ hu
    · rename_i hu; simp [aggT, hu] at ha
    · cases hc
  · cases h

theorem eqCells_len : ∀ {xs ys : List TV} {r : Bool}, eqCells xs ys = some r → xs.length = ys.length
  | [], [], _, _ => rfl
  | [], _ :: _, _, h => by simp [eqCells] at h
  | _ :: _, [], _, h => by simp [eqCells] at h
  | x :: xs, y :: ys, r, h => by
    simp only [eqCells] at h
    split at h
    · rename_i h2; simp [eqCells_len h2]
    · cases h
theorem eqCells_split : ∀ (n : Nat) {xs ys : List TV} {r : Bool}, eqCells xs ys = some r → n ≤ xs.length →
    ∃ r1 r2, eqCells (xs.take n) (ys.take n) = some r1 ∧ eqCells (xs.drop n) (ys.drop n) = some r2 ∧ r = (r1 && r2)
  | 0, xs, ys, r, h, _ => ⟨true, r, by simp [eqCells], by simpa using h, by simp⟩
  | n + 1, [], ys, r, h, hn => by simp at hn
  | n + 1, x :: xs, [], r, h, hn => by simp [eqCells] at h
  | n + 1, x :: xs, y :: ys, r, h, hn => by
    simp only [eqCells] at h
    split at h
    · rename_i a b h1 h2
      cases h
      obtain ⟨r1, r2, e1, e2, rfl⟩ := eqCells_split n h2 (by simpa using hn)
      exact ⟨a && r1, r2, by simp [eqCells, h1, e1], by simpa using e2, by rw [Bool.and_assoc]⟩
    · cases h

/-- A value of a type, by its cells. -/
def wrapC (P : Program) (t : TypeId) (cs : List TV) : Value := if aggT P t then .agg (cs.map conc).toArray else conc (get cs 0)

theorem map_take_drop (xs : List TV) (off n : Nat) : ((xs.map conc).toArray.extract off (off + n)) = (((xs.drop off).take n).map conc).toArray := by
  apply Array.ext'
  simp [List.map_drop, List.map_take, List.take_drop, Nat.add_comm]
  
theorem run_part {t : TypeId} {d : TypeDesc} (hu : P.underlying t = some d) {xs : List TV} {off n : Nat} (hn : n = szT P t) (h1 : aggT P t = false → n = 1) (hl : off + n ≤ xs.length) :
    (part t (xs.map conc).toArray off).run P w = .ok (wrapC P t ((xs.drop off).take n)) w := by
  unfold part wrapC
  rw [Sem.run_bind, run_isAgg hu]
  simp only [Result.andThen_ok]
  cases ha : aggT P t with
  | true =>
    obtain ⟨i, hi⟩ := underlying_info hu
    simp only [if_true, Sem.run_bind, run_sizeOf hi, Result.andThen_ok, Sem.run_pure, hn, map_take_drop]
  | false =>
    have h1' := h1 ha
    subst h1'
    have hlt : off < xs.length := by omega
    simp only [Bool.false_eq_true, if_false]
    have e1 : (xs.map conc).toArray[off]? = some (conc xs[off]) := by simp [hlt]
    have e2 : (xs.drop off).take 1 = [xs[off]] := by
      rw [List.drop_eq_getElem_cons hlt]; rfl
    rw [e1, e2]
    simp [get]

theorem fieldsE_len {rec : TypeId → Option (List Nat)} : ∀ {fs : List Field} {acc n : List Nat}, fieldsE P rec fs acc = some n → ∃ m, n = acc ++ m
  | [], acc, n, h => by simp only [fieldsE, Option.some.injEq] at h; exact ⟨[], by simp [h]⟩
  | f :: fs, acc, n, h => by
    simp only [fieldsE] at h
    split at h
    · cases h
    · split at h
      · split at h
        · obtain ⟨m, hm⟩ := fieldsE_len h
          exact ⟨_, by rw [hm, List.append_assoc]⟩
        · cases h
      · cases h

theorem eqIn_run : ∀ (d : Nat) {t : TypeId} {xs ys : List TV} {r : Bool}, cellsE P d t = some (xs.map kindT) → eqCells xs ys = some r → ∀ D, d ≤ D → ∀ w : World,
    (Op.equalIn D t (wrapC P t xs) (wrapC P t ys)).run P w = .ok r w
  | 0, t, xs, ys, r, h, _, _, _, _ => by simp [cellsE] at h
  | d + 1, t, xs, ys, r, h, he, D, hD, w => by
    obtain ⟨D, rfl⟩ : ∃ D', D = D' + 1 := ⟨D - 1, by omega⟩
    have hl := eqCells_len he
    have one : ∀ m, xs.map kindT = [m] → aggT P t = false → cellsE P (d + 1) t = some [m] → (Op.equalIn (D + 1) t (wrapC P t xs) (wrapC P t ys)).run P w = .ok r w := by
      intro m hm ha hc
      match xs, hl, hm, he, h with
      | [x], hl, hm, he, h =>
        match ys, hl, he with
        | [y], _, he =>
          simp only [eqCells] at he
          split at he
          · rename_i a b h1 h2
            cases he
            cases h2
            have := (conc_eqIn (P := P) h1).2.2 d t w (by simp at hm; rw [hm]; exact hc) ha D
            simpa [wrapC, ha, get] using this
          · cases he
    have h' := h
    simp only [cellsE] at h
    split at h
    · rename_i hu; exact one 0 (by simpa using (Option.some.inj h).symm) (by simp [aggT, hu]) (by rw [h']; exact congrArg some (by simpa using (Option.some.inj h).symm))
    · rename_i hu; exact one 1 (by simpa using (Option.some.inj h).symm) (by simp [aggT, hu]) (by rw [h']; exact congrArg some (by simpa using (Option.some.inj h).symm))
    · rename_i hu; exact one 2 (by simpa using (Option.some.inj h).symm) (by simp [aggT, hu]) (by rw [h']; exact congrArg some (by simpa using (Option.some.inj h).symm))
    · rename_i fs hu
      split at h
      · cases h
      · rename_i hs
        have hfo : P.fieldsOf t = fs := by simp [Program.fieldsOf, hu]
        have ha : aggT P t = true := by simp [aggT, hu]
        have hw : ∀ zs, wrapC P t zs = .agg (zs.map conc).toArray := fun zs => by simp [wrapC, ha]
        rw [hw, hw, run_equalIn_struct (P := P) w D t _ _ (by rw [hfo]; exact hu) (by simpa using hs), hfo]
        have key : ∀ (fs : List Field) (acc : List Nat) (r : Bool), fieldsE P (cellsE P d) fs acc = some (xs.map kindT) → acc.length ≤ xs.length → eqCells (xs.drop acc.length) (ys.drop acc.length) = some r →
            (Op.eqFields D (xs.map conc).toArray (ys.map conc).toArray fs).run P w = .ok r w := by
          intro fs
          induction fs with
          | nil =>
            intro acc r hf _ hr
            simp only [fieldsE, Option.some.injEq] at hf
            have : acc.length = xs.length := by rw [hf]; simp
            rw [this, List.drop_length, hl, List.drop_length] at hr
            simp only [eqCells, Option.some.injEq] at hr
            subst hr
            rfl
          | cons f fs ih =>
            intro acc r hf hacc hr
            simp only [fieldsE] at hf
            split at hf
            · cases hf
            · rename_i hne
              simp only [Bool.or_eq_true, beq_iff_eq, bne_iff_ne, ne_eq, not_or, Decidable.not_not] at hne
              split at hf
              · rename_i n hn
                split at hf
                · rename_i hsz
                  obtain ⟨m, hm⟩ := fieldsE_len hf
                  have hxl : xs.length = acc.length + n.length + m.length := by
                    have := congrArg List.length hm
                    simp at this
                    omega
                  obtain ⟨r1, r2, e1, e2, rfl⟩ := eqCells_split n.length hr (by simp; omega)
                  have hkind : ((xs.drop acc.length).take n.length).map kindT = n := by
                    rw [List.map_take, List.map_drop, hm]
                    simp
                  have hsz' : n.length = szT P f.type := by simpa using hsz
                  cases hd : d with
                  | zero => rw [hd] at hn; simp [cellsE] at hn
                  | succ d' =>
                  have hfu : ∃ df, P.underlying f.type = some df ∧ (aggT P f.type = false → n.length = 1) := by
                    rw [hd] at hn
                    simp only [cellsE] at hn
                    split at hn
                    · rename_i hu; exact ⟨_, hu, fun _ => by cases hn; rfl⟩
                    · rename_i hu; exact ⟨_, hu, fun _ => by cases hn; rfl⟩
                    · rename_i hu; exact ⟨_, hu, fun _ => by cases hn; rfl⟩
                    · rename_i hu; exact ⟨_, hu, fun h => by simp [aggT, hu] at h⟩
                    · cases hn
                  obtain ⟨df, hfu, h1⟩ := hfu
                  have p1 := run_part (w := w) (xs := xs) (off := acc.length) hfu hsz' h1 (by omega)
                  have p2 := run_part (w := w) (xs := ys) (off := acc.length) hfu hsz' h1 (by omega)
                  have e := eqIn_run d (t := f.type) (by rw [hkind]; exact hn) e1 D (by omega) w
                  have ih' := ih (acc ++ n) r2 hf (by simp; omega) (by rw [List.length_append, ← List.drop_drop, ← List.drop_drop]; exact e2)
                  rw [Op.eqFields, if_pos hne.1]
                  simp only [Sem.run_bind, hne.2, p1, p2, Result.andThen_ok, e]
                  cases r1
                  · simp
                  · simpa using ih'
                · cases hf
              · cases hf
        exact key fs.toList [] r h (Nat.zero_le _) (by simpa using he)
    · cases h

/-- Two scalars under an operator: what comes of it. -/
theorem bin_run {op : BinOp} {x y t : TV} (h : bin op x y = some t) (xT : TypeId) (X Y : Operand) (w : World)
    (hx : scalar x = true) (hb : ∀ b, x = .bool b → eqOk P xT [.bool b] = true ∧ aggT P xT = false) :
    scalar t = true ∧ scalar y = true ∧ (do eqGuard op xT X Y (conc x) (conc y); binOp op xT (conc x) (conc y) : Sem Value).run P w = .ok (conc t) w := by
  unfold bin at h
  split at h
  · split at h
    · cases h
    · rename_i hb'; cases h
      exact ⟨rfl, rfl, by simp [eqGuard, binOp, Op.shift, hb', conc]⟩
  · split at h
    · cases h
    · rename_i hb'; cases h
      exact ⟨rfl, rfl, by simp [eqGuard, binOp, Op.shift, hb', conc]⟩
  · split at h
    · rename_i k a' k' b' n1 n2 hk
      subst hk
      cases op <;> simp only [intBin] at h
      all_goals (try (exact absurd rfl (n1 _ _ _ _ rfl rfl)))
      all_goals (try (exact absurd rfl (n2 _ _ _ _ rfl rfl)))
      all_goals (try (split at h <;> try cases h))
      all_goals (try cases h)
      all_goals (refine ⟨rfl, rfl, ?_⟩)
      all_goals simp_all [eqGuard, binOp, Op.intArith, Op.intBits, Op.intCmp, Op.intDiv, conc]
    · cases h
  · cases op <;> simp only [strBin] at h
    all_goals (try (split at h <;> try cases h))
    all_goals (try cases h)
    all_goals (refine ⟨rfl, rfl, ?_⟩)
    all_goals (try (simp_all [eqGuard, binOp, Op.stringOp, conc]; done))
    rename_i hle
    simp_all [eqGuard, binOp, Op.stringOp, conc, IntKind.max, IntKind.signed, IntKind.bits]
    omega
  · cases h
    rename_i a b
    obtain ⟨h1, h2⟩ := hb _ rfl
    refine ⟨rfl, rfl, ?_⟩
    have e := eqIn_run (P := P) 6 (t := xT) (xs := [.bool a]) (ys := [.bool b]) (r := (a == b)) (by simpa [eqOk] using h1) (by simp [eqCells, eqCell]) 10000 (by omega) w
    simp only [wrapC, h2, get, Bool.false_eq_true, if_false, conc] at e
    simp [eqGuard, binOp, Op.equal, Op.maxDepth, conc, e]
  · cases h
    rename_i a b
    obtain ⟨h1, h2⟩ := hb _ rfl
    refine ⟨rfl, rfl, ?_⟩
    have e := eqIn_run (P := P) 6 (t := xT) (xs := [.bool a]) (ys := [.bool b]) (r := (a == b)) (by simpa [eqOk] using h1) (by simp [eqCells, eqCell]) 10000 (by omega) w
    simp only [wrapC, h2, get, Bool.false_eq_true, if_false, conc] at e
    simp [eqGuard, binOp, Op.equal, Op.maxDepth, conc, e]
  · cases hx
  · cases hx
  · cases h

theorem eqCell_scalar {x y : TV} {r : Bool} (h : eqCell x y = some r) : scalar x = true ∧ scalar y = true := by
  unfold eqCell at h
  split at h <;> first | exact ⟨rfl, rfl⟩ | cases h
theorem eqCells_scalar : ∀ {xs ys : List TV} {r : Bool}, eqCells xs ys = some r → xs.all scalar = true ∧ ys.all scalar = true
  | [], [], _, _ => by simp
  | [], _ :: _, _, h => by simp [eqCells] at h
  | _ :: _, [], _, h => by simp [eqCells] at h
  | x :: xs, y :: ys, r, h => by
    simp only [eqCells] at h
    split at h
    · rename_i h1 h2
      have := eqCells_scalar h2
      have h3 := eqCell_scalar h1
      simp [this, h3.1, h3.2]
    · cases h
theorem concs_rep {I : Nat → Prop} : ∀ {xs : List TV} {vs : List Value}, xs.all scalar = true → RepCells η I w xs vs → vs = xs.map conc
  | [], vs, _, h => by simpa [RepCells] using h
  | x :: xs, vs, hx, h => by
    simp only [List.all_cons, Bool.and_eq_true] at hx
    simp only [RepCells] at h
    obtain ⟨v, us, rfl, _, h1, h2⟩ := h
    rw [conc_rep hx.1 h1, concs_rep hx.2 h2]; rfl
theorem bin_agg {op : BinOp} {xs : List TV} {y t : TV} (h : bin op (.agg xs) y = some t) (xT : TypeId) (X Y : Operand) {I : Nat → Prop} {vx vy : Value} (hx : Rep η I w (.agg xs) vx) (hy : Rep η I w y vy)
    (h1 : eqOk P xT xs = true) (h2 : aggT P xT = true) (h3 : P.eqGuardType P.depth xT = false) :
    scalar t = true ∧ (do eqGuard op xT X Y vx vy; binOp op xT vx vy : Sem Value).run P w = .ok (conc t) w := by
  have go : ∀ ys r, eqCells xs ys = some r → y = .agg ys → (Op.equalIn 10000 xT vx vy).run P w = .ok r w ∧ (∃ a b, vx = .agg a ∧ vy = .agg b) := by
    intro ys r he hys
    subst hys
    have hs := eqCells_scalar he
    simp only [Rep] at hx hy
    obtain ⟨a, rfl, ha⟩ := hx
    obtain ⟨b, rfl, hb⟩ := hy
    have e := eqIn_run (P := P) 6 (t := xT) (by simpa [eqOk] using h1) he 10000 (by omega) w
    simp only [wrapC, h2, if_true] at e
    have ea : a = (xs.map conc).toArray := Array.ext' (by simpa using concs_rep hs.1 ha)
    have eb : b = (ys.map conc).toArray := Array.ext' (by simpa using concs_rep hs.2 hb)
    exact ⟨by rw [ea, eb]; exact e, a, b, rfl, rfl⟩
  cases y with
  | agg ys =>
    cases op <;> simp only [bin, Option.map_eq_some_iff, reduceCtorEq] at h
    · obtain ⟨r, hr, rfl⟩ := h
      obtain ⟨e, a, b, rfl, rfl⟩ := go ys r hr rfl
      refine ⟨rfl, ?_⟩
      simp only [Sem.run_bind, run_eqGuard_agg w _ _ _ _ _ _ h3, Result.andThen_ok, run_eql_struct, e, conc]
    · obtain ⟨r, hr, rfl⟩ := h
      obtain ⟨e, a, b, rfl, rfl⟩ := go ys r hr rfl
      refine ⟨rfl, ?_⟩
      simp only [Sem.run_bind, run_eqGuard_agg w _ _ _ _ _ _ h3, Result.andThen_ok, run_neq_struct, e, conc]
  | _ => cases op <;> simp [bin] at h
end
end Go.Vm
