/- A part of the proof: SDef. -/
import Derived.Test.YtgfpbhbogfabmaaVm30
set_option linter.unusedVariables false
set_option linter.unusedSimpArgs false
set_option linter.unnecessarySimpa false
set_option linter.unusedSectionVars false
namespace Go.Proofs.Ytgfpbhbogfabmaa
open Go Go.Vm Go.Proofs
structure Val where
  n : Int
  flag : Bool
  text : ByteArray
  ref : Int
  deriving DecidableEq
structure CellR where
  id : Int
  field : Int
  v : Val
  deriving DecidableEq
structure AltR where
  stamp : Int
  v : Val
  deriving DecidableEq
structure SlotR where
  id : Int
  field : Int
  alts : List AltR
  deriving DecidableEq
structure MarkR where
  id : Int
  field : Int
  stamp : Int
  deriving DecidableEq
instance : Inhabited Val := ⟨⟨0, false, ⟨#[]⟩, 0⟩⟩
instance : Inhabited CellR := ⟨⟨0, 0, default⟩⟩
instance : Inhabited AltR := ⟨⟨0, default⟩⟩
instance : Inhabited SlotR := ⟨⟨0, 0, []⟩⟩
instance : Inhabited MarkR := ⟨⟨0, 0, 0⟩⟩
def Val.row (c : Val) : List TV := [.int .i64 c.n, .bool c.flag, .str c.text, .int .i64 c.ref]
def CellR.row (c : CellR) : List TV := [.int .i64 c.id, .int .i64 c.field, .int .i64 c.v.n, .bool c.v.flag, .str c.v.text, .int .i64 c.v.ref]
def AltR.row (c : AltR) : List TV := [.int .i64 c.stamp, .int .i64 c.v.n, .bool c.v.flag, .str c.v.text, .int .i64 c.v.ref]
def SlotR.row (c : SlotR) : List TV := [.int .i64 c.id, .int .i64 c.field, .sl 5 (c.alts.map AltR.row)]
def MarkR.row (c : MarkR) : List TV := [.int .i64 c.id, .int .i64 c.field, .int .i64 c.stamp]
def begunS (n : Int) : Bool := decide (1 ≤ n.fdiv (2 ^ 20)) && decide (n.fdiv (2 ^ 20) ≤ 32)
def idS (n : Int) : Bool := begunS n && (IntKind.wrap .i64 (↑(BitVec.toNat (BitVec.ofInt 64 n &&& BitVec.ofInt 64 1048575)) : Int) != 0)
def ordP (a b c d : Int) : Int := if a ≠ c then (if a < c then -1 else 1) else if b < d then -1 else if b > d then 1 else 0
def fieldS (n : Int) : Bool := decide (1 ≤ n ∧ n ≤ 4) || decide (8 ≤ n ∧ n < 48)
/-- An alternative at a place is as it must be. -/
def altOk (l : List AltR) (i : Nat) : Bool := idS (l.getD i default).stamp && (i == 0 || decide ((l.getD (i - 1) default).stamp < (l.getD i default).stamp))
def slotOk (l : List SlotR) (i : Nat) : Bool :=
  idS (l.getD i default).id && fieldS (l.getD i default).field && decide ((l.getD i default).alts.length ≠ 0) &&
  (i == 0 || decide (ordP (l.getD (i - 1) default).id (l.getD (i - 1) default).field (l.getD i default).id (l.getD i default).field < 0)) &&
  allTo (altOk (l.getD i default).alts) (l.getD i default).alts.length
def stateS (l : List SlotR) : Bool := allTo (slotOk l) l.length
def smallGo : List SlotR → Int → Bool
  | [], n => decide (n ≤ 200)
  | s :: l, n => if n ≤ 200 then smallGo l (IntKind.wrap .i64 (n + s.alts.length)) else false
def smallS (l : List SlotR) : Bool := smallGo l l.length
/-! ### Made states -/
def modS (x n : Int) : Int := if n < 1 then 0 else x % n
def idN (x n : Int) : Int := (1 + modS x 3) * 1048576 + 1 + modS (IntKind.wrap .i64 (x.tdiv 3)) n
def fieldN (x : Int) : Int := if x % 5 = 0 then 1 else if x % 5 = 1 then 2 else if x % 5 = 2 then 3 else if x % 5 = 3 then 4 else 8 + modS (IntKind.wrap .i64 (x.tdiv 5)) 3
def valN (id field stamp : Int) : Val := ⟨modS stamp 4, modS (IntKind.wrap .i64 (id + stamp)) 3 == 0, ⟨#[]⟩, IntKind.wrap .i64 (modS (IntKind.wrap .i64 (field * stamp)) 2 * id)⟩
/-- The slots ahead of a register. -/
def placeS (l : List SlotR) (id field : Int) : Nat := (l.takeWhile fun s => decide (ordP s.id s.field id field < 0)).length
def foundS (l : List SlotR) (id field : Int) : Bool := decide (placeS l id field < l.length) && decide ((l.getD (placeS l id field) default).id = id) && decide ((l.getD (placeS l id field) default).field = field)
def altsS (l : List SlotR) (id field : Int) : List AltR := if foundS l id field = true then (l.getD (placeS l id field) default).alts else []
def setS (l : List SlotR) (id field : Int) (al : List AltR) : List SlotR :=
  l.take (placeS l id field) ++ (if al.length ≠ 0 then [⟨id, field, al⟩] else []) ++ l.drop (if foundS l id field = true then placeS l id field + 1 else placeS l id field)
def altPlace (l : List AltR) (n : Int) : Nat := (l.takeWhile fun a => decide (a.stamp < n)).length
def markS (l : List SlotR) (m : MarkR) : List SlotR :=
  let id := idN m.id 3; let field := fieldN m.field; let n := idN m.stamp 4
  let old := altsS l id field; let k := altPlace old n
  if k < old.length ∧ (old.getD k default).stamp = n then l else setS l id field (old.take k ++ [⟨n, valN id field n⟩] ++ old.drop k)
def stateGo : List MarkR → List SlotR → List SlotR
  | [], s => s
  | m :: l, s => stateGo l (markS s m)
def stateOf (l : List MarkR) : List SlotR := stateGo (l.take 40) []
/-! ### Ascending lists with keys -/
def ltS (a b : SlotR) : Prop := ordP a.id a.field b.id b.field < 0
def ltC (a b : CellR) : Prop := ordP a.id a.field b.id b.field < 0
theorem ordP_lt (a b c d : Int) : ordP a b c d < 0 ↔ a < c ∨ a = c ∧ b < d := by
  unfold ordP; repeat' split
  all_goals omega
theorem ordP_eq (a b c d : Int) : ordP a b c d = 0 ↔ a = c ∧ b = d := by
  unfold ordP; repeat' split
  all_goals omega
theorem ordP_gt (a b c d : Int) : 0 < ordP a b c d ↔ c < a ∨ a = c ∧ d < b := by
  unfold ordP; repeat' split
  all_goals omega
/-- The alternatives of a register. -/
def getK (l : List SlotR) (id field : Int) : Option (List AltR) := (l.find? fun s => decide (s.id = id ∧ s.field = field)).map SlotR.alts
def wrK (w : List CellR) (id field : Int) : Option Val := (w.find? fun s => decide (s.id = id ∧ s.field = field)).map CellR.v
/-- A write takes its place among ascending ones; an elder one of its register goes. -/
def putC : List CellR → CellR → List CellR
  | [], c => [c]
  | d :: l, c => if ordP d.id d.field c.id c.field < 0 then d :: putC l c else if d.id = c.id ∧ d.field = c.field then c :: l else c :: d :: l
def lastS (w : List CellR) : List CellR := w.foldl putC []
def oneS (n : Int) (c : CellR) : SlotR := ⟨c.id, c.field, [⟨n, c.v⟩]⟩
def applyS (n : Int) : List SlotR → List CellR → List SlotR
  | l, [] => l
  | [], c :: w => oneS n c :: applyS n [] w
  | s :: l, c :: w =>
    if ordP c.id c.field s.id s.field < 0 then oneS n c :: applyS n (s :: l) w
    else if c.id = s.id ∧ c.field = s.field then oneS n c :: applyS n l w
    else s :: applyS n l (c :: w)
  termination_by l w => l.length + w.length
theorem getK_none {l : List SlotR} {id field : Int} (h : ∀ s ∈ l, ¬ (s.id = id ∧ s.field = field)) : getK l id field = none := by
  have : (l.find? fun s => decide (s.id = id ∧ s.field = field)) = none := by
    rw [List.find?_eq_none]; intro s hs; simpa using h s hs
  rw [getK, this]; rfl
theorem getK_cons (s : SlotR) (l : List SlotR) (id field : Int) : getK (s :: l) id field = if s.id = id ∧ s.field = field then some s.alts else getK l id field := by
  by_cases h : s.id = id ∧ s.field = field
  · simp [getK, h]
  · simp only [getK, List.find?_cons]
    have : decide (s.id = id ∧ s.field = field) = false := by simpa using h
    rw [this, if_neg h]
theorem wrK_cons (s : CellR) (l : List CellR) (id field : Int) : wrK (s :: l) id field = if s.id = id ∧ s.field = field then some s.v else wrK l id field := by
  by_cases h : s.id = id ∧ s.field = field
  · simp [wrK, h]
  · simp only [wrK, List.find?_cons]
    have : decide (s.id = id ∧ s.field = field) = false := by simpa using h
    rw [this, if_neg h]
/-- Two ascending lists with the same alternatives everywhere. -/
theorem asc_ext : ∀ {a b : List SlotR}, a.Pairwise ltS → b.Pairwise ltS → (∀ id field, getK a id field = getK b id field) → a = b
  | [], [], _, _, _ => rfl
  | [], s :: b, _, _, h => by
    have := h s.id s.field
    rw [getK_cons] at this; simp [getK] at this
  | s :: a, [], _, _, h => by
    have := h s.id s.field
    rw [getK_cons] at this; simp [getK] at this
  | s :: a, t :: b, ha, hb, h => by
    rw [List.pairwise_cons] at ha hb
    have key : s.id = t.id ∧ s.field = t.field := by
      have h1 := h s.id s.field
      have h2 := h t.id t.field
      simp only [getK_cons, and_self, if_true] at h1 h2
      by_cases hk : s.id = t.id ∧ s.field = t.field
      · exact hk
      · exfalso
        rw [if_neg (by rintro ⟨e1, e2⟩; exact hk ⟨e1.symm, e2.symm⟩)] at h1
        rw [if_neg hk] at h2
        have g1 : ∃ x ∈ b, x.id = s.id ∧ x.field = s.field := by
          refine Classical.byContradiction fun hn => ?_
          rw [getK_none (l := b) (fun x hx hk => hn ⟨x, hx, hk⟩)] at h1; cases h1
        have g2 : ∃ x ∈ a, x.id = t.id ∧ x.field = t.field := by
          refine Classical.byContradiction fun hn => ?_
          rw [getK_none (l := a) (fun x hx hk => hn ⟨x, hx, hk⟩)] at h2; cases h2
        obtain ⟨x, hx, e1, e2⟩ := g1
        obtain ⟨y, hy, e3, e4⟩ := g2
        have i1 := hb.1 x hx
        have i2 := ha.1 y hy
        unfold ltS at i1 i2
        rw [ordP_lt] at i1 i2
        omega
    have h1 := h s.id s.field
    simp only [getK_cons, and_self, if_true] at h1
    rw [if_pos ⟨key.1.symm, key.2.symm⟩] at h1
    have he : s = t := by
      cases s; cases t; simp only at key h1; simp only [Option.some.injEq] at h1
      rw [key.1, key.2, h1]
    subst he
    congr 1
    refine asc_ext ha.2 hb.2 fun id field => ?_
    have h2 := h id field
    rw [getK_cons, getK_cons] at h2
    split at h2
    · rename_i hk
      have n1 : ∀ x ∈ a, ¬ (x.id = id ∧ x.field = field) := fun x hx hx2 => by have := ha.1 x hx; unfold ltS at this; rw [ordP_lt] at this; omega
      have n2 : ∀ x ∈ b, ¬ (x.id = id ∧ x.field = field) := fun x hx hx2 => by have := hb.1 x hx; unfold ltS at this; rw [ordP_lt] at this; omega
      rw [getK_none n1, getK_none n2]
    · exact h2
end Go.Proofs.Ytgfpbhbogfabmaa
