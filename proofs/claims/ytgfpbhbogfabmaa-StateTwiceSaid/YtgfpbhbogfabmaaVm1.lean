/- A deterministic evaluator of the model's Code over values without memory: its definitions. -/
import Derived.Below
set_option linter.unusedVariables false
set_option linter.unusedSimpArgs false
set_option linter.unnecessarySimpa false
set_option linter.unusedSectionVars false
namespace Go.Vm

abbrev Stamp := Nat × Nat

/-- What is known of a temporary, a cell, a result. -/
inductive TV where
  | undef
  | int (k : IntKind) (n : Int)
  | bool (b : Bool)
  | str (s : ByteArray)
  | nil (z : Nat)
  | sl (z : Nat) (xs : List (List TV))
  | own (g : Stamp) (e z : Nat) (xs : List (List TV))
  | bor (p c : Nat) (g : Stamp) (e z off len : Nat)
  | elt (p c : Nat) (g : Stamp) (e z i j : Nat)
  | selt (row : List TV) (j : Nat)
  | box (g : Stamp) (cs : List TV)
  | ref (p : Nat) (g : Stamp) (off : Nat)
  | agg (cs : List TV)
  | tup (vs : List TV)
  | fn (f : Nat) (caps : List TV)
  deriving Inhabited

def get : List TV → Nat → TV
  | [], _ => .undef
  | t :: _, 0 => t
  | _ :: s, i + 1 => get s i

def put : List TV → Nat → TV → List TV
  | [], 0, v => [v]
  | [], i + 1, v => .undef :: put [] i v
  | _ :: s, 0, v => v :: s
  | t :: s, i + 1, v => t :: put s i v

theorem get_put (s : List TV) (i j : Nat) (v : TV) : get (put s i v) j = if i = j then v else get s j := by
  induction s generalizing i j with
  | nil =>
    induction i generalizing j with
    | zero => cases j <;> simp [put, get]
    | succ i ih => cases j <;> simp [put, get, ih]
  | cons t s ih =>
    cases i <;> cases j <;> simp [put, get, ih]

theorem put_comm (s : List TV) (i j : Nat) (u v : TV) (h : i ≠ j) : put (put s i u) j v = put (put s j v) i u := by
  induction s generalizing i j with
  | nil =>
    induction i generalizing j with
    | zero => cases j with
      | zero => exact absurd rfl h
      | succ j => simp [put]
    | succ i ih => cases j with
      | zero => simp [put]
      | succ j => simp [put, ih j (by omega)]
  | cons t s ih =>
    cases i <;> cases j <;> simp_all [put]

/-- A computation that looks into some slots. -/
inductive LK (α : Type) where
  | ret (a : α)
  | look (i : Nat) (k : TV → LK α)
  | ite (c : Bool) (a b : LK α)
  | optR (o : Option (List TV)) (k : List TV → LK α)
  | optT (o : Option TV) (k : TV → LK α)
  | fail

namespace LK
def bind {α β : Type} : LK α → (α → LK β) → LK β
  | .ret a, f => f a
  | .look i k, f => .look i fun t => (k t).bind f
  | .ite c a b, f => .ite c (a.bind f) (b.bind f)
  | .optR o k, f => .optR o fun r => (k r).bind f
  | .optT o k, f => .optT o fun r => (k r).bind f
  | .fail, _ => .fail
def eval {α : Type} (s : List TV) : LK α → Option α
  | .ret a => some a
  | .look i k => (k (get s i)).eval s
  | .ite c a b => if c then a.eval s else b.eval s
  | .optR o k => match o with
    | some r => (k r).eval s
    | none => none
  | .optT o k => match o with
    | some r => (k r).eval s
    | none => none
  | .fail => none
def log {α : Type} (s : List TV) : LK α → List Nat
  | .ret _ => []
  | .look i k => i :: (k (get s i)).log s
  | .ite c a b => if c then a.log s else b.log s
  | .optR o k => match o with
    | some r => (k r).log s
    | none => []
  | .optT o k => match o with
    | some r => (k r).log s
    | none => []
  | .fail => []
def ofOption {α : Type} : Option α → LK α
  | some a => .ret a
  | none => .fail
def guard (b : Bool) : LK Unit := .ite b (.ret ()) .fail
/-- What the form decides. -/
def sure (b : Bool) : LK Unit := if b then .ret () else .fail
def cond {α : Type} (c : Prop) [Decidable c] (a b : LK α) : LK α := .ite (decide c) a b
end LK
instance : Monad LK where
  pure := LK.ret
  bind := LK.bind

/-- What an operation does to slots beside writing its own. -/
inductive Cmd where
  | frz (p : Nat)
  | kill (p c : Nat)
  | set (p : Nat) (t : TV)

def frzT : TV → TV
  | .own _ _ z xs => .sl z xs
  | t => t
/-- A slot's content with all its slices frozen. -/
def frzS : TV → TV
  | .box g cs => .box g (cs.map frzT)
  | .agg cs => .agg (cs.map frzT)
  | .tup cs => .tup (cs.map frzT)
  | t => frzT t
def modNth (f : TV → TV) : List TV → Nat → List TV
  | [], _ => []
  | t :: ts, 0 => f t :: ts
  | t :: ts, i + 1 => t :: modNth f ts i
/-- A turn of place c of a slot's content. -/
def modPlace (f : TV → TV) (c : Nat) : TV → TV
  | .box g cs => .box g (modNth f cs c)
  | .agg cs => .agg (modNth f cs c)
  | .tup cs => .tup (modNth f cs c)
  | t => f t
def Cmd.slot : Cmd → Nat
  | .frz p | .kill p _ | .set p _ => p
def Cmd.app (s : List TV) : Cmd → List TV
  | .frz p => put s p (frzS (get s p))
  | .kill p c => put s p (modPlace (fun _ => .undef) c (get s p))
  | .set p t => put s p t

section types
variable (P : Program)
def szT (t : TypeId) : Nat := ((P.info? t).map (·.size)).getD 0
def bytesT (t : TypeId) : Nat := ((P.info? t).map (·.bytes)).getD 0
def aggT (t : TypeId) : Bool := match P.underlying t with | some (.struct _) | some (.array _ _) => true | _ => false
def elemT (t : TypeId) : Option TypeId := match P.underlying t with | some (.slice e) => some e | _ => none
def intT (t : TypeId) : Option IntKind := match P.underlying t with | some (.int k) => some k | _ => none
def strT (t : TypeId) : Bool := match P.underlying t with | some .string => true | _ => false
/-- A type that is there, and has cells. -/
def okT (t : TypeId) : Bool := (P.underlying t).isSome && szT P t != 0 && (aggT P t || szT P t == 1)
/-- The place of a field among the cells, and its type. -/
def fieldT (t : TypeId) (f : Nat) : Option (Nat × TypeId) := match P.underlying t with | some (.struct fs) => (fs[f]?).map fun x => (x.offset, x.type) | _ => none
end types

/-- The kinds of the cells of a type whose values are compared cell by cell. -/
def fieldsE (P : Program) (rec : TypeId → Option (List Nat)) : List Field → List Nat → Option (List Nat)
  | [], acc => some acc
  | f :: fs, acc => if f.name == "_" || f.offset != acc.length then none else match rec f.type with
    | some n => if n.length == szT P f.type then fieldsE P rec fs (acc ++ n) else none
    | none => none
def cellsE (P : Program) : Nat → TypeId → Option (List Nat)
  | 0, _ => none
  | d + 1, t => match P.underlying t with
    | some (.int _) => some [0]
    | some .bool => some [1]
    | some .string => some [2]
    | some (.struct fs) => if P.stoodInHeld t then none else fieldsE P (cellsE P d) fs.toList []
    | _ => none
def kindT : TV → Nat
  | .int .. => 0
  | .bool _ => 1
  | .str _ => 2
  | _ => 3
def eqOk (P : Program) (t : TypeId) (cs : List TV) : Bool := cellsE P 6 t == some (cs.map kindT)

/-- A constant. -/
def ofConst : Value → Option TV
  | .int k n => some (.int k n)
  | .bool b => some (.bool b)
  | .string s => some (.str s)
  | .slice none 0 0 => some (.nil 0)
  | _ => none
/-- The cells of a type's zero value, by its form. -/
def zeroOf (P : Program) : Nat → TypeId → Option (List TV)
  | 0, _ => none
  | d + 1, t => match P.underlying t with
    | some (.int k) => some [.int k 0]
    | some .bool => some [.bool false]
    | some .string => some [.str ⟨#[]⟩]
    | some (.slice e) => some [.nil (szT P e)]
    | some (.struct fs) => (fs.toList.mapM fun f => zeroOf P d f.type).map List.flatten
    | _ => none
def isZero : List TV → List Value → Bool
  | [], [] => true
  | .int k n :: ts, .int k' m :: vs => k == k' && n == m && isZero ts vs
  | .bool a :: ts, .bool b :: vs => a == b && isZero ts vs
  | .str a :: ts, .string b :: vs => a.data.toList == b.data.toList && isZero ts vs
  | .nil _ :: ts, .slice none 0 0 :: vs => isZero ts vs
  | _, _ => false
/-- The cells of a type's zero value. -/
def zeroT (P : Program) (t : TypeId) : Option (List TV) :=
  match zeroOf P 8 t, (P.info? t).bind (·.zero) with
  | some cs, some v => if isZero cs v.cells.toList && cs.length == szT P t then some cs else none
  | _, _ => none

def rowsOf (s : ByteArray) : List (List TV) := s.data.toList.map fun b => [.int .u8 b.toNat]
def bytesOf? : List (List TV) → Option (List UInt8)
  | [] => some []
  | [.int .u8 n] :: r => (bytesOf? r).map (UInt8.ofNat n.toNat :: ·)
  | _ => none

/-- A slot's content as it is read: what it owns is borrowed. -/
def borT (p c : Nat) : TV → TV
  | .own g e z xs => .bor p c g e z 0 xs.length
  | .box .. | .agg _ | .tup _ => .undef
  | t => t
def borsFrom (p : Nat) : Nat → List TV → List TV
  | _, [] => []
  | c, t :: ts => borT p c t :: borsFrom p (c + 1) ts
def view (p : Nat) : TV → TV
  | .own g e z xs => .bor p 0 g e z 0 xs.length
  | .box g _ => .ref p g 0
  | .agg cs => .agg (borsFrom p 0 cs)
  | .tup cs => .tup (borsFrom p 0 cs)
  | t => t

/-- The rows of an owned slice at a place. -/
def ownRows (g : Stamp) (e z : Nat) : TV → LK (List (List TV))
  | .own g' e' z' xs => .cond (g = g' ∧ e = e' ∧ z = z') (.ret xs) .fail
  | _ => .fail
def content (p c : Nat) (g : Stamp) (e z : Nat) : LK (List (List TV)) :=
  .look p fun
    | .box _ cs => ownRows g e z (get cs c)
    | .agg cs => ownRows g e z (get cs c)
    | .tup cs => ownRows g e z (get cs c)
    | t => ownRows g e z t
/-- The same, of a slot that holds it as it is. -/
def contentS (p : Nat) (g : Stamp) (e z : Nat) : LK (List (List TV)) := .look p (ownRows g e z)
def boxCells (p : Nat) (g : Stamp) : LK (List TV) :=
  .look p fun
    | .box g' cs => .cond (g = g') (.ret cs) .fail
    | _ => .fail

section ops

/-- An operand as it is read. -/
def ev : Operand → LK TV
  | .tmp t => .look t fun x => .ret (view t x)
  | .const v => .ofOption (ofConst v)
  | .func f => .ret (.fn f [])
  | .global _ => .fail
/-- An operand, raw. -/
def evRaw : Operand → LK TV
  | .tmp t => .look t .ret
  | x => ev x

/-- A scalar without memory of its own. -/
def pureT : TV → Bool
  | .int .. | .bool _ | .str _ | .sl .. => true
  | _ => false

/-- A value for a cell that stays as it is: what is borrowed is frozen where it lies. -/
def frzOne : TV → LK (TV × List Cmd)
  | .bor p c g e z off len => do
    let xs ← content p c g e z
    pure (.sl z ((xs.drop off).take len), [.frz p])
  | .nil z => pure (.sl z [], [])
  | t => if pureT t then pure (t, []) else .fail
def frzAll : List TV → LK (List TV × List Cmd)
  | [] => pure ([], [])
  | t :: ts => do
    let (t', c) ← frzOne t
    let (ts', cs) ← frzAll ts
    pure (t' :: ts', c ++ cs)
def cellsT : TV → List TV
  | .agg cs => cs
  | t => [t]
/-- A value's cells, frozen. -/
def frzCells (t : TV) : LK (List TV × List Cmd) := frzAll (cellsT t)

/-- A value as an argument. -/
def resOne : TV → LK TV
  | .bor p c g e z off len => do
    let xs ← content p c g e z
    pure (.sl z ((xs.drop off).take len))
  | .nil z => pure (.sl z [])
  | t => if pureT t then pure t else .fail
def resAll : List TV → LK (List TV)
  | [] => pure []
  | t :: ts => do
    let t' ← resOne t
    let ts' ← resAll ts
    pure (t' :: ts')
def resT : TV → LK TV
  | .agg cs => do pure (.agg (← resAll cs))
  | .fn f [] => pure (.fn f [])
  | t => resOne t
def resArgs : List TV → LK (List TV)
  | [] => pure []
  | t :: ts => do
    let t' ← resT t
    let ts' ← resArgs ts
    pure (t' :: ts')

/-- What a variable takes over. 'd': its slot; 'mv': it takes what is borrowed, too. -/
def stealOne (g : Stamp) (d : Option Nat) (mv : Bool) (src : Option Nat) : TV → LK (TV × List Cmd)
  | .own g' e z xs => match src with
    | some t => pure (.own g' e z xs, [.set t .undef])
    | none => .fail
  | .bor p pc g' e z off len =>
    .cond (off = 0 ∧ (mv || d == some p)) (do
      let xs ← content p pc g' e z
      pure (.own g e z (xs.take len), [.kill p pc]))
      (frzOne (.bor p pc g' e z off len))
  | .nil z => pure (.nil z, [])
  | t => frzOne t
def keepOne : TV → LK (TV × List Cmd)
  | .own g e z xs => pure (.own g e z xs, [])
  | .nil z => pure (.nil z, [])
  | t => frzOne t
def keepAll : List TV → LK (List TV × List Cmd)
  | [] => pure ([], [])
  | t :: ts => do
    let (t', k) ← keepOne t
    let (ts', ks) ← keepAll ts
    pure (t' :: ts', k ++ ks)
def owns : TV → Bool
  | .own .. => true
  | _ => false
/-- The cells of a temporary's value, taken over. -/
def stealCells (src : Option Nat) (t : TV) : LK (List TV × List Cmd) := do
  let (cs, k) ← keepAll (cellsT t)
  if (cellsT t).any owns then match src with
    | some x => do
      LK.sure (k.all fun c => c.slot != x)
      pure (cs, .set x .undef :: k)
    | none => .fail
  else pure (cs, k)

/-- The rows that are read of a slice or a string. -/
def srcRows (z : Nat) : TV → LK (List (List TV))
  | .bor p c g e z' off len => if z' = z then do
      let xs ← content p c g e z'
      pure ((xs.drop off).take len)
    else .fail
  | .sl z' xs => if z' = z ∨ xs = [] then pure xs else .fail
  | .nil _ => pure []
  | .str s => if z = 1 then pure (rowsOf s) else .fail
  | _ => .fail

def intV : TV → LK Int
  | .int _ n => pure n
  | _ => .fail
def natIn (n : Int) (hi : Nat) : LK Nat := .cond (0 ≤ n ∧ n ≤ hi) (pure n.toNat) .fail
def bound (hi : Nat) (dflt : Nat) : Option Operand → LK Nat
  | none => pure dflt
  | some x => do natIn (← intV (← ev x)) hi

def cellAt (cs : List TV) (off : Nat) (agg : Bool) (n : Nat) : LK TV :=
  if agg then (if off + n ≤ cs.length then pure (.agg ((cs.drop off).take n)) else .fail)
  else if off < cs.length then pure (get cs off) else .fail

/-- Equality of cells without memory. -/
def eqCell : TV → TV → Option Bool
  | .int k a, .int k' b => if k = k' then some (a == b) else none
  | .bool a, .bool b => some (a == b)
  | .str a, .str b => some (a.toList == b.toList)
  | _, _ => none
def eqCells : List TV → List TV → Option Bool
  | [], [] => some true
  | a :: as, b :: bs => match eqCell a b, eqCells as bs with
    | some x, some y => some (x && y)
    | _, _ => none
  | _, _ => none

def intBin (op : BinOp) (k : IntKind) (a b : Int) : Option TV :=
  match op with
  | .add => some (.int k (k.wrap (a + b)))
  | .sub => some (.int k (k.wrap (a - b)))
  | .mul => some (.int k (k.wrap (a * b)))
  | .quo => if b = 0 then none else some (.int k (k.wrap (a.tdiv b)))
  | .rem => if b = 0 then none else some (.int k (a.tmod b))
  | .and => some (.int k (k.wrap (BitVec.ofInt k.bits a &&& BitVec.ofInt k.bits b).toNat))
  | .or => some (.int k (k.wrap (BitVec.ofInt k.bits a ||| BitVec.ofInt k.bits b).toNat))
  | .xor => some (.int k (k.wrap (BitVec.ofInt k.bits a ^^^ BitVec.ofInt k.bits b).toNat))
  | .andNot => some (.int k (k.wrap (BitVec.ofInt k.bits a &&& ~~~ BitVec.ofInt k.bits b).toNat))
  | .eql => some (.bool (a == b))
  | .neq => some (.bool (a != b))
  | .lss => some (.bool (decide (a < b)))
  | .leq => some (.bool (decide (a ≤ b)))
  | .gtr => some (.bool (decide (a > b)))
  | .geq => some (.bool (decide (a ≥ b)))
  | _ => none

def strBin (op : BinOp) (x y : ByteArray) : Option TV :=
  match op with
  | .add => if x.size + y.size ≤ 281474976710656 then some (.str (x ++ y)) else none
  | .eql => some (.bool (x.toList == y.toList))
  | .neq => some (.bool (!(x.toList == y.toList)))
  | .lss => some (.bool (Op.bytesLess x.toList y.toList))
  | .leq => some (.bool (Op.bytesLess x.toList y.toList || x.toList == y.toList))
  | .gtr => some (.bool (!(Op.bytesLess x.toList y.toList || x.toList == y.toList)))
  | .geq => some (.bool (!Op.bytesLess x.toList y.toList))
  | _ => none

def bin (op : BinOp) (x y : TV) : Option TV :=
  match op, x, y with
  | .shl, .int k a, .int _ b => if b < 0 then none else some (.int k (k.wrap (a * 2 ^ (min b.toNat k.bits))))
  | .shr, .int k a, .int _ b => if b < 0 then none else some (.int k (a.fdiv (2 ^ (min b.toNat k.bits))))
  | op, .int k a, .int k' b => if k = k' then intBin op k a b else none
  | op, .str a, .str b => strBin op a b
  | .eql, .bool a, .bool b => some (.bool (a == b))
  | .neq, .bool a, .bool b => some (.bool (!(a == b)))
  | .eql, .agg a, .agg b => (eqCells a b).map .bool
  | .neq, .agg a, .agg b => (eqCells a b).map fun r => .bool (!r)
  | _, _, _ => none

def un (op : UnOp) (x : TV) : Option TV :=
  match op, x with
  | .not, .bool b => some (.bool (!b))
  | .neg, .int k n => some (.int k (k.wrap (0 - n)))
  | _, _ => none

def conv (P : Program) (g : Stamp) (src dst : TypeId) : TV → Option TV
  | .int _ n => match P.underlying src, P.underlying dst with
    | some (.int _), some (.int k) => some (.int k (k.wrap n))
    | _, _ => none
  | .str s => match P.underlying src, P.underlying dst with
    | some .string, some .string => some (.str s)
    | some .string, some (.slice e) => match P.underlying e with
      | some (.int .u8) => if s.size ≤ 140737488355328 then some (.own g e 1 (rowsOf s)) else none
      | _ => none
    | _, _ => none
  | _ => none

/-- The same, with the questions that depend on values asked. -/
def binK (op : BinOp) (x y : TV) : LK TV :=
  match op, x, y with
  | .shl, .int k a, .int _ b => .ite (decide (b < 0)) .fail (.ret (.int k (k.wrap (a * 2 ^ (min b.toNat k.bits)))))
  | .shr, .int k a, .int _ b => .ite (decide (b < 0)) .fail (.ret (.int k (a.fdiv (2 ^ (min b.toNat k.bits)))))
  | .quo, .int k a, .int k' b => if k = k' then .ite (decide (b = 0)) .fail (.ret (.int k (k.wrap (a.tdiv b)))) else .fail
  | .rem, .int k a, .int k' b => if k = k' then .ite (decide (b = 0)) .fail (.ret (.int k (a.tmod b))) else .fail
  | .add, .str x, .str y => .ite (decide (x.size + y.size ≤ 281474976710656)) (.ret (.str (x ++ y))) .fail
  | op, x, y => LK.ofOption (bin op x y)
def convK (P : Program) (g : Stamp) (src dst : TypeId) (t : TV) : LK TV :=
  match t with
  | .str s => match P.underlying src, P.underlying dst with
    | some .string, some .string => .ret (.str s)
    | some .string, some (.slice e) => match P.underlying e with
      | some (.int .u8) => .ite (decide (s.size ≤ 140737488355328)) (.ret (.own g e 1 (rowsOf s))) .fail
      | _ => .fail
    | _, _ => .fail
  | t => LK.ofOption (conv P g src dst t)
theorem eval_binK (s : List TV) (op : BinOp) (x y : TV) : (binK op x y).eval s = bin op x y := by
  unfold binK
  split
  · rename_i k a k' b
    by_cases h : b < 0 <;> simp [LK.eval, bin, h]
  · rename_i k a k' b
    by_cases h : b < 0 <;> simp [LK.eval, bin, h]
  · rename_i k a k' b
    by_cases h : k = k'
    · subst h
      by_cases h : b = 0 <;> simp [LK.eval, bin, intBin, h]
    · simp [LK.eval, bin, h]
  · rename_i k a k' b
    by_cases h : k = k'
    · subst h
      by_cases h : b = 0 <;> simp [LK.eval, bin, intBin, h]
    · simp [LK.eval, bin, h]
  · rename_i x y
    by_cases h : x.size + y.size ≤ 281474976710656 <;> simp [LK.eval, bin, strBin, h]
  · cases bin op x y <;> rfl
theorem eval_convK (s : List TV) (P : Program) (g : Stamp) (src dst : TypeId) (t : TV) : (convK P g src dst t).eval s = conv P g src dst t := by
  cases t with
  | str u =>
    cases h1 : P.underlying src with
    | none => simp [convK, conv, h1, LK.eval]
    | some a =>
      cases h2 : P.underlying dst with
      | none => simp only [convK, conv, h1, h2]; cases a <;> rfl
      | some b =>
        cases a <;> cases b <;> simp only [convK, conv, h1, h2] <;> try rfl
        rename_i e
        cases h3 : P.underlying e with
        | none => rfl
        | some c =>
          cases c <;> try rfl
          rename_i k
          cases k <;> first | rfl | (by_cases h : u.size ≤ 140737488355328 <;> simp [LK.eval, h])
  | _ => simp only [convK]; generalize conv P g src dst _ = o; cases o <;> rfl
/-- Results as they come in: stamps of their own. -/
def impOne (g : Stamp) : TV → TV
  | .own _ e z xs => .own g e z xs
  | t => t
def impAll (n : Nat) : Nat → List TV → List TV
  | _, [] => []
  | c, t :: ts => impOne (n, c) t :: impAll n (c + 1) ts
def imp (n : Nat) : TV → TV
  | .tup vs => .tup (impAll n 0 vs)
  | t => impOne (n, 0) t
def scalar : TV → Bool
  | .int .. | .bool _ | .str _ => true
  | _ => false
def flatRows (xs : List (List TV)) : Bool := xs.all fun r => r.all scalar
/-- A result that shares no memory with what was there. -/
def freshOne : TV → Bool
  | .own _ _ _ xs => flatRows xs
  | .agg cs => cs.all scalar
  | t => scalar t
def freshR : TV → Bool
  | .tup vs => vs.all freshOne
  | t => freshOne t
/-- The places that the arguments borrow. -/
def lentOne : TV → List Cmd
  | .bor p _ _ _ _ _ len => [.frz p]
  | _ => []
def lent : List TV → List Cmd
  | [] => []
  | .agg cs :: ts => cs.flatMap lentOne ++ lent ts
  | t :: ts => lentOne t ++ lent ts

def maxInt : TV → TV → Option TV
  | .int k x, .int k' y => if k = k' then some (.int k (if y > x then y else x)) else none
  | .str x, .str y => some (.str (if !Op.bytesLess x.toList y.toList then x else y))
  | _, _ => none
def minInt : TV → TV → Option TV
  | .int k x, .int k' y => if k = k' then some (.int k (if y < x then y else x)) else none
  | _, _ => none

/-- Parts of a composite, laid into rows of cells. -/
def layRows : List (Nat × TV) → LK (List (List TV) × List Cmd)
  | [] => pure ([], [])
  | (_, t) :: ps => do
    let (cs, k) ← frzCells t
    let (rows, ks) ← layRows ps
    pure (cs :: rows, k ++ ks)
def evParts : List (Nat × Operand) → LK (List (Nat × TV))
  | [] => pure []
  | (i, x) :: xs => do
    let t ← ev x
    let ts ← evParts xs
    pure ((i, t) :: ts)
def layFields (P : Program) (T : TypeId) : List TV → List (Nat × TV) → Option (List TV)
  | cs, [] => some cs
  | cs, (f, t) :: ps => match fieldT P T f with
    | some (off, ft) => if (cellsT t).length = szT P ft ∧ off + szT P ft ≤ cs.length then layFields P T (cs.take off ++ cellsT t ++ cs.drop (off + szT P ft)) ps else none
    | none => none

def roomy (n bytes : Nat) : Bool := decide (n * bytes ≤ 140737488355328 ∧ n ≤ 140737488355328)

variable (P : Program) (call : FuncId → List TV → Option TV) (rs : List Nat)

/-- Arguments: nil with the type of the parameter. -/
def evArgs (P : Program) : List Operand → List TypeId → LK (List TV)
  | [], _ => pure []
  | x :: xs, ts => do
    let t ← ev x
    let r ← evArgs P xs (ts.drop 1)
    pure ((match t, (ts[0]?).bind (elemT P) with | .nil _, some e => .nil (szT P e) | t, _ => t) :: r)

def callOp (n : Nat) (f : TV) (args : List Operand) (ts : List TypeId) : LK (TV × List Cmd) := do
  let vs ← evArgs P args ts
  let as ← resArgs vs
  match f with
  | .fn f caps => .optT (call f (as ++ caps)) fun r => match lent vs with
    | [] => pure (imp n r, [])
    | k => .ite (freshR r) (pure (imp n r, [])) (pure (imp n r, k))
  | _ => .fail

def builtinOp (n : Nat) (dst : Option Nat) (b : Builtin) (args : List Operand) (argTypes : Array TypeId) : LK (TV × List Cmd) := do
  match b, args with
  | .len, [x] => match ← ev x with
    | .str s => if ((argTypes[0]?).map (strT P)).getD false then pure (.int .i64 s.size, []) else .fail
    | .sl _ xs => if ((argTypes[0]?).bind (elemT P)).isSome then pure (.int .i64 xs.length, []) else .fail
    | .bor _ _ _ _ _ _ len => if ((argTypes[0]?).bind (elemT P)).isSome then pure (.int .i64 len, []) else .fail
    | .nil _ => if ((argTypes[0]?).bind (elemT P)).isSome then pure (.int .i64 0, []) else .fail
    | _ => .fail
  | .append, [s, x] => do
    let e ← LK.ofOption ((argTypes[0]?).bind (elemT P))
    LK.sure (((argTypes[1]?).bind (elemT P)).isSome || ((argTypes[1]?).map (strT P)).getD false)
    let z := szT P e
    LK.sure (decide (0 < z) && ((zeroT P e).map (·.length)) == some z)
    let new ← srcRows z (← ev x)
    match ← ev s with
    | .bor p c g e' z' off len => do
      let xs ← content p c g e' z'
      LK.guard (decide (off = 0 ∧ e' = e ∧ z' = z) && roomy (len + new.length) (bytesT P e))
      pure (.own (n, 0) e z (xs.take len ++ new), [.kill p c])
    | .nil _ => do
      LK.guard (roomy new.length (bytesT P e))
      pure (.own (n, 0) e z new, [])
    | _ => .fail
  | .copy, [d, x] => do
    let e ← LK.ofOption ((argTypes[0]?).bind (elemT P))
    let z := szT P e
    let new ← srcRows z (← ev x)
    match ← ev d with
    | .bor p c g e' z' off len => do
      let xs ← contentS p g e' z'
      LK.guard (decide (c = 0 ∧ e' = e ∧ z' = z) && dst != some p && okT P e)
      let m := min new.length len
      pure (.int .i64 m, [.set p (.own g e' z' (xs.take off ++ new.take m ++ xs.drop (off + m)))])
    | _ => .fail
  | .max, [x, y] => do
    let r ← LK.ofOption (maxInt (← ev x) (← ev y))
    pure (r, [])
  | .min, [x, y] => do
    let r ← LK.ofOption (minInt (← ev x) (← ev y))
    pure (r, [])
  | _, _ => .fail

/-- What is asked of a type whose values are compared. -/
def binGd (P : Program) (T : TypeId) : TV → Bool
  | .agg cs => eqOk P T cs && aggT P T && !P.eqGuardType P.depth T
  | .bool b => eqOk P T [.bool b] && !aggT P T
  | _ => true

def isRes (rs : List Nat) : Option Nat → Bool
  | some d => rs.contains d
  | none => false
def valOk : TV → Bool
  | .undef | .tup _ => false
  | _ => true
def srcOf : Operand → Option Nat
  | .tmp t => some t
  | _ => none
/-- A struct whose fields' types are there. -/
def bldOk (P : Program) (T : TypeId) : Bool := match P.underlying T with
  | some (.struct fs) => fs.toList.all fun f => (P.info? f.type).isSome
  | _ => false
/-- A component that is taken out of a tuple. -/
def exOne (t i : Nat) : TV → LK (TV × List Cmd)
  | .own g e z xs => pure (.own g e z xs, [.kill t i])
  | .agg cs => bif cs.all pureT then pure (.agg cs, []) else pure (.agg cs, [.kill t i])
  | .nil z => pure (.nil z, [])
  | x => if pureT x then pure (x, []) else .fail

/-- One operation: what it yields, and what it does beside. 'n': its stamp; 'rs': the slots of results. -/
def aOp (n : Nat) (o : Oper) : LK (TV × List Cmd) := do
  match o.op with
  | .move x => match ← evRaw x with
    | .tup vs => match x with
      | .tmp t => pure (.tup vs, [.set t .undef])
      | _ => .fail
    | _ => do pure (← ev x, [])
  | .assign x => do
    let src := srcOf x
    match ← evRaw x with
    | .agg cs => do
      let (cs', k) ← stealCells src (.agg cs)
      pure (.agg cs', k)
    | .nil _ => match elemT P o.type with
      | some e => pure (.own (n, 0) e (szT P e) [], [])
      | none => .fail
    | .ref p g off => pure (.ref p g off, [])
    | .fn f [] => pure (.fn f [], [])
    | t => stealOne (n, 0) o.dst (isRes rs o.dst) src t
  | .pick c a b => match ← ev c with
    | .bool t => .ite t (do pure (← ev a, [])) (do pure (← ev b, []))
    | _ => .fail
  | .alloc T => match zeroT P T with
    | some cs => pure (.box (n, 0) cs, [])
    | none => .fail
  | .box T x => do
    let src := srcOf x
    let t ← evRaw x
    let (cs, k) ← stealCells src t
    LK.sure (decide (cs.length = szT P T))
    pure (.box (n, 0) cs, k)
  | .build T parts => do
    LK.sure (bldOk P T)
    let cs ← LK.ofOption (zeroT P T)
    let ps ← evParts parts.toList
    LK.sure (ps.all fun x => valOk x.2)
    match layFields P T cs ps with
    | some cs' => pure (.agg cs', [])
    | none => .fail
  | .buildSlice T len parts => do
    let e ← LK.ofOption (elemT P T)
    let zc ← LK.ofOption (zeroT P e)
    let z := szT P e
    LK.sure (decide (0 < z ∧ zc.length = z ∧ len * z ≤ 16777216) && (parts.toList.map (·.1) == List.range len))
    let ps ← evParts parts.toList
    let (rows, k) ← layRows ps
    LK.sure (rows.all fun r => r.length == z)
    pure (.own (n, 0) e z rows, k)
  | .load T a => do
    LK.sure (okT P T)
    match ← ev a with
    | .ref p g off => do
      let cs ← boxCells p g
      pure (← cellAt (borsFrom p 0 cs) off (aggT P T) (szT P T), [])
    | .elt p c g e z i j => do
      let xs ← content p c g e z
      .optR (xs[i]?) fun row => do pure (← cellAt row j (aggT P T) (szT P T), [])
    | .selt row j => do pure (← cellAt row j (aggT P T) (szT P T), [])
    | _ => .fail
  | .store T a x => do
    LK.sure (okT P T && o.dst.isNone)
    let src := srcOf x
    match ← ev a with
    | .ref p g off => do
      let t ← evRaw x
      let (cs', k) ← stealCells src t
      let cs ← boxCells p g
      LK.sure (decide (cs'.length = szT P T ∧ off + szT P T ≤ cs.length) && k.all (fun c => c.slot != p))
      pure (.tup [], k ++ [.set p (.box g (cs.take off ++ cs' ++ cs.drop (off + szT P T)))])
    | .elt p c g e z i j => do
      let t ← ev x
      let (cs', k) ← frzCells t
      let xs ← contentS p g e z
      .optR (xs[i]?) fun row => do
        LK.sure (decide (c = 0 ∧ cs'.length = szT P T ∧ j + szT P T ≤ row.length) && k.all (fun c => c.slot != p))
        pure (.tup [], k ++ [.set p (.own g e z (xs.set i (row.take j ++ cs' ++ row.drop (j + szT P T))))])
    | _ => .fail
  | .nilCheck x => match ← ev x with
    | .ref p g off => pure (.ref p g off, [])
    | _ => .fail
  | .binOp op T x y _ => do
    let vx ← ev x
    let vy ← ev y
    LK.sure (binGd P T vx)
    let r ← binK op vx vy
    pure (r, [])
  | .unOp op _ x => do
    let r ← LK.ofOption (un op (← ev x))
    pure (r, [])
  | .convert src dst x => match ← ev x with
    | .bor p c g e z off len => match P.underlying src, P.underlying dst with
      | some (.slice e'), some .string => do
        LK.sure (decide (P.underlying e' matches some (.int .u8)) && decide (z = 1))
        let xs ← content p c g e z
        .optT ((bytesOf? ((xs.drop off).take len)).map fun bs => .str ⟨bs.toArray⟩) fun t => pure (t, [])
      | _, _ => .fail
    | t => do
      let r ← convK P (n, 0) src dst t
      pure (r, [])
  | .makeSlice T l c => do
    let e ← LK.ofOption (elemT P T)
    let zc ← LK.ofOption (zeroT P e)
    let z := szT P e
    LK.sure (decide (0 < z ∧ zc.length = z))
    let c' ← natIn (← intV (← ev c)) 140737488355328
    let l' ← natIn (← intV (← ev l)) c'
    LK.guard (roomy c' (bytesT P e))
    let row ← resAll zc
    pure (.own (n, 0) e z (List.replicate l' row), [])
  | .slice T x lo hi mx => do
    LK.sure (mx.isNone || hi.isSome)
    match ← ev x with
    | .str s => do
      LK.sure (strT P T && mx.isNone)
      let h ← bound s.size s.size hi
      let l ← bound h 0 lo
      pure (.str (s.extract l h), [])
    | .sl z xs => do
      LK.sure (match elemT P T with | some e => szT P e == z && okT P e | none => false)
      let m ← bound xs.length xs.length mx
      let h ← bound m xs.length hi
      let l ← bound h 0 lo
      pure (.sl z ((xs.take h).drop l), [])
    | .bor p c g e z off len => do
      LK.sure (elemT P T == some e && szT P e == z && okT P e)
      let m ← bound len len mx
      let h ← bound m len hi
      let l ← bound h 0 lo
      pure (.bor p c g e z (off + l) (h - l), [])
    | _ => .fail
  | .fieldAddr T x f => do
    let (o, ft) ← LK.ofOption (fieldT P T f)
    LK.sure (decide (szT P ft ≠ 0))
    match ← ev x with
    | .ref p g off => pure (.ref p g (off + o), [])
    | .elt p c g e z i j => pure (.elt p c g e z i (j + o), [])
    | .selt row j => pure (.selt row (j + o), [])
    | _ => .fail
  | .field T x f => do
    let (o, ft) ← LK.ofOption (fieldT P T f)
    LK.sure (okT P ft)
    match ← ev x with
    | .agg cs => do pure (← cellAt cs o (aggT P ft) (szT P ft), [])
    | _ => .fail
  | .indexAddr T x ix => do
    let e ← LK.ofOption (elemT P T)
    LK.sure (okT P e)
    let i ← intV (← ev ix)
    match ← ev x with
    | .sl z xs => do
      LK.guard (decide (z = szT P e ∧ 0 ≤ i))
      .optR (xs[i.toNat]?) fun row => pure (.selt row 0, [])
    | .bor p c g e' z off len => do
      LK.guard (decide (z = szT P e ∧ 0 ≤ i ∧ i < len))
      pure (.elt p c g e' z (off + i.toNat) 0, [])
    | _ => .fail
  | .index T x ix => do
    let i ← intV (← ev ix)
    match ← ev x with
    | .str s => do
      LK.sure (strT P T)
      LK.guard (decide (0 ≤ i))
      .optT ((s[i.toNat]?).map fun b => .int .u8 b.toNat) fun t => pure (t, [])
    | _ => .fail
  | .extract x i => match x with
    | .tmp t => .look t fun
      | .tup vs => if i < vs.length then exOne t i (get vs i) else .fail
      | _ => .fail
    | _ => .fail
  | .call c => match c.callee with
    | .builtin b => builtinOp P n o.dst b c.args.toList c.argTypes
    | .value f => do callOp P call n (← ev f) c.args.toList c.argTypes.toList
    | .invoke _ _ => .fail
  | _ => .fail

/-- Is the operation wanted? -/
def wantedK (ops : Array Oper) (o : Oper) : LK Bool :=
  match o.guard with
  | none => .ret true
  | some (j, want) => match (ops[j]?).bind (·.dst) with
    | some d => .look d fun
      | .bool b => .ret (bif want then b else !b)
      | .tup [] => .ret false
      | _ => .fail
    | none => .ret false
def gOp0 (ops : Array Oper) (n : Nat) (o : Oper) : LK (TV × List Cmd) := do
  let b ← wantedK ops o
  .ite b (aOp P call rs n o) (pure (.tup [], []))
def gOp (ops : Array Oper) (n : Nat) (o : Oper) : LK (TV × List Cmd) :=
  match o.guard with
  | none => aOp P call rs n o
  | some _ => gOp0 P call rs ops n o
theorem gOp_eval (ops : Array Oper) (n : Nat) (o : Oper) (s : List TV) : (gOp P call rs ops n o).eval s = (gOp0 P call rs ops n o).eval s := by
  unfold gOp
  split
  · rename_i h
    simp only [gOp0, wantedK, h]
    rfl
  · rfl
theorem gOp_log (ops : Array Oper) (n : Nat) (o : Oper) (s : List TV) : (gOp P call rs ops n o).log s = (gOp0 P call rs ops n o).log s := by
  unfold gOp
  split
  · rename_i h
    simp only [gOp0, wantedK, h]
    rfl
  · rfl

def putD (s : List TV) : Option Nat → TV → List TV
  | some d, v => put s d v
  | none, _ => s
def after (s : List TV) (d : Option Nat) (r : TV × List Cmd) : List TV := putD (r.2.foldl Cmd.app s) d r.1

/-- The operations in the order of the text. -/
def opsFrom (ops : Array Oper) : Nat → List Oper → List TV → Option (List TV)
  | _, [], s => some s
  | n, o :: rest, s => match (gOp P call rs ops n o).eval s with
    | some r => opsFrom ops (n + 1) rest (after s o.dst r)
    | none => none

/-- What an operation reads and writes. -/
structure RW where
  r : List Nat
  w : List Nat
def rwOf (d : Option Nat) (r : TV × List Cmd) (log : List Nat) : RW := ⟨log, d.toList ++ r.2.map Cmd.slot⟩
def opsLog (ops : Array Oper) : Nat → List Oper → List TV → Option (List TV × List RW)
  | _, [], s => some (s, [])
  | n, o :: rest, s => match (gOp P call rs ops n o).eval s with
    | some r => (opsLog ops (n + 1) rest (after s o.dst r)).map fun (s', l) => (s', rwOf o.dst r ((gOp P call rs ops n o).log s) :: l)
    | none => none
def apartL (a b : List Nat) : Bool := a.all fun x => !b.contains x
def RW.free (a b : RW) : Bool := apartL a.w b.w && apartL a.w b.r && apartL b.w a.r
/-- Which operations wait for which, through others too. -/
def befMask (acc : List Nat) (o : Oper) : Nat :=
  o.after.toList.foldr (fun e m => if Region.binds .any e then (2 ^ e.on ||| acc.getD e.on 0) ||| m else m) 0
def befL : List Nat → List Oper → List Nat
  | acc, [] => acc
  | acc, o :: os => befL (acc ++ [befMask acc o]) os
/-- All edges lead back. -/
def edgesOk : Nat → List Oper → Bool
  | _, [] => true
  | n, o :: os => (o.after.toList.all fun e => !Region.binds .any e || decide (e.on < n)) && edgesOk (n + 1) os
def drawOk (ops : List Oper) (rw : List RW) : Bool :=
  let b := befL [] ops
  edgesOk 0 ops && (List.range ops.length).all fun j => (List.range j).all fun i => (b.getD j 0).testBit i || (rw.getD i ⟨[], []⟩).free (rw.getD j ⟨[], []⟩)

end ops

structure St where
  s : List TV
  nx : Nat

inductive Ex where
  | normal
  | exit (id : Nat)
  | ret
  deriving DecidableEq

section run
variable (P : Program) (call : FuncId → List TV → Option TV) (rs : List Nat)

def region (ops : Array Oper) (draw : Bool) (σ : St) : Option St :=
  if draw then
    match opsLog P call rs ops σ.nx ops.toList σ.s with
    | some (s, rw) => if drawOk ops.toList rw then some ⟨s, σ.nx + ops.size⟩ else none
    | none => none
  else (opsFrom P call rs ops σ.nx ops.toList σ.s).map (⟨·, σ.nx + ops.size⟩)

def run : Nat → Code → St → Option (Ex × St)
  | 0, _, _ => none
  | n + 1, c, σ => match c with
    | .skip => some (.normal, σ)
    | .region _ ops draw => (region P call rs ops draw σ).map (.normal, ·)
    | .seq a b => match run n a σ with
      | some (.normal, σ') => run n b σ'
      | r => r
    | .cond c a b => match (ev c).eval σ.s with
      | some (.bool t) => run n (if t then a else b) σ
      | _ => none
    | .block id b => match run n b σ with
      | some (.exit id', σ') => if id' = id then some (.normal, σ') else some (.exit id', σ')
      | r => r
    | .loop b => match run n b σ with
      | some (.normal, σ') => run n (.loop b) σ'
      | r => r
    | .exit id => some (.exit id, σ)
    | .ret => some (.ret, σ)
    | _ => none
end run

section calls
variable (P : Program)

/-- A result variable, as it goes out: its value, the slots that it empties, the places that it freezes. -/
def outOne (s : List TV) : ResultVar → Option (TV × List Nat × List Cmd)
  | .tmp t => match get s t with
    | .own _ e z xs => some (.own (0, 0) e z xs, [t], [])
    | .agg cs => ((resAll (borsFrom t 0 cs)).eval s).map fun cs' => (.agg cs', [], (borsFrom t 0 cs).flatMap lentOne)
    | x => ((resOne (view t x)).eval s).map fun x' => (x', [], lentOne (view t x))
  | .cell a T => if okT P T then match get s a with
    | .box _ cs => match (resAll (borsFrom a 0 cs)).eval s with
      | some cs' => if cs'.length = szT P T then some (if aggT P T then .agg cs' else get cs' 0, [], (borsFrom a 0 cs).flatMap lentOne) else none
      | none => none
    | _ => none
    else none
def outs (s : List TV) : List ResultVar → Option (List TV × List Nat × List Cmd)
  | [] => some ([], [], [])
  | r :: rs => match outOne P s r, outs s rs with
    | some (t, o, k), some (ts, os, ks) => some (t :: ts, o ++ os, k ++ ks)
    | _, _ => none
def oneOrTup : List TV → TV
  | [t] => t
  | ts => .tup ts
def outR (s : List TV) (rs : List ResultVar) : Option TV :=
  match outs P s rs with
  | some (ts, os, ks) => if decide os.Nodup && os.all (fun p => !(ks.map Cmd.slot).contains p) then some (oneOrTup ts) else none
  | none => none
def resSlots (rs : List ResultVar) : List Nat := rs.filterMap fun | .tmp t => some t | .cell _ _ => none
def start (fn : Func) (args : List TV) : St := ⟨args ++ List.replicate (fn.ntmps - args.length) (.tup []), 1⟩

/-- The slots that code writes lie in the frame. -/
def dstOk (N : Nat) : Code → Bool
  | .region _ ops _ => ops.toList.all fun o => o.dst.all fun d => decide (d < N)
  | .seq a b => dstOk N a && dstOk N b
  | .cond _ a b => dstOk N a && dstOk N b
  | .block _ b => dstOk N b
  | .loop b => dstOk N b
  | _ => true
def bodyOf (f : FuncId) : Option (Func × Code) :=
  match P.funcs[f]? with
  | some fn => match fn.body with
    | some c => if fn.name != "runtime.NumGoroutine" && dstOk fn.ntmps c then some (fn, c) else none
    | none => none
  | none => none
def outOf (fn : Func) : Option (Ex × St) → Option TV
  | some (.exit _, _) => none
  | some (_, σ) => outR P σ.s fn.results.toList
  | none => none
/-- 'Φ': functions whose answers are given. -/
def callF (Φ : FuncId → List TV → Option TV) : Nat → FuncId → List TV → Option TV
  | 0, _, _ => none
  | n + 1, f, args => match bodyOf P f with
    | none => none
    | some (fn, c) => match Φ f args with
      | some r => some r
      | none => if args.length ≤ fn.ntmps then outOf P fn (run P (callF Φ n) (resSlots fn.results.toList) n c (start fn args)) else none
end calls
end Go.Vm
