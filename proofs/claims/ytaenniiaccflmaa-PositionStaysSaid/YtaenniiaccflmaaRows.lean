/-
  No cell of these rows narrows 'for every input' (looked for: loops, veiled, ifaces, maps, wideKeys, modest, calm, conditions, laid).
  DERIVED. THE GIVEN ROWS OF THIS SEAT. 8 by the template 'for every input the law returns true; each argument reads behind the call as it read before'; 0 by the template 'total and deterministic' (their statements: YtaenniiaccflmaaTotals.lean).
  GIVEN WITH THE SEED: the statements are not yours to turn. If you find one false, say at which input.
  Laid BY PROGRAM, IN A SANDBOX (cutbox-rows.mjs): the forced cells as the released guide's own fill.sh prints them over the translation 2bc55548e11ba200… (all of the seat's roots in one cut). By AI agents, Wed Nov 11 2026. No macro, syntax, notation, axiom, sorry.
-/
import Derived.Test.YtaenniiaccflmaaChecked
import GoSem.Claim
import GoSem.ClaimJoined
import GoSem.ClaimMapViews
import Derived.JoinedTies
import Derived.KernelRfl
namespace Go.Proofs.Ytaenniiaccflmaa
/- THE CELL 'sum', in the pinned program and in every row, IS THE sha256 OF THE DUMP (.gsa) THAT YtaenniiaccflmaaProg.lean LOADS. Nothing in Lean hashes anything: it is a label: what it is worth is what the hold of that sum in a sandbox is worth. -/
noncomputable def Try.pinned : Pinned := { name := "ytaenniiaccflmaa", sum := "2bc55548e11ba200ef149c9ac2951fa60aa1e36eb12942341a5d2946cbe87332", checked := Try.checked }
namespace Rows
def none {H : Type} : Left H := { results := [], args := [] }

/-- 'semvcslaw11.PositionBetween': WHATEVER THE INPUT: true; the input reads as it did. -/
def positionBetweenSpec : ChangeSpec := { name := "positionBetween", fn := fun _ => fun
  | [d1, d2] => { results := [.lit (.bool true)], args := [d1, d2] }
  | _ => none }
def positionBetweenRow : OpenClaim := { program := "ytaenniiaccflmaa", sum := "2bc55548e11ba200ef149c9ac2951fa60aa1e36eb12942341a5d2946cbe87332", func := "semvcs/semvcslaw11.PositionBetween", spec := "positionBetween", apart := false }
def PositionBetweenSaid : Prop := positionBetweenRow.holds Try.pinned (OpenSpec.ofChange positionBetweenSpec)

/-- ITS FALSE NEIGHBOUR: 'it returns false'. Refute it at one input. -/
def positionBetweenWrong : ChangeSpec := { name := "positionBetween", fn := fun _ => fun
  | [d1, d2] => { results := [.lit (.bool false)], args := [d1, d2] }
  | _ => none }
def PositionBetweenWrongFalsely : Prop := positionBetweenRow.holds Try.pinned (OpenSpec.ofChange positionBetweenWrong)

/-- 'semvcslaw11.PositionSpread': WHATEVER THE INPUT: true; the input reads as it did. -/
def positionSpreadSpec : ChangeSpec := { name := "positionSpread", fn := fun _ => fun
  | [d] => { results := [.lit (.bool true)], args := [d] }
  | _ => none }
def positionSpreadRow : OpenClaim := { program := "ytaenniiaccflmaa", sum := "2bc55548e11ba200ef149c9ac2951fa60aa1e36eb12942341a5d2946cbe87332", func := "semvcs/semvcslaw11.PositionSpread", spec := "positionSpread", apart := false }
def PositionSpreadSaid : Prop := positionSpreadRow.holds Try.pinned (OpenSpec.ofChange positionSpreadSpec)

/-- ITS FALSE NEIGHBOUR: 'it returns false'. Refute it at one input. -/
def positionSpreadWrong : ChangeSpec := { name := "positionSpread", fn := fun _ => fun
  | [d] => { results := [.lit (.bool false)], args := [d] }
  | _ => none }
def PositionSpreadWrongFalsely : Prop := positionSpreadRow.holds Try.pinned (OpenSpec.ofChange positionSpreadWrong)

/-- 'semvcslaw11.PositionKeeps': WHATEVER THE INPUT: true; the input reads as it did. -/
def positionKeepsSpec : ChangeSpec := { name := "positionKeeps", fn := fun _ => fun
  | [d] => { results := [.lit (.bool true)], args := [d] }
  | _ => none }
def positionKeepsRow : OpenClaim := { program := "ytaenniiaccflmaa", sum := "2bc55548e11ba200ef149c9ac2951fa60aa1e36eb12942341a5d2946cbe87332", func := "semvcs/semvcslaw11.PositionKeeps", spec := "positionKeeps", apart := false }
def PositionKeepsSaid : Prop := positionKeepsRow.holds Try.pinned (OpenSpec.ofChange positionKeepsSpec)

/-- ITS FALSE NEIGHBOUR: 'it returns false'. Refute it at one input. -/
def positionKeepsWrong : ChangeSpec := { name := "positionKeeps", fn := fun _ => fun
  | [d] => { results := [.lit (.bool false)], args := [d] }
  | _ => none }
def PositionKeepsWrongFalsely : Prop := positionKeepsRow.holds Try.pinned (OpenSpec.ofChange positionKeepsWrong)

/-- 'semvcslaw11.PositionInside': WHATEVER THE INPUT: true; the input reads as it did. -/
def positionInsideSpec : ChangeSpec := { name := "positionInside", fn := fun _ => fun
  | [d1, d2] => { results := [.lit (.bool true)], args := [d1, d2] }
  | _ => none }
def positionInsideRow : OpenClaim := { program := "ytaenniiaccflmaa", sum := "2bc55548e11ba200ef149c9ac2951fa60aa1e36eb12942341a5d2946cbe87332", func := "semvcs/semvcslaw11.PositionInside", spec := "positionInside", apart := false }
def PositionInsideSaid : Prop := positionInsideRow.holds Try.pinned (OpenSpec.ofChange positionInsideSpec)

/-- ITS FALSE NEIGHBOUR: 'it returns false'. Refute it at one input. -/
def positionInsideWrong : ChangeSpec := { name := "positionInside", fn := fun _ => fun
  | [d1, d2] => { results := [.lit (.bool false)], args := [d1, d2] }
  | _ => none }
def PositionInsideWrongFalsely : Prop := positionInsideRow.holds Try.pinned (OpenSpec.ofChange positionInsideWrong)

/-- 'semvcslaw11.PositionShort': WHATEVER THE INPUT: true; the input reads as it did. -/
def positionShortSpec : ChangeSpec := { name := "positionShort", fn := fun _ => fun
  | [d1, d2, d3] => { results := [.lit (.bool true)], args := [d1, d2, d3] }
  | _ => none }
def positionShortRow : OpenClaim := { program := "ytaenniiaccflmaa", sum := "2bc55548e11ba200ef149c9ac2951fa60aa1e36eb12942341a5d2946cbe87332", func := "semvcs/semvcslaw11.PositionShort", spec := "positionShort", apart := false }
def PositionShortSaid : Prop := positionShortRow.holds Try.pinned (OpenSpec.ofChange positionShortSpec)

/-- ITS FALSE NEIGHBOUR: 'it returns false'. Refute it at one input. -/
def positionShortWrong : ChangeSpec := { name := "positionShort", fn := fun _ => fun
  | [d1, d2, d3] => { results := [.lit (.bool false)], args := [d1, d2, d3] }
  | _ => none }
def PositionShortWrongFalsely : Prop := positionShortRow.holds Try.pinned (OpenSpec.ofChange positionShortWrong)

/-- 'semvcslaw11.PositionFewest': WHATEVER THE INPUT: true; the input reads as it did. -/
def positionFewestSpec : ChangeSpec := { name := "positionFewest", fn := fun _ => fun
  | [d1, d2] => { results := [.lit (.bool true)], args := [d1, d2] }
  | _ => none }
def positionFewestRow : OpenClaim := { program := "ytaenniiaccflmaa", sum := "2bc55548e11ba200ef149c9ac2951fa60aa1e36eb12942341a5d2946cbe87332", func := "semvcs/semvcslaw11.PositionFewest", spec := "positionFewest", apart := false }
def PositionFewestSaid : Prop := positionFewestRow.holds Try.pinned (OpenSpec.ofChange positionFewestSpec)

/-- ITS FALSE NEIGHBOUR: 'it returns false'. Refute it at one input. -/
def positionFewestWrong : ChangeSpec := { name := "positionFewest", fn := fun _ => fun
  | [d1, d2] => { results := [.lit (.bool false)], args := [d1, d2] }
  | _ => none }
def PositionFewestWrongFalsely : Prop := positionFewestRow.holds Try.pinned (OpenSpec.ofChange positionFewestWrong)

/-- 'semvcslaw11.PositionRekeys': WHATEVER THE INPUT: true; the input reads as it did. -/
def positionRekeysSpec : ChangeSpec := { name := "positionRekeys", fn := fun _ => fun
  | [d] => { results := [.lit (.bool true)], args := [d] }
  | _ => none }
def positionRekeysRow : OpenClaim := { program := "ytaenniiaccflmaa", sum := "2bc55548e11ba200ef149c9ac2951fa60aa1e36eb12942341a5d2946cbe87332", func := "semvcs/semvcslaw11.PositionRekeys", spec := "positionRekeys", apart := false }
def PositionRekeysSaid : Prop := positionRekeysRow.holds Try.pinned (OpenSpec.ofChange positionRekeysSpec)

/-- ITS FALSE NEIGHBOUR: 'it returns false'. Refute it at one input. -/
def positionRekeysWrong : ChangeSpec := { name := "positionRekeys", fn := fun _ => fun
  | [d] => { results := [.lit (.bool false)], args := [d] }
  | _ => none }
def PositionRekeysWrongFalsely : Prop := positionRekeysRow.holds Try.pinned (OpenSpec.ofChange positionRekeysWrong)

/-- 'semvcslaw11.PositionStays': WHATEVER THE INPUT: true; the input reads as it did. -/
def positionStaysSpec : ChangeSpec := { name := "positionStays", fn := fun _ => fun
  | [d] => { results := [.lit (.bool true)], args := [d] }
  | _ => none }
def positionStaysRow : OpenClaim := { program := "ytaenniiaccflmaa", sum := "2bc55548e11ba200ef149c9ac2951fa60aa1e36eb12942341a5d2946cbe87332", func := "semvcs/semvcslaw11.PositionStays", spec := "positionStays", apart := false }
def PositionStaysSaid : Prop := positionStaysRow.holds Try.pinned (OpenSpec.ofChange positionStaysSpec)

/-- ITS FALSE NEIGHBOUR: 'it returns false'. Refute it at one input. -/
def positionStaysWrong : ChangeSpec := { name := "positionStays", fn := fun _ => fun
  | [d] => { results := [.lit (.bool false)], args := [d] }
  | _ => none }
def PositionStaysWrongFalsely : Prop := positionStaysRow.holds Try.pinned (OpenSpec.ofChange positionStaysWrong)

/- THE SECOND FORM. 'bulk': how many values and letters a reading holds, each counted each time it is reached (what is shared counts as often as it is met; a slice's spare places count too). A statement '..UptoSaid' is the law's where the arguments, and the package variables that the reading takes, are together of bulk at most 1048576: NARROWER than '..Said'. Prove '..Said' where nothing that the law and all that it calls make is longer than what came in: it says more and counts as full. Else prove '..UptoSaid'. A law counts once. -/
mutual
def uptoBulk {H : Type} : DataW H → Nat
  | .lit (.string bytes) => bytes.length + 1
  | .lit _ => 1
  | .nil => 1
  | .ptr d => uptoBulk d + 1
  | .slice elems spare => uptoBulkAll elems + uptoBulkAll spare + 1
  | .agg parts => uptoBulkAll parts + 1
  | .iface _ d => uptoBulk d + 1
  | .map entries => uptoBulkEntries entries + 1
  | .held _ => 1
def uptoBulkAll {H : Type} : List (DataW H) → Nat
  | [] => 0
  | d :: r => uptoBulk d + uptoBulkAll r
def uptoBulkEntries {H : Type} : List (Lit × DataW H) → Nat
  | [] => 0
  | x :: r => uptoBulkEntry x + uptoBulkEntries r
def uptoBulkEntry {H : Type} : Lit × DataW H → Nat
  | (.string bytes, d) => bytes.length + uptoBulk d + 1
  | (_, d) => uptoBulk d + 1
 end
def uptoSmall : (H : Type) → List (DataW H) → Bool := fun _ ds => decide (uptoBulkAll ds ≤ 1048576)
def OpenSpec.upto (s : _root_.Go.ChangeSpec) : _root_.Go.OpenSpec := { _root_.Go.OpenSpec.ofChange s with cond := some uptoSmall }

/-- 'semvcslaw11.PositionBetween', WHERE WHAT IT READS IS OF BULK AT MOST 1048576: true; the input reads as it did. -/
def positionBetweenUptoRow : OpenClaim := { program := "ytaenniiaccflmaa", sum := "2bc55548e11ba200ef149c9ac2951fa60aa1e36eb12942341a5d2946cbe87332", func := "semvcs/semvcslaw11.PositionBetween", spec := "positionBetween", apart := false, narrowed := true }
def PositionBetweenUptoSaid : Prop := positionBetweenUptoRow.holds Try.pinned (OpenSpec.upto positionBetweenSpec)

/-- 'semvcslaw11.PositionSpread', WHERE WHAT IT READS IS OF BULK AT MOST 1048576: true; the input reads as it did. -/
def positionSpreadUptoRow : OpenClaim := { program := "ytaenniiaccflmaa", sum := "2bc55548e11ba200ef149c9ac2951fa60aa1e36eb12942341a5d2946cbe87332", func := "semvcs/semvcslaw11.PositionSpread", spec := "positionSpread", apart := false, narrowed := true }
def PositionSpreadUptoSaid : Prop := positionSpreadUptoRow.holds Try.pinned (OpenSpec.upto positionSpreadSpec)

/-- 'semvcslaw11.PositionKeeps', WHERE WHAT IT READS IS OF BULK AT MOST 1048576: true; the input reads as it did. -/
def positionKeepsUptoRow : OpenClaim := { program := "ytaenniiaccflmaa", sum := "2bc55548e11ba200ef149c9ac2951fa60aa1e36eb12942341a5d2946cbe87332", func := "semvcs/semvcslaw11.PositionKeeps", spec := "positionKeeps", apart := false, narrowed := true }
def PositionKeepsUptoSaid : Prop := positionKeepsUptoRow.holds Try.pinned (OpenSpec.upto positionKeepsSpec)

/-- 'semvcslaw11.PositionInside', WHERE WHAT IT READS IS OF BULK AT MOST 1048576: true; the input reads as it did. -/
def positionInsideUptoRow : OpenClaim := { program := "ytaenniiaccflmaa", sum := "2bc55548e11ba200ef149c9ac2951fa60aa1e36eb12942341a5d2946cbe87332", func := "semvcs/semvcslaw11.PositionInside", spec := "positionInside", apart := false, narrowed := true }
def PositionInsideUptoSaid : Prop := positionInsideUptoRow.holds Try.pinned (OpenSpec.upto positionInsideSpec)

/-- 'semvcslaw11.PositionShort', WHERE WHAT IT READS IS OF BULK AT MOST 1048576: true; the input reads as it did. -/
def positionShortUptoRow : OpenClaim := { program := "ytaenniiaccflmaa", sum := "2bc55548e11ba200ef149c9ac2951fa60aa1e36eb12942341a5d2946cbe87332", func := "semvcs/semvcslaw11.PositionShort", spec := "positionShort", apart := false, narrowed := true }
def PositionShortUptoSaid : Prop := positionShortUptoRow.holds Try.pinned (OpenSpec.upto positionShortSpec)

/-- 'semvcslaw11.PositionFewest', WHERE WHAT IT READS IS OF BULK AT MOST 1048576: true; the input reads as it did. -/
def positionFewestUptoRow : OpenClaim := { program := "ytaenniiaccflmaa", sum := "2bc55548e11ba200ef149c9ac2951fa60aa1e36eb12942341a5d2946cbe87332", func := "semvcs/semvcslaw11.PositionFewest", spec := "positionFewest", apart := false, narrowed := true }
def PositionFewestUptoSaid : Prop := positionFewestUptoRow.holds Try.pinned (OpenSpec.upto positionFewestSpec)

/-- 'semvcslaw11.PositionRekeys', WHERE WHAT IT READS IS OF BULK AT MOST 1048576: true; the input reads as it did. -/
def positionRekeysUptoRow : OpenClaim := { program := "ytaenniiaccflmaa", sum := "2bc55548e11ba200ef149c9ac2951fa60aa1e36eb12942341a5d2946cbe87332", func := "semvcs/semvcslaw11.PositionRekeys", spec := "positionRekeys", apart := false, narrowed := true }
def PositionRekeysUptoSaid : Prop := positionRekeysUptoRow.holds Try.pinned (OpenSpec.upto positionRekeysSpec)

/-- 'semvcslaw11.PositionStays', WHERE WHAT IT READS IS OF BULK AT MOST 1048576: true; the input reads as it did. -/
def positionStaysUptoRow : OpenClaim := { program := "ytaenniiaccflmaa", sum := "2bc55548e11ba200ef149c9ac2951fa60aa1e36eb12942341a5d2946cbe87332", func := "semvcs/semvcslaw11.PositionStays", spec := "positionStays", apart := false, narrowed := true }
def PositionStaysUptoSaid : Prop := positionStaysUptoRow.holds Try.pinned (OpenSpec.upto positionStaysSpec)

end Rows
end Go.Proofs.Ytaenniiaccflmaa
