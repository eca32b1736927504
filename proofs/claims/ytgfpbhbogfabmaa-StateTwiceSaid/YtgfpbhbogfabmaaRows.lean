/-
  No cell of these rows narrows 'for every input' (looked for: loops, veiled, ifaces, maps, wideKeys, modest, calm, conditions, laid).
  DERIVED. THE GIVEN ROWS OF THIS SEAT. 4 by the template 'for every input the law returns true; each argument reads behind the call as it read before'; 0 by the template 'total and deterministic' (their statements: YtgfpbhbogfabmaaTotals.lean).
  GIVEN WITH THE SEED: the statements are not yours to turn. If you find one false, say at which input.
  Laid BY PROGRAM, IN A SANDBOX (cutbox-rows.mjs): the forced cells as the released guide's own fill.sh prints them over the translation 149c9178b0e4c616… (all of the seat's roots in one cut). By AI agents, Wed Nov 11 2026. No macro, syntax, notation, axiom, sorry.
-/
import Derived.Test.YtgfpbhbogfabmaaChecked
import GoSem.Claim
import GoSem.ClaimJoined
import GoSem.ClaimMapViews
import Derived.JoinedTies
import Derived.KernelRfl
namespace Go.Proofs.Ytgfpbhbogfabmaa
/- THE CELL 'sum', in the pinned program and in every row, IS THE sha256 OF THE DUMP (.gsa) THAT YtgfpbhbogfabmaaProg.lean LOADS. Nothing in Lean hashes anything: it is a label: what it is worth is what the hold of that sum in a sandbox is worth. -/
noncomputable def Try.pinned : Pinned := { name := "ytgfpbhbogfabmaa", sum := "149c9178b0e4c6163c1cabb35691d4cf0d2b38d666a167b20e234d024435f1ba", checked := Try.checked }
namespace Rows
def none {H : Type} : Left H := { results := [], args := [] }

/-- 'semvcslaw25.StateValid': WHATEVER THE INPUT: true; the input reads as it did. -/
def stateValidSpec : ChangeSpec := { name := "stateValid", fn := fun _ => fun
  | [d] => { results := [.lit (.bool true)], args := [d] }
  | _ => none }
def stateValidRow : OpenClaim := { program := "ytgfpbhbogfabmaa", sum := "149c9178b0e4c6163c1cabb35691d4cf0d2b38d666a167b20e234d024435f1ba", func := "semvcs/semvcslaw25.StateValid", spec := "stateValid", inPlace := ["internal/bytealg.IndexByteString"], unfollowed := true, recurses := true, apart := false }
def StateValidSaid : Prop := stateValidRow.holds Try.pinned (OpenSpec.ofChange stateValidSpec)

/-- ITS FALSE NEIGHBOUR: 'it returns false'. Refute it at one input. -/
def stateValidWrong : ChangeSpec := { name := "stateValid", fn := fun _ => fun
  | [d] => { results := [.lit (.bool false)], args := [d] }
  | _ => none }
def StateValidWrongFalsely : Prop := stateValidRow.holds Try.pinned (OpenSpec.ofChange stateValidWrong)

/-- 'semvcslaw25.StateApplies': WHATEVER THE INPUT: true; the input reads as it did. -/
def stateAppliesSpec : ChangeSpec := { name := "stateApplies", fn := fun _ => fun
  | [d1, d2] => { results := [.lit (.bool true)], args := [d1, d2] }
  | _ => none }
def stateAppliesRow : OpenClaim := { program := "ytgfpbhbogfabmaa", sum := "149c9178b0e4c6163c1cabb35691d4cf0d2b38d666a167b20e234d024435f1ba", func := "semvcs/semvcslaw25.StateApplies", spec := "stateApplies", inPlace := ["internal/bytealg.IndexByteString"], unfollowed := true, recurses := true, apart := false }
def StateAppliesSaid : Prop := stateAppliesRow.holds Try.pinned (OpenSpec.ofChange stateAppliesSpec)

/-- ITS FALSE NEIGHBOUR: 'it returns false'. Refute it at one input. -/
def stateAppliesWrong : ChangeSpec := { name := "stateApplies", fn := fun _ => fun
  | [d1, d2] => { results := [.lit (.bool false)], args := [d1, d2] }
  | _ => none }
def StateAppliesWrongFalsely : Prop := stateAppliesRow.holds Try.pinned (OpenSpec.ofChange stateAppliesWrong)

/-- 'semvcslaw25.StateTwice': WHATEVER THE INPUT: true; the input reads as it did. -/
def stateTwiceSpec : ChangeSpec := { name := "stateTwice", fn := fun _ => fun
  | [d1, d2, d3] => { results := [.lit (.bool true)], args := [d1, d2, d3] }
  | _ => none }
def stateTwiceRow : OpenClaim := { program := "ytgfpbhbogfabmaa", sum := "149c9178b0e4c6163c1cabb35691d4cf0d2b38d666a167b20e234d024435f1ba", func := "semvcs/semvcslaw25.StateTwice", spec := "stateTwice", inPlace := ["internal/bytealg.IndexByteString"], unfollowed := true, recurses := true, apart := false }
def StateTwiceSaid : Prop := stateTwiceRow.holds Try.pinned (OpenSpec.ofChange stateTwiceSpec)

/-- ITS FALSE NEIGHBOUR: 'it returns false'. Refute it at one input. -/
def stateTwiceWrong : ChangeSpec := { name := "stateTwice", fn := fun _ => fun
  | [d1, d2, d3] => { results := [.lit (.bool false)], args := [d1, d2, d3] }
  | _ => none }
def StateTwiceWrongFalsely : Prop := stateTwiceRow.holds Try.pinned (OpenSpec.ofChange stateTwiceWrong)

/-- 'semvcslaw25.StateAsks': WHATEVER THE INPUT: true; the input reads as it did. -/
def stateAsksSpec : ChangeSpec := { name := "stateAsks", fn := fun _ => fun
  | [d1, d2, d3, d4] => { results := [.lit (.bool true)], args := [d1, d2, d3, d4] }
  | _ => none }
def stateAsksRow : OpenClaim := { program := "ytgfpbhbogfabmaa", sum := "149c9178b0e4c6163c1cabb35691d4cf0d2b38d666a167b20e234d024435f1ba", func := "semvcs/semvcslaw25.StateAsks", spec := "stateAsks", inPlace := ["internal/bytealg.IndexByteString"], unfollowed := true, recurses := true, apart := false }
def StateAsksSaid : Prop := stateAsksRow.holds Try.pinned (OpenSpec.ofChange stateAsksSpec)

/-- ITS FALSE NEIGHBOUR: 'it returns false'. Refute it at one input. -/
def stateAsksWrong : ChangeSpec := { name := "stateAsks", fn := fun _ => fun
  | [d1, d2, d3, d4] => { results := [.lit (.bool false)], args := [d1, d2, d3, d4] }
  | _ => none }
def StateAsksWrongFalsely : Prop := stateAsksRow.holds Try.pinned (OpenSpec.ofChange stateAsksWrong)

/- THE SECOND FORM. 'bulk': how many values and letters a reading holds, each counted each time it is reached (what is shared counts as often as it is met; a slice's spare places count too). A statement '..UptoSaid' is the law's where the arguments, and the package variables that the reading takes, are together of bulk at most 1048576: NARROWER than '..Said'. Prove '..Said' where nothing that the law and all that it calls make is longer than what came in: it says more and counts as full. Else prove '..UptoSaid'. A law counts once. -/
mutual
def uptoBulk {H : Type} : DataW H → Nat
  | .lit (.string bytes) => bytes.length + 1
  | .lit _ => 1
  | .nil => 1
  | .ptr d => uptoBulk d + 1
  | .slice elems spare => uptoBulkAll elems + uptoBulkAll spare + 1
  | .agg parts => uptoBulkAll parts + 1
  | .iface _ d => uptoBulk d + 1
  | .map entries => uptoBulkEntries entries + 1
  | .held _ => 1
def uptoBulkAll {H : Type} : List (DataW H) → Nat
  | [] => 0
  | d :: r => uptoBulk d + uptoBulkAll r
def uptoBulkEntries {H : Type} : List (Lit × DataW H) → Nat
  | [] => 0
  | x :: r => uptoBulkEntry x + uptoBulkEntries r
def uptoBulkEntry {H : Type} : Lit × DataW H → Nat
  | (.string bytes, d) => bytes.length + uptoBulk d + 1
  | (_, d) => uptoBulk d + 1
 end
def uptoSmall : (H : Type) → List (DataW H) → Bool := fun _ ds => decide (uptoBulkAll ds ≤ 1048576)
def OpenSpec.upto (s : _root_.Go.ChangeSpec) : _root_.Go.OpenSpec := { _root_.Go.OpenSpec.ofChange s with cond := some uptoSmall }

/-- 'semvcslaw25.StateValid', WHERE WHAT IT READS IS OF BULK AT MOST 1048576: true; the input reads as it did. -/
def stateValidUptoRow : OpenClaim := { program := "ytgfpbhbogfabmaa", sum := "149c9178b0e4c6163c1cabb35691d4cf0d2b38d666a167b20e234d024435f1ba", func := "semvcs/semvcslaw25.StateValid", spec := "stateValid", inPlace := ["internal/bytealg.IndexByteString"], unfollowed := true, recurses := true, apart := false, narrowed := true }
def StateValidUptoSaid : Prop := stateValidUptoRow.holds Try.pinned (OpenSpec.upto stateValidSpec)

/-- 'semvcslaw25.StateApplies', WHERE WHAT IT READS IS OF BULK AT MOST 1048576: true; the input reads as it did. -/
def stateAppliesUptoRow : OpenClaim := { program := "ytgfpbhbogfabmaa", sum := "149c9178b0e4c6163c1cabb35691d4cf0d2b38d666a167b20e234d024435f1ba", func := "semvcs/semvcslaw25.StateApplies", spec := "stateApplies", inPlace := ["internal/bytealg.IndexByteString"], unfollowed := true, recurses := true, apart := false, narrowed := true }
def StateAppliesUptoSaid : Prop := stateAppliesUptoRow.holds Try.pinned (OpenSpec.upto stateAppliesSpec)

/-- 'semvcslaw25.StateTwice', WHERE WHAT IT READS IS OF BULK AT MOST 1048576: true; the input reads as it did. -/
def stateTwiceUptoRow : OpenClaim := { program := "ytgfpbhbogfabmaa", sum := "149c9178b0e4c6163c1cabb35691d4cf0d2b38d666a167b20e234d024435f1ba", func := "semvcs/semvcslaw25.StateTwice", spec := "stateTwice", inPlace := ["internal/bytealg.IndexByteString"], unfollowed := true, recurses := true, apart := false, narrowed := true }
def StateTwiceUptoSaid : Prop := stateTwiceUptoRow.holds Try.pinned (OpenSpec.upto stateTwiceSpec)

/-- 'semvcslaw25.StateAsks', WHERE WHAT IT READS IS OF BULK AT MOST 1048576: true; the input reads as it did. -/
def stateAsksUptoRow : OpenClaim := { program := "ytgfpbhbogfabmaa", sum := "149c9178b0e4c6163c1cabb35691d4cf0d2b38d666a167b20e234d024435f1ba", func := "semvcs/semvcslaw25.StateAsks", spec := "stateAsks", inPlace := ["internal/bytealg.IndexByteString"], unfollowed := true, recurses := true, apart := false, narrowed := true }
def StateAsksUptoSaid : Prop := stateAsksUptoRow.holds Try.pinned (OpenSpec.upto stateAsksSpec)

end Rows
end Go.Proofs.Ytgfpbhbogfabmaa
