/-
  No cell of these rows narrows 'for every input' (looked for: loops, veiled, ifaces, maps, wideKeys, modest, calm, conditions, laid).
  DERIVED. THE GIVEN ROWS OF THIS SEAT. 5 by the template 'for every input the law returns true; each argument reads behind the call as it read before'; 0 by the template 'total and deterministic' (their statements: YtabfnclbehkcnaaTotals.lean).
  GIVEN WITH THE SEED: the statements are not yours to turn. If you find one false, say at which input.
  Laid BY PROGRAM, IN A SANDBOX (cutbox-rows.mjs): the forced cells as the released guide's own fill.sh prints them over the translation 4d64e2c4345756d7… (all of the seat's roots in one cut). By AI agents, Wed Nov 11 2026. No macro, syntax, notation, axiom, sorry.
-/
import Derived.Test.YtabfnclbehkcnaaChecked
import GoSem.Claim
import GoSem.ClaimJoined
import GoSem.ClaimMapViews
import Derived.JoinedTies
import Derived.KernelRfl
namespace Go.Proofs.Ytabfnclbehkcnaa
/- THE CELL 'sum', in the pinned program and in every row, IS THE sha256 OF THE DUMP (.gsa) THAT YtabfnclbehkcnaaProg.lean LOADS. Nothing in Lean hashes anything: it is a label: what it is worth is what the hold of that sum in a sandbox is worth. -/
noncomputable def Try.pinned : Pinned := { name := "ytabfnclbehkcnaa", sum := "4d64e2c4345756d7b54d2d445fb2d41cfb95963c2b7103e4b36a2ba613244d45", checked := Try.checked }
namespace Rows
def none {H : Type} : Left H := { results := [], args := [] }

/-- 'interleavelaw27.BufferMatchesReference': WHATEVER THE INPUT: true; the input reads as it did. -/
def bufferMatchesReferenceSpec : ChangeSpec := { name := "bufferMatchesReference", fn := fun _ => fun
  | [d1, d2] => { results := [.lit (.bool true)], args := [d1, d2] }
  | _ => none }
def bufferMatchesReferenceRow : OpenClaim := { program := "ytabfnclbehkcnaa", sum := "4d64e2c4345756d7b54d2d445fb2d41cfb95963c2b7103e4b36a2ba613244d45", func := "interleave/interleavelaw27.BufferMatchesReference", spec := "bufferMatchesReference", unfollowed := true, recurses := true, apart := false }
def BufferMatchesReferenceSaid : Prop := bufferMatchesReferenceRow.holds Try.pinned (OpenSpec.ofChange bufferMatchesReferenceSpec)

/-- ITS FALSE NEIGHBOUR: 'it returns false'. Refute it at one input. -/
def bufferMatchesReferenceWrong : ChangeSpec := { name := "bufferMatchesReference", fn := fun _ => fun
  | [d1, d2] => { results := [.lit (.bool false)], args := [d1, d2] }
  | _ => none }
def BufferMatchesReferenceWrongFalsely : Prop := bufferMatchesReferenceRow.holds Try.pinned (OpenSpec.ofChange bufferMatchesReferenceWrong)

/-- 'interleavelaw27.BufferIsFIFO': WHATEVER THE INPUT: true; the input reads as it did. -/
def bufferIsFIFOSpec : ChangeSpec := { name := "bufferIsFIFO", fn := fun _ => fun
  | [d1, d2] => { results := [.lit (.bool true)], args := [d1, d2] }
  | _ => none }
def bufferIsFIFORow : OpenClaim := { program := "ytabfnclbehkcnaa", sum := "4d64e2c4345756d7b54d2d445fb2d41cfb95963c2b7103e4b36a2ba613244d45", func := "interleave/interleavelaw27.BufferIsFIFO", spec := "bufferIsFIFO", unfollowed := true, recurses := true, apart := false }
def BufferIsFIFOSaid : Prop := bufferIsFIFORow.holds Try.pinned (OpenSpec.ofChange bufferIsFIFOSpec)

/-- ITS FALSE NEIGHBOUR: 'it returns false'. Refute it at one input. -/
def bufferIsFIFOWrong : ChangeSpec := { name := "bufferIsFIFO", fn := fun _ => fun
  | [d1, d2] => { results := [.lit (.bool false)], args := [d1, d2] }
  | _ => none }
def BufferIsFIFOWrongFalsely : Prop := bufferIsFIFORow.holds Try.pinned (OpenSpec.ofChange bufferIsFIFOWrong)

/-- 'interleavelaw27.BufferReadsOwnWrites': WHATEVER THE INPUT: true; the input reads as it did. -/
def bufferReadsOwnWritesSpec : ChangeSpec := { name := "bufferReadsOwnWrites", fn := fun _ => fun
  | [d1, d2, d3] => { results := [.lit (.bool true)], args := [d1, d2, d3] }
  | _ => none }
def bufferReadsOwnWritesRow : OpenClaim := { program := "ytabfnclbehkcnaa", sum := "4d64e2c4345756d7b54d2d445fb2d41cfb95963c2b7103e4b36a2ba613244d45", func := "interleave/interleavelaw27.BufferReadsOwnWrites", spec := "bufferReadsOwnWrites", unfollowed := true, recurses := true, apart := false }
def BufferReadsOwnWritesSaid : Prop := bufferReadsOwnWritesRow.holds Try.pinned (OpenSpec.ofChange bufferReadsOwnWritesSpec)

/-- ITS FALSE NEIGHBOUR: 'it returns false'. Refute it at one input. -/
def bufferReadsOwnWritesWrong : ChangeSpec := { name := "bufferReadsOwnWrites", fn := fun _ => fun
  | [d1, d2, d3] => { results := [.lit (.bool false)], args := [d1, d2, d3] }
  | _ => none }
def BufferReadsOwnWritesWrongFalsely : Prop := bufferReadsOwnWritesRow.holds Try.pinned (OpenSpec.ofChange bufferReadsOwnWritesWrong)

/-- 'interleavelaw27.BufferPushHides': WHATEVER THE INPUT: true; the input reads as it did. -/
def bufferPushHidesSpec : ChangeSpec := { name := "bufferPushHides", fn := fun _ => fun
  | [d1, d2, d3] => { results := [.lit (.bool true)], args := [d1, d2, d3] }
  | _ => none }
def bufferPushHidesRow : OpenClaim := { program := "ytabfnclbehkcnaa", sum := "4d64e2c4345756d7b54d2d445fb2d41cfb95963c2b7103e4b36a2ba613244d45", func := "interleave/interleavelaw27.BufferPushHides", spec := "bufferPushHides", unfollowed := true, recurses := true, apart := false }
def BufferPushHidesSaid : Prop := bufferPushHidesRow.holds Try.pinned (OpenSpec.ofChange bufferPushHidesSpec)

/-- ITS FALSE NEIGHBOUR: 'it returns false'. Refute it at one input. -/
def bufferPushHidesWrong : ChangeSpec := { name := "bufferPushHides", fn := fun _ => fun
  | [d1, d2, d3] => { results := [.lit (.bool false)], args := [d1, d2, d3] }
  | _ => none }
def BufferPushHidesWrongFalsely : Prop := bufferPushHidesRow.holds Try.pinned (OpenSpec.ofChange bufferPushHidesWrong)

/-- 'interleavelaw27.BufferEqual': WHATEVER THE INPUT: true; the input reads as it did. -/
def bufferEqualSpec : ChangeSpec := { name := "bufferEqual", fn := fun _ => fun
  | [d1, d2, d3] => { results := [.lit (.bool true)], args := [d1, d2, d3] }
  | _ => none }
def bufferEqualRow : OpenClaim := { program := "ytabfnclbehkcnaa", sum := "4d64e2c4345756d7b54d2d445fb2d41cfb95963c2b7103e4b36a2ba613244d45", func := "interleave/interleavelaw27.BufferEqual", spec := "bufferEqual", unfollowed := true, recurses := true, apart := false }
def BufferEqualSaid : Prop := bufferEqualRow.holds Try.pinned (OpenSpec.ofChange bufferEqualSpec)

/-- ITS FALSE NEIGHBOUR: 'it returns false'. Refute it at one input. -/
def bufferEqualWrong : ChangeSpec := { name := "bufferEqual", fn := fun _ => fun
  | [d1, d2, d3] => { results := [.lit (.bool false)], args := [d1, d2, d3] }
  | _ => none }
def BufferEqualWrongFalsely : Prop := bufferEqualRow.holds Try.pinned (OpenSpec.ofChange bufferEqualWrong)

/- THE SECOND FORM. 'bulk': how many values and letters a reading holds, each counted each time it is reached (what is shared counts as often as it is met; a slice's spare places count too). A statement '..UptoSaid' is the law's where the arguments, and the package variables that the reading takes, are together of bulk at most 1048576: NARROWER than '..Said'. Prove '..Said' where nothing that the law and all that it calls make is longer than what came in: it says more and counts as full. Else prove '..UptoSaid'. A law counts once. -/
mutual
def uptoBulk {H : Type} : DataW H → Nat
  | .lit (.string bytes) => bytes.length + 1
  | .lit _ => 1
  | .nil => 1
  | .ptr d => uptoBulk d + 1
  | .slice elems spare => uptoBulkAll elems + uptoBulkAll spare + 1
  | .agg parts => uptoBulkAll parts + 1
  | .iface _ d => uptoBulk d + 1
  | .map entries => uptoBulkEntries entries + 1
  | .held _ => 1
def uptoBulkAll {H : Type} : List (DataW H) → Nat
  | [] => 0
  | d :: r => uptoBulk d + uptoBulkAll r
def uptoBulkEntries {H : Type} : List (Lit × DataW H) → Nat
  | [] => 0
  | x :: r => uptoBulkEntry x + uptoBulkEntries r
def uptoBulkEntry {H : Type} : Lit × DataW H → Nat
  | (.string bytes, d) => bytes.length + uptoBulk d + 1
  | (_, d) => uptoBulk d + 1
 end
def uptoSmall : (H : Type) → List (DataW H) → Bool := fun _ ds => decide (uptoBulkAll ds ≤ 1048576)
def OpenSpec.upto (s : _root_.Go.ChangeSpec) : _root_.Go.OpenSpec := { _root_.Go.OpenSpec.ofChange s with cond := some uptoSmall }

/-- 'interleavelaw27.BufferMatchesReference', WHERE WHAT IT READS IS OF BULK AT MOST 1048576: true; the input reads as it did. -/
def bufferMatchesReferenceUptoRow : OpenClaim := { program := "ytabfnclbehkcnaa", sum := "4d64e2c4345756d7b54d2d445fb2d41cfb95963c2b7103e4b36a2ba613244d45", func := "interleave/interleavelaw27.BufferMatchesReference", spec := "bufferMatchesReference", unfollowed := true, recurses := true, apart := false, narrowed := true }
def BufferMatchesReferenceUptoSaid : Prop := bufferMatchesReferenceUptoRow.holds Try.pinned (OpenSpec.upto bufferMatchesReferenceSpec)

/-- 'interleavelaw27.BufferIsFIFO', WHERE WHAT IT READS IS OF BULK AT MOST 1048576: true; the input reads as it did. -/
def bufferIsFIFOUptoRow : OpenClaim := { program := "ytabfnclbehkcnaa", sum := "4d64e2c4345756d7b54d2d445fb2d41cfb95963c2b7103e4b36a2ba613244d45", func := "interleave/interleavelaw27.BufferIsFIFO", spec := "bufferIsFIFO", unfollowed := true, recurses := true, apart := false, narrowed := true }
def BufferIsFIFOUptoSaid : Prop := bufferIsFIFOUptoRow.holds Try.pinned (OpenSpec.upto bufferIsFIFOSpec)

/-- 'interleavelaw27.BufferReadsOwnWrites', WHERE WHAT IT READS IS OF BULK AT MOST 1048576: true; the input reads as it did. -/
def bufferReadsOwnWritesUptoRow : OpenClaim := { program := "ytabfnclbehkcnaa", sum := "4d64e2c4345756d7b54d2d445fb2d41cfb95963c2b7103e4b36a2ba613244d45", func := "interleave/interleavelaw27.BufferReadsOwnWrites", spec := "bufferReadsOwnWrites", unfollowed := true, recurses := true, apart := false, narrowed := true }
def BufferReadsOwnWritesUptoSaid : Prop := bufferReadsOwnWritesUptoRow.holds Try.pinned (OpenSpec.upto bufferReadsOwnWritesSpec)

/-- 'interleavelaw27.BufferPushHides', WHERE WHAT IT READS IS OF BULK AT MOST 1048576: true; the input reads as it did. -/
def bufferPushHidesUptoRow : OpenClaim := { program := "ytabfnclbehkcnaa", sum := "4d64e2c4345756d7b54d2d445fb2d41cfb95963c2b7103e4b36a2ba613244d45", func := "interleave/interleavelaw27.BufferPushHides", spec := "bufferPushHides", unfollowed := true, recurses := true, apart := false, narrowed := true }
def BufferPushHidesUptoSaid : Prop := bufferPushHidesUptoRow.holds Try.pinned (OpenSpec.upto bufferPushHidesSpec)

/-- 'interleavelaw27.BufferEqual', WHERE WHAT IT READS IS OF BULK AT MOST 1048576: true; the input reads as it did. -/
def bufferEqualUptoRow : OpenClaim := { program := "ytabfnclbehkcnaa", sum := "4d64e2c4345756d7b54d2d445fb2d41cfb95963c2b7103e4b36a2ba613244d45", func := "interleave/interleavelaw27.BufferEqual", spec := "bufferEqual", unfollowed := true, recurses := true, apart := false, narrowed := true }
def BufferEqualUptoSaid : Prop := bufferEqualUptoRow.holds Try.pinned (OpenSpec.upto bufferEqualSpec)

end Rows
end Go.Proofs.Ytabfnclbehkcnaa
