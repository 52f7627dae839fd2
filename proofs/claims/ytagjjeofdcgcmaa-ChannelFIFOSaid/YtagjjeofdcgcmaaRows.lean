/-
  No cell of these rows narrows 'for every input' (looked for: loops, veiled, ifaces, maps, wideKeys, modest, calm, conditions, laid).
  DERIVED. THE GIVEN ROWS OF THIS SEAT. 8 by the template 'for every input the law returns true; each argument reads behind the call as it read before'; 0 by the template 'total and deterministic' (their statements: YtagjjeofdcgcmaaTotals.lean).
  GIVEN WITH THE SEED: the statements are not yours to turn. If you find one false, say at which input.
  Laid BY PROGRAM, IN A SANDBOX (cutbox-rows.mjs): the forced cells as the released guide's own fill.sh prints them over the translation 10e86b51f28977ef… (all of the seat's roots in one cut). By AI agents, Wed Nov 11 2026. No macro, syntax, notation, axiom, sorry.
-/
import Derived.Test.YtagjjeofdcgcmaaChecked
import GoSem.Claim
import GoSem.ClaimJoined
import GoSem.ClaimMapViews
import Derived.JoinedTies
import Derived.KernelRfl
namespace Go.Proofs.Ytagjjeofdcgcmaa
/- THE CELL 'sum', in the pinned program and in every row, IS THE sha256 OF THE DUMP (.gsa) THAT YtagjjeofdcgcmaaProg.lean LOADS. Nothing in Lean hashes anything: it is a label: what it is worth is what the hold of that sum in a sandbox is worth. -/
noncomputable def Try.pinned : Pinned := { name := "ytagjjeofdcgcmaa", sum := "10e86b51f28977ef45a935d27f973031501c6444aa3c2ff6ec58e72cb2c9bf71", checked := Try.checked }
namespace Rows
def none {H : Type} : Left H := { results := [], args := [] }

/-- 'interleavelaw17.ChannelRendezvous': WHATEVER THE INPUT: true; the input reads as it did. -/
def channelRendezvousSpec : ChangeSpec := { name := "channelRendezvous", fn := fun _ => fun
  | [d] => { results := [.lit (.bool true)], args := [d] }
  | _ => none }
def channelRendezvousRow : OpenClaim := { program := "ytagjjeofdcgcmaa", sum := "10e86b51f28977ef45a935d27f973031501c6444aa3c2ff6ec58e72cb2c9bf71", func := "interleave/interleavelaw17.ChannelRendezvous", spec := "channelRendezvous", unfollowed := true, recurses := true, apart := false }
def ChannelRendezvousSaid : Prop := channelRendezvousRow.holds Try.pinned (OpenSpec.ofChange channelRendezvousSpec)

/-- ITS FALSE NEIGHBOUR: 'it returns false'. Refute it at one input. -/
def channelRendezvousWrong : ChangeSpec := { name := "channelRendezvous", fn := fun _ => fun
  | [d] => { results := [.lit (.bool false)], args := [d] }
  | _ => none }
def ChannelRendezvousWrongFalsely : Prop := channelRendezvousRow.holds Try.pinned (OpenSpec.ofChange channelRendezvousWrong)

/-- 'interleavelaw17.ChannelSendMatchesReference': WHATEVER THE INPUT: true; the input reads as it did. -/
def channelSendMatchesReferenceSpec : ChangeSpec := { name := "channelSendMatchesReference", fn := fun _ => fun
  | [d1, d2] => { results := [.lit (.bool true)], args := [d1, d2] }
  | _ => none }
def channelSendMatchesReferenceRow : OpenClaim := { program := "ytagjjeofdcgcmaa", sum := "10e86b51f28977ef45a935d27f973031501c6444aa3c2ff6ec58e72cb2c9bf71", func := "interleave/interleavelaw17.ChannelSendMatchesReference", spec := "channelSendMatchesReference", unfollowed := true, recurses := true, apart := false }
def ChannelSendMatchesReferenceSaid : Prop := channelSendMatchesReferenceRow.holds Try.pinned (OpenSpec.ofChange channelSendMatchesReferenceSpec)

/-- ITS FALSE NEIGHBOUR: 'it returns false'. Refute it at one input. -/
def channelSendMatchesReferenceWrong : ChangeSpec := { name := "channelSendMatchesReference", fn := fun _ => fun
  | [d1, d2] => { results := [.lit (.bool false)], args := [d1, d2] }
  | _ => none }
def ChannelSendMatchesReferenceWrongFalsely : Prop := channelSendMatchesReferenceRow.holds Try.pinned (OpenSpec.ofChange channelSendMatchesReferenceWrong)

/-- 'interleavelaw17.ChannelReceiveMatchesReference': WHATEVER THE INPUT: true; the input reads as it did. -/
def channelReceiveMatchesReferenceSpec : ChangeSpec := { name := "channelReceiveMatchesReference", fn := fun _ => fun
  | [d1, d2] => { results := [.lit (.bool true)], args := [d1, d2] }
  | _ => none }
def channelReceiveMatchesReferenceRow : OpenClaim := { program := "ytagjjeofdcgcmaa", sum := "10e86b51f28977ef45a935d27f973031501c6444aa3c2ff6ec58e72cb2c9bf71", func := "interleave/interleavelaw17.ChannelReceiveMatchesReference", spec := "channelReceiveMatchesReference", unfollowed := true, recurses := true, apart := false }
def ChannelReceiveMatchesReferenceSaid : Prop := channelReceiveMatchesReferenceRow.holds Try.pinned (OpenSpec.ofChange channelReceiveMatchesReferenceSpec)

/-- ITS FALSE NEIGHBOUR: 'it returns false'. Refute it at one input. -/
def channelReceiveMatchesReferenceWrong : ChangeSpec := { name := "channelReceiveMatchesReference", fn := fun _ => fun
  | [d1, d2] => { results := [.lit (.bool false)], args := [d1, d2] }
  | _ => none }
def ChannelReceiveMatchesReferenceWrongFalsely : Prop := channelReceiveMatchesReferenceRow.holds Try.pinned (OpenSpec.ofChange channelReceiveMatchesReferenceWrong)

/-- 'interleavelaw17.ChannelReady': WHATEVER THE INPUT: true; the input reads as it did. -/
def channelReadySpec : ChangeSpec := { name := "channelReady", fn := fun _ => fun
  | [d] => { results := [.lit (.bool true)], args := [d] }
  | _ => none }
def channelReadyRow : OpenClaim := { program := "ytagjjeofdcgcmaa", sum := "10e86b51f28977ef45a935d27f973031501c6444aa3c2ff6ec58e72cb2c9bf71", func := "interleave/interleavelaw17.ChannelReady", spec := "channelReady", unfollowed := true, recurses := true, apart := false }
def ChannelReadySaid : Prop := channelReadyRow.holds Try.pinned (OpenSpec.ofChange channelReadySpec)

/-- ITS FALSE NEIGHBOUR: 'it returns false'. Refute it at one input. -/
def channelReadyWrong : ChangeSpec := { name := "channelReady", fn := fun _ => fun
  | [d] => { results := [.lit (.bool false)], args := [d] }
  | _ => none }
def ChannelReadyWrongFalsely : Prop := channelReadyRow.holds Try.pinned (OpenSpec.ofChange channelReadyWrong)

/-- 'interleavelaw17.ChannelCloseMatchesReference': WHATEVER THE INPUT: true; the input reads as it did. -/
def channelCloseMatchesReferenceSpec : ChangeSpec := { name := "channelCloseMatchesReference", fn := fun _ => fun
  | [d1, d2] => { results := [.lit (.bool true)], args := [d1, d2] }
  | _ => none }
def channelCloseMatchesReferenceRow : OpenClaim := { program := "ytagjjeofdcgcmaa", sum := "10e86b51f28977ef45a935d27f973031501c6444aa3c2ff6ec58e72cb2c9bf71", func := "interleave/interleavelaw17.ChannelCloseMatchesReference", spec := "channelCloseMatchesReference", unfollowed := true, recurses := true, apart := false }
def ChannelCloseMatchesReferenceSaid : Prop := channelCloseMatchesReferenceRow.holds Try.pinned (OpenSpec.ofChange channelCloseMatchesReferenceSpec)

/-- ITS FALSE NEIGHBOUR: 'it returns false'. Refute it at one input. -/
def channelCloseMatchesReferenceWrong : ChangeSpec := { name := "channelCloseMatchesReference", fn := fun _ => fun
  | [d1, d2] => { results := [.lit (.bool false)], args := [d1, d2] }
  | _ => none }
def ChannelCloseMatchesReferenceWrongFalsely : Prop := channelCloseMatchesReferenceRow.holds Try.pinned (OpenSpec.ofChange channelCloseMatchesReferenceWrong)

/-- 'interleavelaw17.ChannelFIFO': WHATEVER THE INPUT: true; the input reads as it did. -/
def channelFIFOSpec : ChangeSpec := { name := "channelFIFO", fn := fun _ => fun
  | [d1, d2] => { results := [.lit (.bool true)], args := [d1, d2] }
  | _ => none }
def channelFIFORow : OpenClaim := { program := "ytagjjeofdcgcmaa", sum := "10e86b51f28977ef45a935d27f973031501c6444aa3c2ff6ec58e72cb2c9bf71", func := "interleave/interleavelaw17.ChannelFIFO", spec := "channelFIFO", unfollowed := true, recurses := true, apart := false }
def ChannelFIFOSaid : Prop := channelFIFORow.holds Try.pinned (OpenSpec.ofChange channelFIFOSpec)

/-- ITS FALSE NEIGHBOUR: 'it returns false'. Refute it at one input. -/
def channelFIFOWrong : ChangeSpec := { name := "channelFIFO", fn := fun _ => fun
  | [d1, d2] => { results := [.lit (.bool false)], args := [d1, d2] }
  | _ => none }
def ChannelFIFOWrongFalsely : Prop := channelFIFORow.holds Try.pinned (OpenSpec.ofChange channelFIFOWrong)

/-- 'interleavelaw17.ChannelSelectBoth': WHATEVER THE INPUT: true; the input reads as it did. -/
def channelSelectBothSpec : ChangeSpec := { name := "channelSelectBoth", fn := fun _ => fun
  | [d1, d2, d3] => { results := [.lit (.bool true)], args := [d1, d2, d3] }
  | _ => none }
def channelSelectBothRow : OpenClaim := { program := "ytagjjeofdcgcmaa", sum := "10e86b51f28977ef45a935d27f973031501c6444aa3c2ff6ec58e72cb2c9bf71", func := "interleave/interleavelaw17.ChannelSelectBoth", spec := "channelSelectBoth", unfollowed := true, recurses := true, apart := false }
def ChannelSelectBothSaid : Prop := channelSelectBothRow.holds Try.pinned (OpenSpec.ofChange channelSelectBothSpec)

/-- ITS FALSE NEIGHBOUR: 'it returns false'. Refute it at one input. -/
def channelSelectBothWrong : ChangeSpec := { name := "channelSelectBoth", fn := fun _ => fun
  | [d1, d2, d3] => { results := [.lit (.bool false)], args := [d1, d2, d3] }
  | _ => none }
def ChannelSelectBothWrongFalsely : Prop := channelSelectBothRow.holds Try.pinned (OpenSpec.ofChange channelSelectBothWrong)

/-- 'interleavelaw17.ChannelValid': WHATEVER THE INPUT: true; the input reads as it did. -/
def channelValidSpec : ChangeSpec := { name := "channelValid", fn := fun _ => fun
  | [d1, d2] => { results := [.lit (.bool true)], args := [d1, d2] }
  | _ => none }
def channelValidRow : OpenClaim := { program := "ytagjjeofdcgcmaa", sum := "10e86b51f28977ef45a935d27f973031501c6444aa3c2ff6ec58e72cb2c9bf71", func := "interleave/interleavelaw17.ChannelValid", spec := "channelValid", unfollowed := true, recurses := true, apart := false }
def ChannelValidSaid : Prop := channelValidRow.holds Try.pinned (OpenSpec.ofChange channelValidSpec)

/-- ITS FALSE NEIGHBOUR: 'it returns false'. Refute it at one input. -/
def channelValidWrong : ChangeSpec := { name := "channelValid", fn := fun _ => fun
  | [d1, d2] => { results := [.lit (.bool false)], args := [d1, d2] }
  | _ => none }
def ChannelValidWrongFalsely : Prop := channelValidRow.holds Try.pinned (OpenSpec.ofChange channelValidWrong)

/- THE SECOND FORM. 'bulk': how many values and letters a reading holds, each counted each time it is reached (what is shared counts as often as it is met; a slice's spare places count too). A statement '..UptoSaid' is the law's where the arguments, and the package variables that the reading takes, are together of bulk at most 1048576: NARROWER than '..Said'. Prove '..Said' where nothing that the law and all that it calls make is longer than what came in: it says more and counts as full. Else prove '..UptoSaid'. A law counts once. -/
mutual
def uptoBulk {H : Type} : DataW H → Nat
  | .lit (.string bytes) => bytes.length + 1
  | .lit _ => 1
  | .nil => 1
  | .ptr d => uptoBulk d + 1
  | .slice elems spare => uptoBulkAll elems + uptoBulkAll spare + 1
  | .agg parts => uptoBulkAll parts + 1
  | .iface _ d => uptoBulk d + 1
  | .map entries => uptoBulkEntries entries + 1
  | .held _ => 1
def uptoBulkAll {H : Type} : List (DataW H) → Nat
  | [] => 0
  | d :: r => uptoBulk d + uptoBulkAll r
def uptoBulkEntries {H : Type} : List (Lit × DataW H) → Nat
  | [] => 0
  | x :: r => uptoBulkEntry x + uptoBulkEntries r
def uptoBulkEntry {H : Type} : Lit × DataW H → Nat
  | (.string bytes, d) => bytes.length + uptoBulk d + 1
  | (_, d) => uptoBulk d + 1
 end
def uptoSmall : (H : Type) → List (DataW H) → Bool := fun _ ds => decide (uptoBulkAll ds ≤ 1048576)
def OpenSpec.upto (s : _root_.Go.ChangeSpec) : _root_.Go.OpenSpec := { _root_.Go.OpenSpec.ofChange s with cond := some uptoSmall }

/-- 'interleavelaw17.ChannelRendezvous', WHERE WHAT IT READS IS OF BULK AT MOST 1048576: true; the input reads as it did. -/
def channelRendezvousUptoRow : OpenClaim := { program := "ytagjjeofdcgcmaa", sum := "10e86b51f28977ef45a935d27f973031501c6444aa3c2ff6ec58e72cb2c9bf71", func := "interleave/interleavelaw17.ChannelRendezvous", spec := "channelRendezvous", unfollowed := true, recurses := true, apart := false, narrowed := true }
def ChannelRendezvousUptoSaid : Prop := channelRendezvousUptoRow.holds Try.pinned (OpenSpec.upto channelRendezvousSpec)

/-- 'interleavelaw17.ChannelSendMatchesReference', WHERE WHAT IT READS IS OF BULK AT MOST 1048576: true; the input reads as it did. -/
def channelSendMatchesReferenceUptoRow : OpenClaim := { program := "ytagjjeofdcgcmaa", sum := "10e86b51f28977ef45a935d27f973031501c6444aa3c2ff6ec58e72cb2c9bf71", func := "interleave/interleavelaw17.ChannelSendMatchesReference", spec := "channelSendMatchesReference", unfollowed := true, recurses := true, apart := false, narrowed := true }
def ChannelSendMatchesReferenceUptoSaid : Prop := channelSendMatchesReferenceUptoRow.holds Try.pinned (OpenSpec.upto channelSendMatchesReferenceSpec)

/-- 'interleavelaw17.ChannelReceiveMatchesReference', WHERE WHAT IT READS IS OF BULK AT MOST 1048576: true; the input reads as it did. -/
def channelReceiveMatchesReferenceUptoRow : OpenClaim := { program := "ytagjjeofdcgcmaa", sum := "10e86b51f28977ef45a935d27f973031501c6444aa3c2ff6ec58e72cb2c9bf71", func := "interleave/interleavelaw17.ChannelReceiveMatchesReference", spec := "channelReceiveMatchesReference", unfollowed := true, recurses := true, apart := false, narrowed := true }
def ChannelReceiveMatchesReferenceUptoSaid : Prop := channelReceiveMatchesReferenceUptoRow.holds Try.pinned (OpenSpec.upto channelReceiveMatchesReferenceSpec)

/-- 'interleavelaw17.ChannelReady', WHERE WHAT IT READS IS OF BULK AT MOST 1048576: true; the input reads as it did. -/
def channelReadyUptoRow : OpenClaim := { program := "ytagjjeofdcgcmaa", sum := "10e86b51f28977ef45a935d27f973031501c6444aa3c2ff6ec58e72cb2c9bf71", func := "interleave/interleavelaw17.ChannelReady", spec := "channelReady", unfollowed := true, recurses := true, apart := false, narrowed := true }
def ChannelReadyUptoSaid : Prop := channelReadyUptoRow.holds Try.pinned (OpenSpec.upto channelReadySpec)

/-- 'interleavelaw17.ChannelCloseMatchesReference', WHERE WHAT IT READS IS OF BULK AT MOST 1048576: true; the input reads as it did. -/
def channelCloseMatchesReferenceUptoRow : OpenClaim := { program := "ytagjjeofdcgcmaa", sum := "10e86b51f28977ef45a935d27f973031501c6444aa3c2ff6ec58e72cb2c9bf71", func := "interleave/interleavelaw17.ChannelCloseMatchesReference", spec := "channelCloseMatchesReference", unfollowed := true, recurses := true, apart := false, narrowed := true }
def ChannelCloseMatchesReferenceUptoSaid : Prop := channelCloseMatchesReferenceUptoRow.holds Try.pinned (OpenSpec.upto channelCloseMatchesReferenceSpec)

/-- 'interleavelaw17.ChannelFIFO', WHERE WHAT IT READS IS OF BULK AT MOST 1048576: true; the input reads as it did. -/
def channelFIFOUptoRow : OpenClaim := { program := "ytagjjeofdcgcmaa", sum := "10e86b51f28977ef45a935d27f973031501c6444aa3c2ff6ec58e72cb2c9bf71", func := "interleave/interleavelaw17.ChannelFIFO", spec := "channelFIFO", unfollowed := true, recurses := true, apart := false, narrowed := true }
def ChannelFIFOUptoSaid : Prop := channelFIFOUptoRow.holds Try.pinned (OpenSpec.upto channelFIFOSpec)

/-- 'interleavelaw17.ChannelSelectBoth', WHERE WHAT IT READS IS OF BULK AT MOST 1048576: true; the input reads as it did. -/
def channelSelectBothUptoRow : OpenClaim := { program := "ytagjjeofdcgcmaa", sum := "10e86b51f28977ef45a935d27f973031501c6444aa3c2ff6ec58e72cb2c9bf71", func := "interleave/interleavelaw17.ChannelSelectBoth", spec := "channelSelectBoth", unfollowed := true, recurses := true, apart := false, narrowed := true }
def ChannelSelectBothUptoSaid : Prop := channelSelectBothUptoRow.holds Try.pinned (OpenSpec.upto channelSelectBothSpec)

/-- 'interleavelaw17.ChannelValid', WHERE WHAT IT READS IS OF BULK AT MOST 1048576: true; the input reads as it did. -/
def channelValidUptoRow : OpenClaim := { program := "ytagjjeofdcgcmaa", sum := "10e86b51f28977ef45a935d27f973031501c6444aa3c2ff6ec58e72cb2c9bf71", func := "interleave/interleavelaw17.ChannelValid", spec := "channelValid", unfollowed := true, recurses := true, apart := false, narrowed := true }
def ChannelValidUptoSaid : Prop := channelValidUptoRow.holds Try.pinned (OpenSpec.upto channelValidSpec)

end Rows
end Go.Proofs.Ytagjjeofdcgcmaa
