/-
  No cell of these rows narrows 'for every input' (looked for: loops, veiled, ifaces, maps, wideKeys, modest, calm, conditions, laid).
  DERIVED. THE GIVEN ROWS OF THIS SEAT. 6 by the template 'for every input the law returns true; each argument reads behind the call as it read before'; 0 by the template 'total and deterministic' (their statements: YtgdhogmghffbaaaTotals.lean).
  GIVEN WITH THE SEED: the statements are not yours to turn. If you find one false, say at which input.
  Laid BY PROGRAM, IN A SANDBOX (cutbox-rows.mjs): the forced cells as the released guide's own fill.sh prints them over the translation 15d1f75be0834ee3… (all of the seat's roots in one cut). By AI agents, Wed Nov 11 2026. No macro, syntax, notation, axiom, sorry.
-/
import Derived.Test.YtgdhogmghffbaaaChecked
import GoSem.Claim
import GoSem.ClaimJoined
import GoSem.ClaimMapViews
import Derived.JoinedTies
import Derived.KernelRfl
namespace Go.Proofs.Ytgdhogmghffbaaa
/- THE CELL 'sum', in the pinned program and in every row, IS THE sha256 OF THE DUMP (.gsa) THAT YtgdhogmghffbaaaProg.lean LOADS. Nothing in Lean hashes anything: it is a label: what it is worth is what the hold of that sum in a sandbox is worth. -/
noncomputable def Try.pinned : Pinned := { name := "ytgdhogmghffbaaa", sum := "15d1f75be0834ee36a609df1bd2d4883a145af3c5356af63367a3de891288853", checked := Try.checked }
namespace Rows
def none {H : Type} : Left H := { results := [], args := [] }

/-- 'interleavelaw55.WireEncode': WHATEVER THE INPUT: true; the input reads as it did. -/
def wireEncodeSpec : ChangeSpec := { name := "wireEncode", fn := fun _ => fun
  | [d] => { results := [.lit (.bool true)], args := [d] }
  | _ => none }
def wireEncodeRow : OpenClaim := { program := "ytgdhogmghffbaaa", sum := "15d1f75be0834ee36a609df1bd2d4883a145af3c5356af63367a3de891288853", func := "interleave/interleavelaw55.WireEncode", spec := "wireEncode", inPlace := ["slices.overlaps[interleave/wire.Frame]"], unfollowed := true, recurses := true, apart := false }
def WireEncodeSaid : Prop := wireEncodeRow.holds Try.pinned (OpenSpec.ofChange wireEncodeSpec)

/-- ITS FALSE NEIGHBOUR: 'it returns false'. Refute it at one input. -/
def wireEncodeWrong : ChangeSpec := { name := "wireEncode", fn := fun _ => fun
  | [d] => { results := [.lit (.bool false)], args := [d] }
  | _ => none }
def WireEncodeWrongFalsely : Prop := wireEncodeRow.holds Try.pinned (OpenSpec.ofChange wireEncodeWrong)

/-- 'interleavelaw55.WireDecode': WHATEVER THE INPUT: true; the input reads as it did. -/
def wireDecodeSpec : ChangeSpec := { name := "wireDecode", fn := fun _ => fun
  | [d] => { results := [.lit (.bool true)], args := [d] }
  | _ => none }
def wireDecodeRow : OpenClaim := { program := "ytgdhogmghffbaaa", sum := "15d1f75be0834ee36a609df1bd2d4883a145af3c5356af63367a3de891288853", func := "interleave/interleavelaw55.WireDecode", spec := "wireDecode", inPlace := ["slices.overlaps[interleave/wire.Frame]"], unfollowed := true, recurses := true, apart := false }
def WireDecodeSaid : Prop := wireDecodeRow.holds Try.pinned (OpenSpec.ofChange wireDecodeSpec)

/-- ITS FALSE NEIGHBOUR: 'it returns false'. Refute it at one input. -/
def wireDecodeWrong : ChangeSpec := { name := "wireDecode", fn := fun _ => fun
  | [d] => { results := [.lit (.bool false)], args := [d] }
  | _ => none }
def WireDecodeWrongFalsely : Prop := wireDecodeRow.holds Try.pinned (OpenSpec.ofChange wireDecodeWrong)

/-- 'interleavelaw55.WireSend': WHATEVER THE INPUT: true; the input reads as it did. -/
def wireSendSpec : ChangeSpec := { name := "wireSend", fn := fun _ => fun
  | [d1, d2, d3] => { results := [.lit (.bool true)], args := [d1, d2, d3] }
  | _ => none }
def wireSendRow : OpenClaim := { program := "ytgdhogmghffbaaa", sum := "15d1f75be0834ee36a609df1bd2d4883a145af3c5356af63367a3de891288853", func := "interleave/interleavelaw55.WireSend", spec := "wireSend", inPlace := ["slices.overlaps[interleave/wire.Frame]"], unfollowed := true, recurses := true, apart := false }
def WireSendSaid : Prop := wireSendRow.holds Try.pinned (OpenSpec.ofChange wireSendSpec)

/-- ITS FALSE NEIGHBOUR: 'it returns false'. Refute it at one input. -/
def wireSendWrong : ChangeSpec := { name := "wireSend", fn := fun _ => fun
  | [d1, d2, d3] => { results := [.lit (.bool false)], args := [d1, d2, d3] }
  | _ => none }
def WireSendWrongFalsely : Prop := wireSendRow.holds Try.pinned (OpenSpec.ofChange wireSendWrong)

/-- 'interleavelaw55.WireFrames': WHATEVER THE INPUT: true; the input reads as it did. -/
def wireFramesSpec : ChangeSpec := { name := "wireFrames", fn := fun _ => fun
  | [d] => { results := [.lit (.bool true)], args := [d] }
  | _ => none }
def wireFramesRow : OpenClaim := { program := "ytgdhogmghffbaaa", sum := "15d1f75be0834ee36a609df1bd2d4883a145af3c5356af63367a3de891288853", func := "interleave/interleavelaw55.WireFrames", spec := "wireFrames", inPlace := ["slices.overlaps[interleave/wire.Frame]"], unfollowed := true, recurses := true, apart := false }
def WireFramesSaid : Prop := wireFramesRow.holds Try.pinned (OpenSpec.ofChange wireFramesSpec)

/-- ITS FALSE NEIGHBOUR: 'it returns false'. Refute it at one input. -/
def wireFramesWrong : ChangeSpec := { name := "wireFrames", fn := fun _ => fun
  | [d] => { results := [.lit (.bool false)], args := [d] }
  | _ => none }
def WireFramesWrongFalsely : Prop := wireFramesRow.holds Try.pinned (OpenSpec.ofChange wireFramesWrong)

/-- 'interleavelaw55.WirePrefix': WHATEVER THE INPUT: true; the input reads as it did. -/
def wirePrefixSpec : ChangeSpec := { name := "wirePrefix", fn := fun _ => fun
  | [d1, d2] => { results := [.lit (.bool true)], args := [d1, d2] }
  | _ => none }
def wirePrefixRow : OpenClaim := { program := "ytgdhogmghffbaaa", sum := "15d1f75be0834ee36a609df1bd2d4883a145af3c5356af63367a3de891288853", func := "interleave/interleavelaw55.WirePrefix", spec := "wirePrefix", inPlace := ["slices.overlaps[interleave/wire.Frame]"], unfollowed := true, recurses := true, apart := false }
def WirePrefixSaid : Prop := wirePrefixRow.holds Try.pinned (OpenSpec.ofChange wirePrefixSpec)

/-- ITS FALSE NEIGHBOUR: 'it returns false'. Refute it at one input. -/
def wirePrefixWrong : ChangeSpec := { name := "wirePrefix", fn := fun _ => fun
  | [d1, d2] => { results := [.lit (.bool false)], args := [d1, d2] }
  | _ => none }
def WirePrefixWrongFalsely : Prop := wirePrefixRow.holds Try.pinned (OpenSpec.ofChange wirePrefixWrong)

/-- 'interleavelaw55.WireCompletes': WHATEVER THE INPUT: true; the input reads as it did. -/
def wireCompletesSpec : ChangeSpec := { name := "wireCompletes", fn := fun _ => fun
  | [d1, d2] => { results := [.lit (.bool true)], args := [d1, d2] }
  | _ => none }
def wireCompletesRow : OpenClaim := { program := "ytgdhogmghffbaaa", sum := "15d1f75be0834ee36a609df1bd2d4883a145af3c5356af63367a3de891288853", func := "interleave/interleavelaw55.WireCompletes", spec := "wireCompletes", inPlace := ["slices.overlaps[interleave/wire.Frame]"], unfollowed := true, recurses := true, apart := false }
def WireCompletesSaid : Prop := wireCompletesRow.holds Try.pinned (OpenSpec.ofChange wireCompletesSpec)

/-- ITS FALSE NEIGHBOUR: 'it returns false'. Refute it at one input. -/
def wireCompletesWrong : ChangeSpec := { name := "wireCompletes", fn := fun _ => fun
  | [d1, d2] => { results := [.lit (.bool false)], args := [d1, d2] }
  | _ => none }
def WireCompletesWrongFalsely : Prop := wireCompletesRow.holds Try.pinned (OpenSpec.ofChange wireCompletesWrong)

/- THE SECOND FORM. 'bulk': how many values and letters a reading holds, each counted each time it is reached (what is shared counts as often as it is met; a slice's spare places count too). A statement '..UptoSaid' is the law's where the arguments, and the package variables that the reading takes, are together of bulk at most 1048576: NARROWER than '..Said'. Prove '..Said' where nothing that the law and all that it calls make is longer than what came in: it says more and counts as full. Else prove '..UptoSaid'. A law counts once. -/
mutual
def uptoBulk {H : Type} : DataW H → Nat
  | .lit (.string bytes) => bytes.length + 1
  | .lit _ => 1
  | .nil => 1
  | .ptr d => uptoBulk d + 1
  | .slice elems spare => uptoBulkAll elems + uptoBulkAll spare + 1
  | .agg parts => uptoBulkAll parts + 1
  | .iface _ d => uptoBulk d + 1
  | .map entries => uptoBulkEntries entries + 1
  | .held _ => 1
def uptoBulkAll {H : Type} : List (DataW H) → Nat
  | [] => 0
  | d :: r => uptoBulk d + uptoBulkAll r
def uptoBulkEntries {H : Type} : List (Lit × DataW H) → Nat
  | [] => 0
  | x :: r => uptoBulkEntry x + uptoBulkEntries r
def uptoBulkEntry {H : Type} : Lit × DataW H → Nat
  | (.string bytes, d) => bytes.length + uptoBulk d + 1
  | (_, d) => uptoBulk d + 1
 end
def uptoSmall : (H : Type) → List (DataW H) → Bool := fun _ ds => decide (uptoBulkAll ds ≤ 1048576)
def OpenSpec.upto (s : _root_.Go.ChangeSpec) : _root_.Go.OpenSpec := { _root_.Go.OpenSpec.ofChange s with cond := some uptoSmall }

/-- 'interleavelaw55.WireEncode', WHERE WHAT IT READS IS OF BULK AT MOST 1048576: true; the input reads as it did. -/
def wireEncodeUptoRow : OpenClaim := { program := "ytgdhogmghffbaaa", sum := "15d1f75be0834ee36a609df1bd2d4883a145af3c5356af63367a3de891288853", func := "interleave/interleavelaw55.WireEncode", spec := "wireEncode", inPlace := ["slices.overlaps[interleave/wire.Frame]"], unfollowed := true, recurses := true, apart := false, narrowed := true }
def WireEncodeUptoSaid : Prop := wireEncodeUptoRow.holds Try.pinned (OpenSpec.upto wireEncodeSpec)

/-- 'interleavelaw55.WireDecode', WHERE WHAT IT READS IS OF BULK AT MOST 1048576: true; the input reads as it did. -/
def wireDecodeUptoRow : OpenClaim := { program := "ytgdhogmghffbaaa", sum := "15d1f75be0834ee36a609df1bd2d4883a145af3c5356af63367a3de891288853", func := "interleave/interleavelaw55.WireDecode", spec := "wireDecode", inPlace := ["slices.overlaps[interleave/wire.Frame]"], unfollowed := true, recurses := true, apart := false, narrowed := true }
def WireDecodeUptoSaid : Prop := wireDecodeUptoRow.holds Try.pinned (OpenSpec.upto wireDecodeSpec)

/-- 'interleavelaw55.WireSend', WHERE WHAT IT READS IS OF BULK AT MOST 1048576: true; the input reads as it did. -/
def wireSendUptoRow : OpenClaim := { program := "ytgdhogmghffbaaa", sum := "15d1f75be0834ee36a609df1bd2d4883a145af3c5356af63367a3de891288853", func := "interleave/interleavelaw55.WireSend", spec := "wireSend", inPlace := ["slices.overlaps[interleave/wire.Frame]"], unfollowed := true, recurses := true, apart := false, narrowed := true }
def WireSendUptoSaid : Prop := wireSendUptoRow.holds Try.pinned (OpenSpec.upto wireSendSpec)

/-- 'interleavelaw55.WireFrames', WHERE WHAT IT READS IS OF BULK AT MOST 1048576: true; the input reads as it did. -/
def wireFramesUptoRow : OpenClaim := { program := "ytgdhogmghffbaaa", sum := "15d1f75be0834ee36a609df1bd2d4883a145af3c5356af63367a3de891288853", func := "interleave/interleavelaw55.WireFrames", spec := "wireFrames", inPlace := ["slices.overlaps[interleave/wire.Frame]"], unfollowed := true, recurses := true, apart := false, narrowed := true }
def WireFramesUptoSaid : Prop := wireFramesUptoRow.holds Try.pinned (OpenSpec.upto wireFramesSpec)

/-- 'interleavelaw55.WirePrefix', WHERE WHAT IT READS IS OF BULK AT MOST 1048576: true; the input reads as it did. -/
def wirePrefixUptoRow : OpenClaim := { program := "ytgdhogmghffbaaa", sum := "15d1f75be0834ee36a609df1bd2d4883a145af3c5356af63367a3de891288853", func := "interleave/interleavelaw55.WirePrefix", spec := "wirePrefix", inPlace := ["slices.overlaps[interleave/wire.Frame]"], unfollowed := true, recurses := true, apart := false, narrowed := true }
def WirePrefixUptoSaid : Prop := wirePrefixUptoRow.holds Try.pinned (OpenSpec.upto wirePrefixSpec)

/-- 'interleavelaw55.WireCompletes', WHERE WHAT IT READS IS OF BULK AT MOST 1048576: true; the input reads as it did. -/
def wireCompletesUptoRow : OpenClaim := { program := "ytgdhogmghffbaaa", sum := "15d1f75be0834ee36a609df1bd2d4883a145af3c5356af63367a3de891288853", func := "interleave/interleavelaw55.WireCompletes", spec := "wireCompletes", inPlace := ["slices.overlaps[interleave/wire.Frame]"], unfollowed := true, recurses := true, apart := false, narrowed := true }
def WireCompletesUptoSaid : Prop := wireCompletesUptoRow.holds Try.pinned (OpenSpec.upto wireCompletesSpec)

end Rows
end Go.Proofs.Ytgdhogmghffbaaa
