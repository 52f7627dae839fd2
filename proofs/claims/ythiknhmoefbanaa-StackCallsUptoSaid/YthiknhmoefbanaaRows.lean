/-
  No cell of these rows narrows 'for every input' (looked for: loops, veiled, ifaces, maps, wideKeys, modest, calm, conditions, laid).
  DERIVED. THE GIVEN ROWS OF THIS SEAT. 9 by the template 'for every input the law returns true; each argument reads behind the call as it read before'; 0 by the template 'total and deterministic' (their statements: YthiknhmoefbanaaTotals.lean).
  GIVEN WITH THE SEED: the statements are not yours to turn. If you find one false, say at which input.
  Laid BY PROGRAM, IN A SANDBOX (cutbox-rows.mjs): the forced cells as the released guide's own fill.sh prints them over the translation e20af5a53bea1000… (all of the seat's roots in one cut). By AI agents, Wed Nov 11 2026. No macro, syntax, notation, axiom, sorry.
-/
import Derived.Test.YthiknhmoefbanaaChecked
import GoSem.Claim
import GoSem.ClaimJoined
import GoSem.ClaimMapViews
import Derived.JoinedTies
import Derived.KernelRfl
namespace Go.Proofs.Ythiknhmoefbanaa
/- THE CELL 'sum', in the pinned program and in every row, IS THE sha256 OF THE DUMP (.gsa) THAT YthiknhmoefbanaaProg.lean LOADS. Nothing in Lean hashes anything: it is a label: what it is worth is what the hold of that sum in a sandbox is worth. -/
noncomputable def Try.pinned : Pinned := { name := "ythiknhmoefbanaa", sum := "e20af5a53bea1000de3ca91e49bcc39c2001fc8be1436c842c3de395ca9ae155", checked := Try.checked }
namespace Rows
def none {H : Type} : Left H := { results := [], args := [] }

/-- 'interleavelaw22.StackValid': WHATEVER THE INPUT: true; the input reads as it did. -/
def stackValidSpec : ChangeSpec := { name := "stackValid", fn := fun _ => fun
  | [d1, d2] => { results := [.lit (.bool true)], args := [d1, d2] }
  | _ => none }
def stackValidRow : OpenClaim := { program := "ythiknhmoefbanaa", sum := "e20af5a53bea1000de3ca91e49bcc39c2001fc8be1436c842c3de395ca9ae155", func := "interleave/interleavelaw22.StackValid", spec := "stackValid", unfollowed := true, recurses := true, apart := false }
def StackValidSaid : Prop := stackValidRow.holds Try.pinned (OpenSpec.ofChange stackValidSpec)

/-- ITS FALSE NEIGHBOUR: 'it returns false'. Refute it at one input. -/
def stackValidWrong : ChangeSpec := { name := "stackValid", fn := fun _ => fun
  | [d1, d2] => { results := [.lit (.bool false)], args := [d1, d2] }
  | _ => none }
def StackValidWrongFalsely : Prop := stackValidRow.holds Try.pinned (OpenSpec.ofChange stackValidWrong)

/-- 'interleavelaw22.StackEnters': WHATEVER THE INPUT: true; the input reads as it did. -/
def stackEntersSpec : ChangeSpec := { name := "stackEnters", fn := fun _ => fun
  | [d] => { results := [.lit (.bool true)], args := [d] }
  | _ => none }
def stackEntersRow : OpenClaim := { program := "ythiknhmoefbanaa", sum := "e20af5a53bea1000de3ca91e49bcc39c2001fc8be1436c842c3de395ca9ae155", func := "interleave/interleavelaw22.StackEnters", spec := "stackEnters", unfollowed := true, recurses := true, apart := false }
def StackEntersSaid : Prop := stackEntersRow.holds Try.pinned (OpenSpec.ofChange stackEntersSpec)

/-- ITS FALSE NEIGHBOUR: 'it returns false'. Refute it at one input. -/
def stackEntersWrong : ChangeSpec := { name := "stackEnters", fn := fun _ => fun
  | [d] => { results := [.lit (.bool false)], args := [d] }
  | _ => none }
def StackEntersWrongFalsely : Prop := stackEntersRow.holds Try.pinned (OpenSpec.ofChange stackEntersWrong)

/-- 'interleavelaw22.StackLeaves': WHATEVER THE INPUT: true; the input reads as it did. -/
def stackLeavesSpec : ChangeSpec := { name := "stackLeaves", fn := fun _ => fun
  | [d1, d2, d3] => { results := [.lit (.bool true)], args := [d1, d2, d3] }
  | _ => none }
def stackLeavesRow : OpenClaim := { program := "ythiknhmoefbanaa", sum := "e20af5a53bea1000de3ca91e49bcc39c2001fc8be1436c842c3de395ca9ae155", func := "interleave/interleavelaw22.StackLeaves", spec := "stackLeaves", unfollowed := true, recurses := true, apart := false }
def StackLeavesSaid : Prop := stackLeavesRow.holds Try.pinned (OpenSpec.ofChange stackLeavesSpec)

/-- ITS FALSE NEIGHBOUR: 'it returns false'. Refute it at one input. -/
def stackLeavesWrong : ChangeSpec := { name := "stackLeaves", fn := fun _ => fun
  | [d1, d2, d3] => { results := [.lit (.bool false)], args := [d1, d2, d3] }
  | _ => none }
def StackLeavesWrongFalsely : Prop := stackLeavesRow.holds Try.pinned (OpenSpec.ofChange stackLeavesWrong)

/-- 'interleavelaw22.StackDefers': WHATEVER THE INPUT: true; the input reads as it did. -/
def stackDefersSpec : ChangeSpec := { name := "stackDefers", fn := fun _ => fun
  | [d1, d2] => { results := [.lit (.bool true)], args := [d1, d2] }
  | _ => none }
def stackDefersRow : OpenClaim := { program := "ythiknhmoefbanaa", sum := "e20af5a53bea1000de3ca91e49bcc39c2001fc8be1436c842c3de395ca9ae155", func := "interleave/interleavelaw22.StackDefers", spec := "stackDefers", unfollowed := true, recurses := true, apart := false }
def StackDefersSaid : Prop := stackDefersRow.holds Try.pinned (OpenSpec.ofChange stackDefersSpec)

/-- ITS FALSE NEIGHBOUR: 'it returns false'. Refute it at one input. -/
def stackDefersWrong : ChangeSpec := { name := "stackDefers", fn := fun _ => fun
  | [d1, d2] => { results := [.lit (.bool false)], args := [d1, d2] }
  | _ => none }
def StackDefersWrongFalsely : Prop := stackDefersRow.holds Try.pinned (OpenSpec.ofChange stackDefersWrong)

/-- 'interleavelaw22.StackSets': WHATEVER THE INPUT: true; the input reads as it did. -/
def stackSetsSpec : ChangeSpec := { name := "stackSets", fn := fun _ => fun
  | [d1, d2, d3] => { results := [.lit (.bool true)], args := [d1, d2, d3] }
  | _ => none }
def stackSetsRow : OpenClaim := { program := "ythiknhmoefbanaa", sum := "e20af5a53bea1000de3ca91e49bcc39c2001fc8be1436c842c3de395ca9ae155", func := "interleave/interleavelaw22.StackSets", spec := "stackSets", unfollowed := true, recurses := true, apart := false }
def StackSetsSaid : Prop := stackSetsRow.holds Try.pinned (OpenSpec.ofChange stackSetsSpec)

/-- ITS FALSE NEIGHBOUR: 'it returns false'. Refute it at one input. -/
def stackSetsWrong : ChangeSpec := { name := "stackSets", fn := fun _ => fun
  | [d1, d2, d3] => { results := [.lit (.bool false)], args := [d1, d2, d3] }
  | _ => none }
def StackSetsWrongFalsely : Prop := stackSetsRow.holds Try.pinned (OpenSpec.ofChange stackSetsWrong)

/-- 'interleavelaw22.StackSites': WHATEVER THE INPUT: true; the input reads as it did. -/
def stackSitesSpec : ChangeSpec := { name := "stackSites", fn := fun _ => fun
  | [d] => { results := [.lit (.bool true)], args := [d] }
  | _ => none }
def stackSitesRow : OpenClaim := { program := "ythiknhmoefbanaa", sum := "e20af5a53bea1000de3ca91e49bcc39c2001fc8be1436c842c3de395ca9ae155", func := "interleave/interleavelaw22.StackSites", spec := "stackSites", unfollowed := true, recurses := true, apart := false }
def StackSitesSaid : Prop := stackSitesRow.holds Try.pinned (OpenSpec.ofChange stackSitesSpec)

/-- ITS FALSE NEIGHBOUR: 'it returns false'. Refute it at one input. -/
def stackSitesWrong : ChangeSpec := { name := "stackSites", fn := fun _ => fun
  | [d] => { results := [.lit (.bool false)], args := [d] }
  | _ => none }
def StackSitesWrongFalsely : Prop := stackSitesRow.holds Try.pinned (OpenSpec.ofChange stackSitesWrong)

/-- 'interleavelaw22.StackCalls': WHATEVER THE INPUT: true; the input reads as it did. -/
def stackCallsSpec : ChangeSpec := { name := "stackCalls", fn := fun _ => fun
  | [d1, d2] => { results := [.lit (.bool true)], args := [d1, d2] }
  | _ => none }
def stackCallsRow : OpenClaim := { program := "ythiknhmoefbanaa", sum := "e20af5a53bea1000de3ca91e49bcc39c2001fc8be1436c842c3de395ca9ae155", func := "interleave/interleavelaw22.StackCalls", spec := "stackCalls", unfollowed := true, recurses := true, apart := false }
def StackCallsSaid : Prop := stackCallsRow.holds Try.pinned (OpenSpec.ofChange stackCallsSpec)

/-- ITS FALSE NEIGHBOUR: 'it returns false'. Refute it at one input. -/
def stackCallsWrong : ChangeSpec := { name := "stackCalls", fn := fun _ => fun
  | [d1, d2] => { results := [.lit (.bool false)], args := [d1, d2] }
  | _ => none }
def StackCallsWrongFalsely : Prop := stackCallsRow.holds Try.pinned (OpenSpec.ofChange stackCallsWrong)

/-- 'interleavelaw22.StackReverse': WHATEVER THE INPUT: true; the input reads as it did. -/
def stackReverseSpec : ChangeSpec := { name := "stackReverse", fn := fun _ => fun
  | [d1, d2, d3] => { results := [.lit (.bool true)], args := [d1, d2, d3] }
  | _ => none }
def stackReverseRow : OpenClaim := { program := "ythiknhmoefbanaa", sum := "e20af5a53bea1000de3ca91e49bcc39c2001fc8be1436c842c3de395ca9ae155", func := "interleave/interleavelaw22.StackReverse", spec := "stackReverse", unfollowed := true, recurses := true, apart := false }
def StackReverseSaid : Prop := stackReverseRow.holds Try.pinned (OpenSpec.ofChange stackReverseSpec)

/-- ITS FALSE NEIGHBOUR: 'it returns false'. Refute it at one input. -/
def stackReverseWrong : ChangeSpec := { name := "stackReverse", fn := fun _ => fun
  | [d1, d2, d3] => { results := [.lit (.bool false)], args := [d1, d2, d3] }
  | _ => none }
def StackReverseWrongFalsely : Prop := stackReverseRow.holds Try.pinned (OpenSpec.ofChange stackReverseWrong)

/-- 'interleavelaw22.StackKeeps': WHATEVER THE INPUT: true; the input reads as it did. -/
def stackKeepsSpec : ChangeSpec := { name := "stackKeeps", fn := fun _ => fun
  | [d1, d2, d3] => { results := [.lit (.bool true)], args := [d1, d2, d3] }
  | _ => none }
def stackKeepsRow : OpenClaim := { program := "ythiknhmoefbanaa", sum := "e20af5a53bea1000de3ca91e49bcc39c2001fc8be1436c842c3de395ca9ae155", func := "interleave/interleavelaw22.StackKeeps", spec := "stackKeeps", unfollowed := true, recurses := true, apart := false }
def StackKeepsSaid : Prop := stackKeepsRow.holds Try.pinned (OpenSpec.ofChange stackKeepsSpec)

/-- ITS FALSE NEIGHBOUR: 'it returns false'. Refute it at one input. -/
def stackKeepsWrong : ChangeSpec := { name := "stackKeeps", fn := fun _ => fun
  | [d1, d2, d3] => { results := [.lit (.bool false)], args := [d1, d2, d3] }
  | _ => none }
def StackKeepsWrongFalsely : Prop := stackKeepsRow.holds Try.pinned (OpenSpec.ofChange stackKeepsWrong)

/- THE SECOND FORM. 'bulk': how many values and letters a reading holds, each counted each time it is reached (what is shared counts as often as it is met; a slice's spare places count too). A statement '..UptoSaid' is the law's where the arguments, and the package variables that the reading takes, are together of bulk at most 1048576: NARROWER than '..Said'. Prove '..Said' where nothing that the law and all that it calls make is longer than what came in: it says more and counts as full. Else prove '..UptoSaid'. A law counts once. -/
mutual
def uptoBulk {H : Type} : DataW H → Nat
  | .lit (.string bytes) => bytes.length + 1
  | .lit _ => 1
  | .nil => 1
  | .ptr d => uptoBulk d + 1
  | .slice elems spare => uptoBulkAll elems + uptoBulkAll spare + 1
  | .agg parts => uptoBulkAll parts + 1
  | .iface _ d => uptoBulk d + 1
  | .map entries => uptoBulkEntries entries + 1
  | .held _ => 1
def uptoBulkAll {H : Type} : List (DataW H) → Nat
  | [] => 0
  | d :: r => uptoBulk d + uptoBulkAll r
def uptoBulkEntries {H : Type} : List (Lit × DataW H) → Nat
  | [] => 0
  | x :: r => uptoBulkEntry x + uptoBulkEntries r
def uptoBulkEntry {H : Type} : Lit × DataW H → Nat
  | (.string bytes, d) => bytes.length + uptoBulk d + 1
  | (_, d) => uptoBulk d + 1
 end
def uptoSmall : (H : Type) → List (DataW H) → Bool := fun _ ds => decide (uptoBulkAll ds ≤ 1048576)
def OpenSpec.upto (s : _root_.Go.ChangeSpec) : _root_.Go.OpenSpec := { _root_.Go.OpenSpec.ofChange s with cond := some uptoSmall }

/-- 'interleavelaw22.StackValid', WHERE WHAT IT READS IS OF BULK AT MOST 1048576: true; the input reads as it did. -/
def stackValidUptoRow : OpenClaim := { program := "ythiknhmoefbanaa", sum := "e20af5a53bea1000de3ca91e49bcc39c2001fc8be1436c842c3de395ca9ae155", func := "interleave/interleavelaw22.StackValid", spec := "stackValid", unfollowed := true, recurses := true, apart := false, narrowed := true }
def StackValidUptoSaid : Prop := stackValidUptoRow.holds Try.pinned (OpenSpec.upto stackValidSpec)

/-- 'interleavelaw22.StackEnters', WHERE WHAT IT READS IS OF BULK AT MOST 1048576: true; the input reads as it did. -/
def stackEntersUptoRow : OpenClaim := { program := "ythiknhmoefbanaa", sum := "e20af5a53bea1000de3ca91e49bcc39c2001fc8be1436c842c3de395ca9ae155", func := "interleave/interleavelaw22.StackEnters", spec := "stackEnters", unfollowed := true, recurses := true, apart := false, narrowed := true }
def StackEntersUptoSaid : Prop := stackEntersUptoRow.holds Try.pinned (OpenSpec.upto stackEntersSpec)

/-- 'interleavelaw22.StackLeaves', WHERE WHAT IT READS IS OF BULK AT MOST 1048576: true; the input reads as it did. -/
def stackLeavesUptoRow : OpenClaim := { program := "ythiknhmoefbanaa", sum := "e20af5a53bea1000de3ca91e49bcc39c2001fc8be1436c842c3de395ca9ae155", func := "interleave/interleavelaw22.StackLeaves", spec := "stackLeaves", unfollowed := true, recurses := true, apart := false, narrowed := true }
def StackLeavesUptoSaid : Prop := stackLeavesUptoRow.holds Try.pinned (OpenSpec.upto stackLeavesSpec)

/-- 'interleavelaw22.StackDefers', WHERE WHAT IT READS IS OF BULK AT MOST 1048576: true; the input reads as it did. -/
def stackDefersUptoRow : OpenClaim := { program := "ythiknhmoefbanaa", sum := "e20af5a53bea1000de3ca91e49bcc39c2001fc8be1436c842c3de395ca9ae155", func := "interleave/interleavelaw22.StackDefers", spec := "stackDefers", unfollowed := true, recurses := true, apart := false, narrowed := true }
def StackDefersUptoSaid : Prop := stackDefersUptoRow.holds Try.pinned (OpenSpec.upto stackDefersSpec)

/-- 'interleavelaw22.StackSets', WHERE WHAT IT READS IS OF BULK AT MOST 1048576: true; the input reads as it did. -/
def stackSetsUptoRow : OpenClaim := { program := "ythiknhmoefbanaa", sum := "e20af5a53bea1000de3ca91e49bcc39c2001fc8be1436c842c3de395ca9ae155", func := "interleave/interleavelaw22.StackSets", spec := "stackSets", unfollowed := true, recurses := true, apart := false, narrowed := true }
def StackSetsUptoSaid : Prop := stackSetsUptoRow.holds Try.pinned (OpenSpec.upto stackSetsSpec)

/-- 'interleavelaw22.StackSites', WHERE WHAT IT READS IS OF BULK AT MOST 1048576: true; the input reads as it did. -/
def stackSitesUptoRow : OpenClaim := { program := "ythiknhmoefbanaa", sum := "e20af5a53bea1000de3ca91e49bcc39c2001fc8be1436c842c3de395ca9ae155", func := "interleave/interleavelaw22.StackSites", spec := "stackSites", unfollowed := true, recurses := true, apart := false, narrowed := true }
def StackSitesUptoSaid : Prop := stackSitesUptoRow.holds Try.pinned (OpenSpec.upto stackSitesSpec)

/-- 'interleavelaw22.StackCalls', WHERE WHAT IT READS IS OF BULK AT MOST 1048576: true; the input reads as it did. -/
def stackCallsUptoRow : OpenClaim := { program := "ythiknhmoefbanaa", sum := "e20af5a53bea1000de3ca91e49bcc39c2001fc8be1436c842c3de395ca9ae155", func := "interleave/interleavelaw22.StackCalls", spec := "stackCalls", unfollowed := true, recurses := true, apart := false, narrowed := true }
def StackCallsUptoSaid : Prop := stackCallsUptoRow.holds Try.pinned (OpenSpec.upto stackCallsSpec)

/-- 'interleavelaw22.StackReverse', WHERE WHAT IT READS IS OF BULK AT MOST 1048576: true; the input reads as it did. -/
def stackReverseUptoRow : OpenClaim := { program := "ythiknhmoefbanaa", sum := "e20af5a53bea1000de3ca91e49bcc39c2001fc8be1436c842c3de395ca9ae155", func := "interleave/interleavelaw22.StackReverse", spec := "stackReverse", unfollowed := true, recurses := true, apart := false, narrowed := true }
def StackReverseUptoSaid : Prop := stackReverseUptoRow.holds Try.pinned (OpenSpec.upto stackReverseSpec)

/-- 'interleavelaw22.StackKeeps', WHERE WHAT IT READS IS OF BULK AT MOST 1048576: true; the input reads as it did. -/
def stackKeepsUptoRow : OpenClaim := { program := "ythiknhmoefbanaa", sum := "e20af5a53bea1000de3ca91e49bcc39c2001fc8be1436c842c3de395ca9ae155", func := "interleave/interleavelaw22.StackKeeps", spec := "stackKeeps", unfollowed := true, recurses := true, apart := false, narrowed := true }
def StackKeepsUptoSaid : Prop := stackKeepsUptoRow.holds Try.pinned (OpenSpec.upto stackKeepsSpec)

end Rows
end Go.Proofs.Ythiknhmoefbanaa
