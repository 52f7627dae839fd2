/-
  No cell of these rows narrows 'for every input' (looked for: loops, veiled, ifaces, maps, wideKeys, modest, calm, conditions, laid).
  DERIVED. THE GIVEN ROWS OF THIS SEAT. 6 by the template 'for every input the law returns true; each argument reads behind the call as it read before'; 0 by the template 'total and deterministic' (their statements: YtopnkekmbohgoaaTotals.lean).
  GIVEN WITH THE SEED: the statements are not yours to turn. If you find one false, say at which input.
  Laid BY PROGRAM, IN A SANDBOX (cutbox-rows.mjs): the forced cells as the released guide's own fill.sh prints them over the translation 20ea1418a34c201d… (all of the seat's roots in one cut). By AI agents, Wed Nov 11 2026. No macro, syntax, notation, axiom, sorry.
-/
import Derived.Test.YtopnkekmbohgoaaChecked
import GoSem.Claim
import GoSem.ClaimJoined
import GoSem.ClaimMapViews
import Derived.JoinedTies
import Derived.KernelRfl
namespace Go.Proofs.Ytopnkekmbohgoaa
/- THE CELL 'sum', in the pinned program and in every row, IS THE sha256 OF THE DUMP (.gsa) THAT YtopnkekmbohgoaaProg.lean LOADS. Nothing in Lean hashes anything: it is a label: what it is worth is what the hold of that sum in a sandbox is worth. -/
noncomputable def Try.pinned : Pinned := { name := "ytopnkekmbohgoaa", sum := "20ea1418a34c201d888db65b485b5fc1efee4726a66ae1f28d34b7690505b293", checked := Try.checked }
namespace Rows
def none {H : Type} : Left H := { results := [], args := [] }

/-- 'interleavelaw18.LockNew': WHATEVER THE INPUT: true; the input reads as it did. -/
def lockNewSpec : ChangeSpec := { name := "lockNew", fn := fun _ => fun
  | [d1, d2] => { results := [.lit (.bool true)], args := [d1, d2] }
  | _ => none }
def lockNewRow : OpenClaim := { program := "ytopnkekmbohgoaa", sum := "20ea1418a34c201d888db65b485b5fc1efee4726a66ae1f28d34b7690505b293", func := "interleave/interleavelaw18.LockNew", spec := "lockNew", unfollowed := true, recurses := true, apart := false }
def LockNewSaid : Prop := lockNewRow.holds Try.pinned (OpenSpec.ofChange lockNewSpec)

/-- ITS FALSE NEIGHBOUR: 'it returns false'. Refute it at one input. -/
def lockNewWrong : ChangeSpec := { name := "lockNew", fn := fun _ => fun
  | [d1, d2] => { results := [.lit (.bool false)], args := [d1, d2] }
  | _ => none }
def LockNewWrongFalsely : Prop := lockNewRow.holds Try.pinned (OpenSpec.ofChange lockNewWrong)

/-- 'interleavelaw18.LockReady': WHATEVER THE INPUT: true; the input reads as it did. -/
def lockReadySpec : ChangeSpec := { name := "lockReady", fn := fun _ => fun
  | [d1, d2] => { results := [.lit (.bool true)], args := [d1, d2] }
  | _ => none }
def lockReadyRow : OpenClaim := { program := "ytopnkekmbohgoaa", sum := "20ea1418a34c201d888db65b485b5fc1efee4726a66ae1f28d34b7690505b293", func := "interleave/interleavelaw18.LockReady", spec := "lockReady", unfollowed := true, recurses := true, apart := false }
def LockReadySaid : Prop := lockReadyRow.holds Try.pinned (OpenSpec.ofChange lockReadySpec)

/-- ITS FALSE NEIGHBOUR: 'it returns false'. Refute it at one input. -/
def lockReadyWrong : ChangeSpec := { name := "lockReady", fn := fun _ => fun
  | [d1, d2] => { results := [.lit (.bool false)], args := [d1, d2] }
  | _ => none }
def LockReadyWrongFalsely : Prop := lockReadyRow.holds Try.pinned (OpenSpec.ofChange lockReadyWrong)

/-- 'interleavelaw18.LockReadersCommute': WHATEVER THE INPUT: true; the input reads as it did. -/
def lockReadersCommuteSpec : ChangeSpec := { name := "lockReadersCommute", fn := fun _ => fun
  | [d1, d2, d3] => { results := [.lit (.bool true)], args := [d1, d2, d3] }
  | _ => none }
def lockReadersCommuteRow : OpenClaim := { program := "ytopnkekmbohgoaa", sum := "20ea1418a34c201d888db65b485b5fc1efee4726a66ae1f28d34b7690505b293", func := "interleave/interleavelaw18.LockReadersCommute", spec := "lockReadersCommute", unfollowed := true, recurses := true, apart := false }
def LockReadersCommuteSaid : Prop := lockReadersCommuteRow.holds Try.pinned (OpenSpec.ofChange lockReadersCommuteSpec)

/-- ITS FALSE NEIGHBOUR: 'it returns false'. Refute it at one input. -/
def lockReadersCommuteWrong : ChangeSpec := { name := "lockReadersCommute", fn := fun _ => fun
  | [d1, d2, d3] => { results := [.lit (.bool false)], args := [d1, d2, d3] }
  | _ => none }
def LockReadersCommuteWrongFalsely : Prop := lockReadersCommuteRow.holds Try.pinned (OpenSpec.ofChange lockReadersCommuteWrong)

/-- 'interleavelaw18.LockMatchesReference': WHATEVER THE INPUT: true; the input reads as it did. -/
def lockMatchesReferenceSpec : ChangeSpec := { name := "lockMatchesReference", fn := fun _ => fun
  | [d1, d2] => { results := [.lit (.bool true)], args := [d1, d2] }
  | _ => none }
def lockMatchesReferenceRow : OpenClaim := { program := "ytopnkekmbohgoaa", sum := "20ea1418a34c201d888db65b485b5fc1efee4726a66ae1f28d34b7690505b293", func := "interleave/interleavelaw18.LockMatchesReference", spec := "lockMatchesReference", unfollowed := true, recurses := true, apart := false }
def LockMatchesReferenceSaid : Prop := lockMatchesReferenceRow.holds Try.pinned (OpenSpec.ofChange lockMatchesReferenceSpec)

/-- ITS FALSE NEIGHBOUR: 'it returns false'. Refute it at one input. -/
def lockMatchesReferenceWrong : ChangeSpec := { name := "lockMatchesReference", fn := fun _ => fun
  | [d1, d2] => { results := [.lit (.bool false)], args := [d1, d2] }
  | _ => none }
def LockMatchesReferenceWrongFalsely : Prop := lockMatchesReferenceRow.holds Try.pinned (OpenSpec.ofChange lockMatchesReferenceWrong)

/-- 'interleavelaw18.LockUndone': WHATEVER THE INPUT: true; the input reads as it did. -/
def lockUndoneSpec : ChangeSpec := { name := "lockUndone", fn := fun _ => fun
  | [d1, d2] => { results := [.lit (.bool true)], args := [d1, d2] }
  | _ => none }
def lockUndoneRow : OpenClaim := { program := "ytopnkekmbohgoaa", sum := "20ea1418a34c201d888db65b485b5fc1efee4726a66ae1f28d34b7690505b293", func := "interleave/interleavelaw18.LockUndone", spec := "lockUndone", unfollowed := true, recurses := true, apart := false }
def LockUndoneSaid : Prop := lockUndoneRow.holds Try.pinned (OpenSpec.ofChange lockUndoneSpec)

/-- ITS FALSE NEIGHBOUR: 'it returns false'. Refute it at one input. -/
def lockUndoneWrong : ChangeSpec := { name := "lockUndone", fn := fun _ => fun
  | [d1, d2] => { results := [.lit (.bool false)], args := [d1, d2] }
  | _ => none }
def LockUndoneWrongFalsely : Prop := lockUndoneRow.holds Try.pinned (OpenSpec.ofChange lockUndoneWrong)

/-- 'interleavelaw18.LockExcludes': WHATEVER THE INPUT: true; the input reads as it did. -/
def lockExcludesSpec : ChangeSpec := { name := "lockExcludes", fn := fun _ => fun
  | [d1, d2] => { results := [.lit (.bool true)], args := [d1, d2] }
  | _ => none }
def lockExcludesRow : OpenClaim := { program := "ytopnkekmbohgoaa", sum := "20ea1418a34c201d888db65b485b5fc1efee4726a66ae1f28d34b7690505b293", func := "interleave/interleavelaw18.LockExcludes", spec := "lockExcludes", unfollowed := true, recurses := true, apart := false }
def LockExcludesSaid : Prop := lockExcludesRow.holds Try.pinned (OpenSpec.ofChange lockExcludesSpec)

/-- ITS FALSE NEIGHBOUR: 'it returns false'. Refute it at one input. -/
def lockExcludesWrong : ChangeSpec := { name := "lockExcludes", fn := fun _ => fun
  | [d1, d2] => { results := [.lit (.bool false)], args := [d1, d2] }
  | _ => none }
def LockExcludesWrongFalsely : Prop := lockExcludesRow.holds Try.pinned (OpenSpec.ofChange lockExcludesWrong)

/- THE SECOND FORM. 'bulk': how many values and letters a reading holds, each counted each time it is reached (what is shared counts as often as it is met; a slice's spare places count too). A statement '..UptoSaid' is the law's where the arguments, and the package variables that the reading takes, are together of bulk at most 1048576: NARROWER than '..Said'. Prove '..Said' where nothing that the law and all that it calls make is longer than what came in: it says more and counts as full. Else prove '..UptoSaid'. A law counts once. -/
mutual
def uptoBulk {H : Type} : DataW H → Nat
  | .lit (.string bytes) => bytes.length + 1
  | .lit _ => 1
  | .nil => 1
  | .ptr d => uptoBulk d + 1
  | .slice elems spare => uptoBulkAll elems + uptoBulkAll spare + 1
  | .agg parts => uptoBulkAll parts + 1
  | .iface _ d => uptoBulk d + 1
  | .map entries => uptoBulkEntries entries + 1
  | .held _ => 1
def uptoBulkAll {H : Type} : List (DataW H) → Nat
  | [] => 0
  | d :: r => uptoBulk d + uptoBulkAll r
def uptoBulkEntries {H : Type} : List (Lit × DataW H) → Nat
  | [] => 0
  | x :: r => uptoBulkEntry x + uptoBulkEntries r
def uptoBulkEntry {H : Type} : Lit × DataW H → Nat
  | (.string bytes, d) => bytes.length + uptoBulk d + 1
  | (_, d) => uptoBulk d + 1
 end
def uptoSmall : (H : Type) → List (DataW H) → Bool := fun _ ds => decide (uptoBulkAll ds ≤ 1048576)
def OpenSpec.upto (s : _root_.Go.ChangeSpec) : _root_.Go.OpenSpec := { _root_.Go.OpenSpec.ofChange s with cond := some uptoSmall }

/-- 'interleavelaw18.LockNew', WHERE WHAT IT READS IS OF BULK AT MOST 1048576: true; the input reads as it did. -/
def lockNewUptoRow : OpenClaim := { program := "ytopnkekmbohgoaa", sum := "20ea1418a34c201d888db65b485b5fc1efee4726a66ae1f28d34b7690505b293", func := "interleave/interleavelaw18.LockNew", spec := "lockNew", unfollowed := true, recurses := true, apart := false, narrowed := true }
def LockNewUptoSaid : Prop := lockNewUptoRow.holds Try.pinned (OpenSpec.upto lockNewSpec)

/-- 'interleavelaw18.LockReady', WHERE WHAT IT READS IS OF BULK AT MOST 1048576: true; the input reads as it did. -/
def lockReadyUptoRow : OpenClaim := { program := "ytopnkekmbohgoaa", sum := "20ea1418a34c201d888db65b485b5fc1efee4726a66ae1f28d34b7690505b293", func := "interleave/interleavelaw18.LockReady", spec := "lockReady", unfollowed := true, recurses := true, apart := false, narrowed := true }
def LockReadyUptoSaid : Prop := lockReadyUptoRow.holds Try.pinned (OpenSpec.upto lockReadySpec)

/-- 'interleavelaw18.LockReadersCommute', WHERE WHAT IT READS IS OF BULK AT MOST 1048576: true; the input reads as it did. -/
def lockReadersCommuteUptoRow : OpenClaim := { program := "ytopnkekmbohgoaa", sum := "20ea1418a34c201d888db65b485b5fc1efee4726a66ae1f28d34b7690505b293", func := "interleave/interleavelaw18.LockReadersCommute", spec := "lockReadersCommute", unfollowed := true, recurses := true, apart := false, narrowed := true }
def LockReadersCommuteUptoSaid : Prop := lockReadersCommuteUptoRow.holds Try.pinned (OpenSpec.upto lockReadersCommuteSpec)

/-- 'interleavelaw18.LockMatchesReference', WHERE WHAT IT READS IS OF BULK AT MOST 1048576: true; the input reads as it did. -/
def lockMatchesReferenceUptoRow : OpenClaim := { program := "ytopnkekmbohgoaa", sum := "20ea1418a34c201d888db65b485b5fc1efee4726a66ae1f28d34b7690505b293", func := "interleave/interleavelaw18.LockMatchesReference", spec := "lockMatchesReference", unfollowed := true, recurses := true, apart := false, narrowed := true }
def LockMatchesReferenceUptoSaid : Prop := lockMatchesReferenceUptoRow.holds Try.pinned (OpenSpec.upto lockMatchesReferenceSpec)

/-- 'interleavelaw18.LockUndone', WHERE WHAT IT READS IS OF BULK AT MOST 1048576: true; the input reads as it did. -/
def lockUndoneUptoRow : OpenClaim := { program := "ytopnkekmbohgoaa", sum := "20ea1418a34c201d888db65b485b5fc1efee4726a66ae1f28d34b7690505b293", func := "interleave/interleavelaw18.LockUndone", spec := "lockUndone", unfollowed := true, recurses := true, apart := false, narrowed := true }
def LockUndoneUptoSaid : Prop := lockUndoneUptoRow.holds Try.pinned (OpenSpec.upto lockUndoneSpec)

/-- 'interleavelaw18.LockExcludes', WHERE WHAT IT READS IS OF BULK AT MOST 1048576: true; the input reads as it did. -/
def lockExcludesUptoRow : OpenClaim := { program := "ytopnkekmbohgoaa", sum := "20ea1418a34c201d888db65b485b5fc1efee4726a66ae1f28d34b7690505b293", func := "interleave/interleavelaw18.LockExcludes", spec := "lockExcludes", unfollowed := true, recurses := true, apart := false, narrowed := true }
def LockExcludesUptoSaid : Prop := lockExcludesUptoRow.holds Try.pinned (OpenSpec.upto lockExcludesSpec)

end Rows
end Go.Proofs.Ytopnkekmbohgoaa
