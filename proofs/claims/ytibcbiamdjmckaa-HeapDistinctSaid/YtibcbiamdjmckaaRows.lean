/-
  No cell of these rows narrows 'for every input' (looked for: loops, veiled, ifaces, maps, wideKeys, modest, calm, conditions, laid).
  DERIVED. THE GIVEN ROWS OF THIS SEAT. 9 by the template 'for every input the law returns true; each argument reads behind the call as it read before'; 0 by the template 'total and deterministic' (their statements: YtibcbiamdjmckaaTotals.lean).
  GIVEN WITH THE SEED: the statements are not yours to turn. If you find one false, say at which input.
  Laid BY PROGRAM, IN A SANDBOX (cutbox-rows.mjs): the forced cells as the released guide's own fill.sh prints them over the translation 554c8a7c29f5af56… (all of the seat's roots in one cut). By AI agents, Wed Nov 11 2026. No macro, syntax, notation, axiom, sorry.
-/
import Derived.Test.YtibcbiamdjmckaaChecked
import GoSem.Claim
import GoSem.ClaimJoined
import GoSem.ClaimMapViews
import Derived.JoinedTies
import Derived.KernelRfl
namespace Go.Proofs.Ytibcbiamdjmckaa
/- THE CELL 'sum', in the pinned program and in every row, IS THE sha256 OF THE DUMP (.gsa) THAT YtibcbiamdjmckaaProg.lean LOADS. Nothing in Lean hashes anything: it is a label: what it is worth is what the hold of that sum in a sandbox is worth. -/
noncomputable def Try.pinned : Pinned := { name := "ytibcbiamdjmckaa", sum := "554c8a7c29f5af56cab7a8501032627f4ea9a7c3fbd90384142bbb03879ae974", checked := Try.checked }
namespace Rows
def none {H : Type} : Left H := { results := [], args := [] }

/-- 'interleavelaw16.HeapValid': WHATEVER THE INPUT: true; the input reads as it did. -/
def heapValidSpec : ChangeSpec := { name := "heapValid", fn := fun _ => fun
  | [d] => { results := [.lit (.bool true)], args := [d] }
  | _ => none }
def heapValidRow : OpenClaim := { program := "ytibcbiamdjmckaa", sum := "554c8a7c29f5af56cab7a8501032627f4ea9a7c3fbd90384142bbb03879ae974", func := "interleave/interleavelaw16.HeapValid", spec := "heapValid", inPlace := ["slices.overlaps[interleave/api.Object]"], unfollowed := true, recurses := true, apart := false }
def HeapValidSaid : Prop := heapValidRow.holds Try.pinned (OpenSpec.ofChange heapValidSpec)

/-- ITS FALSE NEIGHBOUR: 'it returns false'. Refute it at one input. -/
def heapValidWrong : ChangeSpec := { name := "heapValid", fn := fun _ => fun
  | [d] => { results := [.lit (.bool false)], args := [d] }
  | _ => none }
def HeapValidWrongFalsely : Prop := heapValidRow.holds Try.pinned (OpenSpec.ofChange heapValidWrong)

/-- 'interleavelaw16.HeapAllocs': WHATEVER THE INPUT: true; the input reads as it did. -/
def heapAllocsSpec : ChangeSpec := { name := "heapAllocs", fn := fun _ => fun
  | [d1, d2, d3] => { results := [.lit (.bool true)], args := [d1, d2, d3] }
  | _ => none }
def heapAllocsRow : OpenClaim := { program := "ytibcbiamdjmckaa", sum := "554c8a7c29f5af56cab7a8501032627f4ea9a7c3fbd90384142bbb03879ae974", func := "interleave/interleavelaw16.HeapAllocs", spec := "heapAllocs", inPlace := ["slices.overlaps[interleave/api.Object]"], unfollowed := true, recurses := true, apart := false }
def HeapAllocsSaid : Prop := heapAllocsRow.holds Try.pinned (OpenSpec.ofChange heapAllocsSpec)

/-- ITS FALSE NEIGHBOUR: 'it returns false'. Refute it at one input. -/
def heapAllocsWrong : ChangeSpec := { name := "heapAllocs", fn := fun _ => fun
  | [d1, d2, d3] => { results := [.lit (.bool false)], args := [d1, d2, d3] }
  | _ => none }
def HeapAllocsWrongFalsely : Prop := heapAllocsRow.holds Try.pinned (OpenSpec.ofChange heapAllocsWrong)

/-- 'interleavelaw16.HeapLoads': WHATEVER THE INPUT: true; the input reads as it did. -/
def heapLoadsSpec : ChangeSpec := { name := "heapLoads", fn := fun _ => fun
  | [d1, d2] => { results := [.lit (.bool true)], args := [d1, d2] }
  | _ => none }
def heapLoadsRow : OpenClaim := { program := "ytibcbiamdjmckaa", sum := "554c8a7c29f5af56cab7a8501032627f4ea9a7c3fbd90384142bbb03879ae974", func := "interleave/interleavelaw16.HeapLoads", spec := "heapLoads", inPlace := ["slices.overlaps[interleave/api.Object]"], unfollowed := true, recurses := true, apart := false }
def HeapLoadsSaid : Prop := heapLoadsRow.holds Try.pinned (OpenSpec.ofChange heapLoadsSpec)

/-- ITS FALSE NEIGHBOUR: 'it returns false'. Refute it at one input. -/
def heapLoadsWrong : ChangeSpec := { name := "heapLoads", fn := fun _ => fun
  | [d1, d2] => { results := [.lit (.bool false)], args := [d1, d2] }
  | _ => none }
def HeapLoadsWrongFalsely : Prop := heapLoadsRow.holds Try.pinned (OpenSpec.ofChange heapLoadsWrong)

/-- 'interleavelaw16.HeapStores': WHATEVER THE INPUT: true; the input reads as it did. -/
def heapStoresSpec : ChangeSpec := { name := "heapStores", fn := fun _ => fun
  | [d1, d2, d3] => { results := [.lit (.bool true)], args := [d1, d2, d3] }
  | _ => none }
def heapStoresRow : OpenClaim := { program := "ytibcbiamdjmckaa", sum := "554c8a7c29f5af56cab7a8501032627f4ea9a7c3fbd90384142bbb03879ae974", func := "interleave/interleavelaw16.HeapStores", spec := "heapStores", inPlace := ["slices.overlaps[interleave/api.Object]"], unfollowed := true, recurses := true, apart := false }
def HeapStoresSaid : Prop := heapStoresRow.holds Try.pinned (OpenSpec.ofChange heapStoresSpec)

/-- ITS FALSE NEIGHBOUR: 'it returns false'. Refute it at one input. -/
def heapStoresWrong : ChangeSpec := { name := "heapStores", fn := fun _ => fun
  | [d1, d2, d3] => { results := [.lit (.bool false)], args := [d1, d2, d3] }
  | _ => none }
def HeapStoresWrongFalsely : Prop := heapStoresRow.holds Try.pinned (OpenSpec.ofChange heapStoresWrong)

/-- 'interleavelaw16.HeapRemembers': WHATEVER THE INPUT: true; the input reads as it did. -/
def heapRemembersSpec : ChangeSpec := { name := "heapRemembers", fn := fun _ => fun
  | [d] => { results := [.lit (.bool true)], args := [d] }
  | _ => none }
def heapRemembersRow : OpenClaim := { program := "ytibcbiamdjmckaa", sum := "554c8a7c29f5af56cab7a8501032627f4ea9a7c3fbd90384142bbb03879ae974", func := "interleave/interleavelaw16.HeapRemembers", spec := "heapRemembers", inPlace := ["slices.overlaps[interleave/api.Object]"], unfollowed := true, recurses := true, apart := false }
def HeapRemembersSaid : Prop := heapRemembersRow.holds Try.pinned (OpenSpec.ofChange heapRemembersSpec)

/-- ITS FALSE NEIGHBOUR: 'it returns false'. Refute it at one input. -/
def heapRemembersWrong : ChangeSpec := { name := "heapRemembers", fn := fun _ => fun
  | [d] => { results := [.lit (.bool false)], args := [d] }
  | _ => none }
def HeapRemembersWrongFalsely : Prop := heapRemembersRow.holds Try.pinned (OpenSpec.ofChange heapRemembersWrong)

/-- 'interleavelaw16.HeapKeeps': WHATEVER THE INPUT: true; the input reads as it did. -/
def heapKeepsSpec : ChangeSpec := { name := "heapKeeps", fn := fun _ => fun
  | [d1, d2, d3] => { results := [.lit (.bool true)], args := [d1, d2, d3] }
  | _ => none }
def heapKeepsRow : OpenClaim := { program := "ytibcbiamdjmckaa", sum := "554c8a7c29f5af56cab7a8501032627f4ea9a7c3fbd90384142bbb03879ae974", func := "interleave/interleavelaw16.HeapKeeps", spec := "heapKeeps", inPlace := ["slices.overlaps[interleave/api.Object]"], unfollowed := true, recurses := true, apart := false }
def HeapKeepsSaid : Prop := heapKeepsRow.holds Try.pinned (OpenSpec.ofChange heapKeepsSpec)

/-- ITS FALSE NEIGHBOUR: 'it returns false'. Refute it at one input. -/
def heapKeepsWrong : ChangeSpec := { name := "heapKeeps", fn := fun _ => fun
  | [d1, d2, d3] => { results := [.lit (.bool false)], args := [d1, d2, d3] }
  | _ => none }
def HeapKeepsWrongFalsely : Prop := heapKeepsRow.holds Try.pinned (OpenSpec.ofChange heapKeepsWrong)

/-- 'interleavelaw16.HeapFinds': WHATEVER THE INPUT: true; the input reads as it did. -/
def heapFindsSpec : ChangeSpec := { name := "heapFinds", fn := fun _ => fun
  | [d1, d2] => { results := [.lit (.bool true)], args := [d1, d2] }
  | _ => none }
def heapFindsRow : OpenClaim := { program := "ytibcbiamdjmckaa", sum := "554c8a7c29f5af56cab7a8501032627f4ea9a7c3fbd90384142bbb03879ae974", func := "interleave/interleavelaw16.HeapFinds", spec := "heapFinds", inPlace := ["slices.overlaps[interleave/api.Object]"], unfollowed := true, recurses := true, apart := false }
def HeapFindsSaid : Prop := heapFindsRow.holds Try.pinned (OpenSpec.ofChange heapFindsSpec)

/-- ITS FALSE NEIGHBOUR: 'it returns false'. Refute it at one input. -/
def heapFindsWrong : ChangeSpec := { name := "heapFinds", fn := fun _ => fun
  | [d1, d2] => { results := [.lit (.bool false)], args := [d1, d2] }
  | _ => none }
def HeapFindsWrongFalsely : Prop := heapFindsRow.holds Try.pinned (OpenSpec.ofChange heapFindsWrong)

/-- 'interleavelaw16.HeapPuts': WHATEVER THE INPUT: true; the input reads as it did. -/
def heapPutsSpec : ChangeSpec := { name := "heapPuts", fn := fun _ => fun
  | [d1, d2] => { results := [.lit (.bool true)], args := [d1, d2] }
  | _ => none }
def heapPutsRow : OpenClaim := { program := "ytibcbiamdjmckaa", sum := "554c8a7c29f5af56cab7a8501032627f4ea9a7c3fbd90384142bbb03879ae974", func := "interleave/interleavelaw16.HeapPuts", spec := "heapPuts", inPlace := ["slices.overlaps[interleave/api.Object]"], unfollowed := true, recurses := true, apart := false }
def HeapPutsSaid : Prop := heapPutsRow.holds Try.pinned (OpenSpec.ofChange heapPutsSpec)

/-- ITS FALSE NEIGHBOUR: 'it returns false'. Refute it at one input. -/
def heapPutsWrong : ChangeSpec := { name := "heapPuts", fn := fun _ => fun
  | [d1, d2] => { results := [.lit (.bool false)], args := [d1, d2] }
  | _ => none }
def HeapPutsWrongFalsely : Prop := heapPutsRow.holds Try.pinned (OpenSpec.ofChange heapPutsWrong)

/-- 'interleavelaw16.HeapDistinct': WHATEVER THE INPUT: true; the input reads as it did. -/
def heapDistinctSpec : ChangeSpec := { name := "heapDistinct", fn := fun _ => fun
  | [d] => { results := [.lit (.bool true)], args := [d] }
  | _ => none }
def heapDistinctRow : OpenClaim := { program := "ytibcbiamdjmckaa", sum := "554c8a7c29f5af56cab7a8501032627f4ea9a7c3fbd90384142bbb03879ae974", func := "interleave/interleavelaw16.HeapDistinct", spec := "heapDistinct", inPlace := ["slices.overlaps[interleave/api.Object]"], unfollowed := true, recurses := true, apart := false }
def HeapDistinctSaid : Prop := heapDistinctRow.holds Try.pinned (OpenSpec.ofChange heapDistinctSpec)

/-- ITS FALSE NEIGHBOUR: 'it returns false'. Refute it at one input. -/
def heapDistinctWrong : ChangeSpec := { name := "heapDistinct", fn := fun _ => fun
  | [d] => { results := [.lit (.bool false)], args := [d] }
  | _ => none }
def HeapDistinctWrongFalsely : Prop := heapDistinctRow.holds Try.pinned (OpenSpec.ofChange heapDistinctWrong)

/- THE SECOND FORM. 'bulk': how many values and letters a reading holds, each counted each time it is reached (what is shared counts as often as it is met; a slice's spare places count too). A statement '..UptoSaid' is the law's where the arguments, and the package variables that the reading takes, are together of bulk at most 1048576: NARROWER than '..Said'. Prove '..Said' where nothing that the law and all that it calls make is longer than what came in: it says more and counts as full. Else prove '..UptoSaid'. A law counts once. -/
mutual
def uptoBulk {H : Type} : DataW H → Nat
  | .lit (.string bytes) => bytes.length + 1
  | .lit _ => 1
  | .nil => 1
  | .ptr d => uptoBulk d + 1
  | .slice elems spare => uptoBulkAll elems + uptoBulkAll spare + 1
  | .agg parts => uptoBulkAll parts + 1
  | .iface _ d => uptoBulk d + 1
  | .map entries => uptoBulkEntries entries + 1
  | .held _ => 1
def uptoBulkAll {H : Type} : List (DataW H) → Nat
  | [] => 0
  | d :: r => uptoBulk d + uptoBulkAll r
def uptoBulkEntries {H : Type} : List (Lit × DataW H) → Nat
  | [] => 0
  | x :: r => uptoBulkEntry x + uptoBulkEntries r
def uptoBulkEntry {H : Type} : Lit × DataW H → Nat
  | (.string bytes, d) => bytes.length + uptoBulk d + 1
  | (_, d) => uptoBulk d + 1
 end
def uptoSmall : (H : Type) → List (DataW H) → Bool := fun _ ds => decide (uptoBulkAll ds ≤ 1048576)
def OpenSpec.upto (s : _root_.Go.ChangeSpec) : _root_.Go.OpenSpec := { _root_.Go.OpenSpec.ofChange s with cond := some uptoSmall }

/-- 'interleavelaw16.HeapValid', WHERE WHAT IT READS IS OF BULK AT MOST 1048576: true; the input reads as it did. -/
def heapValidUptoRow : OpenClaim := { program := "ytibcbiamdjmckaa", sum := "554c8a7c29f5af56cab7a8501032627f4ea9a7c3fbd90384142bbb03879ae974", func := "interleave/interleavelaw16.HeapValid", spec := "heapValid", inPlace := ["slices.overlaps[interleave/api.Object]"], unfollowed := true, recurses := true, apart := false, narrowed := true }
def HeapValidUptoSaid : Prop := heapValidUptoRow.holds Try.pinned (OpenSpec.upto heapValidSpec)

/-- 'interleavelaw16.HeapAllocs', WHERE WHAT IT READS IS OF BULK AT MOST 1048576: true; the input reads as it did. -/
def heapAllocsUptoRow : OpenClaim := { program := "ytibcbiamdjmckaa", sum := "554c8a7c29f5af56cab7a8501032627f4ea9a7c3fbd90384142bbb03879ae974", func := "interleave/interleavelaw16.HeapAllocs", spec := "heapAllocs", inPlace := ["slices.overlaps[interleave/api.Object]"], unfollowed := true, recurses := true, apart := false, narrowed := true }
def HeapAllocsUptoSaid : Prop := heapAllocsUptoRow.holds Try.pinned (OpenSpec.upto heapAllocsSpec)

/-- 'interleavelaw16.HeapLoads', WHERE WHAT IT READS IS OF BULK AT MOST 1048576: true; the input reads as it did. -/
def heapLoadsUptoRow : OpenClaim := { program := "ytibcbiamdjmckaa", sum := "554c8a7c29f5af56cab7a8501032627f4ea9a7c3fbd90384142bbb03879ae974", func := "interleave/interleavelaw16.HeapLoads", spec := "heapLoads", inPlace := ["slices.overlaps[interleave/api.Object]"], unfollowed := true, recurses := true, apart := false, narrowed := true }
def HeapLoadsUptoSaid : Prop := heapLoadsUptoRow.holds Try.pinned (OpenSpec.upto heapLoadsSpec)

/-- 'interleavelaw16.HeapStores', WHERE WHAT IT READS IS OF BULK AT MOST 1048576: true; the input reads as it did. -/
def heapStoresUptoRow : OpenClaim := { program := "ytibcbiamdjmckaa", sum := "554c8a7c29f5af56cab7a8501032627f4ea9a7c3fbd90384142bbb03879ae974", func := "interleave/interleavelaw16.HeapStores", spec := "heapStores", inPlace := ["slices.overlaps[interleave/api.Object]"], unfollowed := true, recurses := true, apart := false, narrowed := true }
def HeapStoresUptoSaid : Prop := heapStoresUptoRow.holds Try.pinned (OpenSpec.upto heapStoresSpec)

/-- 'interleavelaw16.HeapRemembers', WHERE WHAT IT READS IS OF BULK AT MOST 1048576: true; the input reads as it did. -/
def heapRemembersUptoRow : OpenClaim := { program := "ytibcbiamdjmckaa", sum := "554c8a7c29f5af56cab7a8501032627f4ea9a7c3fbd90384142bbb03879ae974", func := "interleave/interleavelaw16.HeapRemembers", spec := "heapRemembers", inPlace := ["slices.overlaps[interleave/api.Object]"], unfollowed := true, recurses := true, apart := false, narrowed := true }
def HeapRemembersUptoSaid : Prop := heapRemembersUptoRow.holds Try.pinned (OpenSpec.upto heapRemembersSpec)

/-- 'interleavelaw16.HeapKeeps', WHERE WHAT IT READS IS OF BULK AT MOST 1048576: true; the input reads as it did. -/
def heapKeepsUptoRow : OpenClaim := { program := "ytibcbiamdjmckaa", sum := "554c8a7c29f5af56cab7a8501032627f4ea9a7c3fbd90384142bbb03879ae974", func := "interleave/interleavelaw16.HeapKeeps", spec := "heapKeeps", inPlace := ["slices.overlaps[interleave/api.Object]"], unfollowed := true, recurses := true, apart := false, narrowed := true }
def HeapKeepsUptoSaid : Prop := heapKeepsUptoRow.holds Try.pinned (OpenSpec.upto heapKeepsSpec)

/-- 'interleavelaw16.HeapFinds', WHERE WHAT IT READS IS OF BULK AT MOST 1048576: true; the input reads as it did. -/
def heapFindsUptoRow : OpenClaim := { program := "ytibcbiamdjmckaa", sum := "554c8a7c29f5af56cab7a8501032627f4ea9a7c3fbd90384142bbb03879ae974", func := "interleave/interleavelaw16.HeapFinds", spec := "heapFinds", inPlace := ["slices.overlaps[interleave/api.Object]"], unfollowed := true, recurses := true, apart := false, narrowed := true }
def HeapFindsUptoSaid : Prop := heapFindsUptoRow.holds Try.pinned (OpenSpec.upto heapFindsSpec)

/-- 'interleavelaw16.HeapPuts', WHERE WHAT IT READS IS OF BULK AT MOST 1048576: true; the input reads as it did. -/
def heapPutsUptoRow : OpenClaim := { program := "ytibcbiamdjmckaa", sum := "554c8a7c29f5af56cab7a8501032627f4ea9a7c3fbd90384142bbb03879ae974", func := "interleave/interleavelaw16.HeapPuts", spec := "heapPuts", inPlace := ["slices.overlaps[interleave/api.Object]"], unfollowed := true, recurses := true, apart := false, narrowed := true }
def HeapPutsUptoSaid : Prop := heapPutsUptoRow.holds Try.pinned (OpenSpec.upto heapPutsSpec)

/-- 'interleavelaw16.HeapDistinct', WHERE WHAT IT READS IS OF BULK AT MOST 1048576: true; the input reads as it did. -/
def heapDistinctUptoRow : OpenClaim := { program := "ytibcbiamdjmckaa", sum := "554c8a7c29f5af56cab7a8501032627f4ea9a7c3fbd90384142bbb03879ae974", func := "interleave/interleavelaw16.HeapDistinct", spec := "heapDistinct", inPlace := ["slices.overlaps[interleave/api.Object]"], unfollowed := true, recurses := true, apart := false, narrowed := true }
def HeapDistinctUptoSaid : Prop := heapDistinctUptoRow.holds Try.pinned (OpenSpec.upto heapDistinctSpec)

end Rows
end Go.Proofs.Ytibcbiamdjmckaa
