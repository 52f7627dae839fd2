/-
  No cell of these rows narrows 'for every input' (looked for: loops, veiled, ifaces, maps, wideKeys, modest, calm, conditions, laid).
  DERIVED. THE GIVEN ROWS OF THIS SEAT. 7 by the template 'for every input the law returns true; each argument reads behind the call as it read before'; 0 by the template 'total and deterministic' (their statements: YtoibihhocjbilaaTotals.lean).
  GIVEN WITH THE SEED: the statements are not yours to turn. If you find one false, say at which input.
  Laid BY PROGRAM, IN A SANDBOX (cutbox-rows.mjs): the forced cells as the released guide's own fill.sh prints them over the translation 0916c4cbc2161c65… (all of the seat's roots in one cut). By AI agents, Wed Nov 11 2026. No macro, syntax, notation, axiom, sorry.
-/
import Derived.Test.YtoibihhocjbilaaChecked
import GoSem.Claim
import GoSem.ClaimJoined
import GoSem.ClaimMapViews
import Derived.JoinedTies
import Derived.KernelRfl
namespace Go.Proofs.Ytoibihhocjbilaa
/- THE CELL 'sum', in the pinned program and in every row, IS THE sha256 OF THE DUMP (.gsa) THAT YtoibihhocjbilaaProg.lean LOADS. Nothing in Lean hashes anything: it is a label: what it is worth is what the hold of that sum in a sandbox is worth. -/
noncomputable def Try.pinned : Pinned := { name := "ytoibihhocjbilaa", sum := "0916c4cbc2161c65c97ce86de22a602b03ae0abf5f56e60d75ff97350e72d097", checked := Try.checked }
namespace Rows
def none {H : Type} : Left H := { results := [], args := [] }

/-- 'interleavelaw21.DepotValid': WHATEVER THE INPUT: true; the input reads as it did. -/
def depotValidSpec : ChangeSpec := { name := "depotValid", fn := fun _ => fun
  | [d] => { results := [.lit (.bool true)], args := [d] }
  | _ => none }
def depotValidRow : OpenClaim := { program := "ytoibihhocjbilaa", sum := "0916c4cbc2161c65c97ce86de22a602b03ae0abf5f56e60d75ff97350e72d097", func := "interleave/interleavelaw21.DepotValid", spec := "depotValid", unfollowed := true, recurses := true, plainKeys := false, apart := false }
def DepotValidSaid : Prop := depotValidRow.holds Try.pinned (OpenSpec.ofChange depotValidSpec)

/-- ITS FALSE NEIGHBOUR: 'it returns false'. Refute it at one input. -/
def depotValidWrong : ChangeSpec := { name := "depotValid", fn := fun _ => fun
  | [d] => { results := [.lit (.bool false)], args := [d] }
  | _ => none }
def DepotValidWrongFalsely : Prop := depotValidRow.holds Try.pinned (OpenSpec.ofChange depotValidWrong)

/-- 'interleavelaw21.DepotPush': WHATEVER THE INPUT: true; the input reads as it did. -/
def depotPushSpec : ChangeSpec := { name := "depotPush", fn := fun _ => fun
  | [d1, d2, d3] => { results := [.lit (.bool true)], args := [d1, d2, d3] }
  | _ => none }
def depotPushRow : OpenClaim := { program := "ytoibihhocjbilaa", sum := "0916c4cbc2161c65c97ce86de22a602b03ae0abf5f56e60d75ff97350e72d097", func := "interleave/interleavelaw21.DepotPush", spec := "depotPush", unfollowed := true, recurses := true, plainKeys := false, apart := false }
def DepotPushSaid : Prop := depotPushRow.holds Try.pinned (OpenSpec.ofChange depotPushSpec)

/-- ITS FALSE NEIGHBOUR: 'it returns false'. Refute it at one input. -/
def depotPushWrong : ChangeSpec := { name := "depotPush", fn := fun _ => fun
  | [d1, d2, d3] => { results := [.lit (.bool false)], args := [d1, d2, d3] }
  | _ => none }
def DepotPushWrongFalsely : Prop := depotPushRow.holds Try.pinned (OpenSpec.ofChange depotPushWrong)

/-- 'interleavelaw21.DepotPut': WHATEVER THE INPUT: true; the input reads as it did. -/
def depotPutSpec : ChangeSpec := { name := "depotPut", fn := fun _ => fun
  | [d1, d2] => { results := [.lit (.bool true)], args := [d1, d2] }
  | _ => none }
def depotPutRow : OpenClaim := { program := "ytoibihhocjbilaa", sum := "0916c4cbc2161c65c97ce86de22a602b03ae0abf5f56e60d75ff97350e72d097", func := "interleave/interleavelaw21.DepotPut", spec := "depotPut", unfollowed := true, recurses := true, plainKeys := false, apart := false }
def DepotPutSaid : Prop := depotPutRow.holds Try.pinned (OpenSpec.ofChange depotPutSpec)

/-- ITS FALSE NEIGHBOUR: 'it returns false'. Refute it at one input. -/
def depotPutWrong : ChangeSpec := { name := "depotPut", fn := fun _ => fun
  | [d1, d2] => { results := [.lit (.bool false)], args := [d1, d2] }
  | _ => none }
def DepotPutWrongFalsely : Prop := depotPutRow.holds Try.pinned (OpenSpec.ofChange depotPutWrong)

/-- 'interleavelaw21.DepotStack': WHATEVER THE INPUT: true; the input reads as it did. -/
def depotStackSpec : ChangeSpec := { name := "depotStack", fn := fun _ => fun
  | [d1, d2] => { results := [.lit (.bool true)], args := [d1, d2] }
  | _ => none }
def depotStackRow : OpenClaim := { program := "ytoibihhocjbilaa", sum := "0916c4cbc2161c65c97ce86de22a602b03ae0abf5f56e60d75ff97350e72d097", func := "interleave/interleavelaw21.DepotStack", spec := "depotStack", unfollowed := true, recurses := true, plainKeys := false, apart := false }
def DepotStackSaid : Prop := depotStackRow.holds Try.pinned (OpenSpec.ofChange depotStackSpec)

/-- ITS FALSE NEIGHBOUR: 'it returns false'. Refute it at one input. -/
def depotStackWrong : ChangeSpec := { name := "depotStack", fn := fun _ => fun
  | [d1, d2] => { results := [.lit (.bool false)], args := [d1, d2] }
  | _ => none }
def DepotStackWrongFalsely : Prop := depotStackRow.holds Try.pinned (OpenSpec.ofChange depotStackWrong)

/-- 'interleavelaw21.DepotFinds': WHATEVER THE INPUT: true; the input reads as it did. -/
def depotFindsSpec : ChangeSpec := { name := "depotFinds", fn := fun _ => fun
  | [d1, d2, d3] => { results := [.lit (.bool true)], args := [d1, d2, d3] }
  | _ => none }
def depotFindsRow : OpenClaim := { program := "ytoibihhocjbilaa", sum := "0916c4cbc2161c65c97ce86de22a602b03ae0abf5f56e60d75ff97350e72d097", func := "interleave/interleavelaw21.DepotFinds", spec := "depotFinds", unfollowed := true, recurses := true, plainKeys := false, apart := false }
def DepotFindsSaid : Prop := depotFindsRow.holds Try.pinned (OpenSpec.ofChange depotFindsSpec)

/-- ITS FALSE NEIGHBOUR: 'it returns false'. Refute it at one input. -/
def depotFindsWrong : ChangeSpec := { name := "depotFinds", fn := fun _ => fun
  | [d1, d2, d3] => { results := [.lit (.bool false)], args := [d1, d2, d3] }
  | _ => none }
def DepotFindsWrongFalsely : Prop := depotFindsRow.holds Try.pinned (OpenSpec.ofChange depotFindsWrong)

/-- 'interleavelaw21.DepotMerge': WHATEVER THE INPUT: true; the input reads as it did. -/
def depotMergeSpec : ChangeSpec := { name := "depotMerge", fn := fun _ => fun
  | [d1, d2] => { results := [.lit (.bool true)], args := [d1, d2] }
  | _ => none }
def depotMergeRow : OpenClaim := { program := "ytoibihhocjbilaa", sum := "0916c4cbc2161c65c97ce86de22a602b03ae0abf5f56e60d75ff97350e72d097", func := "interleave/interleavelaw21.DepotMerge", spec := "depotMerge", unfollowed := true, recurses := true, plainKeys := false, apart := false }
def DepotMergeSaid : Prop := depotMergeRow.holds Try.pinned (OpenSpec.ofChange depotMergeSpec)

/-- ITS FALSE NEIGHBOUR: 'it returns false'. Refute it at one input. -/
def depotMergeWrong : ChangeSpec := { name := "depotMerge", fn := fun _ => fun
  | [d1, d2] => { results := [.lit (.bool false)], args := [d1, d2] }
  | _ => none }
def DepotMergeWrongFalsely : Prop := depotMergeRow.holds Try.pinned (OpenSpec.ofChange depotMergeWrong)

/-- 'interleavelaw21.DepotMergeKeeps': WHATEVER THE INPUT: true; the input reads as it did. -/
def depotMergeKeepsSpec : ChangeSpec := { name := "depotMergeKeeps", fn := fun _ => fun
  | [d1, d2, d3] => { results := [.lit (.bool true)], args := [d1, d2, d3] }
  | _ => none }
def depotMergeKeepsRow : OpenClaim := { program := "ytoibihhocjbilaa", sum := "0916c4cbc2161c65c97ce86de22a602b03ae0abf5f56e60d75ff97350e72d097", func := "interleave/interleavelaw21.DepotMergeKeeps", spec := "depotMergeKeeps", unfollowed := true, recurses := true, plainKeys := false, apart := false }
def DepotMergeKeepsSaid : Prop := depotMergeKeepsRow.holds Try.pinned (OpenSpec.ofChange depotMergeKeepsSpec)

/-- ITS FALSE NEIGHBOUR: 'it returns false'. Refute it at one input. -/
def depotMergeKeepsWrong : ChangeSpec := { name := "depotMergeKeeps", fn := fun _ => fun
  | [d1, d2, d3] => { results := [.lit (.bool false)], args := [d1, d2, d3] }
  | _ => none }
def DepotMergeKeepsWrongFalsely : Prop := depotMergeKeepsRow.holds Try.pinned (OpenSpec.ofChange depotMergeKeepsWrong)

/- THE SECOND FORM. 'bulk': how many values and letters a reading holds, each counted each time it is reached (what is shared counts as often as it is met; a slice's spare places count too). A statement '..UptoSaid' is the law's where the arguments, and the package variables that the reading takes, are together of bulk at most 1048576: NARROWER than '..Said'. Prove '..Said' where nothing that the law and all that it calls make is longer than what came in: it says more and counts as full. Else prove '..UptoSaid'. A law counts once. -/
mutual
def uptoBulk {H : Type} : DataW H → Nat
  | .lit (.string bytes) => bytes.length + 1
  | .lit _ => 1
  | .nil => 1
  | .ptr d => uptoBulk d + 1
  | .slice elems spare => uptoBulkAll elems + uptoBulkAll spare + 1
  | .agg parts => uptoBulkAll parts + 1
  | .iface _ d => uptoBulk d + 1
  | .map entries => uptoBulkEntries entries + 1
  | .held _ => 1
def uptoBulkAll {H : Type} : List (DataW H) → Nat
  | [] => 0
  | d :: r => uptoBulk d + uptoBulkAll r
def uptoBulkEntries {H : Type} : List (Lit × DataW H) → Nat
  | [] => 0
  | x :: r => uptoBulkEntry x + uptoBulkEntries r
def uptoBulkEntry {H : Type} : Lit × DataW H → Nat
  | (.string bytes, d) => bytes.length + uptoBulk d + 1
  | (_, d) => uptoBulk d + 1
 end
def uptoSmall : (H : Type) → List (DataW H) → Bool := fun _ ds => decide (uptoBulkAll ds ≤ 1048576)
def OpenSpec.upto (s : _root_.Go.ChangeSpec) : _root_.Go.OpenSpec := { _root_.Go.OpenSpec.ofChange s with cond := some uptoSmall }

/-- 'interleavelaw21.DepotValid', WHERE WHAT IT READS IS OF BULK AT MOST 1048576: true; the input reads as it did. -/
def depotValidUptoRow : OpenClaim := { program := "ytoibihhocjbilaa", sum := "0916c4cbc2161c65c97ce86de22a602b03ae0abf5f56e60d75ff97350e72d097", func := "interleave/interleavelaw21.DepotValid", spec := "depotValid", unfollowed := true, recurses := true, plainKeys := false, apart := false, narrowed := true }
def DepotValidUptoSaid : Prop := depotValidUptoRow.holds Try.pinned (OpenSpec.upto depotValidSpec)

/-- 'interleavelaw21.DepotPush', WHERE WHAT IT READS IS OF BULK AT MOST 1048576: true; the input reads as it did. -/
def depotPushUptoRow : OpenClaim := { program := "ytoibihhocjbilaa", sum := "0916c4cbc2161c65c97ce86de22a602b03ae0abf5f56e60d75ff97350e72d097", func := "interleave/interleavelaw21.DepotPush", spec := "depotPush", unfollowed := true, recurses := true, plainKeys := false, apart := false, narrowed := true }
def DepotPushUptoSaid : Prop := depotPushUptoRow.holds Try.pinned (OpenSpec.upto depotPushSpec)

/-- 'interleavelaw21.DepotPut', WHERE WHAT IT READS IS OF BULK AT MOST 1048576: true; the input reads as it did. -/
def depotPutUptoRow : OpenClaim := { program := "ytoibihhocjbilaa", sum := "0916c4cbc2161c65c97ce86de22a602b03ae0abf5f56e60d75ff97350e72d097", func := "interleave/interleavelaw21.DepotPut", spec := "depotPut", unfollowed := true, recurses := true, plainKeys := false, apart := false, narrowed := true }
def DepotPutUptoSaid : Prop := depotPutUptoRow.holds Try.pinned (OpenSpec.upto depotPutSpec)

/-- 'interleavelaw21.DepotStack', WHERE WHAT IT READS IS OF BULK AT MOST 1048576: true; the input reads as it did. -/
def depotStackUptoRow : OpenClaim := { program := "ytoibihhocjbilaa", sum := "0916c4cbc2161c65c97ce86de22a602b03ae0abf5f56e60d75ff97350e72d097", func := "interleave/interleavelaw21.DepotStack", spec := "depotStack", unfollowed := true, recurses := true, plainKeys := false, apart := false, narrowed := true }
def DepotStackUptoSaid : Prop := depotStackUptoRow.holds Try.pinned (OpenSpec.upto depotStackSpec)

/-- 'interleavelaw21.DepotFinds', WHERE WHAT IT READS IS OF BULK AT MOST 1048576: true; the input reads as it did. -/
def depotFindsUptoRow : OpenClaim := { program := "ytoibihhocjbilaa", sum := "0916c4cbc2161c65c97ce86de22a602b03ae0abf5f56e60d75ff97350e72d097", func := "interleave/interleavelaw21.DepotFinds", spec := "depotFinds", unfollowed := true, recurses := true, plainKeys := false, apart := false, narrowed := true }
def DepotFindsUptoSaid : Prop := depotFindsUptoRow.holds Try.pinned (OpenSpec.upto depotFindsSpec)

/-- 'interleavelaw21.DepotMerge', WHERE WHAT IT READS IS OF BULK AT MOST 1048576: true; the input reads as it did. -/
def depotMergeUptoRow : OpenClaim := { program := "ytoibihhocjbilaa", sum := "0916c4cbc2161c65c97ce86de22a602b03ae0abf5f56e60d75ff97350e72d097", func := "interleave/interleavelaw21.DepotMerge", spec := "depotMerge", unfollowed := true, recurses := true, plainKeys := false, apart := false, narrowed := true }
def DepotMergeUptoSaid : Prop := depotMergeUptoRow.holds Try.pinned (OpenSpec.upto depotMergeSpec)

/-- 'interleavelaw21.DepotMergeKeeps', WHERE WHAT IT READS IS OF BULK AT MOST 1048576: true; the input reads as it did. -/
def depotMergeKeepsUptoRow : OpenClaim := { program := "ytoibihhocjbilaa", sum := "0916c4cbc2161c65c97ce86de22a602b03ae0abf5f56e60d75ff97350e72d097", func := "interleave/interleavelaw21.DepotMergeKeeps", spec := "depotMergeKeeps", unfollowed := true, recurses := true, plainKeys := false, apart := false, narrowed := true }
def DepotMergeKeepsUptoSaid : Prop := depotMergeKeepsUptoRow.holds Try.pinned (OpenSpec.upto depotMergeKeepsSpec)

end Rows
end Go.Proofs.Ytoibihhocjbilaa
