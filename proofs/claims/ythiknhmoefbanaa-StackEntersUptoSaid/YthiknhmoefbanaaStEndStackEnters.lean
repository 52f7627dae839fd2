/- StackEnters answers true at every input and leaves its arguments as they were, where they hold together at most 1048576 values and letters. -/
import Derived.Test.YthiknhmoefbanaaXb
import Derived.Test.YthiknhmoefbanaaXg
import Derived.Test.YthiknhmoefbanaaRows
import Derived.WalkKit
import Derived.ProofKit
import Derived.OpenShut
import Derived.ShutString
import Derived.ChangeOld
import Derived.Below
import Derived.JoinedCond
namespace Go.Proofs.Ythiknhmoefbanaa.stackEntersDone
open Go.ChangeShapes Go.WideShapes Go.ChangeAt Go.RowKit Go.AL Go.Hp Go.Proofs.Ythiknhmoefbanaa
set_option linter.unusedVariables false
theorem own : ownKnob Try.prog.godebug = none := by kernel_rfl
theorem laidOut : laidOutB Try.prog = true := by kernel_rfl
set_option maxRecDepth 100000 in
theorem lifted (os : Os) (started : os.Started) (H : Type) (enc : TypeId × Value → H) (F : Stop.Interp) :
    ReturnsInHanded {} Try.checked os 4 .any ((Rows.OpenSpec.upto Rows.stackEntersSpec).pre6 enc Try.prog Try.f4 Rows.stackEntersUptoRow.domain false) (((Rows.OpenSpec.upto Rows.stackEntersSpec).at F).post enc Try.prog Try.f4 false true false false) := by
  refine returnsInHanded_of_cond (C := Try.checked) (s := Rows.OpenSpec.upto Rows.stackEntersSpec) (k := Rows.uptoSmall) rfl own started (by kernel_rfl) Try.func4
    (OpenSpec.witness (enc := enc) (C := Try.checked) (s := Rows.OpenSpec.upto Rows.stackEntersSpec) (k := Rows.uptoSmall) rfl false ⟨#[], #[.agg #[.slice none 0 0, .slice none 0 0, .slice none 0 0, .int .i64 0, .int .i64 0, .int .i64 0, .int .i64 0, .slice none 0 0, .int .i64 0, .slice none 0 0, .int .i64 0]], []⟩ 8 (by kernel_rfl) (by kernel_rfl) (by kernel_rfl)
      (x := ([.agg [.agg [.nil, .nil, .nil, .lit (.int .i64 0)], .agg [.lit (.int .i64 0), .lit (.int .i64 0), .lit (.int .i64 0), .nil], .lit (.int .i64 0), .nil, .lit (.int .i64 0)]], [], [])) (by kernel_rfl) rfl (by kernel_rfl)) ?_
  intro W base args ds gs before hval0 hW _ hk _
  have hval : ∀ (j : Nat) t v, Try.f4.params[j]? = some t → args[j]? = some v → Value.okWide Try.prog W .any base t v := hval0
  have hW' := hW
  obtain ⟨p, q, hA0, hV, rfl, hfz, hnd⟩ := hW
  have hA : DataW.TrodAll enc Try.prog W 0 (fun _ => true) true Try.f4.params.toList args.toList ds p := hA0
  rw [Try.params4] at hA hval
  obtain ⟨v0, vs0, d0, ds0, p0, q0, hargs, rfl, rfl, h0, r0⟩ := trodAll_cons hA
  obtain ⟨rfl, rfl, rfl⟩ := trodAll_nil r0
  obtain rfl : args = #[v0] := by cases args; simp_all
  obtain ⟨rfl, rfl⟩ := trodVars_none hV
  have k0 := h0
  have lt0 : ∀ x ∈ p0, x.block < W.heap.size := by obtain ⟨m, hm⟩ := k0; exact DataW.trod_lt m _ _ _ hm
  obtain ⟨a0, ⟨ok0, sz0⟩, g0⟩ := rdS_agg (rd_call bulkOK) (by kernel_rfl) (hval 0 35 v0 rfl rfl) h0
  clear hA0 hval0
  have hbk0 : Rows.uptoBulkAll ([d0] ++ []) ≤ 1048576 := of_decide_eq_true hk
  have hbk : Rows.uptoBulk d0 ≤ 1048576 := by simpa only [List.append_nil, Rows.uptoBulkAll, Nat.add_zero, Nat.add_assoc] using hbk0
  refine (law_at (law_enters a0 (bdP_of (by have := sz0; unfold szCl at this; omega)) (bdGr_of (by have := sz0; unfold szCl at this; omega)) (frames_of (n := 1048576) (by have := sz0; unfold szCl at this; omega) (Nat.le_refl _)) (args_of (by have := sz0; unfold szCl at this; omega))) (W := W) (vs := [v0]) ⟨g0, trivial⟩).mono fun e W' ⟨he, bel⟩ => ?_
  subst he
  exact ⟨_, rfl, _, _, _, [], _, [], hW', trodAll_mk1 (shut_bool Try.underlying4 _), (trodAll_cons_mk (Below.trod laidOut (by kernel_rfl) (of_decide_eq_true (by kernel_rfl)) k0 bel lt0) trodAll_mk0), rfl, bel.frame _, fun h => by cases h⟩
theorem over : Rows.stackEntersUptoRow.holds Try.pinned (Rows.OpenSpec.upto Rows.stackEntersSpec) :=
  OpenClaim.holds_of_cond 4 Try.f4 rfl rfl rfl rfl rfl rfl rfl ⟨rfl, rfl, rfl, rfl, rfl⟩ rfl rfl rfl rfl rfl (by kernel_rfl) Try.func4 (by kernel_rfl)
    (of_decide_eq_true (by kernel_rfl)) (by unfold Func.isWrapper; first | (rw [if_pos (by decide +kernel)]; kernel_rfl) | (rw [if_neg (by decide +kernel)]; exact ⟨rfl, rfl⟩))
    (fun os started H enc _ F => lifted os started H enc F)
end Go.Proofs.Ythiknhmoefbanaa.stackEntersDone
namespace Go.Proofs.Ythiknhmoefbanaa
theorem stackEnters_proved : Rows.StackEntersUptoSaid := stackEntersDone.over
end Go.Proofs.Ythiknhmoefbanaa
