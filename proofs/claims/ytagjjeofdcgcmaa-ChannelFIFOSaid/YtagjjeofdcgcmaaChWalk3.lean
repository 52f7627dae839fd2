/- Walks of the functions of layer 17: the steps -/
import Derived.Test.YtagjjeofdcgcmaaChWalk2
set_option linter.unusedVariables false
set_option linter.unusedSimpArgs false
namespace Go.Proofs.Ytagjjeofdcgcmaa
open Go.AL Go.Ch Go.RowKit
theorem ag4 : aggB Try.prog 4 = some false := by kernel_rfl
theorem ag35 : aggB Try.prog 35 = some true := by kernel_rfl
theorem ag54 : aggB Try.prog 54 = some true := by kernel_rfl
theorem fl28_3 : fldB Try.prog 28 3 = some (3, 3) := by kernel_rfl
theorem fl28_5 : fldB Try.prog 28 5 = some (5, 4) := by kernel_rfl
theorem fl28_6 : fldB Try.prog 28 6 = some (6, 3) := by kernel_rfl
theorem fl28_7 : fldB Try.prog 28 7 = some (7, 3) := by kernel_rfl
theorem fl33_1 : fldB Try.prog 33 1 = some (1, 3) := by kernel_rfl
theorem fl33_2 : fldB Try.prog 33 2 = some (2, 23) := by kernel_rfl
theorem fl35_0 : fldB Try.prog 35 0 = some (0, 3) := by kernel_rfl
theorem fl35_1 : fldB Try.prog 35 1 = some (1, 23) := by kernel_rfl
theorem fl35_2 : fldB Try.prog 35 2 = some (4, 4) := by kernel_rfl
theorem fl35_3 : fldB Try.prog 35 3 = some (5, 3) := by kernel_rfl
theorem fl35_4 : fldB Try.prog 35 4 = some (6, 4) := by kernel_rfl
theorem fl35_5 : fldB Try.prog 35 5 = some (7, 33) := by kernel_rfl
theorem fl35_6 : fldB Try.prog 35 6 = some (12, 3) := by kernel_rfl
theorem fl54_0 : fldB Try.prog 54 0 = some (0, 28) := by kernel_rfl
theorem fn29 : fnB Try.prog 29 = true := by kernel_rfl
theorem fn55 : fnB Try.prog 55 = true := by kernel_rfl
theorem fs35 : sizesB Try.prog 35 = true := by kernel_rfl
theorem sz4 : sizeB Try.prog 4 = some 1 := by kernel_rfl
theorem sz35 : sizeB Try.prog 35 = some 15 := by kernel_rfl
theorem sz54 : sizeB Try.prog 54 = some 15 := by kernel_rfl
theorem ze35 : zeroB Try.prog 35 = some (some (.agg #[.int .i64 0, .int .i64 0, .int .i64 0, .int .i64 0, .bool false, .int .i64 0, .bool false, .int .i64 0, .int .i64 0, .int .i64 0, .int .i64 0, .int .i64 0, .int .i64 0, .slice none 0 0, .slice none 0 0])) := by kernel_rfl
theorem closed_ok (p : Opn) (hs : Small p.o) : FnP Try.prog 34 [aggP p.ps] (tupP [aggP (closedS p).1.ps, aggP (closedS p).2.1.ps, eqP (.bool (closedS p).2.2)]) := by
  refine fn_pure' Try.func34 rfl Try.ntmps34 rfl ?_
  intro σ0 M ex Rf R hC hO
  simp only [frameOf, tokOf]
  refine tr_seq ?_
  refine tr_region (fun N0 hN => ?_)
  refine lxn (op_box (m := 1) (k := 1) rfl (.agg rfl) (by first | exact hC.low _ (by decide) | rfl)) rfl ?_
  refine lxn (op_alloc (m := 2) (k := 2) (ps := [eqP (.int .i64 0), eqP (.slice none 0 0), eqP (.bool false), eqP (.int .i64 0), eqP (.slice none 0 0), eqP (.bool false), eqP (.int .i64 0), eqP (.int .i64 0), eqP (.slice none 0 0), eqP (.slice none 0 0)]) ze28 rfl rfl (by first | exact hC.low _ (by decide) | rfl)) rfl ?_
  refine lxn (op_alloc (m := 3) (k := 3) (ps := [eqP (.int .i64 0), eqP (.int .i64 0), eqP (.int .i64 0), eqP (.int .i64 0), eqP (.bool false), eqP (.int .i64 0), eqP (.bool false), eqP (.int .i64 0), eqP (.int .i64 0), eqP (.int .i64 0), eqP (.int .i64 0), eqP (.int .i64 0), eqP (.int .i64 0), eqP (.slice none 0 0), eqP (.slice none 0 0)]) ze35 rfl rfl (by first | exact hC.low _ (by decide) | rfl)) rfl ?_
  refine lx (op_assign rfl) rfl ?_
  refine lx_end ⟨by kernel_rfl, ?_⟩
  refine pe_then_normal ?_
  refine tr_sub hC (.cons (t := 1) rfl (.cons (t := 2) rfl (.cons (t := 3) rfl .nil))) (.cons (t := 1) rfl (.cons (t := 2) rfl (.cons (t := 3) rfl .nil))) rfl ?_
  refine tr_seq ?_
  refine tr_drawn mixed (fun N1 hN => ?_)
  refine lx (op_fieldAddr rfl fl54_0 sz28) rfl ?_
  refine lx (op_bload_part (m := 1) (qs := [_, _, _, _, _, _, _, _, _, _]) rfl rfl ag28 sz28 rfl rfl) rfl ?_
  first | refine lx_any rfl (op_callG2 (l := [(Go.Operand.tmp 6)]) (add := [(1070, ((N1, 100070), tail 23 3 (p.o.cells.length * 3))), (1071, ((N1, 100071), tail 23 3 (p.o.queue.length * 3))), (1072, ((N1, 100072), tail 33 5 (p.o.senders.length * 5))), (1073, ((N1, 100073), tail 33 5 (p.o.receivers.length * 5)))]) (ks := [100070, 100071, 100072, 100073]) (φ := aggP (p.o.rs (N1, 100070) (N1, 100071) (N1, 100072) (N1, 100073))) .nil (clone_ok p.o hs.toLens) (.cons rfl .nil) fn48 rfl rfl rfl (.new (by first | exact hC.low _ (by decide) | rfl) (.new (by first | exact hC.low _ (by decide) | rfl) (.new (by first | exact hC.low _ (by decide) | rfl) (.new (by first | exact hC.low _ (by decide) | rfl) .nil)))) rfl) (dOK_spec rfl) ?_ | refine lx_any rfl (op_callG2 (l := [(Go.Operand.tmp 6)]) (add := [(1070, ((N1, 100070), tail 23 3 (p.o.cells.length * 3))), (1071, ((N1, 100071), tail 23 3 (p.o.queue.length * 3))), (1072, ((N1, 100072), tail 33 5 (p.o.senders.length * 5))), (1073, ((N1, 100073), tail 33 5 (p.o.receivers.length * 5)))]) (ks := [100070, 100071, 100072, 100073]) (φ := aggP (p.o.rs (N1, 100070) (N1, 100071) (N1, 100072) (N1, 100073))) .nil (clone_ok p.o hs.toLens) (.ent rfl (by repeat (first | exact Ents.nil | refine Ents.cons ?_ ?_ | refine Ent.tup ?_ | refine Ent.agg ?_ | exact Ent.row _ _ _ _ | exact Ent.nil _ _ | exact Ent.func _ | exact Ent.refl _ | exact Ent.of_eq rfl | refine Ent.cells ?_)) .nil) fn48 rfl rfl rfl (.new (by first | exact hC.low _ (by decide) | rfl) (.new (by first | exact hC.low _ (by decide) | rfl) (.new (by first | exact hC.low _ (by decide) | rfl) (.new (by first | exact hC.low _ (by decide) | rfl) .nil)))) rfl) (dOK_spec rfl) ?_
  refine lx (op_build (qs := [_, _, _, _, _, _, _, _, _, _, _, _, _, _, _]) (parts := [(0, (Go.Operand.const (Go.Value.int Go.IntKind.i64 2)))]) ze35 rfl rfl fs35 (.cons rfl (.one (by (first | exact One.eq rfl | exact One.mv _ _ _ _ _ | exact One.cl _ _ _ | exact One.map _ | exact One.sl _ _ _ | exact One.row _ _ _ _ | exact One.msl _ _ _ _ | exact One.ptr _ _ | exact One.b _ | exact One.cells _))) fl35_0 sz3 rfl .nil) rfl rfl) rfl ?_
  refine lx (op_fieldAddr rfl fl54_0 sz28) rfl ?_
  refine lx (op_fieldAddr rfl fl28_5 sz4) rfl ?_
  refine lx (op_bload_one (m := 1) rfl rfl ag4 rfl) rfl ?_
  refine lxr (op_store_all (m := 2) rfl rfl rfl (.agg rfl) sz28 rfl) rfl ?_
  refine lxr (op_store_all (m := 3) rfl rfl rfl (.agg rfl) sz35 rfl) rfl ?_
  refine lx (op_assign rfl) rfl ?_
  refine lx_end ⟨by kernel_rfl, ?_⟩
  refine pe_then_normal ?_
  refine tr_sub hC (.cons (t := 2) rfl (.cons (t := 3) rfl (.cons (t := 4) rfl .nil))) (.cons (t := 2) rfl (.cons (t := 3) rfl (.cons (t := 1070) rfl (.cons (t := 1071) rfl (.cons (t := 1072) rfl (.cons (t := 1073) rfl .nil)))))) rfl ?_
  refine tr_ret ?_
  refine pe_retN (rs := [.cell 2 28, .cell 3 35, .tmp 4]) rfl rfl hO rfl (.cell (m := 2) rfl rfl ag28 sz28 (.cell (m := 3) rfl rfl ag35 sz35 (.tmp rfl .nil))) ?_
  repeat (first | exact Ents.nil | refine Ents.cons ?_ ?_ | refine Ent.tup ?_ | refine Ent.agg ?_ | exact Ent.row _ _ _ _ | exact Ent.nil _ _ | exact Ent.func _ | exact Ent.refl _ | exact Ent.of_eq rfl | refine Ent.cells ?_)

theorem hand_ok (p : Opn) (hs : Small p.o) : FnP Try.prog 35 [aggP p.ps] (tupP [aggP (handS p).1.ps, aggP (handS p).2.1.ps, eqP (.bool (handS p).2.2)]) := by
  refine fn_pure' Try.func35 rfl Try.ntmps35 rfl ?_
  intro σ0 M ex Rf R hC hO
  simp only [frameOf, tokOf]
  refine tr_seq ?_
  refine tr_region (fun N0 hN => ?_)
  refine lxn (op_box (m := 1) (k := 1) rfl (.agg rfl) (by first | exact hC.low _ (by decide) | rfl)) rfl ?_
  refine lxn (op_alloc (m := 2) (k := 2) (ps := [eqP (.int .i64 0), eqP (.slice none 0 0), eqP (.bool false), eqP (.int .i64 0), eqP (.slice none 0 0), eqP (.bool false), eqP (.int .i64 0), eqP (.int .i64 0), eqP (.slice none 0 0), eqP (.slice none 0 0)]) ze28 rfl rfl (by first | exact hC.low _ (by decide) | rfl)) rfl ?_
  refine lxn (op_alloc (m := 3) (k := 3) (ps := [eqP (.int .i64 0), eqP (.int .i64 0), eqP (.int .i64 0), eqP (.int .i64 0), eqP (.bool false), eqP (.int .i64 0), eqP (.bool false), eqP (.int .i64 0), eqP (.int .i64 0), eqP (.int .i64 0), eqP (.int .i64 0), eqP (.int .i64 0), eqP (.int .i64 0), eqP (.slice none 0 0), eqP (.slice none 0 0)]) ze35 rfl rfl (by first | exact hC.low _ (by decide) | rfl)) rfl ?_
  refine lx (op_assign rfl) rfl ?_
  refine lx_end ⟨by kernel_rfl, ?_⟩
  refine pe_then_normal ?_
  refine tr_sub hC (.cons (t := 1) rfl (.cons (t := 2) rfl (.cons (t := 3) rfl .nil))) (.cons (t := 1) rfl (.cons (t := 2) rfl (.cons (t := 3) rfl .nil))) rfl ?_
  refine tr_seq ?_
  refine tr_region (fun N1 hN => ?_)
  refine lx (op_bload (m := 1) rfl rfl ag54 sz54) rfl ?_
  refine lx (op_fieldAddr rfl fl54_0 sz28) rfl ?_
  refine lx (op_fieldAddr rfl fl28_9 sz26) rfl ?_
  refine lx (op_bload_one (m := 1) rfl rfl ag26 rfl) rfl ?_
  first | refine lx (op_call (l := [(Go.Operand.tmp 9), (Go.Operand.tmp 12)]) (other_ok p p.o.receivers (by have := hs.receivers; omega)) (.cons rfl (.cons rfl .nil)) fn55) rfl ?_ | refine lx (op_call (l := [(Go.Operand.tmp 9), (Go.Operand.tmp 12)]) (other_ok p p.o.receivers (by have := hs.receivers; omega)) (.ent rfl (by repeat (first | exact Ents.nil | refine Ents.cons ?_ ?_ | refine Ent.tup ?_ | refine Ent.agg ?_ | exact Ent.row _ _ _ _ | exact Ent.nil _ _ | exact Ent.func _ | exact Ent.refl _ | exact Ent.of_eq rfl | refine Ent.cells ?_)) (.ent rfl (by repeat (first | exact Ents.nil | refine Ents.cons ?_ ?_ | refine Ent.tup ?_ | refine Ent.agg ?_ | exact Ent.row _ _ _ _ | exact Ent.nil _ _ | exact Ent.func _ | exact Ent.refl _ | exact Ent.of_eq rfl | refine Ent.cells ?_)) .nil)) fn55) rfl ?_
  refine lx (op_move rfl) rfl ?_
  refine lx (op_extract rfl rfl) rfl ?_
  refine lx (op_extract rfl rfl) rfl ?_
  refine lxn (op_alloc (m := 5) (k := 5) (ps := [eqP (.int .i64 0), eqP (.int .i64 0), eqP (.int .i64 0), eqP (.int .i64 0), eqP (.int .i64 0)]) ze33 rfl rfl (by first | exact hC.low _ (by decide) | rfl)) rfl ?_
  refine lxr (op_store_all (m := 5) rfl rfl rfl (.agg rfl) sz33 rfl) rfl ?_
  refine lx (op_assign rfl) rfl ?_
  refine lx_end ⟨by kernel_rfl, ?_⟩
  refine pe_then_normal ?_
  refine tr_sub hC (.cons (t := 1) rfl (.cons (t := 2) rfl (.cons (t := 3) rfl (.cons (t := 5) rfl (.cons (t := 6) rfl .nil))))) (.cons (t := 1) rfl (.cons (t := 2) rfl (.cons (t := 3) rfl (.cons (t := 5) rfl .nil)))) rfl ?_
  refine tr_seq ?_
  refine tr_seq ?_
  refine tr_region (fun N2 hN => ?_)
  refine lx (op_move rfl) rfl ?_
  first | refine lx (op_not rfl) rfl ?_ | refine lx (op_not_b rfl) rfl ?_
  refine lx_end ⟨by kernel_rfl, ?_⟩
  refine pe_then_normal ?_
  refine tr_sub hC (.cons (t := 1) rfl (.cons (t := 2) rfl (.cons (t := 3) rfl (.cons (t := 5) rfl (.cons (t := 17) rfl .nil))))) (.cons (t := 1) rfl (.cons (t := 2) rfl (.cons (t := 3) rfl (.cons (t := 5) rfl .nil)))) rfl ?_
  refine tr_cond rfl (fun h17 => ?_) (fun h17 => ?_)
  · (try simp only [Bool.and_eq_true, Bool.or_eq_true, Bool.and_eq_false_iff, Bool.or_eq_false_iff, decide_eq_true_eq, decide_eq_false_iff_not, Bool.not_eq_true', Bool.not_eq_false', List.length_map, ne_eq, Decidable.not_not, Int.not_lt, Int.not_le] at h17)
    have h : handS p = (p.o, tr0, false) := by unfold handS; rw [if_pos h17]
    refine tr_seq ?_
    refine tr_region (fun N3 hN => ?_)
    refine lx (op_fieldAddr rfl fl54_0 sz28) rfl ?_
    refine lx (op_bload_part (m := 1) (qs := [_, _, _, _, _, _, _, _, _, _]) rfl rfl ag28 sz28 rfl rfl) rfl ?_
    refine lx (op_build (qs := [_, _, _, _, _, _, _, _, _, _, _, _, _, _, _]) (parts := []) ze35 rfl rfl fs35 .nil rfl rfl) rfl ?_
    refine lxr (op_store_all (m := 2) rfl rfl rfl (.agg rfl) sz28 rfl) rfl ?_
    refine lxr (op_store_all (m := 3) rfl rfl rfl (.agg rfl) sz35 rfl) rfl ?_
    refine lx (op_assign rfl) rfl ?_
    refine lx_end ⟨by kernel_rfl, ?_⟩
    refine pe_then_normal ?_
    refine tr_sub hC (.cons (t := 2) rfl (.cons (t := 3) rfl (.cons (t := 4) rfl .nil))) (.cons (t := 2) rfl (.cons (t := 3) rfl .nil)) rfl ?_
    refine tr_ret ?_
    refine pe_then_ret ?_
    refine pe_retN (rs := [.cell 2 28, .cell 3 35, .tmp 4]) rfl rfl hO rfl (.cell (m := 2) rfl rfl ag28 sz28 (.cell (m := 3) rfl rfl ag35 sz35 (.tmp rfl .nil))) ?_
    rw [h]
    repeat (first | exact Ents.nil | refine Ents.cons ?_ ?_ | refine Ent.tup ?_ | refine Ent.agg ?_ | exact Ent.row _ _ _ _ | exact Ent.nil _ _ | exact Ent.func _ | exact Ent.refl _ | exact Ent.of_eq rfl | refine Ent.cells ?_)
  · (try simp only [Bool.and_eq_true, Bool.or_eq_true, Bool.and_eq_false_iff, Bool.or_eq_false_iff, decide_eq_true_eq, decide_eq_false_iff_not, Bool.not_eq_true', Bool.not_eq_false', List.length_map, ne_eq, Decidable.not_not, Int.not_lt, Int.not_le] at h17)
    have h := handS_yes h17
    refine tr_skip ?_
    refine pe_then_normal ?_
    refine tr_sub hC (.cons (t := 1) rfl (.cons (t := 2) rfl (.cons (t := 3) rfl (.cons (t := 5) rfl .nil)))) (.cons (t := 1) rfl (.cons (t := 2) rfl (.cons (t := 3) rfl (.cons (t := 5) rfl .nil)))) rfl ?_
    refine tr_seq ?_
    refine tr_region (fun N4 hN => ?_)
    refine lx (op_fieldAddr rfl fl54_0 sz28) rfl ?_
    refine lx (op_bload_part (m := 1) (qs := [_, _, _, _, _, _, _, _, _, _]) rfl rfl ag28 sz28 rfl rfl) rfl ?_
    refine lx (op_fieldAddr rfl fl33_0 sz3) rfl ?_
    refine lx (op_bload_one (m := 5) rfl rfl ag3 rfl) rfl ?_
    first | refine lx (op_call (l := [(Go.Operand.tmp 22), (Go.Operand.tmp 24)]) (leave_ok p.o _ hs.toLens) (.cons rfl (.cons rfl .nil)) fn29) rfl ?_ | refine lx (op_call (l := [(Go.Operand.tmp 22), (Go.Operand.tmp 24)]) (leave_ok p.o _ hs.toLens) (.ent rfl (by repeat (first | exact Ents.nil | refine Ents.cons ?_ ?_ | refine Ent.tup ?_ | refine Ent.agg ?_ | exact Ent.row _ _ _ _ | exact Ent.nil _ _ | exact Ent.func _ | exact Ent.refl _ | exact Ent.of_eq rfl | refine Ent.cells ?_)) (.ent rfl (by repeat (first | exact Ents.nil | refine Ents.cons ?_ ?_ | refine Ent.tup ?_ | refine Ent.agg ?_ | exact Ent.row _ _ _ _ | exact Ent.nil _ _ | exact Ent.func _ | exact Ent.refl _ | exact Ent.of_eq rfl | refine Ent.cells ?_)) .nil)) fn29) rfl ?_
    refine lxn (op_alloc (m := 7) (k := 7) (ps := [eqP (.int .i64 0), eqP (.slice none 0 0), eqP (.bool false), eqP (.int .i64 0), eqP (.slice none 0 0), eqP (.bool false), eqP (.int .i64 0), eqP (.int .i64 0), eqP (.slice none 0 0), eqP (.slice none 0 0)]) ze28 rfl rfl (by first | exact hC.low _ (by decide) | rfl)) rfl ?_
    refine lxr (op_store_all (m := 7) rfl rfl rfl (.agg rfl) sz28 rfl) rfl ?_
    refine lx_end ⟨by kernel_rfl, ?_⟩
    refine pe_then_normal ?_
    refine tr_sub hC (.cons (t := 1) rfl (.cons (t := 2) rfl (.cons (t := 3) rfl (.cons (t := 5) rfl (.cons (t := 7) rfl .nil))))) (.cons (t := 1) rfl (.cons (t := 2) rfl (.cons (t := 3) rfl (.cons (t := 5) rfl (.cons (t := 7) rfl .nil))))) rfl ?_
    refine tr_seq ?_
    refine tr_region (fun N5 hN => ?_)
    refine lx (op_fieldAddr rfl fl28_6 sz3) rfl ?_
    refine lx (op_bload_one (m := 7) rfl rfl ag3 rfl) rfl ?_
    refine lx (op_add rfl rfl (by have := hs.sent; first | omega | (simp only [leaveF]; omega))) rfl ?_
    refine lx (op_fieldAddr rfl fl28_6 sz3) rfl ?_
    refine lxr (op_store (m := 7) (rs := [_, _, _, _, _, _, _, _, _, _]) rfl rfl rfl (.one (by (first | exact One.eq rfl | exact One.mv _ _ _ _ _ | exact One.cl _ _ _ | exact One.map _ | exact One.sl _ _ _ | exact One.row _ _ _ _ | exact One.msl _ _ _ _ | exact One.ptr _ _ | exact One.b _ | exact One.cells _))) sz3 rfl rfl rfl) rfl ?_
    refine lx_end ⟨by kernel_rfl, ?_⟩
    refine pe_then_normal ?_
    refine tr_sub hC (.cons (t := 1) rfl (.cons (t := 2) rfl (.cons (t := 3) rfl (.cons (t := 5) rfl (.cons (t := 7) rfl .nil))))) (.cons (t := 1) rfl (.cons (t := 2) rfl (.cons (t := 3) rfl (.cons (t := 5) rfl (.cons (t := 7) rfl .nil))))) rfl ?_
    refine tr_seq ?_
    refine tr_region (fun N6 hN => ?_)
    refine lx (op_fieldAddr rfl fl28_7 sz3) rfl ?_
    refine lx (op_bload_one (m := 7) rfl rfl ag3 rfl) rfl ?_
    refine lx (op_add rfl rfl (by have := hs.received; first | omega | (simp only [leaveF]; omega))) rfl ?_
    refine lx (op_fieldAddr rfl fl28_7 sz3) rfl ?_
    refine lxr (op_store (m := 7) (rs := [_, _, _, _, _, _, _, _, _, _]) rfl rfl rfl (.one (by (first | exact One.eq rfl | exact One.mv _ _ _ _ _ | exact One.cl _ _ _ | exact One.map _ | exact One.sl _ _ _ | exact One.row _ _ _ _ | exact One.msl _ _ _ _ | exact One.ptr _ _ | exact One.b _ | exact One.cells _))) sz3 rfl rfl rfl) rfl ?_
    refine lx_end ⟨by kernel_rfl, ?_⟩
    refine pe_then_normal ?_
    refine tr_sub hC (.cons (t := 1) rfl (.cons (t := 2) rfl (.cons (t := 3) rfl (.cons (t := 5) rfl (.cons (t := 7) rfl .nil))))) (.cons (t := 1) rfl (.cons (t := 2) rfl (.cons (t := 3) rfl (.cons (t := 5) rfl (.cons (t := 7) rfl .nil))))) rfl ?_
    refine tr_seq ?_
    refine tr_drawn mixed (fun N7 hN => ?_)
    refine lx (op_bload (m := 7) rfl rfl ag28 sz28) rfl ?_
    refine lx (op_fieldAddr rfl fl54_1 sz33) rfl ?_
    refine lx (op_fieldAddr rfl fl33_2 sz23) rfl ?_
    refine lx (op_bload_part (m := 1) (qs := [_, _, _]) rfl rfl ag23 sz23 rfl rfl) rfl ?_
    refine lx (op_fieldAddr rfl fl54_0 sz28) rfl ?_
    refine lx (op_fieldAddr rfl fl28_6 sz3) rfl ?_
    refine lx (op_bload_one (m := 1) rfl rfl ag3 rfl) rfl ?_
    refine lx (op_bload (m := 5) rfl rfl ag33 sz33) rfl ?_
    refine lx (op_fieldAddr rfl fl54_0 sz28) rfl ?_
    refine lx (op_fieldAddr rfl fl28_6 sz3) rfl ?_
    refine lx (op_bload_one (m := 1) rfl rfl ag3 rfl) rfl ?_
    refine lx (op_build (qs := [_, _, _, _, _, _, _, _, _, _, _, _, _, _, _]) (parts := [(1, (Go.Operand.tmp 37)), (2, (Go.Operand.const (Go.Value.bool Bool.true))), (3, (Go.Operand.tmp 40)), (4, (Go.Operand.const (Go.Value.bool Bool.true))), (5, (Go.Operand.tmp 41)), (6, (Go.Operand.tmp 44))]) ze35 rfl rfl fs35 (.cons rfl (.agg rfl) fl35_1 sz23 rfl (.cons rfl (.one (by (first | exact One.eq rfl | exact One.mv _ _ _ _ _ | exact One.cl _ _ _ | exact One.map _ | exact One.sl _ _ _ | exact One.row _ _ _ _ | exact One.msl _ _ _ _ | exact One.ptr _ _ | exact One.b _ | exact One.cells _))) fl35_2 sz4 rfl (.cons rfl (.one (by (first | exact One.eq rfl | exact One.mv _ _ _ _ _ | exact One.cl _ _ _ | exact One.map _ | exact One.sl _ _ _ | exact One.row _ _ _ _ | exact One.msl _ _ _ _ | exact One.ptr _ _ | exact One.b _ | exact One.cells _))) fl35_3 sz3 rfl (.cons rfl (.one (by (first | exact One.eq rfl | exact One.mv _ _ _ _ _ | exact One.cl _ _ _ | exact One.map _ | exact One.sl _ _ _ | exact One.row _ _ _ _ | exact One.msl _ _ _ _ | exact One.ptr _ _ | exact One.b _ | exact One.cells _))) fl35_4 sz4 rfl (.cons rfl (.agg rfl) fl35_5 sz33 rfl (.cons rfl (.one (by (first | exact One.eq rfl | exact One.mv _ _ _ _ _ | exact One.cl _ _ _ | exact One.map _ | exact One.sl _ _ _ | exact One.row _ _ _ _ | exact One.msl _ _ _ _ | exact One.ptr _ _ | exact One.b _ | exact One.cells _))) fl35_6 sz3 rfl .nil)))))) rfl rfl) rfl ?_
    refine lxr (op_store_all (m := 2) rfl rfl rfl (.agg rfl) sz28 rfl) rfl ?_
    refine lxr (op_store_all (m := 3) rfl rfl rfl (.agg rfl) sz35 rfl) rfl ?_
    refine lx (op_assign rfl) rfl ?_
    refine lx_end ⟨by kernel_rfl, ?_⟩
    refine pe_then_normal ?_
    refine tr_sub hC (.cons (t := 2) rfl (.cons (t := 3) rfl (.cons (t := 4) rfl .nil))) (.cons (t := 2) rfl (.cons (t := 3) rfl .nil)) rfl ?_
    refine tr_ret ?_
    refine pe_retN (rs := [.cell 2 28, .cell 3 35, .tmp 4]) rfl rfl hO rfl (.cell (m := 2) rfl rfl ag28 sz28 (.cell (m := 3) rfl rfl ag35 sz35 (.tmp rfl .nil))) ?_
    rw [h]
    repeat (first | exact Ents.nil | refine Ents.cons ?_ ?_ | refine Ent.tup ?_ | refine Ent.agg ?_ | exact Ent.row _ _ _ _ | exact Ent.nil _ _ | exact Ent.func _ | exact Ent.refl _ | exact Ent.of_eq rfl | refine Ent.cells ?_)

theorem enqueue_ok (p : Opn) (hs : Small p.o) : FnP Try.prog 36 [aggP p.ps] (tupP [aggP (enqS p).1.ps, aggP (enqS p).2.1.ps, eqP (.bool (enqS p).2.2)]) := by
  refine fn_pure' Try.func36 rfl Try.ntmps36 rfl ?_
  intro σ0 M ex Rf R hC hO
  simp only [frameOf, tokOf]
  refine tr_seq ?_
  refine tr_region (fun N0 hN => ?_)
  refine lxn (op_box (m := 1) (k := 1) rfl (.agg rfl) (by first | exact hC.low _ (by decide) | rfl)) rfl ?_
  refine lxn (op_alloc (m := 2) (k := 2) (ps := [eqP (.int .i64 0), eqP (.slice none 0 0), eqP (.bool false), eqP (.int .i64 0), eqP (.slice none 0 0), eqP (.bool false), eqP (.int .i64 0), eqP (.int .i64 0), eqP (.slice none 0 0), eqP (.slice none 0 0)]) ze28 rfl rfl (by first | exact hC.low _ (by decide) | rfl)) rfl ?_
  refine lxn (op_alloc (m := 3) (k := 3) (ps := [eqP (.int .i64 0), eqP (.int .i64 0), eqP (.int .i64 0), eqP (.int .i64 0), eqP (.bool false), eqP (.int .i64 0), eqP (.bool false), eqP (.int .i64 0), eqP (.int .i64 0), eqP (.int .i64 0), eqP (.int .i64 0), eqP (.int .i64 0), eqP (.int .i64 0), eqP (.slice none 0 0), eqP (.slice none 0 0)]) ze35 rfl rfl (by first | exact hC.low _ (by decide) | rfl)) rfl ?_
  refine lx (op_assign rfl) rfl ?_
  refine lx_end ⟨by kernel_rfl, ?_⟩
  refine pe_then_normal ?_
  refine tr_sub hC (.cons (t := 1) rfl (.cons (t := 2) rfl (.cons (t := 3) rfl .nil))) (.cons (t := 1) rfl (.cons (t := 2) rfl (.cons (t := 3) rfl .nil))) rfl ?_
  refine tr_seq ?_
  refine tr_seq ?_
  refine tr_region (fun N1 hN => ?_)
  refine lx (op_fieldAddr rfl fl54_0 sz28) rfl ?_
  refine lx (op_fieldAddr rfl fl28_4 sz25) rfl ?_
  refine lx (op_bload_one (m := 1) rfl rfl ag25 rfl) rfl ?_
  first | refine lx (op_len rfl el25) rfl ?_ | refine lx (op_len_row rfl el25) rfl ?_ | refine lx (op_len_mv rfl el25) rfl ?_ | refine lx (op_len_nil rfl el25) rfl ?_
  refine lx (op_fieldAddr rfl fl54_0 sz28) rfl ?_
  refine lx (op_fieldAddr rfl fl28_3 sz3) rfl ?_
  refine lx (op_bload_one (m := 1) rfl rfl ag3 rfl) rfl ?_
  refine lx (op_geq rfl rfl) rfl ?_
  refine lx_end ⟨by kernel_rfl, ?_⟩
  refine pe_then_normal ?_
  refine tr_sub hC (.cons (t := 1) rfl (.cons (t := 2) rfl (.cons (t := 3) rfl (.cons (t := 13) rfl .nil)))) (.cons (t := 1) rfl (.cons (t := 2) rfl (.cons (t := 3) rfl .nil))) rfl ?_
  refine tr_cond rfl (fun h13 => ?_) (fun h13 => ?_)
  · (try simp only [Bool.and_eq_true, Bool.or_eq_true, Bool.and_eq_false_iff, Bool.or_eq_false_iff, decide_eq_true_eq, decide_eq_false_iff_not, Bool.not_eq_true', Bool.not_eq_false', List.length_map, ne_eq, Decidable.not_not, Int.not_lt, Int.not_le] at h13)
    have h : enqS p = (p.o, tr0, false) := by unfold enqS; rw [if_pos h13]
    refine tr_seq ?_
    refine tr_region (fun N2 hN => ?_)
    refine lx (op_fieldAddr rfl fl54_0 sz28) rfl ?_
    refine lx (op_bload_part (m := 1) (qs := [_, _, _, _, _, _, _, _, _, _]) rfl rfl ag28 sz28 rfl rfl) rfl ?_
    refine lx (op_build (qs := [_, _, _, _, _, _, _, _, _, _, _, _, _, _, _]) (parts := []) ze35 rfl rfl fs35 .nil rfl rfl) rfl ?_
    refine lxr (op_store_all (m := 2) rfl rfl rfl (.agg rfl) sz28 rfl) rfl ?_
    refine lxr (op_store_all (m := 3) rfl rfl rfl (.agg rfl) sz35 rfl) rfl ?_
    refine lx (op_assign rfl) rfl ?_
    refine lx_end ⟨by kernel_rfl, ?_⟩
    refine pe_then_normal ?_
    refine tr_sub hC (.cons (t := 2) rfl (.cons (t := 3) rfl (.cons (t := 4) rfl .nil))) (.cons (t := 2) rfl (.cons (t := 3) rfl .nil)) rfl ?_
    refine tr_ret ?_
    refine pe_then_ret ?_
    refine pe_retN (rs := [.cell 2 28, .cell 3 35, .tmp 4]) rfl rfl hO rfl (.cell (m := 2) rfl rfl ag28 sz28 (.cell (m := 3) rfl rfl ag35 sz35 (.tmp rfl .nil))) ?_
    rw [h]
    repeat (first | exact Ents.nil | refine Ents.cons ?_ ?_ | refine Ent.tup ?_ | refine Ent.agg ?_ | exact Ent.row _ _ _ _ | exact Ent.nil _ _ | exact Ent.func _ | exact Ent.refl _ | exact Ent.of_eq rfl | refine Ent.cells ?_)
  · (try simp only [Bool.and_eq_true, Bool.or_eq_true, Bool.and_eq_false_iff, Bool.or_eq_false_iff, decide_eq_true_eq, decide_eq_false_iff_not, Bool.not_eq_true', Bool.not_eq_false', List.length_map, ne_eq, Decidable.not_not, Int.not_lt, Int.not_le] at h13)
    have h := enqS_yes h13
    refine tr_skip ?_
    refine pe_then_normal ?_
    refine tr_sub hC (.cons (t := 1) rfl (.cons (t := 2) rfl (.cons (t := 3) rfl .nil))) (.cons (t := 1) rfl (.cons (t := 2) rfl (.cons (t := 3) rfl .nil))) rfl ?_
    refine tr_seq ?_
    refine tr_region (fun N3 hN => ?_)
    refine lx (op_fieldAddr rfl fl54_0 sz28) rfl ?_
    refine lx (op_bload_part (m := 1) (qs := [_, _, _, _, _, _, _, _, _, _]) rfl rfl ag28 sz28 rfl rfl) rfl ?_
    first | refine lx_any rfl (op_callG2 (l := [(Go.Operand.tmp 18)]) (add := [(1190, ((N3, 100190), tail 23 3 (p.o.cells.length * 3))), (1191, ((N3, 100191), tail 23 3 (p.o.queue.length * 3))), (1192, ((N3, 100192), tail 33 5 (p.o.senders.length * 5))), (1193, ((N3, 100193), tail 33 5 (p.o.receivers.length * 5)))]) (ks := [100190, 100191, 100192, 100193]) (φ := aggP (p.o.rs (N3, 100190) (N3, 100191) (N3, 100192) (N3, 100193))) .nil (clone_ok p.o hs.toLens) (.cons rfl .nil) fn48 rfl rfl rfl (.new (by first | exact hC.low _ (by decide) | rfl) (.new (by first | exact hC.low _ (by decide) | rfl) (.new (by first | exact hC.low _ (by decide) | rfl) (.new (by first | exact hC.low _ (by decide) | rfl) .nil)))) rfl) (dOK_spec rfl) ?_ | refine lx_any rfl (op_callG2 (l := [(Go.Operand.tmp 18)]) (add := [(1190, ((N3, 100190), tail 23 3 (p.o.cells.length * 3))), (1191, ((N3, 100191), tail 23 3 (p.o.queue.length * 3))), (1192, ((N3, 100192), tail 33 5 (p.o.senders.length * 5))), (1193, ((N3, 100193), tail 33 5 (p.o.receivers.length * 5)))]) (ks := [100190, 100191, 100192, 100193]) (φ := aggP (p.o.rs (N3, 100190) (N3, 100191) (N3, 100192) (N3, 100193))) .nil (clone_ok p.o hs.toLens) (.ent rfl (by repeat (first | exact Ents.nil | refine Ents.cons ?_ ?_ | refine Ent.tup ?_ | refine Ent.agg ?_ | exact Ent.row _ _ _ _ | exact Ent.nil _ _ | exact Ent.func _ | exact Ent.refl _ | exact Ent.of_eq rfl | refine Ent.cells ?_)) .nil) fn48 rfl rfl rfl (.new (by first | exact hC.low _ (by decide) | rfl) (.new (by first | exact hC.low _ (by decide) | rfl) (.new (by first | exact hC.low _ (by decide) | rfl) (.new (by first | exact hC.low _ (by decide) | rfl) .nil)))) rfl) (dOK_spec rfl) ?_
    refine lxn (op_alloc (m := 5) (k := 5) (ps := [eqP (.int .i64 0), eqP (.slice none 0 0), eqP (.bool false), eqP (.int .i64 0), eqP (.slice none 0 0), eqP (.bool false), eqP (.int .i64 0), eqP (.int .i64 0), eqP (.slice none 0 0), eqP (.slice none 0 0)]) ze28 rfl rfl (by first | exact hC.low _ (by decide) | rfl)) rfl ?_
    refine lxr (op_store_all (m := 5) rfl rfl rfl (.agg rfl) sz28 rfl) rfl ?_
    refine lx_end ⟨by kernel_rfl, ?_⟩
    refine pe_then_normal ?_
    refine tr_sub hC (.cons (t := 1) rfl (.cons (t := 2) rfl (.cons (t := 3) rfl (.cons (t := 5) rfl .nil)))) (.cons (t := 1) rfl (.cons (t := 2) rfl (.cons (t := 3) rfl (.cons (t := 1190) rfl (.cons (t := 1191) rfl (.cons (t := 1192) rfl (.cons (t := 1193) rfl (.cons (t := 5) rfl .nil)))))))) rfl ?_
    refine tr_seq ?_
    refine tr_region (fun N4 hN => ?_)
    refine lx (op_fieldAddr rfl fl28_4 sz25) rfl ?_
    refine lx (op_bload_one (m := 5) rfl rfl ag25 rfl) rfl ?_
    refine lx (op_fieldAddr rfl fl54_1 sz33) rfl ?_
    refine lx (op_fieldAddr rfl fl33_2 sz23) rfl ?_
    refine lx (op_bload_part (m := 1) (qs := [_, _, _]) rfl rfl ag23 sz23 rfl rfl) rfl ?_
    refine lx (op_buildSlice (f := vp) (xs := [p.w.v]) (l := [(0, (Go.Operand.tmp 24))]) ze23 rfl rfl (by decide) el25 sz23 vp_len (.cons rfl (.agg rfl) .nil) rfl (by decide)) rfl ?_
    refine lxr (op_append (m := 1191) (m' := 26) (kk := 26) rfl rfl rfl (.inr (by first | exact hC.low _ (by decide) | rfl)) el25 ze23 sz23 by23 rfl vp_len (by have := hs.queue; rw [List.length_singleton]; omega) (by have := hs.queue; rw [List.length_singleton]; omega)) rfl ?_
    refine lx (op_fieldAddr rfl fl28_4 sz25) rfl ?_
    refine lxr (op_store (m := 5) (rs := [_, _, _, _, _, _, _, _, _, _]) rfl rfl rfl (.one (by (first | exact One.eq rfl | exact One.mv _ _ _ _ _ | exact One.cl _ _ _ | exact One.map _ | exact One.sl _ _ _ | exact One.row _ _ _ _ | exact One.msl _ _ _ _ | exact One.ptr _ _ | exact One.b _ | exact One.cells _))) sz25 rfl rfl rfl) rfl ?_
    refine lx_end ⟨by kernel_rfl, ?_⟩
    refine pe_then_normal ?_
    refine tr_sub hC (.cons (t := 1) rfl (.cons (t := 2) rfl (.cons (t := 3) rfl (.cons (t := 5) rfl .nil)))) (.cons (t := 1) rfl (.cons (t := 2) rfl (.cons (t := 3) rfl (.cons (t := 1190) rfl (.cons (t := 1192) rfl (.cons (t := 1193) rfl (.cons (t := 5) rfl .nil))))))) rfl ?_
    refine tr_seq ?_
    refine tr_region (fun N5 hN => ?_)
    refine lx (op_fieldAddr rfl fl28_6 sz3) rfl ?_
    refine lx (op_bload_one (m := 5) rfl rfl ag3 rfl) rfl ?_
    refine lx (op_add rfl rfl (by have := hs.sent; first | omega | (simp only [leaveF]; omega))) rfl ?_
    refine lx (op_fieldAddr rfl fl28_6 sz3) rfl ?_
    refine lxr (op_store (m := 5) (rs := [_, _, _, _, _, _, _, _, _, _]) rfl rfl rfl (.one (by (first | exact One.eq rfl | exact One.mv _ _ _ _ _ | exact One.cl _ _ _ | exact One.map _ | exact One.sl _ _ _ | exact One.row _ _ _ _ | exact One.msl _ _ _ _ | exact One.ptr _ _ | exact One.b _ | exact One.cells _))) sz3 rfl rfl rfl) rfl ?_
    refine lx_end ⟨by kernel_rfl, ?_⟩
    refine pe_then_normal ?_
    refine tr_sub hC (.cons (t := 1) rfl (.cons (t := 2) rfl (.cons (t := 3) rfl (.cons (t := 5) rfl .nil)))) (.cons (t := 1) rfl (.cons (t := 2) rfl (.cons (t := 3) rfl (.cons (t := 1190) rfl (.cons (t := 1192) rfl (.cons (t := 1193) rfl (.cons (t := 5) rfl .nil))))))) rfl ?_
    refine tr_seq ?_
    refine tr_drawn mixed (fun N6 hN => ?_)
    refine lx (op_bload (m := 5) rfl rfl ag28 sz28) rfl ?_
    refine lx (op_fieldAddr rfl fl54_1 sz33) rfl ?_
    refine lx (op_fieldAddr rfl fl33_2 sz23) rfl ?_
    refine lx (op_bload_part (m := 1) (qs := [_, _, _]) rfl rfl ag23 sz23 rfl rfl) rfl ?_
    refine lx (op_fieldAddr rfl fl54_0 sz28) rfl ?_
    refine lx (op_fieldAddr rfl fl28_6 sz3) rfl ?_
    refine lx (op_bload_one (m := 1) rfl rfl ag3 rfl) rfl ?_
    refine lx (op_build (qs := [_, _, _, _, _, _, _, _, _, _, _, _, _, _, _]) (parts := [(1, (Go.Operand.tmp 35)), (2, (Go.Operand.const (Go.Value.bool Bool.true))), (3, (Go.Operand.tmp 38))]) ze35 rfl rfl fs35 (.cons rfl (.agg rfl) fl35_1 sz23 rfl (.cons rfl (.one (by (first | exact One.eq rfl | exact One.mv _ _ _ _ _ | exact One.cl _ _ _ | exact One.map _ | exact One.sl _ _ _ | exact One.row _ _ _ _ | exact One.msl _ _ _ _ | exact One.ptr _ _ | exact One.b _ | exact One.cells _))) fl35_2 sz4 rfl (.cons rfl (.one (by (first | exact One.eq rfl | exact One.mv _ _ _ _ _ | exact One.cl _ _ _ | exact One.map _ | exact One.sl _ _ _ | exact One.row _ _ _ _ | exact One.msl _ _ _ _ | exact One.ptr _ _ | exact One.b _ | exact One.cells _))) fl35_3 sz3 rfl .nil))) rfl rfl) rfl ?_
    refine lxr (op_store_all (m := 2) rfl rfl rfl (.agg rfl) sz28 rfl) rfl ?_
    refine lxr (op_store_all (m := 3) rfl rfl rfl (.agg rfl) sz35 rfl) rfl ?_
    refine lx (op_assign rfl) rfl ?_
    refine lx_end ⟨by kernel_rfl, ?_⟩
    refine pe_then_normal ?_
    refine tr_sub hC (.cons (t := 2) rfl (.cons (t := 3) rfl (.cons (t := 4) rfl .nil))) (.cons (t := 2) rfl (.cons (t := 3) rfl (.cons (t := 1190) rfl (.cons (t := 1192) rfl (.cons (t := 1193) rfl .nil))))) rfl ?_
    refine tr_ret ?_
    refine pe_retN (rs := [.cell 2 28, .cell 3 35, .tmp 4]) rfl rfl hO rfl (.cell (m := 2) rfl rfl ag28 sz28 (.cell (m := 3) rfl rfl ag35 sz35 (.tmp rfl .nil))) ?_
    rw [h]
    repeat (first | exact Ents.nil | refine Ents.cons ?_ ?_ | refine Ent.tup ?_ | refine Ent.agg ?_ | exact Ent.row _ _ _ _ | exact Ent.nil _ _ | exact Ent.func _ | exact Ent.refl _ | exact Ent.of_eq rfl | refine Ent.cells ?_)

theorem parkS_ok (p : Opn) (hs : Small p.o) : FnP Try.prog 37 [aggP p.ps] (tupP [aggP (parkS p).1.ps, aggP (parkS p).2.1.ps, eqP (.bool (parkS p).2.2)]) := by
  refine fn_pure' Try.func37 rfl Try.ntmps37 rfl ?_
  intro σ0 M ex Rf R hC hO
  simp only [frameOf, tokOf]
  refine tr_seq ?_
  refine tr_region (fun N0 hN => ?_)
  refine lxn (op_box (m := 1) (k := 1) rfl (.agg rfl) (by first | exact hC.low _ (by decide) | rfl)) rfl ?_
  refine lxn (op_alloc (m := 2) (k := 2) (ps := [eqP (.int .i64 0), eqP (.slice none 0 0), eqP (.bool false), eqP (.int .i64 0), eqP (.slice none 0 0), eqP (.bool false), eqP (.int .i64 0), eqP (.int .i64 0), eqP (.slice none 0 0), eqP (.slice none 0 0)]) ze28 rfl rfl (by first | exact hC.low _ (by decide) | rfl)) rfl ?_
  refine lxn (op_alloc (m := 3) (k := 3) (ps := [eqP (.int .i64 0), eqP (.int .i64 0), eqP (.int .i64 0), eqP (.int .i64 0), eqP (.bool false), eqP (.int .i64 0), eqP (.bool false), eqP (.int .i64 0), eqP (.int .i64 0), eqP (.int .i64 0), eqP (.int .i64 0), eqP (.int .i64 0), eqP (.int .i64 0), eqP (.slice none 0 0), eqP (.slice none 0 0)]) ze35 rfl rfl (by first | exact hC.low _ (by decide) | rfl)) rfl ?_
  refine lx (op_assign rfl) rfl ?_
  refine lx_end ⟨by kernel_rfl, ?_⟩
  refine pe_then_normal ?_
  refine tr_sub hC (.cons (t := 1) rfl (.cons (t := 2) rfl (.cons (t := 3) rfl .nil))) (.cons (t := 1) rfl (.cons (t := 2) rfl (.cons (t := 3) rfl .nil))) rfl ?_
  refine tr_seq ?_
  refine tr_region (fun N1 hN => ?_)
  refine lx (op_fieldAddr rfl fl54_0 sz28) rfl ?_
  refine lx (op_bload_part (m := 1) (qs := [_, _, _, _, _, _, _, _, _, _]) rfl rfl ag28 sz28 rfl rfl) rfl ?_
  first | refine lx_any rfl (op_callG2 (l := [(Go.Operand.tmp 7)]) (add := [(1080, ((N1, 100080), tail 23 3 (p.o.cells.length * 3))), (1081, ((N1, 100081), tail 23 3 (p.o.queue.length * 3))), (1082, ((N1, 100082), tail 33 5 (p.o.senders.length * 5))), (1083, ((N1, 100083), tail 33 5 (p.o.receivers.length * 5)))]) (ks := [100080, 100081, 100082, 100083]) (φ := aggP (p.o.rs (N1, 100080) (N1, 100081) (N1, 100082) (N1, 100083))) .nil (clone_ok p.o hs.toLens) (.cons rfl .nil) fn48 rfl rfl rfl (.new (by first | exact hC.low _ (by decide) | rfl) (.new (by first | exact hC.low _ (by decide) | rfl) (.new (by first | exact hC.low _ (by decide) | rfl) (.new (by first | exact hC.low _ (by decide) | rfl) .nil)))) rfl) (dOK_spec rfl) ?_ | refine lx_any rfl (op_callG2 (l := [(Go.Operand.tmp 7)]) (add := [(1080, ((N1, 100080), tail 23 3 (p.o.cells.length * 3))), (1081, ((N1, 100081), tail 23 3 (p.o.queue.length * 3))), (1082, ((N1, 100082), tail 33 5 (p.o.senders.length * 5))), (1083, ((N1, 100083), tail 33 5 (p.o.receivers.length * 5)))]) (ks := [100080, 100081, 100082, 100083]) (φ := aggP (p.o.rs (N1, 100080) (N1, 100081) (N1, 100082) (N1, 100083))) .nil (clone_ok p.o hs.toLens) (.ent rfl (by repeat (first | exact Ents.nil | refine Ents.cons ?_ ?_ | refine Ent.tup ?_ | refine Ent.agg ?_ | exact Ent.row _ _ _ _ | exact Ent.nil _ _ | exact Ent.func _ | exact Ent.refl _ | exact Ent.of_eq rfl | refine Ent.cells ?_)) .nil) fn48 rfl rfl rfl (.new (by first | exact hC.low _ (by decide) | rfl) (.new (by first | exact hC.low _ (by decide) | rfl) (.new (by first | exact hC.low _ (by decide) | rfl) (.new (by first | exact hC.low _ (by decide) | rfl) .nil)))) rfl) (dOK_spec rfl) ?_
  refine lxn (op_alloc (m := 5) (k := 5) (ps := [eqP (.int .i64 0), eqP (.slice none 0 0), eqP (.bool false), eqP (.int .i64 0), eqP (.slice none 0 0), eqP (.bool false), eqP (.int .i64 0), eqP (.int .i64 0), eqP (.slice none 0 0), eqP (.slice none 0 0)]) ze28 rfl rfl (by first | exact hC.low _ (by decide) | rfl)) rfl ?_
  refine lxr (op_store_all (m := 5) rfl rfl rfl (.agg rfl) sz28 rfl) rfl ?_
  refine lx_end ⟨by kernel_rfl, ?_⟩
  refine pe_then_normal ?_
  refine tr_sub hC (.cons (t := 1) rfl (.cons (t := 2) rfl (.cons (t := 3) rfl (.cons (t := 5) rfl .nil)))) (.cons (t := 1) rfl (.cons (t := 2) rfl (.cons (t := 3) rfl (.cons (t := 1080) rfl (.cons (t := 1081) rfl (.cons (t := 1082) rfl (.cons (t := 1083) rfl (.cons (t := 5) rfl .nil)))))))) rfl ?_
  refine tr_seq ?_
  refine tr_region (fun N2 hN => ?_)
  refine lx (op_fieldAddr rfl fl28_8 sz26) rfl ?_
  refine lx (op_bload_one (m := 5) rfl rfl ag26 rfl) rfl ?_
  refine lx (op_fieldAddr rfl fl54_1 sz33) rfl ?_
  refine lx (op_bload_part (m := 1) (qs := [_, _, _, _, _]) rfl rfl ag33 sz33 rfl rfl) rfl ?_
  refine lx (op_buildSlice (f := wp) (xs := [p.w]) (l := [(0, (Go.Operand.tmp 12))]) ze33 rfl rfl (by decide) el26 sz33 wp_len (.cons rfl (.agg rfl) .nil) rfl (by decide)) rfl ?_
  refine lxr (op_append (m := 1082) (m' := 14) (kk := 14) rfl rfl rfl (.inr (by first | exact hC.low _ (by decide) | rfl)) el26 ze33 sz33 by33 rfl wp_len (by have := hs.senders; rw [List.length_singleton]; omega) (by have := hs.senders; rw [List.length_singleton]; omega)) rfl ?_
  refine lx (op_fieldAddr rfl fl28_8 sz26) rfl ?_
  refine lxr (op_store (m := 5) (rs := [_, _, _, _, _, _, _, _, _, _]) rfl rfl rfl (.one (by (first | exact One.eq rfl | exact One.mv _ _ _ _ _ | exact One.cl _ _ _ | exact One.map _ | exact One.sl _ _ _ | exact One.row _ _ _ _ | exact One.msl _ _ _ _ | exact One.ptr _ _ | exact One.b _ | exact One.cells _))) sz26 rfl rfl rfl) rfl ?_
  refine lx_end ⟨by kernel_rfl, ?_⟩
  refine pe_then_normal ?_
  refine tr_sub hC (.cons (t := 2) rfl (.cons (t := 3) rfl (.cons (t := 5) rfl .nil))) (.cons (t := 2) rfl (.cons (t := 3) rfl (.cons (t := 1080) rfl (.cons (t := 1081) rfl (.cons (t := 1083) rfl (.cons (t := 5) rfl .nil)))))) rfl ?_
  refine tr_seq ?_
  refine tr_region (fun N3 hN => ?_)
  refine lx (op_bload (m := 5) rfl rfl ag28 sz28) rfl ?_
  refine lx (op_build (qs := [_, _, _, _, _, _, _, _, _, _, _, _, _, _, _]) (parts := [(0, (Go.Operand.const (Go.Value.int Go.IntKind.i64 1)))]) ze35 rfl rfl fs35 (.cons rfl (.one (by (first | exact One.eq rfl | exact One.mv _ _ _ _ _ | exact One.cl _ _ _ | exact One.map _ | exact One.sl _ _ _ | exact One.row _ _ _ _ | exact One.msl _ _ _ _ | exact One.ptr _ _ | exact One.b _ | exact One.cells _))) fl35_0 sz3 rfl .nil) rfl rfl) rfl ?_
  refine lxr (op_store_all (m := 2) rfl rfl rfl (.agg rfl) sz28 rfl) rfl ?_
  refine lxr (op_store_all (m := 3) rfl rfl rfl (.agg rfl) sz35 rfl) rfl ?_
  refine lx (op_assign rfl) rfl ?_
  refine lx_end ⟨by kernel_rfl, ?_⟩
  refine pe_then_normal ?_
  refine tr_sub hC (.cons (t := 2) rfl (.cons (t := 3) rfl (.cons (t := 4) rfl .nil))) (.cons (t := 2) rfl (.cons (t := 3) rfl (.cons (t := 1080) rfl (.cons (t := 1081) rfl (.cons (t := 1083) rfl .nil))))) rfl ?_
  refine tr_ret ?_
  refine pe_retN (rs := [.cell 2 28, .cell 3 35, .tmp 4]) rfl rfl hO rfl (.cell (m := 2) rfl rfl ag28 sz28 (.cell (m := 3) rfl rfl ag35 sz35 (.tmp rfl .nil))) ?_
  repeat (first | exact Ents.nil | refine Ents.cons ?_ ?_ | refine Ent.tup ?_ | refine Ent.agg ?_ | exact Ent.row _ _ _ _ | exact Ent.nil _ _ | exact Ent.func _ | exact Ent.refl _ | exact Ent.of_eq rfl | refine Ent.cells ?_)

theorem relieve_ok (p : Opn) (hs : Small p.o) : FnP Try.prog 38 [aggP p.ps] (tupP [aggP (relS p).1.ps, aggP (relS p).2.1.ps, eqP (.bool (relS p).2.2)]) := by
  refine fn_pure' Try.func38 rfl Try.ntmps38 rfl ?_
  intro σ0 M ex Rf R hC hO
  simp only [frameOf, tokOf]
  refine tr_seq ?_
  refine tr_region (fun N0 hN => ?_)
  refine lxn (op_box (m := 1) (k := 1) rfl (.agg rfl) (by first | exact hC.low _ (by decide) | rfl)) rfl ?_
  refine lxn (op_alloc (m := 2) (k := 2) (ps := [eqP (.int .i64 0), eqP (.slice none 0 0), eqP (.bool false), eqP (.int .i64 0), eqP (.slice none 0 0), eqP (.bool false), eqP (.int .i64 0), eqP (.int .i64 0), eqP (.slice none 0 0), eqP (.slice none 0 0)]) ze28 rfl rfl (by first | exact hC.low _ (by decide) | rfl)) rfl ?_
  refine lxn (op_alloc (m := 3) (k := 3) (ps := [eqP (.int .i64 0), eqP (.int .i64 0), eqP (.int .i64 0), eqP (.int .i64 0), eqP (.bool false), eqP (.int .i64 0), eqP (.bool false), eqP (.int .i64 0), eqP (.int .i64 0), eqP (.int .i64 0), eqP (.int .i64 0), eqP (.int .i64 0), eqP (.int .i64 0), eqP (.slice none 0 0), eqP (.slice none 0 0)]) ze35 rfl rfl (by first | exact hC.low _ (by decide) | rfl)) rfl ?_
  refine lx (op_assign rfl) rfl ?_
  refine lx_end ⟨by kernel_rfl, ?_⟩
  refine pe_then_normal ?_
  refine tr_sub hC (.cons (t := 1) rfl (.cons (t := 2) rfl (.cons (t := 3) rfl .nil))) (.cons (t := 1) rfl (.cons (t := 2) rfl (.cons (t := 3) rfl .nil))) rfl ?_
  refine tr_seq ?_
  refine tr_region (fun N1 hN => ?_)
  refine lx (op_bload (m := 1) rfl rfl ag54 sz54) rfl ?_
  refine lx (op_fieldAddr rfl fl54_0 sz28) rfl ?_
  refine lx (op_fieldAddr rfl fl28_8 sz26) rfl ?_
  refine lx (op_bload_one (m := 1) rfl rfl ag26 rfl) rfl ?_
  first | refine lx (op_call (l := [(Go.Operand.tmp 10), (Go.Operand.tmp 13)]) (other_ok p p.o.senders (by have := hs.senders; omega)) (.cons rfl (.cons rfl .nil)) fn55) rfl ?_ | refine lx (op_call (l := [(Go.Operand.tmp 10), (Go.Operand.tmp 13)]) (other_ok p p.o.senders (by have := hs.senders; omega)) (.ent rfl (by repeat (first | exact Ents.nil | refine Ents.cons ?_ ?_ | refine Ent.tup ?_ | refine Ent.agg ?_ | exact Ent.row _ _ _ _ | exact Ent.nil _ _ | exact Ent.func _ | exact Ent.refl _ | exact Ent.of_eq rfl | refine Ent.cells ?_)) (.ent rfl (by repeat (first | exact Ents.nil | refine Ents.cons ?_ ?_ | refine Ent.tup ?_ | refine Ent.agg ?_ | exact Ent.row _ _ _ _ | exact Ent.nil _ _ | exact Ent.func _ | exact Ent.refl _ | exact Ent.of_eq rfl | refine Ent.cells ?_)) .nil)) fn55) rfl ?_
  refine lx (op_move rfl) rfl ?_
  refine lx (op_extract rfl rfl) rfl ?_
  refine lx (op_extract rfl rfl) rfl ?_
  refine lxn (op_alloc (m := 5) (k := 5) (ps := [eqP (.int .i64 0), eqP (.int .i64 0), eqP (.int .i64 0), eqP (.int .i64 0), eqP (.int .i64 0)]) ze33 rfl rfl (by first | exact hC.low _ (by decide) | rfl)) rfl ?_
  refine lxr (op_store_all (m := 5) rfl rfl rfl (.agg rfl) sz33 rfl) rfl ?_
  refine lx (op_assign rfl) rfl ?_
  refine lx_end ⟨by kernel_rfl, ?_⟩
  refine pe_then_normal ?_
  refine tr_sub hC (.cons (t := 1) rfl (.cons (t := 2) rfl (.cons (t := 3) rfl (.cons (t := 5) rfl (.cons (t := 6) rfl .nil))))) (.cons (t := 1) rfl (.cons (t := 2) rfl (.cons (t := 3) rfl (.cons (t := 5) rfl .nil)))) rfl ?_
  refine tr_seq ?_
  refine tr_seq ?_
  refine tr_region (fun N2 hN => ?_)
  refine lx (op_move rfl) rfl ?_
  first | refine lx (op_not rfl) rfl ?_ | refine lx (op_not_b rfl) rfl ?_
  refine lx (op_move rfl) rfl ?_
  refine lxs rfl rfl rfl guard_eq (.cons (t := 1) rfl (fun _ => Ent.refl _) .nil) (op_fieldAddr rfl fl54_0 sz28) rfl ?_
  refine lxs rfl rfl rfl guard_eq (.cons (t := 20) rfl (fun h => entW h) .nil) (op_fieldAddr rfl fl28_3 sz3) rfl ?_
  refine lxs rfl rfl rfl guard_eq (.cons (t := 21) rfl (fun h => entW h) .nil) (op_bload_one (m := 1) rfl rfl ag3 rfl) rfl ?_
  refine lxs rfl rfl rfl guard_eq (.cons (t := 22) rfl (fun h => entW h) .nil) (op_gtr rfl rfl) rfl ?_
  refine lxs rfl rfl rfl guard_eq (.cons (t := 23) rfl (fun h => entW h) .nil) (op_move rfl) rfl ?_
  refine lxs rfl rfl rfl guard_w (.cons (t := 1) rfl (fun _ => Ent.refl _) .nil) (op_fieldAddr rfl fl54_0 sz28) rfl ?_
  refine lxs rfl rfl rfl guard_w (.cons (t := 25) rfl (fun h => entW h) .nil) (op_fieldAddr rfl fl28_4 sz25) rfl ?_
  refine lxs rfl rfl rfl guard_w (.cons (t := 26) rfl (fun h => entW h) .nil) (op_bload_one (m := 1) rfl rfl ag25 rfl) rfl ?_
  first | refine lxs rfl rfl rfl guard_w (.cons (t := 27) rfl (fun h => entW h) .nil) (op_len rfl el25) rfl ?_ | refine lxs rfl rfl rfl guard_w (.cons (t := 27) rfl (fun h => entW h) .nil) (op_len_row rfl el25) rfl ?_ | refine lxs rfl rfl rfl guard_w (.cons (t := 27) rfl (fun h => entW h) .nil) (op_len_mv rfl el25) rfl ?_ | refine lxs rfl rfl rfl guard_w (.cons (t := 27) rfl (fun h => entW h) .nil) (op_len_nil rfl el25) rfl ?_
  refine lxs rfl rfl rfl guard_w (.cons (t := 28) rfl (fun h => entW h) .nil) (op_eql rfl rfl) rfl ?_
  refine lxs rfl rfl rfl guard_eq (.cons (t := 24) rfl (fun h => entW h) (.cons (t := 29) rfl (fun h => entS h) .nil)) (op_pick_and rfl rfl) rfl ?_
  refine lx (op_pick_or rfl rfl) rfl ?_
  refine lx_end ⟨by kernel_rfl, ?_⟩
  refine pe_then_normal ?_
  refine tr_sub hC (.cons (t := 1) rfl (.cons (t := 2) rfl (.cons (t := 3) rfl (.cons (t := 5) rfl (.cons (t := 31) rfl .nil))))) (.cons (t := 1) rfl (.cons (t := 2) rfl (.cons (t := 3) rfl (.cons (t := 5) rfl .nil)))) rfl ?_
  refine tr_cond rfl (fun h31 => ?_) (fun h31 => ?_)
  · have h := relS_no h31
    refine tr_seq ?_
    refine tr_region (fun N3 hN => ?_)
    refine lx (op_fieldAddr rfl fl54_0 sz28) rfl ?_
    refine lx (op_bload_part (m := 1) (qs := [_, _, _, _, _, _, _, _, _, _]) rfl rfl ag28 sz28 rfl rfl) rfl ?_
    refine lx (op_build (qs := [_, _, _, _, _, _, _, _, _, _, _, _, _, _, _]) (parts := []) ze35 rfl rfl fs35 .nil rfl rfl) rfl ?_
    refine lxr (op_store_all (m := 2) rfl rfl rfl (.agg rfl) sz28 rfl) rfl ?_
    refine lxr (op_store_all (m := 3) rfl rfl rfl (.agg rfl) sz35 rfl) rfl ?_
    refine lx (op_assign rfl) rfl ?_
    refine lx_end ⟨by kernel_rfl, ?_⟩
    refine pe_then_normal ?_
    refine tr_sub hC (.cons (t := 2) rfl (.cons (t := 3) rfl (.cons (t := 4) rfl .nil))) (.cons (t := 2) rfl (.cons (t := 3) rfl .nil)) rfl ?_
    refine tr_ret ?_
    refine pe_then_ret ?_
    refine pe_retN (rs := [.cell 2 28, .cell 3 35, .tmp 4]) rfl rfl hO rfl (.cell (m := 2) rfl rfl ag28 sz28 (.cell (m := 3) rfl rfl ag35 sz35 (.tmp rfl .nil))) ?_
    rw [h]
    repeat (first | exact Ents.nil | refine Ents.cons ?_ ?_ | refine Ent.tup ?_ | refine Ent.agg ?_ | exact Ent.row _ _ _ _ | exact Ent.nil _ _ | exact Ent.func _ | exact Ent.refl _ | exact Ent.of_eq rfl | refine Ent.cells ?_)
  · have hc := relS_cond h31
    refine tr_skip ?_
    refine pe_then_normal ?_
    refine tr_sub hC (.cons (t := 1) rfl (.cons (t := 2) rfl (.cons (t := 3) rfl (.cons (t := 5) rfl .nil)))) (.cons (t := 1) rfl (.cons (t := 2) rfl (.cons (t := 3) rfl (.cons (t := 5) rfl .nil)))) rfl ?_
    refine tr_seq ?_
    refine tr_region (fun N4 hN => ?_)
    refine lx (op_fieldAddr rfl fl54_0 sz28) rfl ?_
    refine lx (op_bload_part (m := 1) (qs := [_, _, _, _, _, _, _, _, _, _]) rfl rfl ag28 sz28 rfl rfl) rfl ?_
    refine lx (op_fieldAddr rfl fl33_0 sz3) rfl ?_
    refine lx (op_bload_one (m := 5) rfl rfl ag3 rfl) rfl ?_
    first | refine lx (op_call (l := [(Go.Operand.tmp 36), (Go.Operand.tmp 38)]) (leave_ok p.o _ hs.toLens) (.cons rfl (.cons rfl .nil)) fn29) rfl ?_ | refine lx (op_call (l := [(Go.Operand.tmp 36), (Go.Operand.tmp 38)]) (leave_ok p.o _ hs.toLens) (.ent rfl (by repeat (first | exact Ents.nil | refine Ents.cons ?_ ?_ | refine Ent.tup ?_ | refine Ent.agg ?_ | exact Ent.row _ _ _ _ | exact Ent.nil _ _ | exact Ent.func _ | exact Ent.refl _ | exact Ent.of_eq rfl | refine Ent.cells ?_)) (.ent rfl (by repeat (first | exact Ents.nil | refine Ents.cons ?_ ?_ | refine Ent.tup ?_ | refine Ent.agg ?_ | exact Ent.row _ _ _ _ | exact Ent.nil _ _ | exact Ent.func _ | exact Ent.refl _ | exact Ent.of_eq rfl | refine Ent.cells ?_)) .nil)) fn29) rfl ?_
    refine lxn (op_alloc (m := 7) (k := 7) (ps := [eqP (.int .i64 0), eqP (.slice none 0 0), eqP (.bool false), eqP (.int .i64 0), eqP (.slice none 0 0), eqP (.bool false), eqP (.int .i64 0), eqP (.int .i64 0), eqP (.slice none 0 0), eqP (.slice none 0 0)]) ze28 rfl rfl (by first | exact hC.low _ (by decide) | rfl)) rfl ?_
    refine lxr (op_store_all (m := 7) rfl rfl rfl (.agg rfl) sz28 rfl) rfl ?_
    refine lx_end ⟨by kernel_rfl, ?_⟩
    refine pe_then_normal ?_
    refine tr_sub hC (.cons (t := 1) rfl (.cons (t := 2) rfl (.cons (t := 3) rfl (.cons (t := 5) rfl (.cons (t := 7) rfl .nil))))) (.cons (t := 1) rfl (.cons (t := 2) rfl (.cons (t := 3) rfl (.cons (t := 5) rfl (.cons (t := 7) rfl .nil))))) rfl ?_
    refine tr_seq ?_
    refine tr_region (fun N5 hN => ?_)
    refine lx (op_fieldAddr rfl fl33_2 sz23) rfl ?_
    refine lx (op_bload_part (m := 5) (qs := [_, _, _]) rfl rfl ag23 sz23 rfl rfl) rfl ?_
    refine lxn (op_alloc (m := 8) (k := 8) (ps := [eqP (.int .i64 0), eqP (.int .i64 0), eqP (.int .i64 0)]) ze23 rfl rfl (by first | exact hC.low _ (by decide) | rfl)) rfl ?_
    refine lxr (op_store_all (m := 8) rfl rfl rfl (.agg rfl) sz23 rfl) rfl ?_
    refine lx_end ⟨by kernel_rfl, ?_⟩
    refine pe_then_normal ?_
    refine tr_sub hC (.cons (t := 1) rfl (.cons (t := 2) rfl (.cons (t := 3) rfl (.cons (t := 5) rfl (.cons (t := 7) rfl (.cons (t := 8) rfl .nil)))))) (.cons (t := 1) rfl (.cons (t := 2) rfl (.cons (t := 3) rfl (.cons (t := 5) rfl (.cons (t := 7) rfl (.cons (t := 8) rfl .nil)))))) rfl ?_
    refine tr_seq ?_
    refine tr_seq ?_
    refine tr_region (fun N6 hN => ?_)
    refine lx (op_fieldAddr rfl fl54_0 sz28) rfl ?_
    refine lx (op_fieldAddr rfl fl28_3 sz3) rfl ?_
    refine lx (op_bload_one (m := 1) rfl rfl ag3 rfl) rfl ?_
    refine lx (op_gtr rfl rfl) rfl ?_
    refine lx_end ⟨by kernel_rfl, ?_⟩
    refine pe_then_normal ?_
    refine tr_sub hC (.cons (t := 1) rfl (.cons (t := 2) rfl (.cons (t := 3) rfl (.cons (t := 5) rfl (.cons (t := 7) rfl (.cons (t := 8) rfl (.cons (t := 45) rfl .nil))))))) (.cons (t := 1) rfl (.cons (t := 2) rfl (.cons (t := 3) rfl (.cons (t := 5) rfl (.cons (t := 7) rfl (.cons (t := 8) rfl .nil)))))) rfl ?_
    refine tr_cond rfl (fun h45 => ?_) (fun h45 => ?_)
    · (try simp only [Bool.and_eq_true, Bool.or_eq_true, Bool.and_eq_false_iff, Bool.or_eq_false_iff, decide_eq_true_eq, decide_eq_false_iff_not, Bool.not_eq_true', Bool.not_eq_false', List.length_map, ne_eq, Decidable.not_not, Int.not_lt, Int.not_le] at h45)
      have hq : 0 < p.o.queue.length := by have := hc.2; omega
      have h := relS_pos hc.1 h45 hq
      refine tr_seq ?_
      refine tr_region (fun N7 hN => ?_)
      refine lx (op_fieldAddr rfl fl54_0 sz28) rfl ?_
      refine lx (op_fieldAddr rfl fl28_4 sz25) rfl ?_
      refine lx (op_bload_one (m := 1) rfl rfl ag25 rfl) rfl ?_
      refine lx (op_index rfl rfl el25 sz23 rfl (head_at hq)) rfl ?_
      first | refine lx (op_load_all rfl ag23 sz23) rfl ?_ | refine lx (op_load_agg rfl ag23 sz23 rfl) rfl ?_ | refine lx (op_bload (m := 1) rfl rfl ag23 sz23) rfl ?_ | refine lx (op_bload (m := 2) rfl rfl ag23 sz23) rfl ?_ | refine lx (op_bload (m := 3) rfl rfl ag23 sz23) rfl ?_ | refine lx (op_bload (m := 5) rfl rfl ag23 sz23) rfl ?_ | refine lx (op_bload (m := 7) rfl rfl ag23 sz23) rfl ?_ | refine lx (op_bload (m := 8) rfl rfl ag23 sz23) rfl ?_ | refine lx (op_bload_part (m := 1) (qs := [_, _, _]) rfl rfl ag23 sz23 rfl rfl) rfl ?_ | refine lx (op_bload_part (m := 2) (qs := [_, _, _]) rfl rfl ag23 sz23 rfl rfl) rfl ?_ | refine lx (op_bload_part (m := 3) (qs := [_, _, _]) rfl rfl ag23 sz23 rfl rfl) rfl ?_ | refine lx (op_bload_part (m := 5) (qs := [_, _, _]) rfl rfl ag23 sz23 rfl rfl) rfl ?_ | refine lx (op_bload_part (m := 7) (qs := [_, _, _]) rfl rfl ag23 sz23 rfl rfl) rfl ?_ | refine lx (op_bload_part (m := 8) (qs := [_, _, _]) rfl rfl ag23 sz23 rfl rfl) rfl ?_
      refine lxr (op_store_all (m := 8) rfl rfl rfl (.agg rfl) sz23 rfl) rfl ?_
      refine lx_end ⟨by kernel_rfl, ?_⟩
      refine pe_then_normal ?_
      refine tr_sub hC (.cons (t := 1) rfl (.cons (t := 2) rfl (.cons (t := 3) rfl (.cons (t := 5) rfl (.cons (t := 7) rfl (.cons (t := 8) rfl .nil)))))) (.cons (t := 1) rfl (.cons (t := 2) rfl (.cons (t := 3) rfl (.cons (t := 5) rfl (.cons (t := 7) rfl (.cons (t := 8) rfl .nil)))))) rfl ?_
      refine tr_drawn mixed (fun N8 hN => ?_)
      refine lx (op_fieldAddr rfl fl54_0 sz28) rfl ?_
      refine lx (op_fieldAddr rfl fl28_4 sz25) rfl ?_
      refine lx (op_bload_one (m := 1) rfl rfl ag25 rfl) rfl ?_
      refine lx (op_slice_l rfl rfl el25 sz23 (by rfl : (1 : Int) = ((1 : Nat) : Int)) (by omega)) rfl ?_
      first | refine lxn (op_callG (del := []) (add := [(55, ((N8, 55), tail 23 3 ((p.o.queue.drop 1).length * 3)))]) (ks := [55]) (vclone_ok (p.o.queue.drop 1) (by have := hs.queue; rw [List.length_drop]; omega)) (.cons rfl .nil) fn56 rfl rfl rfl (by intro x hx; cases hx) (fun x hx => .inl (by cases hx with | head => exact hC.low 55 (by decide) | tail _ h => cases h))) rfl ?_ | refine lxn (op_callG (del := []) (add := [(55, ((N8, 55), tail 23 3 ((p.o.queue.drop 1).length * 3)))]) (ks := [55]) (vclone_ok (p.o.queue.drop 1) (by have := hs.queue; rw [List.length_drop]; omega)) (.ent rfl (by repeat (first | exact Ents.nil | refine Ents.cons ?_ ?_ | refine Ent.tup ?_ | refine Ent.agg ?_ | exact Ent.row _ _ _ _ | exact Ent.nil _ _ | exact Ent.func _ | exact Ent.refl _ | exact Ent.of_eq rfl | refine Ent.cells ?_)) .nil) fn56 rfl rfl rfl (by intro x hx; cases hx) (fun x hx => .inl (by cases hx with | head => exact hC.low 55 (by decide) | tail _ h => cases h))) rfl ?_
      refine lx (op_fieldAddr rfl fl33_2 sz23) rfl ?_
      refine lx (op_bload_part (m := 5) (qs := [_, _, _]) rfl rfl ag23 sz23 rfl rfl) rfl ?_
      refine lx (op_buildSlice (f := vp) (xs := [(otherF p.o.senders p.w.g).1.v]) (l := [(0, (Go.Operand.tmp 57))]) ze23 rfl rfl (by decide) el25 sz23 vp_len (.cons rfl (.agg rfl) .nil) rfl (by decide)) rfl ?_
      refine lxr (op_append (m := 55) (m' := 59) (kk := 59) rfl rfl rfl (.inr (by first | exact hC.low _ (by decide) | rfl)) el25 ze23 sz23 by23 rfl vp_len (by have := hs.queue; rw [List.length_singleton, List.length_drop]; omega) (by have := hs.queue; rw [List.length_singleton, List.length_drop]; omega)) rfl ?_
      refine lx (op_fieldAddr rfl fl28_4 sz25) rfl ?_
      refine lxr (op_store (m := 7) (rs := [_, _, _, _, _, _, _, _, _, _]) rfl rfl rfl (.one (by (first | exact One.eq rfl | exact One.mv _ _ _ _ _ | exact One.cl _ _ _ | exact One.map _ | exact One.sl _ _ _ | exact One.row _ _ _ _ | exact One.msl _ _ _ _ | exact One.ptr _ _ | exact One.b _ | exact One.cells _))) sz25 rfl rfl rfl) rfl ?_
      refine lx_end ⟨by kernel_rfl, ?_⟩
      refine pe_then_normal ?_
      refine tr_sub hC (.cons (t := 1) rfl (.cons (t := 2) rfl (.cons (t := 3) rfl (.cons (t := 5) rfl (.cons (t := 7) rfl (.cons (t := 8) rfl .nil)))))) (.cons (t := 1) rfl (.cons (t := 2) rfl (.cons (t := 3) rfl (.cons (t := 5) rfl (.cons (t := 7) rfl (.cons (t := 8) rfl .nil)))))) rfl ?_
      refine tr_seq ?_
      refine tr_region (fun N9 hN => ?_)
      refine lx (op_fieldAddr rfl fl28_6 sz3) rfl ?_
      refine lx (op_bload_one (m := 7) rfl rfl ag3 rfl) rfl ?_
      refine lx (op_add rfl rfl (by have := hs.sent; first | omega | (simp only [leaveF]; omega))) rfl ?_
      refine lx (op_fieldAddr rfl fl28_6 sz3) rfl ?_
      refine lxr (op_store (m := 7) (rs := [_, _, _, _, _, _, _, _, _, _]) rfl rfl rfl (.one (by (first | exact One.eq rfl | exact One.mv _ _ _ _ _ | exact One.cl _ _ _ | exact One.map _ | exact One.sl _ _ _ | exact One.row _ _ _ _ | exact One.msl _ _ _ _ | exact One.ptr _ _ | exact One.b _ | exact One.cells _))) sz3 rfl rfl rfl) rfl ?_
      refine lx_end ⟨by kernel_rfl, ?_⟩
      refine pe_then_normal ?_
      refine tr_sub hC (.cons (t := 1) rfl (.cons (t := 2) rfl (.cons (t := 3) rfl (.cons (t := 5) rfl (.cons (t := 7) rfl (.cons (t := 8) rfl .nil)))))) (.cons (t := 1) rfl (.cons (t := 2) rfl (.cons (t := 3) rfl (.cons (t := 5) rfl (.cons (t := 7) rfl (.cons (t := 8) rfl .nil)))))) rfl ?_
      refine tr_seq ?_
      refine tr_region (fun N10 hN => ?_)
      refine lx (op_fieldAddr rfl fl28_7 sz3) rfl ?_
      refine lx (op_bload_one (m := 7) rfl rfl ag3 rfl) rfl ?_
      refine lx (op_add rfl rfl (by have := hs.received; first | omega | (simp only [leaveF]; omega))) rfl ?_
      refine lx (op_fieldAddr rfl fl28_7 sz3) rfl ?_
      refine lxr (op_store (m := 7) (rs := [_, _, _, _, _, _, _, _, _, _]) rfl rfl rfl (.one (by (first | exact One.eq rfl | exact One.mv _ _ _ _ _ | exact One.cl _ _ _ | exact One.map _ | exact One.sl _ _ _ | exact One.row _ _ _ _ | exact One.msl _ _ _ _ | exact One.ptr _ _ | exact One.b _ | exact One.cells _))) sz3 rfl rfl rfl) rfl ?_
      refine lx_end ⟨by kernel_rfl, ?_⟩
      refine pe_then_normal ?_
      refine tr_sub hC (.cons (t := 1) rfl (.cons (t := 2) rfl (.cons (t := 3) rfl (.cons (t := 5) rfl (.cons (t := 7) rfl (.cons (t := 8) rfl .nil)))))) (.cons (t := 1) rfl (.cons (t := 2) rfl (.cons (t := 3) rfl (.cons (t := 5) rfl (.cons (t := 7) rfl (.cons (t := 8) rfl .nil)))))) rfl ?_
      refine tr_seq ?_
      refine tr_drawn mixed (fun N11 hN => ?_)
      refine lx (op_bload (m := 7) rfl rfl ag28 sz28) rfl ?_
      refine lx (op_bload (m := 8) rfl rfl ag23 sz23) rfl ?_
      refine lx (op_fieldAddr rfl fl54_0 sz28) rfl ?_
      refine lx (op_fieldAddr rfl fl28_7 sz3) rfl ?_
      refine lx (op_bload_one (m := 1) rfl rfl ag3 rfl) rfl ?_
      refine lx (op_bload (m := 5) rfl rfl ag33 sz33) rfl ?_
      refine lx (op_fieldAddr rfl fl54_0 sz28) rfl ?_
      refine lx (op_fieldAddr rfl fl28_6 sz3) rfl ?_
      refine lx (op_bload_one (m := 1) rfl rfl ag3 rfl) rfl ?_
      refine lx (op_build (qs := [_, _, _, _, _, _, _, _, _, _, _, _, _, _, _]) (parts := [(1, (Go.Operand.tmp 70)), (2, (Go.Operand.const (Go.Value.bool Bool.true))), (3, (Go.Operand.tmp 73)), (4, (Go.Operand.const (Go.Value.bool Bool.true))), (5, (Go.Operand.tmp 74)), (6, (Go.Operand.tmp 77))]) ze35 rfl rfl fs35 (.cons rfl (.agg rfl) fl35_1 sz23 rfl (.cons rfl (.one (by (first | exact One.eq rfl | exact One.mv _ _ _ _ _ | exact One.cl _ _ _ | exact One.map _ | exact One.sl _ _ _ | exact One.row _ _ _ _ | exact One.msl _ _ _ _ | exact One.ptr _ _ | exact One.b _ | exact One.cells _))) fl35_2 sz4 rfl (.cons rfl (.one (by (first | exact One.eq rfl | exact One.mv _ _ _ _ _ | exact One.cl _ _ _ | exact One.map _ | exact One.sl _ _ _ | exact One.row _ _ _ _ | exact One.msl _ _ _ _ | exact One.ptr _ _ | exact One.b _ | exact One.cells _))) fl35_3 sz3 rfl (.cons rfl (.one (by (first | exact One.eq rfl | exact One.mv _ _ _ _ _ | exact One.cl _ _ _ | exact One.map _ | exact One.sl _ _ _ | exact One.row _ _ _ _ | exact One.msl _ _ _ _ | exact One.ptr _ _ | exact One.b _ | exact One.cells _))) fl35_4 sz4 rfl (.cons rfl (.agg rfl) fl35_5 sz33 rfl (.cons rfl (.one (by (first | exact One.eq rfl | exact One.mv _ _ _ _ _ | exact One.cl _ _ _ | exact One.map _ | exact One.sl _ _ _ | exact One.row _ _ _ _ | exact One.msl _ _ _ _ | exact One.ptr _ _ | exact One.b _ | exact One.cells _))) fl35_6 sz3 rfl .nil)))))) rfl rfl) rfl ?_
      refine lxr (op_store_all (m := 2) rfl rfl rfl (.agg rfl) sz28 rfl) rfl ?_
      refine lxr (op_store_all (m := 3) rfl rfl rfl (.agg rfl) sz35 rfl) rfl ?_
      refine lx (op_assign rfl) rfl ?_
      refine lx_end ⟨by kernel_rfl, ?_⟩
      refine pe_then_normal ?_
      refine tr_sub hC (.cons (t := 2) rfl (.cons (t := 3) rfl (.cons (t := 4) rfl .nil))) (.cons (t := 2) rfl (.cons (t := 3) rfl .nil)) rfl ?_
      refine tr_ret ?_
      refine pe_retN (rs := [.cell 2 28, .cell 3 35, .tmp 4]) rfl rfl hO rfl (.cell (m := 2) rfl rfl ag28 sz28 (.cell (m := 3) rfl rfl ag35 sz35 (.tmp rfl .nil))) ?_
      rw [h]
      repeat (first | exact Ents.nil | refine Ents.cons ?_ ?_ | refine Ent.tup ?_ | refine Ent.agg ?_ | exact Ent.row _ _ _ _ | exact Ent.nil _ _ | exact Ent.func _ | exact Ent.refl _ | exact Ent.of_eq rfl | refine Ent.cells ?_)
    · (try simp only [Bool.and_eq_true, Bool.or_eq_true, Bool.and_eq_false_iff, Bool.or_eq_false_iff, decide_eq_true_eq, decide_eq_false_iff_not, Bool.not_eq_true', Bool.not_eq_false', List.length_map, ne_eq, Decidable.not_not, Int.not_lt, Int.not_le] at h45)
      have h := relS_neg hc.1 h45
      refine tr_skip ?_
      refine pe_then_normal ?_
      refine tr_sub hC (.cons (t := 1) rfl (.cons (t := 2) rfl (.cons (t := 3) rfl (.cons (t := 5) rfl (.cons (t := 7) rfl (.cons (t := 8) rfl .nil)))))) (.cons (t := 1) rfl (.cons (t := 2) rfl (.cons (t := 3) rfl (.cons (t := 5) rfl (.cons (t := 7) rfl (.cons (t := 8) rfl .nil)))))) rfl ?_
      refine tr_seq ?_
      refine tr_region (fun N9 hN => ?_)
      refine lx (op_fieldAddr rfl fl28_6 sz3) rfl ?_
      refine lx (op_bload_one (m := 7) rfl rfl ag3 rfl) rfl ?_
      refine lx (op_add rfl rfl (by have := hs.sent; first | omega | (simp only [leaveF]; omega))) rfl ?_
      refine lx (op_fieldAddr rfl fl28_6 sz3) rfl ?_
      refine lxr (op_store (m := 7) (rs := [_, _, _, _, _, _, _, _, _, _]) rfl rfl rfl (.one (by (first | exact One.eq rfl | exact One.mv _ _ _ _ _ | exact One.cl _ _ _ | exact One.map _ | exact One.sl _ _ _ | exact One.row _ _ _ _ | exact One.msl _ _ _ _ | exact One.ptr _ _ | exact One.b _ | exact One.cells _))) sz3 rfl rfl rfl) rfl ?_
      refine lx_end ⟨by kernel_rfl, ?_⟩
      refine pe_then_normal ?_
      refine tr_sub hC (.cons (t := 1) rfl (.cons (t := 2) rfl (.cons (t := 3) rfl (.cons (t := 5) rfl (.cons (t := 7) rfl (.cons (t := 8) rfl .nil)))))) (.cons (t := 1) rfl (.cons (t := 2) rfl (.cons (t := 3) rfl (.cons (t := 5) rfl (.cons (t := 7) rfl (.cons (t := 8) rfl .nil)))))) rfl ?_
      refine tr_seq ?_
      refine tr_region (fun N10 hN => ?_)
      refine lx (op_fieldAddr rfl fl28_7 sz3) rfl ?_
      refine lx (op_bload_one (m := 7) rfl rfl ag3 rfl) rfl ?_
      refine lx (op_add rfl rfl (by have := hs.received; first | omega | (simp only [leaveF]; omega))) rfl ?_
      refine lx (op_fieldAddr rfl fl28_7 sz3) rfl ?_
      refine lxr (op_store (m := 7) (rs := [_, _, _, _, _, _, _, _, _, _]) rfl rfl rfl (.one (by (first | exact One.eq rfl | exact One.mv _ _ _ _ _ | exact One.cl _ _ _ | exact One.map _ | exact One.sl _ _ _ | exact One.row _ _ _ _ | exact One.msl _ _ _ _ | exact One.ptr _ _ | exact One.b _ | exact One.cells _))) sz3 rfl rfl rfl) rfl ?_
      refine lx_end ⟨by kernel_rfl, ?_⟩
      refine pe_then_normal ?_
      refine tr_sub hC (.cons (t := 1) rfl (.cons (t := 2) rfl (.cons (t := 3) rfl (.cons (t := 5) rfl (.cons (t := 7) rfl (.cons (t := 8) rfl .nil)))))) (.cons (t := 1) rfl (.cons (t := 2) rfl (.cons (t := 3) rfl (.cons (t := 5) rfl (.cons (t := 7) rfl (.cons (t := 8) rfl .nil)))))) rfl ?_
      refine tr_seq ?_
      refine tr_drawn mixed (fun N11 hN => ?_)
      refine lx (op_bload (m := 7) rfl rfl ag28 sz28) rfl ?_
      refine lx (op_bload (m := 8) rfl rfl ag23 sz23) rfl ?_
      refine lx (op_fieldAddr rfl fl54_0 sz28) rfl ?_
      refine lx (op_fieldAddr rfl fl28_7 sz3) rfl ?_
      refine lx (op_bload_one (m := 1) rfl rfl ag3 rfl) rfl ?_
      refine lx (op_bload (m := 5) rfl rfl ag33 sz33) rfl ?_
      refine lx (op_fieldAddr rfl fl54_0 sz28) rfl ?_
      refine lx (op_fieldAddr rfl fl28_6 sz3) rfl ?_
      refine lx (op_bload_one (m := 1) rfl rfl ag3 rfl) rfl ?_
      refine lx (op_build (qs := [_, _, _, _, _, _, _, _, _, _, _, _, _, _, _]) (parts := [(1, (Go.Operand.tmp 70)), (2, (Go.Operand.const (Go.Value.bool Bool.true))), (3, (Go.Operand.tmp 73)), (4, (Go.Operand.const (Go.Value.bool Bool.true))), (5, (Go.Operand.tmp 74)), (6, (Go.Operand.tmp 77))]) ze35 rfl rfl fs35 (.cons rfl (.agg rfl) fl35_1 sz23 rfl (.cons rfl (.one (by (first | exact One.eq rfl | exact One.mv _ _ _ _ _ | exact One.cl _ _ _ | exact One.map _ | exact One.sl _ _ _ | exact One.row _ _ _ _ | exact One.msl _ _ _ _ | exact One.ptr _ _ | exact One.b _ | exact One.cells _))) fl35_2 sz4 rfl (.cons rfl (.one (by (first | exact One.eq rfl | exact One.mv _ _ _ _ _ | exact One.cl _ _ _ | exact One.map _ | exact One.sl _ _ _ | exact One.row _ _ _ _ | exact One.msl _ _ _ _ | exact One.ptr _ _ | exact One.b _ | exact One.cells _))) fl35_3 sz3 rfl (.cons rfl (.one (by (first | exact One.eq rfl | exact One.mv _ _ _ _ _ | exact One.cl _ _ _ | exact One.map _ | exact One.sl _ _ _ | exact One.row _ _ _ _ | exact One.msl _ _ _ _ | exact One.ptr _ _ | exact One.b _ | exact One.cells _))) fl35_4 sz4 rfl (.cons rfl (.agg rfl) fl35_5 sz33 rfl (.cons rfl (.one (by (first | exact One.eq rfl | exact One.mv _ _ _ _ _ | exact One.cl _ _ _ | exact One.map _ | exact One.sl _ _ _ | exact One.row _ _ _ _ | exact One.msl _ _ _ _ | exact One.ptr _ _ | exact One.b _ | exact One.cells _))) fl35_6 sz3 rfl .nil)))))) rfl rfl) rfl ?_
      refine lxr (op_store_all (m := 2) rfl rfl rfl (.agg rfl) sz28 rfl) rfl ?_
      refine lxr (op_store_all (m := 3) rfl rfl rfl (.agg rfl) sz35 rfl) rfl ?_
      refine lx (op_assign rfl) rfl ?_
      refine lx_end ⟨by kernel_rfl, ?_⟩
      refine pe_then_normal ?_
      refine tr_sub hC (.cons (t := 2) rfl (.cons (t := 3) rfl (.cons (t := 4) rfl .nil))) (.cons (t := 2) rfl (.cons (t := 3) rfl .nil)) rfl ?_
      refine tr_ret ?_
      refine pe_retN (rs := [.cell 2 28, .cell 3 35, .tmp 4]) rfl rfl hO rfl (.cell (m := 2) rfl rfl ag28 sz28 (.cell (m := 3) rfl rfl ag35 sz35 (.tmp rfl .nil))) ?_
      rw [h]
      repeat (first | exact Ents.nil | refine Ents.cons ?_ ?_ | refine Ent.tup ?_ | refine Ent.agg ?_ | exact Ent.row _ _ _ _ | exact Ent.nil _ _ | exact Ent.func _ | exact Ent.refl _ | exact Ent.of_eq rfl | refine Ent.cells ?_)

theorem dequeue_ok (p : Opn) (hs : Small p.o) : FnP Try.prog 39 [aggP p.ps] (tupP [aggP (deqS p).1.ps, aggP (deqS p).2.1.ps, eqP (.bool (deqS p).2.2)]) := by
  refine fn_pure' Try.func39 rfl Try.ntmps39 rfl ?_
  intro σ0 M ex Rf R hC hO
  simp only [frameOf, tokOf]
  refine tr_seq ?_
  refine tr_region (fun N0 hN => ?_)
  refine lxn (op_box (m := 1) (k := 1) rfl (.agg rfl) (by first | exact hC.low _ (by decide) | rfl)) rfl ?_
  refine lxn (op_alloc (m := 2) (k := 2) (ps := [eqP (.int .i64 0), eqP (.slice none 0 0), eqP (.bool false), eqP (.int .i64 0), eqP (.slice none 0 0), eqP (.bool false), eqP (.int .i64 0), eqP (.int .i64 0), eqP (.slice none 0 0), eqP (.slice none 0 0)]) ze28 rfl rfl (by first | exact hC.low _ (by decide) | rfl)) rfl ?_
  refine lxn (op_alloc (m := 3) (k := 3) (ps := [eqP (.int .i64 0), eqP (.int .i64 0), eqP (.int .i64 0), eqP (.int .i64 0), eqP (.bool false), eqP (.int .i64 0), eqP (.bool false), eqP (.int .i64 0), eqP (.int .i64 0), eqP (.int .i64 0), eqP (.int .i64 0), eqP (.int .i64 0), eqP (.int .i64 0), eqP (.slice none 0 0), eqP (.slice none 0 0)]) ze35 rfl rfl (by first | exact hC.low _ (by decide) | rfl)) rfl ?_
  refine lx (op_assign rfl) rfl ?_
  refine lx_end ⟨by kernel_rfl, ?_⟩
  refine pe_then_normal ?_
  refine tr_sub hC (.cons (t := 1) rfl (.cons (t := 2) rfl (.cons (t := 3) rfl .nil))) (.cons (t := 1) rfl (.cons (t := 2) rfl (.cons (t := 3) rfl .nil))) rfl ?_
  refine tr_seq ?_
  refine tr_seq ?_
  refine tr_region (fun N1 hN => ?_)
  refine lx (op_fieldAddr rfl fl54_0 sz28) rfl ?_
  refine lx (op_fieldAddr rfl fl28_4 sz25) rfl ?_
  refine lx (op_bload_one (m := 1) rfl rfl ag25 rfl) rfl ?_
  first | refine lx (op_len rfl el25) rfl ?_ | refine lx (op_len_row rfl el25) rfl ?_ | refine lx (op_len_mv rfl el25) rfl ?_ | refine lx (op_len_nil rfl el25) rfl ?_
  refine lx (op_eql rfl rfl) rfl ?_
  refine lx_end ⟨by kernel_rfl, ?_⟩
  refine pe_then_normal ?_
  refine tr_sub hC (.cons (t := 1) rfl (.cons (t := 2) rfl (.cons (t := 3) rfl (.cons (t := 10) rfl .nil)))) (.cons (t := 1) rfl (.cons (t := 2) rfl (.cons (t := 3) rfl .nil))) rfl ?_
  refine tr_cond rfl (fun h10 => ?_) (fun h10 => ?_)
  · (try simp only [Bool.and_eq_true, Bool.or_eq_true, Bool.and_eq_false_iff, Bool.or_eq_false_iff, decide_eq_true_eq, decide_eq_false_iff_not, Bool.not_eq_true', Bool.not_eq_false', List.length_map, ne_eq, Decidable.not_not, Int.not_lt, Int.not_le] at h10)
    have h : deqS p = (p.o, tr0, false) := by unfold deqS; rw [if_pos (by omega)]
    refine tr_seq ?_
    refine tr_region (fun N2 hN => ?_)
    refine lx (op_fieldAddr rfl fl54_0 sz28) rfl ?_
    refine lx (op_bload_part (m := 1) (qs := [_, _, _, _, _, _, _, _, _, _]) rfl rfl ag28 sz28 rfl rfl) rfl ?_
    refine lx (op_build (qs := [_, _, _, _, _, _, _, _, _, _, _, _, _, _, _]) (parts := []) ze35 rfl rfl fs35 .nil rfl rfl) rfl ?_
    refine lxr (op_store_all (m := 2) rfl rfl rfl (.agg rfl) sz28 rfl) rfl ?_
    refine lxr (op_store_all (m := 3) rfl rfl rfl (.agg rfl) sz35 rfl) rfl ?_
    refine lx (op_assign rfl) rfl ?_
    refine lx_end ⟨by kernel_rfl, ?_⟩
    refine pe_then_normal ?_
    refine tr_sub hC (.cons (t := 2) rfl (.cons (t := 3) rfl (.cons (t := 4) rfl .nil))) (.cons (t := 2) rfl (.cons (t := 3) rfl .nil)) rfl ?_
    refine tr_ret ?_
    refine pe_then_ret ?_
    refine pe_retN (rs := [.cell 2 28, .cell 3 35, .tmp 4]) rfl rfl hO rfl (.cell (m := 2) rfl rfl ag28 sz28 (.cell (m := 3) rfl rfl ag35 sz35 (.tmp rfl .nil))) ?_
    rw [h]
    repeat (first | exact Ents.nil | refine Ents.cons ?_ ?_ | refine Ent.tup ?_ | refine Ent.agg ?_ | exact Ent.row _ _ _ _ | exact Ent.nil _ _ | exact Ent.func _ | exact Ent.refl _ | exact Ent.of_eq rfl | refine Ent.cells ?_)
  · (try simp only [Bool.and_eq_true, Bool.or_eq_true, Bool.and_eq_false_iff, Bool.or_eq_false_iff, decide_eq_true_eq, decide_eq_false_iff_not, Bool.not_eq_true', Bool.not_eq_false', List.length_map, ne_eq, Decidable.not_not, Int.not_lt, Int.not_le] at h10)
    have hq : 0 < p.o.queue.length := by omega
    have h := deqS_yes hq
    refine tr_skip ?_
    refine pe_then_normal ?_
    refine tr_sub hC (.cons (t := 1) rfl (.cons (t := 2) rfl (.cons (t := 3) rfl .nil))) (.cons (t := 1) rfl (.cons (t := 2) rfl (.cons (t := 3) rfl .nil))) rfl ?_
    refine tr_seq ?_
    refine tr_region (fun N3 hN => ?_)
    refine lx (op_fieldAddr rfl fl54_0 sz28) rfl ?_
    refine lx (op_bload_part (m := 1) (qs := [_, _, _, _, _, _, _, _, _, _]) rfl rfl ag28 sz28 rfl rfl) rfl ?_
    first | refine lx_any rfl (op_callG2 (l := [(Go.Operand.tmp 15)]) (add := [(1160, ((N3, 100160), tail 23 3 (p.o.cells.length * 3))), (1161, ((N3, 100161), tail 23 3 (p.o.queue.length * 3))), (1162, ((N3, 100162), tail 33 5 (p.o.senders.length * 5))), (1163, ((N3, 100163), tail 33 5 (p.o.receivers.length * 5)))]) (ks := [100160, 100161, 100162, 100163]) (φ := aggP (p.o.rs (N3, 100160) (N3, 100161) (N3, 100162) (N3, 100163))) .nil (clone_ok p.o hs.toLens) (.cons rfl .nil) fn48 rfl rfl rfl (.new (by first | exact hC.low _ (by decide) | rfl) (.new (by first | exact hC.low _ (by decide) | rfl) (.new (by first | exact hC.low _ (by decide) | rfl) (.new (by first | exact hC.low _ (by decide) | rfl) .nil)))) rfl) (dOK_spec rfl) ?_ | refine lx_any rfl (op_callG2 (l := [(Go.Operand.tmp 15)]) (add := [(1160, ((N3, 100160), tail 23 3 (p.o.cells.length * 3))), (1161, ((N3, 100161), tail 23 3 (p.o.queue.length * 3))), (1162, ((N3, 100162), tail 33 5 (p.o.senders.length * 5))), (1163, ((N3, 100163), tail 33 5 (p.o.receivers.length * 5)))]) (ks := [100160, 100161, 100162, 100163]) (φ := aggP (p.o.rs (N3, 100160) (N3, 100161) (N3, 100162) (N3, 100163))) .nil (clone_ok p.o hs.toLens) (.ent rfl (by repeat (first | exact Ents.nil | refine Ents.cons ?_ ?_ | refine Ent.tup ?_ | refine Ent.agg ?_ | exact Ent.row _ _ _ _ | exact Ent.nil _ _ | exact Ent.func _ | exact Ent.refl _ | exact Ent.of_eq rfl | refine Ent.cells ?_)) .nil) fn48 rfl rfl rfl (.new (by first | exact hC.low _ (by decide) | rfl) (.new (by first | exact hC.low _ (by decide) | rfl) (.new (by first | exact hC.low _ (by decide) | rfl) (.new (by first | exact hC.low _ (by decide) | rfl) .nil)))) rfl) (dOK_spec rfl) ?_
    refine lxn (op_alloc (m := 5) (k := 5) (ps := [eqP (.int .i64 0), eqP (.slice none 0 0), eqP (.bool false), eqP (.int .i64 0), eqP (.slice none 0 0), eqP (.bool false), eqP (.int .i64 0), eqP (.int .i64 0), eqP (.slice none 0 0), eqP (.slice none 0 0)]) ze28 rfl rfl (by first | exact hC.low _ (by decide) | rfl)) rfl ?_
    refine lxr (op_store_all (m := 5) rfl rfl rfl (.agg rfl) sz28 rfl) rfl ?_
    refine lx_end ⟨by kernel_rfl, ?_⟩
    refine pe_then_normal ?_
    refine tr_sub hC (.cons (t := 1) rfl (.cons (t := 2) rfl (.cons (t := 3) rfl (.cons (t := 5) rfl .nil)))) (.cons (t := 1) rfl (.cons (t := 2) rfl (.cons (t := 3) rfl (.cons (t := 1160) rfl (.cons (t := 1161) rfl (.cons (t := 1162) rfl (.cons (t := 1163) rfl (.cons (t := 5) rfl .nil)))))))) rfl ?_
    refine tr_seq ?_
    refine tr_region (fun N4 hN => ?_)
    refine lx (op_fieldAddr rfl fl54_0 sz28) rfl ?_
    refine lx (op_fieldAddr rfl fl28_4 sz25) rfl ?_
    refine lx (op_bload_one (m := 1) rfl rfl ag25 rfl) rfl ?_
    refine lx (op_slice_l rfl rfl el25 sz23 (by rfl : (1 : Int) = ((1 : Nat) : Int)) (by omega)) rfl ?_
    first | refine lxn (op_callG (del := []) (add := [(21, ((N4, 21), tail 23 3 ((p.o.queue.drop 1).length * 3)))]) (ks := [21]) (vclone_ok (p.o.queue.drop 1) (by have := hs.queue; rw [List.length_drop]; omega)) (.cons rfl .nil) fn56 rfl rfl rfl (by intro x hx; cases hx) (fun x hx => .inl (by cases hx with | head => exact hC.low 21 (by decide) | tail _ h => cases h))) rfl ?_ | refine lxn (op_callG (del := []) (add := [(21, ((N4, 21), tail 23 3 ((p.o.queue.drop 1).length * 3)))]) (ks := [21]) (vclone_ok (p.o.queue.drop 1) (by have := hs.queue; rw [List.length_drop]; omega)) (.ent rfl (by repeat (first | exact Ents.nil | refine Ents.cons ?_ ?_ | refine Ent.tup ?_ | refine Ent.agg ?_ | exact Ent.row _ _ _ _ | exact Ent.nil _ _ | exact Ent.func _ | exact Ent.refl _ | exact Ent.of_eq rfl | refine Ent.cells ?_)) .nil) fn56 rfl rfl rfl (by intro x hx; cases hx) (fun x hx => .inl (by cases hx with | head => exact hC.low 21 (by decide) | tail _ h => cases h))) rfl ?_
    refine lx (op_fieldAddr rfl fl28_4 sz25) rfl ?_
    refine lxr (op_store (m := 5) (rs := [_, _, _, _, _, _, _, _, _, _]) rfl rfl rfl (.one (by (first | exact One.eq rfl | exact One.mv _ _ _ _ _ | exact One.cl _ _ _ | exact One.map _ | exact One.sl _ _ _ | exact One.row _ _ _ _ | exact One.msl _ _ _ _ | exact One.ptr _ _ | exact One.b _ | exact One.cells _))) sz25 rfl rfl rfl) rfl ?_
    refine lx_end ⟨by kernel_rfl, ?_⟩
    refine pe_then_normal ?_
    refine tr_sub hC (.cons (t := 1) rfl (.cons (t := 2) rfl (.cons (t := 3) rfl (.cons (t := 5) rfl .nil)))) (.cons (t := 1) rfl (.cons (t := 2) rfl (.cons (t := 3) rfl (.cons (t := 1160) rfl (.cons (t := 1161) rfl (.cons (t := 1162) rfl (.cons (t := 1163) rfl (.cons (t := 5) rfl .nil)))))))) rfl ?_
    refine tr_seq ?_
    refine tr_region (fun N5 hN => ?_)
    refine lx (op_fieldAddr rfl fl28_7 sz3) rfl ?_
    refine lx (op_bload_one (m := 5) rfl rfl ag3 rfl) rfl ?_
    refine lx (op_add rfl rfl (by have := hs.received; first | omega | (simp only [leaveF]; omega))) rfl ?_
    refine lx (op_fieldAddr rfl fl28_7 sz3) rfl ?_
    refine lxr (op_store (m := 5) (rs := [_, _, _, _, _, _, _, _, _, _]) rfl rfl rfl (.one (by (first | exact One.eq rfl | exact One.mv _ _ _ _ _ | exact One.cl _ _ _ | exact One.map _ | exact One.sl _ _ _ | exact One.row _ _ _ _ | exact One.msl _ _ _ _ | exact One.ptr _ _ | exact One.b _ | exact One.cells _))) sz3 rfl rfl rfl) rfl ?_
    refine lx_end ⟨by kernel_rfl, ?_⟩
    refine pe_then_normal ?_
    refine tr_sub hC (.cons (t := 1) rfl (.cons (t := 2) rfl (.cons (t := 3) rfl (.cons (t := 5) rfl .nil)))) (.cons (t := 1) rfl (.cons (t := 2) rfl (.cons (t := 3) rfl (.cons (t := 1160) rfl (.cons (t := 1161) rfl (.cons (t := 1162) rfl (.cons (t := 1163) rfl (.cons (t := 5) rfl .nil)))))))) rfl ?_
    refine tr_seq ?_
    refine tr_drawn mixed (fun N6 hN => ?_)
    refine lx (op_bload (m := 5) rfl rfl ag28 sz28) rfl ?_
    refine lx (op_fieldAddr rfl fl54_0 sz28) rfl ?_
    refine lx (op_fieldAddr rfl fl28_4 sz25) rfl ?_
    refine lx (op_bload_one (m := 1) rfl rfl ag25 rfl) rfl ?_
    refine lx (op_index rfl rfl el25 sz23 rfl (head_at hq)) rfl ?_
    first | refine lx (op_load_all rfl ag23 sz23) rfl ?_ | refine lx (op_load_agg rfl ag23 sz23 rfl) rfl ?_ | refine lx (op_bload (m := 1) rfl rfl ag23 sz23) rfl ?_ | refine lx (op_bload (m := 2) rfl rfl ag23 sz23) rfl ?_ | refine lx (op_bload (m := 3) rfl rfl ag23 sz23) rfl ?_ | refine lx (op_bload (m := 1160) rfl rfl ag23 sz23) rfl ?_ | refine lx (op_bload (m := 1161) rfl rfl ag23 sz23) rfl ?_ | refine lx (op_bload (m := 1162) rfl rfl ag23 sz23) rfl ?_ | refine lx (op_bload (m := 1163) rfl rfl ag23 sz23) rfl ?_ | refine lx (op_bload (m := 5) rfl rfl ag23 sz23) rfl ?_ | refine lx (op_bload_part (m := 1) (qs := [_, _, _]) rfl rfl ag23 sz23 rfl rfl) rfl ?_ | refine lx (op_bload_part (m := 2) (qs := [_, _, _]) rfl rfl ag23 sz23 rfl rfl) rfl ?_ | refine lx (op_bload_part (m := 3) (qs := [_, _, _]) rfl rfl ag23 sz23 rfl rfl) rfl ?_ | refine lx (op_bload_part (m := 1160) (qs := [_, _, _]) rfl rfl ag23 sz23 rfl rfl) rfl ?_ | refine lx (op_bload_part (m := 1161) (qs := [_, _, _]) rfl rfl ag23 sz23 rfl rfl) rfl ?_ | refine lx (op_bload_part (m := 1162) (qs := [_, _, _]) rfl rfl ag23 sz23 rfl rfl) rfl ?_ | refine lx (op_bload_part (m := 1163) (qs := [_, _, _]) rfl rfl ag23 sz23 rfl rfl) rfl ?_ | refine lx (op_bload_part (m := 5) (qs := [_, _, _]) rfl rfl ag23 sz23 rfl rfl) rfl ?_
    refine lx (op_fieldAddr rfl fl54_0 sz28) rfl ?_
    refine lx (op_fieldAddr rfl fl28_7 sz3) rfl ?_
    refine lx (op_bload_one (m := 1) rfl rfl ag3 rfl) rfl ?_
    refine lx (op_build (qs := [_, _, _, _, _, _, _, _, _, _, _, _, _, _, _]) (parts := [(1, (Go.Operand.tmp 32)), (2, (Go.Operand.const (Go.Value.bool Bool.true))), (3, (Go.Operand.tmp 35))]) ze35 rfl rfl fs35 (.cons rfl (.agg rfl) fl35_1 sz23 rfl (.cons rfl (.one (by (first | exact One.eq rfl | exact One.mv _ _ _ _ _ | exact One.cl _ _ _ | exact One.map _ | exact One.sl _ _ _ | exact One.row _ _ _ _ | exact One.msl _ _ _ _ | exact One.ptr _ _ | exact One.b _ | exact One.cells _))) fl35_2 sz4 rfl (.cons rfl (.one (by (first | exact One.eq rfl | exact One.mv _ _ _ _ _ | exact One.cl _ _ _ | exact One.map _ | exact One.sl _ _ _ | exact One.row _ _ _ _ | exact One.msl _ _ _ _ | exact One.ptr _ _ | exact One.b _ | exact One.cells _))) fl35_3 sz3 rfl .nil))) rfl rfl) rfl ?_
    refine lxr (op_store_all (m := 2) rfl rfl rfl (.agg rfl) sz28 rfl) rfl ?_
    refine lxr (op_store_all (m := 3) rfl rfl rfl (.agg rfl) sz35 rfl) rfl ?_
    refine lx (op_assign rfl) rfl ?_
    refine lx_end ⟨by kernel_rfl, ?_⟩
    refine pe_then_normal ?_
    refine tr_sub hC (.cons (t := 2) rfl (.cons (t := 3) rfl (.cons (t := 4) rfl .nil))) (.cons (t := 2) rfl (.cons (t := 3) rfl (.cons (t := 1160) rfl (.cons (t := 1161) rfl (.cons (t := 1162) rfl (.cons (t := 1163) rfl .nil)))))) rfl ?_
    refine tr_ret ?_
    refine pe_retN (rs := [.cell 2 28, .cell 3 35, .tmp 4]) rfl rfl hO rfl (.cell (m := 2) rfl rfl ag28 sz28 (.cell (m := 3) rfl rfl ag35 sz35 (.tmp rfl .nil))) ?_
    rw [h]
    repeat (first | exact Ents.nil | refine Ents.cons ?_ ?_ | refine Ent.tup ?_ | refine Ent.agg ?_ | exact Ent.row _ _ _ _ | exact Ent.nil _ _ | exact Ent.func _ | exact Ent.refl _ | exact Ent.of_eq rfl | refine Ent.cells ?_)

theorem exhausted_ok (p : Opn) (hs : Small p.o) : FnP Try.prog 40 [aggP p.ps] (tupP [aggP (exhS p).1.ps, aggP (exhS p).2.1.ps, eqP (.bool (exhS p).2.2)]) := by
  refine fn_pure' Try.func40 rfl Try.ntmps40 rfl ?_
  intro σ0 M ex Rf R hC hO
  simp only [frameOf, tokOf]
  refine tr_seq ?_
  refine tr_region (fun N0 hN => ?_)
  refine lxn (op_box (m := 1) (k := 1) rfl (.agg rfl) (by first | exact hC.low _ (by decide) | rfl)) rfl ?_
  refine lxn (op_alloc (m := 2) (k := 2) (ps := [eqP (.int .i64 0), eqP (.slice none 0 0), eqP (.bool false), eqP (.int .i64 0), eqP (.slice none 0 0), eqP (.bool false), eqP (.int .i64 0), eqP (.int .i64 0), eqP (.slice none 0 0), eqP (.slice none 0 0)]) ze28 rfl rfl (by first | exact hC.low _ (by decide) | rfl)) rfl ?_
  refine lxn (op_alloc (m := 3) (k := 3) (ps := [eqP (.int .i64 0), eqP (.int .i64 0), eqP (.int .i64 0), eqP (.int .i64 0), eqP (.bool false), eqP (.int .i64 0), eqP (.bool false), eqP (.int .i64 0), eqP (.int .i64 0), eqP (.int .i64 0), eqP (.int .i64 0), eqP (.int .i64 0), eqP (.int .i64 0), eqP (.slice none 0 0), eqP (.slice none 0 0)]) ze35 rfl rfl (by first | exact hC.low _ (by decide) | rfl)) rfl ?_
  refine lx (op_assign rfl) rfl ?_
  refine lx_end ⟨by kernel_rfl, ?_⟩
  refine pe_then_normal ?_
  refine tr_sub hC (.cons (t := 1) rfl (.cons (t := 2) rfl (.cons (t := 3) rfl .nil))) (.cons (t := 1) rfl (.cons (t := 2) rfl (.cons (t := 3) rfl .nil))) rfl ?_
  refine tr_seq ?_
  refine tr_drawn mixed (fun N1 hN => ?_)
  refine lx (op_fieldAddr rfl fl54_0 sz28) rfl ?_
  refine lx (op_bload_part (m := 1) (qs := [_, _, _, _, _, _, _, _, _, _]) rfl rfl ag28 sz28 rfl rfl) rfl ?_
  first | refine lx_any rfl (op_callG2 (l := [(Go.Operand.tmp 6)]) (add := [(1070, ((N1, 100070), tail 23 3 (p.o.cells.length * 3))), (1071, ((N1, 100071), tail 23 3 (p.o.queue.length * 3))), (1072, ((N1, 100072), tail 33 5 (p.o.senders.length * 5))), (1073, ((N1, 100073), tail 33 5 (p.o.receivers.length * 5)))]) (ks := [100070, 100071, 100072, 100073]) (φ := aggP (p.o.rs (N1, 100070) (N1, 100071) (N1, 100072) (N1, 100073))) .nil (clone_ok p.o hs.toLens) (.cons rfl .nil) fn48 rfl rfl rfl (.new (by first | exact hC.low _ (by decide) | rfl) (.new (by first | exact hC.low _ (by decide) | rfl) (.new (by first | exact hC.low _ (by decide) | rfl) (.new (by first | exact hC.low _ (by decide) | rfl) .nil)))) rfl) (dOK_spec rfl) ?_ | refine lx_any rfl (op_callG2 (l := [(Go.Operand.tmp 6)]) (add := [(1070, ((N1, 100070), tail 23 3 (p.o.cells.length * 3))), (1071, ((N1, 100071), tail 23 3 (p.o.queue.length * 3))), (1072, ((N1, 100072), tail 33 5 (p.o.senders.length * 5))), (1073, ((N1, 100073), tail 33 5 (p.o.receivers.length * 5)))]) (ks := [100070, 100071, 100072, 100073]) (φ := aggP (p.o.rs (N1, 100070) (N1, 100071) (N1, 100072) (N1, 100073))) .nil (clone_ok p.o hs.toLens) (.ent rfl (by repeat (first | exact Ents.nil | refine Ents.cons ?_ ?_ | refine Ent.tup ?_ | refine Ent.agg ?_ | exact Ent.row _ _ _ _ | exact Ent.nil _ _ | exact Ent.func _ | exact Ent.refl _ | exact Ent.of_eq rfl | refine Ent.cells ?_)) .nil) fn48 rfl rfl rfl (.new (by first | exact hC.low _ (by decide) | rfl) (.new (by first | exact hC.low _ (by decide) | rfl) (.new (by first | exact hC.low _ (by decide) | rfl) (.new (by first | exact hC.low _ (by decide) | rfl) .nil)))) rfl) (dOK_spec rfl) ?_
  refine lx (op_fieldAddr rfl fl54_0 sz28) rfl ?_
  refine lx (op_fieldAddr rfl fl28_7 sz3) rfl ?_
  refine lx (op_bload_one (m := 1) rfl rfl ag3 rfl) rfl ?_
  refine lx (op_build (qs := [_, _, _, _, _, _, _, _, _, _, _, _, _, _, _]) (parts := [(3, (Go.Operand.tmp 10))]) ze35 rfl rfl fs35 (.cons rfl (.one (by (first | exact One.eq rfl | exact One.mv _ _ _ _ _ | exact One.cl _ _ _ | exact One.map _ | exact One.sl _ _ _ | exact One.row _ _ _ _ | exact One.msl _ _ _ _ | exact One.ptr _ _ | exact One.b _ | exact One.cells _))) fl35_3 sz3 rfl .nil) rfl rfl) rfl ?_
  refine lx (op_fieldAddr rfl fl54_0 sz28) rfl ?_
  refine lx (op_fieldAddr rfl fl28_5 sz4) rfl ?_
  refine lx (op_bload_one (m := 1) rfl rfl ag4 rfl) rfl ?_
  refine lxr (op_store_all (m := 2) rfl rfl rfl (.agg rfl) sz28 rfl) rfl ?_
  refine lxr (op_store_all (m := 3) rfl rfl rfl (.agg rfl) sz35 rfl) rfl ?_
  refine lx (op_assign rfl) rfl ?_
  refine lx_end ⟨by kernel_rfl, ?_⟩
  refine pe_then_normal ?_
  refine tr_sub hC (.cons (t := 2) rfl (.cons (t := 3) rfl (.cons (t := 4) rfl .nil))) (.cons (t := 2) rfl (.cons (t := 3) rfl (.cons (t := 1070) rfl (.cons (t := 1071) rfl (.cons (t := 1072) rfl (.cons (t := 1073) rfl .nil)))))) rfl ?_
  refine tr_ret ?_
  refine pe_retN (rs := [.cell 2 28, .cell 3 35, .tmp 4]) rfl rfl hO rfl (.cell (m := 2) rfl rfl ag28 sz28 (.cell (m := 3) rfl rfl ag35 sz35 (.tmp rfl .nil))) ?_
  repeat (first | exact Ents.nil | refine Ents.cons ?_ ?_ | refine Ent.tup ?_ | refine Ent.agg ?_ | exact Ent.row _ _ _ _ | exact Ent.nil _ _ | exact Ent.func _ | exact Ent.refl _ | exact Ent.of_eq rfl | refine Ent.cells ?_)

theorem parkR_ok (p : Opn) (hs : Small p.o) : FnP Try.prog 41 [aggP p.ps] (tupP [aggP (parkR p).1.ps, aggP (parkR p).2.1.ps, eqP (.bool (parkR p).2.2)]) := by
  refine fn_pure' Try.func41 rfl Try.ntmps41 rfl ?_
  intro σ0 M ex Rf R hC hO
  simp only [frameOf, tokOf]
  refine tr_seq ?_
  refine tr_region (fun N0 hN => ?_)
  refine lxn (op_box (m := 1) (k := 1) rfl (.agg rfl) (by first | exact hC.low _ (by decide) | rfl)) rfl ?_
  refine lxn (op_alloc (m := 2) (k := 2) (ps := [eqP (.int .i64 0), eqP (.slice none 0 0), eqP (.bool false), eqP (.int .i64 0), eqP (.slice none 0 0), eqP (.bool false), eqP (.int .i64 0), eqP (.int .i64 0), eqP (.slice none 0 0), eqP (.slice none 0 0)]) ze28 rfl rfl (by first | exact hC.low _ (by decide) | rfl)) rfl ?_
  refine lxn (op_alloc (m := 3) (k := 3) (ps := [eqP (.int .i64 0), eqP (.int .i64 0), eqP (.int .i64 0), eqP (.int .i64 0), eqP (.bool false), eqP (.int .i64 0), eqP (.bool false), eqP (.int .i64 0), eqP (.int .i64 0), eqP (.int .i64 0), eqP (.int .i64 0), eqP (.int .i64 0), eqP (.int .i64 0), eqP (.slice none 0 0), eqP (.slice none 0 0)]) ze35 rfl rfl (by first | exact hC.low _ (by decide) | rfl)) rfl ?_
  refine lx (op_assign rfl) rfl ?_
  refine lx_end ⟨by kernel_rfl, ?_⟩
  refine pe_then_normal ?_
  refine tr_sub hC (.cons (t := 1) rfl (.cons (t := 2) rfl (.cons (t := 3) rfl .nil))) (.cons (t := 1) rfl (.cons (t := 2) rfl (.cons (t := 3) rfl .nil))) rfl ?_
  refine tr_seq ?_
  refine tr_region (fun N1 hN => ?_)
  refine lx (op_fieldAddr rfl fl54_0 sz28) rfl ?_
  refine lx (op_bload_part (m := 1) (qs := [_, _, _, _, _, _, _, _, _, _]) rfl rfl ag28 sz28 rfl rfl) rfl ?_
  first | refine lx_any rfl (op_callG2 (l := [(Go.Operand.tmp 7)]) (add := [(1080, ((N1, 100080), tail 23 3 (p.o.cells.length * 3))), (1081, ((N1, 100081), tail 23 3 (p.o.queue.length * 3))), (1082, ((N1, 100082), tail 33 5 (p.o.senders.length * 5))), (1083, ((N1, 100083), tail 33 5 (p.o.receivers.length * 5)))]) (ks := [100080, 100081, 100082, 100083]) (φ := aggP (p.o.rs (N1, 100080) (N1, 100081) (N1, 100082) (N1, 100083))) .nil (clone_ok p.o hs.toLens) (.cons rfl .nil) fn48 rfl rfl rfl (.new (by first | exact hC.low _ (by decide) | rfl) (.new (by first | exact hC.low _ (by decide) | rfl) (.new (by first | exact hC.low _ (by decide) | rfl) (.new (by first | exact hC.low _ (by decide) | rfl) .nil)))) rfl) (dOK_spec rfl) ?_ | refine lx_any rfl (op_callG2 (l := [(Go.Operand.tmp 7)]) (add := [(1080, ((N1, 100080), tail 23 3 (p.o.cells.length * 3))), (1081, ((N1, 100081), tail 23 3 (p.o.queue.length * 3))), (1082, ((N1, 100082), tail 33 5 (p.o.senders.length * 5))), (1083, ((N1, 100083), tail 33 5 (p.o.receivers.length * 5)))]) (ks := [100080, 100081, 100082, 100083]) (φ := aggP (p.o.rs (N1, 100080) (N1, 100081) (N1, 100082) (N1, 100083))) .nil (clone_ok p.o hs.toLens) (.ent rfl (by repeat (first | exact Ents.nil | refine Ents.cons ?_ ?_ | refine Ent.tup ?_ | refine Ent.agg ?_ | exact Ent.row _ _ _ _ | exact Ent.nil _ _ | exact Ent.func _ | exact Ent.refl _ | exact Ent.of_eq rfl | refine Ent.cells ?_)) .nil) fn48 rfl rfl rfl (.new (by first | exact hC.low _ (by decide) | rfl) (.new (by first | exact hC.low _ (by decide) | rfl) (.new (by first | exact hC.low _ (by decide) | rfl) (.new (by first | exact hC.low _ (by decide) | rfl) .nil)))) rfl) (dOK_spec rfl) ?_
  refine lxn (op_alloc (m := 5) (k := 5) (ps := [eqP (.int .i64 0), eqP (.slice none 0 0), eqP (.bool false), eqP (.int .i64 0), eqP (.slice none 0 0), eqP (.bool false), eqP (.int .i64 0), eqP (.int .i64 0), eqP (.slice none 0 0), eqP (.slice none 0 0)]) ze28 rfl rfl (by first | exact hC.low _ (by decide) | rfl)) rfl ?_
  refine lxr (op_store_all (m := 5) rfl rfl rfl (.agg rfl) sz28 rfl) rfl ?_
  refine lx_end ⟨by kernel_rfl, ?_⟩
  refine pe_then_normal ?_
  refine tr_sub hC (.cons (t := 1) rfl (.cons (t := 2) rfl (.cons (t := 3) rfl (.cons (t := 5) rfl .nil)))) (.cons (t := 1) rfl (.cons (t := 2) rfl (.cons (t := 3) rfl (.cons (t := 1080) rfl (.cons (t := 1081) rfl (.cons (t := 1082) rfl (.cons (t := 1083) rfl (.cons (t := 5) rfl .nil)))))))) rfl ?_
  refine tr_seq ?_
  refine tr_region (fun N2 hN => ?_)
  refine lx (op_fieldAddr rfl fl28_9 sz26) rfl ?_
  refine lx (op_bload_one (m := 5) rfl rfl ag26 rfl) rfl ?_
  refine lx (op_fieldAddr rfl fl54_1 sz33) rfl ?_
  refine lx (op_fieldAddr rfl fl33_0 sz3) rfl ?_
  refine lx (op_bload_one (m := 1) rfl rfl ag3 rfl) rfl ?_
  refine lx (op_fieldAddr rfl fl54_1 sz33) rfl ?_
  refine lx (op_fieldAddr rfl fl33_1 sz3) rfl ?_
  refine lx (op_bload_one (m := 1) rfl rfl ag3 rfl) rfl ?_
  refine lx (op_build (qs := [_, _, _, _, _]) (parts := [(0, (Go.Operand.tmp 13)), (1, (Go.Operand.tmp 16))]) ze33 rfl rfl fs33 (.cons rfl (.one (by (first | exact One.eq rfl | exact One.mv _ _ _ _ _ | exact One.cl _ _ _ | exact One.map _ | exact One.sl _ _ _ | exact One.row _ _ _ _ | exact One.msl _ _ _ _ | exact One.ptr _ _ | exact One.b _ | exact One.cells _))) fl33_0 sz3 rfl (.cons rfl (.one (by (first | exact One.eq rfl | exact One.mv _ _ _ _ _ | exact One.cl _ _ _ | exact One.map _ | exact One.sl _ _ _ | exact One.row _ _ _ _ | exact One.msl _ _ _ _ | exact One.ptr _ _ | exact One.b _ | exact One.cells _))) fl33_1 sz3 rfl .nil)) rfl rfl) rfl ?_
  refine lx (op_buildSlice (f := wp) (xs := [⟨p.w.g, p.w.c, v0⟩]) (l := [(0, (Go.Operand.tmp 17))]) ze33 rfl rfl (by decide) el26 sz33 wp_len (.cons rfl (.agg rfl) .nil) rfl (by decide)) rfl ?_
  refine lxr (op_append (m := 1083) (m' := 19) (kk := 19) rfl rfl rfl (.inr (by first | exact hC.low _ (by decide) | rfl)) el26 ze33 sz33 by33 rfl wp_len (by have := hs.receivers; rw [List.length_singleton]; omega) (by have := hs.receivers; rw [List.length_singleton]; omega)) rfl ?_
  refine lx (op_fieldAddr rfl fl28_9 sz26) rfl ?_
  refine lxr (op_store (m := 5) (rs := [_, _, _, _, _, _, _, _, _, _]) rfl rfl rfl (.one (by (first | exact One.eq rfl | exact One.mv _ _ _ _ _ | exact One.cl _ _ _ | exact One.map _ | exact One.sl _ _ _ | exact One.row _ _ _ _ | exact One.msl _ _ _ _ | exact One.ptr _ _ | exact One.b _ | exact One.cells _))) sz26 rfl rfl rfl) rfl ?_
  refine lx_end ⟨by kernel_rfl, ?_⟩
  refine pe_then_normal ?_
  refine tr_sub hC (.cons (t := 2) rfl (.cons (t := 3) rfl (.cons (t := 5) rfl .nil))) (.cons (t := 2) rfl (.cons (t := 3) rfl (.cons (t := 1080) rfl (.cons (t := 1081) rfl (.cons (t := 1082) rfl (.cons (t := 5) rfl .nil)))))) rfl ?_
  refine tr_seq ?_
  refine tr_region (fun N3 hN => ?_)
  refine lx (op_bload (m := 5) rfl rfl ag28 sz28) rfl ?_
  refine lx (op_build (qs := [_, _, _, _, _, _, _, _, _, _, _, _, _, _, _]) (parts := [(0, (Go.Operand.const (Go.Value.int Go.IntKind.i64 1)))]) ze35 rfl rfl fs35 (.cons rfl (.one (by (first | exact One.eq rfl | exact One.mv _ _ _ _ _ | exact One.cl _ _ _ | exact One.map _ | exact One.sl _ _ _ | exact One.row _ _ _ _ | exact One.msl _ _ _ _ | exact One.ptr _ _ | exact One.b _ | exact One.cells _))) fl35_0 sz3 rfl .nil) rfl rfl) rfl ?_
  refine lxr (op_store_all (m := 2) rfl rfl rfl (.agg rfl) sz28 rfl) rfl ?_
  refine lxr (op_store_all (m := 3) rfl rfl rfl (.agg rfl) sz35 rfl) rfl ?_
  refine lx (op_assign rfl) rfl ?_
  refine lx_end ⟨by kernel_rfl, ?_⟩
  refine pe_then_normal ?_
  refine tr_sub hC (.cons (t := 2) rfl (.cons (t := 3) rfl (.cons (t := 4) rfl .nil))) (.cons (t := 2) rfl (.cons (t := 3) rfl (.cons (t := 1080) rfl (.cons (t := 1081) rfl (.cons (t := 1082) rfl .nil))))) rfl ?_
  refine tr_ret ?_
  refine pe_retN (rs := [.cell 2 28, .cell 3 35, .tmp 4]) rfl rfl hO rfl (.cell (m := 2) rfl rfl ag28 sz28 (.cell (m := 3) rfl rfl ag35 sz35 (.tmp rfl .nil))) ?_
  repeat (first | exact Ents.nil | refine Ents.cons ?_ ?_ | refine Ent.tup ?_ | refine Ent.agg ?_ | exact Ent.row _ _ _ _ | exact Ent.nil _ _ | exact Ent.func _ | exact Ent.refl _ | exact Ent.of_eq rfl | refine Ent.cells ?_)

end Go.Proofs.Ytagjjeofdcgcmaa
