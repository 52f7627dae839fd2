/- Walks of the functions of layer 17: the reference Send, Receive, Close -/
import Derived.Test.YtagjjeofdcgcmaaChWalk6
import Derived.Test.YtagjjeofdcgcmaaChPlain2
set_option linter.unusedVariables false
set_option linter.unusedSimpArgs false
namespace Go.Proofs.Ytagjjeofdcgcmaa
open Go.AL Go.Ch Go.RowKit
theorem ag63 : aggB Try.prog 63 = some false := by kernel_rfl
theorem bo4 : Try.prog.underlying 4 = some .bool := by kernel_rfl
theorem el63 : elemB Try.prog 63 = some 4 := by kernel_rfl
theorem fl28_0 : fldB Try.prog 28 0 = some (0, 3) := by kernel_rfl
theorem fl35_7 : fldB Try.prog 35 7 = some (13, 26) := by kernel_rfl
theorem fl35_8 : fldB Try.prog 35 8 = some (14, 26) := by kernel_rfl
theorem fn22 : fnB Try.prog 22 = true := by kernel_rfl
theorem fn42 : fnB Try.prog 42 = true := by kernel_rfl
theorem fn43 : fnB Try.prog 43 = true := by kernel_rfl
theorem fn46 : fnB Try.prog 46 = true := by kernel_rfl
theorem fn52 : fnB Try.prog 52 = true := by kernel_rfl
theorem rSend_ok (o : Ob) (w : Wt) (hs : Small o) : FnP Try.prog 19 [aggP o.ps, aggP (wp w)] (tupP [aggP (sendF o w).1.ps, aggP (sendF o w).2.ps]) := by
  refine fn_pure' Try.func19 rfl Try.ntmps19 rfl ?_
  intro σ0 M ex Rf R hC hO
  simp only [frameOf, tokOf]
  refine tr_seq ?_
  refine tr_region (fun N0 hN => ?_)
  refine lxn (op_box (m := 2) (k := 2) rfl (.agg rfl) (by first | exact hC.low _ (by decide) | rfl)) rfl ?_
  refine lxn (op_box (m := 3) (k := 3) rfl (.agg rfl) (by first | exact hC.low _ (by decide) | rfl)) rfl ?_
  refine lxn (op_alloc (m := 4) (k := 4) (ps := [eqP (.int .i64 0), eqP (.slice none 0 0), eqP (.bool false), eqP (.int .i64 0), eqP (.slice none 0 0), eqP (.bool false), eqP (.int .i64 0), eqP (.int .i64 0), eqP (.slice none 0 0), eqP (.slice none 0 0)]) ze28 rfl rfl (by first | exact hC.low _ (by decide) | rfl)) rfl ?_
  refine lxn (op_alloc (m := 5) (k := 5) (ps := [eqP (.int .i64 0), eqP (.int .i64 0), eqP (.int .i64 0), eqP (.int .i64 0), eqP (.bool false), eqP (.int .i64 0), eqP (.bool false), eqP (.int .i64 0), eqP (.int .i64 0), eqP (.int .i64 0), eqP (.int .i64 0), eqP (.int .i64 0), eqP (.int .i64 0), eqP (.slice none 0 0), eqP (.slice none 0 0)]) ze35 rfl rfl (by first | exact hC.low _ (by decide) | rfl)) rfl ?_
  refine lx_end ⟨by kernel_rfl, ?_⟩
  refine pe_then_normal ?_
  refine tr_sub hC (.cons (t := 2) rfl (.cons (t := 3) rfl (.cons (t := 4) rfl (.cons (t := 5) rfl .nil)))) (.cons (t := 2) rfl (.cons (t := 3) rfl (.cons (t := 4) rfl (.cons (t := 5) rfl .nil)))) rfl ?_
  refine tr_seq ?_
  refine tr_seq ?_
  refine tr_region (fun N1 hN => ?_)
  refine lx (op_fieldAddr rfl fl28_5 sz4) rfl ?_
  refine lx (op_bload_one (m := 2) rfl rfl ag4 rfl) rfl ?_
  refine lx_end ⟨by kernel_rfl, ?_⟩
  refine pe_then_normal ?_
  refine tr_sub hC (.cons (t := 2) rfl (.cons (t := 3) rfl (.cons (t := 4) rfl (.cons (t := 5) rfl (.cons (t := 11) rfl .nil))))) (.cons (t := 2) rfl (.cons (t := 3) rfl (.cons (t := 4) rfl (.cons (t := 5) rfl .nil)))) rfl ?_
  refine tr_cond rfl (fun h11 => ?_) (fun h11 => ?_)
  · (try simp only [Bool.and_eq_true, Bool.or_eq_true, Bool.and_eq_false_iff, Bool.or_eq_false_iff, decide_eq_true_eq, decide_eq_false_iff_not, Bool.not_eq_true', Bool.not_eq_false', List.length_map, ne_eq, Decidable.not_not, Int.not_lt, Int.not_le] at h11)
    have h : sendF o w = (o, { tr0 with status := 2 }) := by unfold sendF; rw [if_pos h11]
    refine tr_seq ?_
    refine tr_region (fun N2 hN => ?_)
    refine lx (op_bload (m := 2) rfl rfl ag28 sz28) rfl ?_
    first | refine lx (op_call (l := [(Go.Operand.tmp 12)]) (copy_ok o hs.toLens) (.cons rfl .nil) fn45) rfl ?_ | refine lx (op_call (l := [(Go.Operand.tmp 12)]) (copy_ok o hs.toLens) (.ent rfl (by repeat (first | exact Ents.nil | refine Ents.cons ?_ ?_ | refine Ent.tup ?_ | refine Ent.agg ?_ | exact Ent.row _ _ _ _ | exact Ent.nil _ _ | exact Ent.func _ | exact Ent.refl _ | exact Ent.of_eq rfl | refine Ent.cells ?_)) .nil) fn45) rfl ?_
    refine lx (op_build (qs := [_, _, _, _, _, _, _, _, _, _, _, _, _, _, _]) (parts := [(0, (Go.Operand.const (Go.Value.int Go.IntKind.i64 2)))]) ze35 rfl rfl fs35 (.cons rfl (.one (by (first | exact One.eq rfl | exact One.mv _ _ _ _ _ | exact One.cl _ _ _ | exact One.map _ | exact One.sl _ _ _ | exact One.row _ _ _ _ | exact One.msl _ _ _ _ | exact One.ptr _ _ | exact One.b _ | exact One.cells _))) fl35_0 sz3 rfl .nil) rfl rfl) rfl ?_
    refine lxr (op_store_all (m := 4) rfl rfl rfl (.agg rfl) sz28 rfl) rfl ?_
    refine lxr (op_store_all (m := 5) rfl rfl rfl (.agg rfl) sz35 rfl) rfl ?_
    refine lx_end ⟨by kernel_rfl, ?_⟩
    refine pe_then_normal ?_
    refine tr_sub hC (.cons (t := 4) rfl (.cons (t := 5) rfl .nil)) (.cons (t := 4) rfl (.cons (t := 5) rfl .nil)) rfl ?_
    refine tr_ret ?_
    refine pe_then_ret ?_
    refine pe_retN (rs := [.cell 4 28, .cell 5 35]) rfl rfl hO rfl (.cell (m := 4) rfl rfl ag28 sz28 (.cell (m := 5) rfl rfl ag35 sz35 .nil)) ?_
    rw [h]
    repeat (first | exact Ents.nil | refine Ents.cons ?_ ?_ | refine Ent.tup ?_ | refine Ent.agg ?_ | exact Ent.row _ _ _ _ | exact Ent.nil _ _ | exact Ent.func _ | exact Ent.refl _ | exact Ent.of_eq rfl | refine Ent.cells ?_)
  · (try simp only [Bool.and_eq_true, Bool.or_eq_true, Bool.and_eq_false_iff, Bool.or_eq_false_iff, decide_eq_true_eq, decide_eq_false_iff_not, Bool.not_eq_true', Bool.not_eq_false', List.length_map, ne_eq, Decidable.not_not, Int.not_lt, Int.not_le] at h11)
    refine tr_skip ?_
    refine pe_then_normal ?_
    refine tr_sub hC (.cons (t := 2) rfl (.cons (t := 3) rfl (.cons (t := 4) rfl (.cons (t := 5) rfl .nil)))) (.cons (t := 2) rfl (.cons (t := 3) rfl (.cons (t := 4) rfl (.cons (t := 5) rfl .nil)))) rfl ?_
    refine tr_seq ?_
    refine tr_region (fun N3 hN => ?_)
    refine lx (op_fieldAddr rfl fl28_9 sz26) rfl ?_
    refine lx (op_bload_one (m := 2) rfl rfl ag26 rfl) rfl ?_
    refine lx (op_fieldAddr rfl fl33_0 sz3) rfl ?_
    refine lx (op_bload_one (m := 3) rfl rfl ag3 rfl) rfl ?_
    first | refine lx (op_call (l := [(Go.Operand.tmp 17), (Go.Operand.tmp 19)]) (rother_ok o.receivers w.g (by have := hs.receivers; omega)) (.cons rfl (.cons rfl .nil)) fn46) rfl ?_ | refine lx (op_call (l := [(Go.Operand.tmp 17), (Go.Operand.tmp 19)]) (rother_ok o.receivers w.g (by have := hs.receivers; omega)) (.ent rfl (by repeat (first | exact Ents.nil | refine Ents.cons ?_ ?_ | refine Ent.tup ?_ | refine Ent.agg ?_ | exact Ent.row _ _ _ _ | exact Ent.nil _ _ | exact Ent.func _ | exact Ent.refl _ | exact Ent.of_eq rfl | refine Ent.cells ?_)) (.ent rfl (by repeat (first | exact Ents.nil | refine Ents.cons ?_ ?_ | refine Ent.tup ?_ | refine Ent.agg ?_ | exact Ent.row _ _ _ _ | exact Ent.nil _ _ | exact Ent.func _ | exact Ent.refl _ | exact Ent.of_eq rfl | refine Ent.cells ?_)) .nil)) fn46) rfl ?_
    refine lx (op_move rfl) rfl ?_
    refine lx (op_extract rfl rfl) rfl ?_
    refine lx (op_extract rfl rfl) rfl ?_
    refine lxn (op_alloc (m := 6) (k := 6) (ps := [eqP (.int .i64 0), eqP (.int .i64 0), eqP (.int .i64 0), eqP (.int .i64 0), eqP (.int .i64 0)]) ze33 rfl rfl (by first | exact hC.low _ (by decide) | rfl)) rfl ?_
    refine lxr (op_store_all (m := 6) rfl rfl rfl (.agg rfl) sz33 rfl) rfl ?_
    refine lx (op_assign rfl) rfl ?_
    refine lx_end ⟨by kernel_rfl, ?_⟩
    refine pe_then_normal ?_
    refine tr_sub hC (.cons (t := 2) rfl (.cons (t := 3) rfl (.cons (t := 4) rfl (.cons (t := 5) rfl (.cons (t := 6) rfl (.cons (t := 7) rfl .nil)))))) (.cons (t := 2) rfl (.cons (t := 3) rfl (.cons (t := 4) rfl (.cons (t := 5) rfl (.cons (t := 6) rfl .nil))))) rfl ?_
    refine tr_seq ?_
    refine tr_seq ?_
    refine tr_region (fun N4 hN => ?_)
    refine lx (op_move rfl) rfl ?_
    refine lx_end ⟨by kernel_rfl, ?_⟩
    refine pe_then_normal ?_
    refine tr_sub hC (.cons (t := 2) rfl (.cons (t := 3) rfl (.cons (t := 4) rfl (.cons (t := 5) rfl (.cons (t := 6) rfl (.cons (t := 23) rfl .nil)))))) (.cons (t := 2) rfl (.cons (t := 3) rfl (.cons (t := 4) rfl (.cons (t := 5) rfl (.cons (t := 6) rfl .nil))))) rfl ?_
    refine tr_cond rfl (fun h23 => ?_) (fun h23 => ?_)
    · (try simp only [Bool.and_eq_true, Bool.or_eq_true, Bool.and_eq_false_iff, Bool.or_eq_false_iff, decide_eq_true_eq, decide_eq_false_iff_not, Bool.not_eq_true', Bool.not_eq_false', List.length_map, ne_eq, Decidable.not_not, Int.not_lt, Int.not_le] at h23)
      have h := send_hand h11 h23
      refine tr_seq ?_
      refine tr_region (fun N5 hN => ?_)
      refine lx (op_bload (m := 2) rfl rfl ag28 sz28) rfl ?_
      refine lx (op_fieldAddr rfl fl33_0 sz3) rfl ?_
      refine lx (op_bload_one (m := 6) rfl rfl ag3 rfl) rfl ?_
      first | refine lx (op_call (l := [(Go.Operand.tmp 24), (Go.Operand.tmp 26)]) (rLeave_ok o _ hs.toLens) (.cons rfl (.cons rfl .nil)) fn22) rfl ?_ | refine lx (op_call (l := [(Go.Operand.tmp 24), (Go.Operand.tmp 26)]) (rLeave_ok o _ hs.toLens) (.ent rfl (by repeat (first | exact Ents.nil | refine Ents.cons ?_ ?_ | refine Ent.tup ?_ | refine Ent.agg ?_ | exact Ent.row _ _ _ _ | exact Ent.nil _ _ | exact Ent.func _ | exact Ent.refl _ | exact Ent.of_eq rfl | refine Ent.cells ?_)) (.ent rfl (by repeat (first | exact Ents.nil | refine Ents.cons ?_ ?_ | refine Ent.tup ?_ | refine Ent.agg ?_ | exact Ent.row _ _ _ _ | exact Ent.nil _ _ | exact Ent.func _ | exact Ent.refl _ | exact Ent.of_eq rfl | refine Ent.cells ?_)) .nil)) fn22) rfl ?_
      refine lxn (op_alloc (m := 8) (k := 8) (ps := [eqP (.int .i64 0), eqP (.slice none 0 0), eqP (.bool false), eqP (.int .i64 0), eqP (.slice none 0 0), eqP (.bool false), eqP (.int .i64 0), eqP (.int .i64 0), eqP (.slice none 0 0), eqP (.slice none 0 0)]) ze28 rfl rfl (by first | exact hC.low _ (by decide) | rfl)) rfl ?_
      refine lxr (op_store_all (m := 8) rfl rfl rfl (.agg rfl) sz28 rfl) rfl ?_
      refine lx_end ⟨by kernel_rfl, ?_⟩
      refine pe_then_normal ?_
      refine tr_sub hC (.cons (t := 2) rfl (.cons (t := 3) rfl (.cons (t := 4) rfl (.cons (t := 5) rfl (.cons (t := 6) rfl (.cons (t := 8) rfl .nil)))))) (.cons (t := 2) rfl (.cons (t := 3) rfl (.cons (t := 4) rfl (.cons (t := 5) rfl (.cons (t := 6) rfl (.cons (t := 8) rfl .nil)))))) rfl ?_
      refine tr_seq ?_
      refine tr_region (fun N6 hN => ?_)
      refine lx (op_fieldAddr rfl fl28_6 sz3) rfl ?_
      refine lx (op_bload_one (m := 2) rfl rfl ag3 rfl) rfl ?_
      refine lx (op_add rfl rfl (by have := hs.sent; first | omega | (simp only [leaveF]; omega))) rfl ?_
      refine lx (op_fieldAddr rfl fl28_6 sz3) rfl ?_
      refine lxr (op_store (m := 8) (rs := [_, _, _, _, _, _, _, _, _, _]) rfl rfl rfl (.one (by (first | exact One.eq rfl | exact One.mv _ _ _ _ _ | exact One.cl _ _ _ | exact One.map _ | exact One.sl _ _ _ | exact One.row _ _ _ _ | exact One.msl _ _ _ _ | exact One.ptr _ _ | exact One.b _ | exact One.cells _))) sz3 rfl rfl rfl) rfl ?_
      refine lx_end ⟨by kernel_rfl, ?_⟩
      refine pe_then_normal ?_
      refine tr_sub hC (.cons (t := 2) rfl (.cons (t := 3) rfl (.cons (t := 4) rfl (.cons (t := 5) rfl (.cons (t := 6) rfl (.cons (t := 8) rfl .nil)))))) (.cons (t := 2) rfl (.cons (t := 3) rfl (.cons (t := 4) rfl (.cons (t := 5) rfl (.cons (t := 6) rfl (.cons (t := 8) rfl .nil)))))) rfl ?_
      refine tr_seq ?_
      refine tr_region (fun N7 hN => ?_)
      refine lx (op_fieldAddr rfl fl28_7 sz3) rfl ?_
      refine lx (op_bload_one (m := 2) rfl rfl ag3 rfl) rfl ?_
      refine lx (op_add rfl rfl (by have := hs.received; first | omega | (simp only [leaveF]; omega))) rfl ?_
      refine lx (op_fieldAddr rfl fl28_7 sz3) rfl ?_
      refine lxr (op_store (m := 8) (rs := [_, _, _, _, _, _, _, _, _, _]) rfl rfl rfl (.one (by (first | exact One.eq rfl | exact One.mv _ _ _ _ _ | exact One.cl _ _ _ | exact One.map _ | exact One.sl _ _ _ | exact One.row _ _ _ _ | exact One.msl _ _ _ _ | exact One.ptr _ _ | exact One.b _ | exact One.cells _))) sz3 rfl rfl rfl) rfl ?_
      refine lx_end ⟨by kernel_rfl, ?_⟩
      refine pe_then_normal ?_
      refine tr_sub hC (.cons (t := 2) rfl (.cons (t := 3) rfl (.cons (t := 4) rfl (.cons (t := 5) rfl (.cons (t := 6) rfl (.cons (t := 8) rfl .nil)))))) (.cons (t := 2) rfl (.cons (t := 3) rfl (.cons (t := 4) rfl (.cons (t := 5) rfl (.cons (t := 6) rfl (.cons (t := 8) rfl .nil)))))) rfl ?_
      refine tr_seq ?_
      refine tr_drawn mixed (fun N8 hN => ?_)
      refine lx (op_bload (m := 8) rfl rfl ag28 sz28) rfl ?_
      refine lx (op_fieldAddr rfl fl33_2 sz23) rfl ?_
      refine lx (op_bload_part (m := 3) (qs := [_, _, _]) rfl rfl ag23 sz23 rfl rfl) rfl ?_
      refine lx (op_fieldAddr rfl fl28_6 sz3) rfl ?_
      refine lx (op_bload_one (m := 2) rfl rfl ag3 rfl) rfl ?_
      refine lx (op_bload (m := 6) rfl rfl ag33 sz33) rfl ?_
      refine lx (op_fieldAddr rfl fl28_6 sz3) rfl ?_
      refine lx (op_bload_one (m := 2) rfl rfl ag3 rfl) rfl ?_
      refine lx (op_build (qs := [_, _, _, _, _, _, _, _, _, _, _, _, _, _, _]) (parts := [(0, (Go.Operand.const (Go.Value.int Go.IntKind.i64 0))), (1, (Go.Operand.tmp 38)), (2, (Go.Operand.const (Go.Value.bool Bool.true))), (3, (Go.Operand.tmp 40)), (4, (Go.Operand.const (Go.Value.bool Bool.true))), (5, (Go.Operand.tmp 41)), (6, (Go.Operand.tmp 43))]) ze35 rfl rfl fs35 (.cons rfl (.one (by (first | exact One.eq rfl | exact One.mv _ _ _ _ _ | exact One.cl _ _ _ | exact One.map _ | exact One.sl _ _ _ | exact One.row _ _ _ _ | exact One.msl _ _ _ _ | exact One.ptr _ _ | exact One.b _ | exact One.cells _))) fl35_0 sz3 rfl (.cons rfl (.agg rfl) fl35_1 sz23 rfl (.cons rfl (.one (by (first | exact One.eq rfl | exact One.mv _ _ _ _ _ | exact One.cl _ _ _ | exact One.map _ | exact One.sl _ _ _ | exact One.row _ _ _ _ | exact One.msl _ _ _ _ | exact One.ptr _ _ | exact One.b _ | exact One.cells _))) fl35_2 sz4 rfl (.cons rfl (.one (by (first | exact One.eq rfl | exact One.mv _ _ _ _ _ | exact One.cl _ _ _ | exact One.map _ | exact One.sl _ _ _ | exact One.row _ _ _ _ | exact One.msl _ _ _ _ | exact One.ptr _ _ | exact One.b _ | exact One.cells _))) fl35_3 sz3 rfl (.cons rfl (.one (by (first | exact One.eq rfl | exact One.mv _ _ _ _ _ | exact One.cl _ _ _ | exact One.map _ | exact One.sl _ _ _ | exact One.row _ _ _ _ | exact One.msl _ _ _ _ | exact One.ptr _ _ | exact One.b _ | exact One.cells _))) fl35_4 sz4 rfl (.cons rfl (.agg rfl) fl35_5 sz33 rfl (.cons rfl (.one (by (first | exact One.eq rfl | exact One.mv _ _ _ _ _ | exact One.cl _ _ _ | exact One.map _ | exact One.sl _ _ _ | exact One.row _ _ _ _ | exact One.msl _ _ _ _ | exact One.ptr _ _ | exact One.b _ | exact One.cells _))) fl35_6 sz3 rfl .nil))))))) rfl rfl) rfl ?_
      refine lxr (op_store_all (m := 4) rfl rfl rfl (.agg rfl) sz28 rfl) rfl ?_
      refine lxr (op_store_all (m := 5) rfl rfl rfl (.agg rfl) sz35 rfl) rfl ?_
      refine lx_end ⟨by kernel_rfl, ?_⟩
      refine pe_then_normal ?_
      refine tr_sub hC (.cons (t := 4) rfl (.cons (t := 5) rfl .nil)) (.cons (t := 4) rfl (.cons (t := 5) rfl .nil)) rfl ?_
      refine tr_ret ?_
      refine pe_then_ret ?_
      refine pe_retN (rs := [.cell 4 28, .cell 5 35]) rfl rfl hO rfl (.cell (m := 4) rfl rfl ag28 sz28 (.cell (m := 5) rfl rfl ag35 sz35 .nil)) ?_
      rw [h]
      repeat (first | exact Ents.nil | refine Ents.cons ?_ ?_ | refine Ent.tup ?_ | refine Ent.agg ?_ | exact Ent.row _ _ _ _ | exact Ent.nil _ _ | exact Ent.func _ | exact Ent.refl _ | exact Ent.of_eq rfl | refine Ent.cells ?_)
    · (try simp only [Bool.and_eq_true, Bool.or_eq_true, Bool.and_eq_false_iff, Bool.or_eq_false_iff, decide_eq_true_eq, decide_eq_false_iff_not, Bool.not_eq_true', Bool.not_eq_false', List.length_map, ne_eq, Decidable.not_not, Int.not_lt, Int.not_le] at h23)
      refine tr_skip ?_
      refine pe_then_normal ?_
      refine tr_sub hC (.cons (t := 2) rfl (.cons (t := 3) rfl (.cons (t := 4) rfl (.cons (t := 5) rfl .nil)))) (.cons (t := 2) rfl (.cons (t := 3) rfl (.cons (t := 4) rfl (.cons (t := 5) rfl .nil)))) rfl ?_
      refine tr_seq ?_
      refine tr_region (fun N9 hN => ?_)
      refine lx (op_bload (m := 2) rfl rfl ag28 sz28) rfl ?_
      first | refine lx (op_call (l := [(Go.Operand.tmp 45)]) (copy_ok o hs.toLens) (.cons rfl .nil) fn45) rfl ?_ | refine lx (op_call (l := [(Go.Operand.tmp 45)]) (copy_ok o hs.toLens) (.ent rfl (by repeat (first | exact Ents.nil | refine Ents.cons ?_ ?_ | refine Ent.tup ?_ | refine Ent.agg ?_ | exact Ent.row _ _ _ _ | exact Ent.nil _ _ | exact Ent.func _ | exact Ent.refl _ | exact Ent.of_eq rfl | refine Ent.cells ?_)) .nil) fn45) rfl ?_
      refine lxn (op_alloc (m := 9) (k := 9) (ps := [eqP (.int .i64 0), eqP (.slice none 0 0), eqP (.bool false), eqP (.int .i64 0), eqP (.slice none 0 0), eqP (.bool false), eqP (.int .i64 0), eqP (.int .i64 0), eqP (.slice none 0 0), eqP (.slice none 0 0)]) ze28 rfl rfl (by first | exact hC.low _ (by decide) | rfl)) rfl ?_
      refine lxr (op_store_all (m := 9) rfl rfl rfl (.agg rfl) sz28 rfl) rfl ?_
      refine lx_end ⟨by kernel_rfl, ?_⟩
      refine pe_then_normal ?_
      refine tr_sub hC (.cons (t := 2) rfl (.cons (t := 3) rfl (.cons (t := 4) rfl (.cons (t := 5) rfl (.cons (t := 9) rfl .nil))))) (.cons (t := 2) rfl (.cons (t := 3) rfl (.cons (t := 4) rfl (.cons (t := 5) rfl (.cons (t := 9) rfl .nil))))) rfl ?_
      refine tr_seq ?_
      refine tr_seq ?_
      refine tr_region (fun N10 hN => ?_)
      refine lx (op_fieldAddr rfl fl28_4 sz25) rfl ?_
      refine lx (op_bload_one (m := 2) rfl rfl ag25 rfl) rfl ?_
      first | refine lx (op_len rfl el25) rfl ?_ | refine lx (op_len_row rfl el25) rfl ?_ | refine lx (op_len_mv rfl el25) rfl ?_ | refine lx (op_len_nil rfl el25) rfl ?_
      refine lx (op_fieldAddr rfl fl28_3 sz3) rfl ?_
      refine lx (op_bload_one (m := 2) rfl rfl ag3 rfl) rfl ?_
      refine lx (op_lss rfl rfl) rfl ?_
      refine lx_end ⟨by kernel_rfl, ?_⟩
      refine pe_then_normal ?_
      refine tr_sub hC (.cons (t := 2) rfl (.cons (t := 3) rfl (.cons (t := 4) rfl (.cons (t := 5) rfl (.cons (t := 9) rfl (.cons (t := 52) rfl .nil)))))) (.cons (t := 2) rfl (.cons (t := 3) rfl (.cons (t := 4) rfl (.cons (t := 5) rfl (.cons (t := 9) rfl .nil))))) rfl ?_
      refine tr_cond rfl (fun h52 => ?_) (fun h52 => ?_)
      · (try simp only [Bool.and_eq_true, Bool.or_eq_true, Bool.and_eq_false_iff, Bool.or_eq_false_iff, decide_eq_true_eq, decide_eq_false_iff_not, Bool.not_eq_true', Bool.not_eq_false', List.length_map, ne_eq, Decidable.not_not, Int.not_lt, Int.not_le] at h52)
        have h := send_enq h11 h23 h52
        refine tr_seq ?_
        refine tr_drawn mixed (fun N11 hN => ?_)
        refine lxn (op_buildEmpty (m' := 53) (kk := 53) (f := vp) el25 sz23 (by first | exact hC.low _ (by decide) | rfl)) rfl ?_
        refine lx (op_fieldAddr rfl fl28_4 sz25) rfl ?_
        refine lx (op_bload_one (m := 2) rfl rfl ag25 rfl) rfl ?_
        refine lxr (op_append (m := 53) (m' := 56) (kk := 56) rfl rfl rfl (.inr (by first | exact hC.low _ (by decide) | rfl)) el25 ze23 sz23 by23 rfl vp_len (by have := hs.queue; first | omega | (simp; omega)) (by have := hs.queue; first | omega | (simp; omega))) rfl ?_
        refine lx (op_fieldAddr rfl fl33_2 sz23) rfl ?_
        refine lx (op_bload_part (m := 3) (qs := [_, _, _]) rfl rfl ag23 sz23 rfl rfl) rfl ?_
        refine lx (op_buildSlice (f := vp) (xs := [w.v]) (l := [(0, (Go.Operand.tmp 58))]) ze23 rfl rfl (by decide) el25 sz23 vp_len (.cons rfl (.agg rfl) .nil) rfl (by decide)) rfl ?_
        refine lxr (op_append (m := 56) (m' := 60) (kk := 60) rfl rfl rfl (.inr (by first | exact hC.low _ (by decide) | rfl)) el25 ze23 sz23 by23 rfl vp_len (by have := hs.queue; first | omega | (simp; omega)) (by have := hs.queue; first | omega | (simp; omega))) rfl ?_
        refine lx (op_fieldAddr rfl fl28_4 sz25) rfl ?_
        refine lxr (op_store (m := 9) (rs := [_, _, _, _, _, _, _, _, _, _]) rfl rfl rfl (.one (by (first | exact One.eq rfl | exact One.mv _ _ _ _ _ | exact One.cl _ _ _ | exact One.map _ | exact One.sl _ _ _ | exact One.row _ _ _ _ | exact One.msl _ _ _ _ | exact One.ptr _ _ | exact One.b _ | exact One.cells _))) sz25 rfl rfl rfl) rfl ?_
        refine lx_end ⟨by kernel_rfl, ?_⟩
        refine pe_then_normal ?_
        refine tr_sub hC (.cons (t := 2) rfl (.cons (t := 3) rfl (.cons (t := 4) rfl (.cons (t := 5) rfl (.cons (t := 9) rfl .nil))))) (.cons (t := 2) rfl (.cons (t := 3) rfl (.cons (t := 4) rfl (.cons (t := 5) rfl (.cons (t := 9) rfl .nil))))) rfl ?_
        refine tr_seq ?_
        refine tr_region (fun N12 hN => ?_)
        refine lx (op_fieldAddr rfl fl28_6 sz3) rfl ?_
        refine lx (op_bload_one (m := 2) rfl rfl ag3 rfl) rfl ?_
        refine lx (op_add rfl rfl (by have := hs.sent; first | omega | (simp only [leaveF]; omega))) rfl ?_
        refine lx (op_fieldAddr rfl fl28_6 sz3) rfl ?_
        refine lxr (op_store (m := 9) (rs := [_, _, _, _, _, _, _, _, _, _]) rfl rfl rfl (.one (by (first | exact One.eq rfl | exact One.mv _ _ _ _ _ | exact One.cl _ _ _ | exact One.map _ | exact One.sl _ _ _ | exact One.row _ _ _ _ | exact One.msl _ _ _ _ | exact One.ptr _ _ | exact One.b _ | exact One.cells _))) sz3 rfl rfl rfl) rfl ?_
        refine lx_end ⟨by kernel_rfl, ?_⟩
        refine pe_then_normal ?_
        refine tr_sub hC (.cons (t := 2) rfl (.cons (t := 3) rfl (.cons (t := 4) rfl (.cons (t := 5) rfl (.cons (t := 9) rfl .nil))))) (.cons (t := 2) rfl (.cons (t := 3) rfl (.cons (t := 4) rfl (.cons (t := 5) rfl (.cons (t := 9) rfl .nil))))) rfl ?_
        refine tr_seq ?_
        refine tr_drawn mixed (fun N13 hN => ?_)
        refine lx (op_bload (m := 9) rfl rfl ag28 sz28) rfl ?_
        refine lx (op_fieldAddr rfl fl33_2 sz23) rfl ?_
        refine lx (op_bload_part (m := 3) (qs := [_, _, _]) rfl rfl ag23 sz23 rfl rfl) rfl ?_
        refine lx (op_fieldAddr rfl fl28_6 sz3) rfl ?_
        refine lx (op_bload_one (m := 2) rfl rfl ag3 rfl) rfl ?_
        refine lx (op_build (qs := [_, _, _, _, _, _, _, _, _, _, _, _, _, _, _]) (parts := [(0, (Go.Operand.const (Go.Value.int Go.IntKind.i64 0))), (1, (Go.Operand.tmp 68)), (2, (Go.Operand.const (Go.Value.bool Bool.true))), (3, (Go.Operand.tmp 70))]) ze35 rfl rfl fs35 (.cons rfl (.one (by (first | exact One.eq rfl | exact One.mv _ _ _ _ _ | exact One.cl _ _ _ | exact One.map _ | exact One.sl _ _ _ | exact One.row _ _ _ _ | exact One.msl _ _ _ _ | exact One.ptr _ _ | exact One.b _ | exact One.cells _))) fl35_0 sz3 rfl (.cons rfl (.agg rfl) fl35_1 sz23 rfl (.cons rfl (.one (by (first | exact One.eq rfl | exact One.mv _ _ _ _ _ | exact One.cl _ _ _ | exact One.map _ | exact One.sl _ _ _ | exact One.row _ _ _ _ | exact One.msl _ _ _ _ | exact One.ptr _ _ | exact One.b _ | exact One.cells _))) fl35_2 sz4 rfl (.cons rfl (.one (by (first | exact One.eq rfl | exact One.mv _ _ _ _ _ | exact One.cl _ _ _ | exact One.map _ | exact One.sl _ _ _ | exact One.row _ _ _ _ | exact One.msl _ _ _ _ | exact One.ptr _ _ | exact One.b _ | exact One.cells _))) fl35_3 sz3 rfl .nil)))) rfl rfl) rfl ?_
        refine lxr (op_store_all (m := 4) rfl rfl rfl (.agg rfl) sz28 rfl) rfl ?_
        refine lxr (op_store_all (m := 5) rfl rfl rfl (.agg rfl) sz35 rfl) rfl ?_
        refine lx_end ⟨by kernel_rfl, ?_⟩
        refine pe_then_normal ?_
        refine tr_sub hC (.cons (t := 4) rfl (.cons (t := 5) rfl .nil)) (.cons (t := 4) rfl (.cons (t := 5) rfl .nil)) rfl ?_
        refine tr_ret ?_
        refine pe_then_ret ?_
        refine pe_retN (rs := [.cell 4 28, .cell 5 35]) rfl rfl hO rfl (.cell (m := 4) rfl rfl ag28 sz28 (.cell (m := 5) rfl rfl ag35 sz35 .nil)) ?_
        rw [h]
        repeat (first | exact Ents.nil | refine Ents.cons ?_ ?_ | refine Ent.tup ?_ | refine Ent.agg ?_ | exact Ent.row _ _ _ _ | exact Ent.nil _ _ | exact Ent.func _ | exact Ent.refl _ | exact Ent.of_eq rfl | refine Ent.cells ?_)
      · (try simp only [Bool.and_eq_true, Bool.or_eq_true, Bool.and_eq_false_iff, Bool.or_eq_false_iff, decide_eq_true_eq, decide_eq_false_iff_not, Bool.not_eq_true', Bool.not_eq_false', List.length_map, ne_eq, Decidable.not_not, Int.not_lt, Int.not_le] at h52)
        have h := send_park h11 h23 h52
        refine tr_skip ?_
        refine pe_then_normal ?_
        refine tr_sub hC (.cons (t := 2) rfl (.cons (t := 3) rfl (.cons (t := 4) rfl (.cons (t := 5) rfl (.cons (t := 9) rfl .nil))))) (.cons (t := 2) rfl (.cons (t := 3) rfl (.cons (t := 4) rfl (.cons (t := 5) rfl (.cons (t := 9) rfl .nil))))) rfl ?_
        refine tr_seq ?_
        refine tr_drawn mixed (fun N14 hN => ?_)
        refine lxn (op_buildEmpty (m' := 72) (kk := 72) (f := wp) el26 sz33 (by first | exact hC.low _ (by decide) | rfl)) rfl ?_
        refine lx (op_fieldAddr rfl fl28_8 sz26) rfl ?_
        refine lx (op_bload_one (m := 2) rfl rfl ag26 rfl) rfl ?_
        refine lxr (op_append (m := 72) (m' := 75) (kk := 75) rfl rfl rfl (.inr (by first | exact hC.low _ (by decide) | rfl)) el26 ze33 sz33 by33 rfl wp_len (by have := hs.senders; first | omega | (simp; omega)) (by have := hs.senders; first | omega | (simp; omega))) rfl ?_
        refine lx (op_bload (m := 3) rfl rfl ag33 sz33) rfl ?_
        refine lx (op_buildSlice (f := wp) (xs := [w]) (l := [(0, (Go.Operand.tmp 76))]) ze33 rfl rfl (by decide) el26 sz33 wp_len (.cons rfl (.agg rfl) .nil) rfl (by decide)) rfl ?_
        refine lxr (op_append (m := 75) (m' := 78) (kk := 78) rfl rfl rfl (.inr (by first | exact hC.low _ (by decide) | rfl)) el26 ze33 sz33 by33 rfl wp_len (by have := hs.senders; first | omega | (simp; omega)) (by have := hs.senders; first | omega | (simp; omega))) rfl ?_
        refine lx (op_fieldAddr rfl fl28_8 sz26) rfl ?_
        refine lxr (op_store (m := 9) (rs := [_, _, _, _, _, _, _, _, _, _]) rfl rfl rfl (.one (by (first | exact One.eq rfl | exact One.mv _ _ _ _ _ | exact One.cl _ _ _ | exact One.map _ | exact One.sl _ _ _ | exact One.row _ _ _ _ | exact One.msl _ _ _ _ | exact One.ptr _ _ | exact One.b _ | exact One.cells _))) sz26 rfl rfl rfl) rfl ?_
        refine lx_end ⟨by kernel_rfl, ?_⟩
        refine pe_then_normal ?_
        refine tr_sub hC (.cons (t := 4) rfl (.cons (t := 5) rfl (.cons (t := 9) rfl .nil))) (.cons (t := 4) rfl (.cons (t := 5) rfl (.cons (t := 9) rfl .nil))) rfl ?_
        refine tr_seq ?_
        refine tr_region (fun N15 hN => ?_)
        refine lx (op_bload (m := 9) rfl rfl ag28 sz28) rfl ?_
        refine lx (op_build (qs := [_, _, _, _, _, _, _, _, _, _, _, _, _, _, _]) (parts := [(0, (Go.Operand.const (Go.Value.int Go.IntKind.i64 1)))]) ze35 rfl rfl fs35 (.cons rfl (.one (by (first | exact One.eq rfl | exact One.mv _ _ _ _ _ | exact One.cl _ _ _ | exact One.map _ | exact One.sl _ _ _ | exact One.row _ _ _ _ | exact One.msl _ _ _ _ | exact One.ptr _ _ | exact One.b _ | exact One.cells _))) fl35_0 sz3 rfl .nil) rfl rfl) rfl ?_
        refine lxr (op_store_all (m := 4) rfl rfl rfl (.agg rfl) sz28 rfl) rfl ?_
        refine lxr (op_store_all (m := 5) rfl rfl rfl (.agg rfl) sz35 rfl) rfl ?_
        refine lx_end ⟨by kernel_rfl, ?_⟩
        refine pe_then_normal ?_
        refine tr_sub hC (.cons (t := 4) rfl (.cons (t := 5) rfl .nil)) (.cons (t := 4) rfl (.cons (t := 5) rfl .nil)) rfl ?_
        refine tr_ret ?_
        refine pe_retN (rs := [.cell 4 28, .cell 5 35]) rfl rfl hO rfl (.cell (m := 4) rfl rfl ag28 sz28 (.cell (m := 5) rfl rfl ag35 sz35 .nil)) ?_
        rw [h]
        repeat (first | exact Ents.nil | refine Ents.cons ?_ ?_ | refine Ent.tup ?_ | refine Ent.agg ?_ | exact Ent.row _ _ _ _ | exact Ent.nil _ _ | exact Ent.func _ | exact Ent.refl _ | exact Ent.of_eq rfl | refine Ent.cells ?_)

theorem rRecv_ok (o : Ob) (w : Wt) (hs : Small o) : FnP Try.prog 23 [aggP o.ps, aggP (wp w)] (tupP [aggP (recvF o w).1.ps, aggP (recvF o w).2.ps]) := by
  refine fn_pure' Try.func23 rfl Try.ntmps23 rfl ?_
  intro σ0 M ex Rf R hC hO
  simp only [frameOf, tokOf]
  refine tr_seq ?_
  refine tr_region (fun N0 hN => ?_)
  refine lxn (op_box (m := 2) (k := 2) rfl (.agg rfl) (by first | exact hC.low _ (by decide) | rfl)) rfl ?_
  refine lxn (op_box (m := 3) (k := 3) rfl (.agg rfl) (by first | exact hC.low _ (by decide) | rfl)) rfl ?_
  refine lxn (op_alloc (m := 4) (k := 4) (ps := [eqP (.int .i64 0), eqP (.slice none 0 0), eqP (.bool false), eqP (.int .i64 0), eqP (.slice none 0 0), eqP (.bool false), eqP (.int .i64 0), eqP (.int .i64 0), eqP (.slice none 0 0), eqP (.slice none 0 0)]) ze28 rfl rfl (by first | exact hC.low _ (by decide) | rfl)) rfl ?_
  refine lxn (op_alloc (m := 5) (k := 5) (ps := [eqP (.int .i64 0), eqP (.int .i64 0), eqP (.int .i64 0), eqP (.int .i64 0), eqP (.bool false), eqP (.int .i64 0), eqP (.bool false), eqP (.int .i64 0), eqP (.int .i64 0), eqP (.int .i64 0), eqP (.int .i64 0), eqP (.int .i64 0), eqP (.int .i64 0), eqP (.slice none 0 0), eqP (.slice none 0 0)]) ze35 rfl rfl (by first | exact hC.low _ (by decide) | rfl)) rfl ?_
  refine lx_end ⟨by kernel_rfl, ?_⟩
  refine pe_then_normal ?_
  refine tr_sub hC (.cons (t := 2) rfl (.cons (t := 3) rfl (.cons (t := 4) rfl (.cons (t := 5) rfl .nil)))) (.cons (t := 2) rfl (.cons (t := 3) rfl (.cons (t := 4) rfl (.cons (t := 5) rfl .nil)))) rfl ?_
  refine tr_seq ?_
  refine tr_region (fun N1 hN => ?_)
  refine lx (op_fieldAddr rfl fl28_8 sz26) rfl ?_
  refine lx (op_bload_one (m := 2) rfl rfl ag26 rfl) rfl ?_
  refine lx (op_fieldAddr rfl fl33_0 sz3) rfl ?_
  refine lx (op_bload_one (m := 3) rfl rfl ag3 rfl) rfl ?_
  first | refine lx (op_call (l := [(Go.Operand.tmp 13), (Go.Operand.tmp 15)]) (rother_ok o.senders w.g (by have := hs.senders; omega)) (.cons rfl (.cons rfl .nil)) fn46) rfl ?_ | refine lx (op_call (l := [(Go.Operand.tmp 13), (Go.Operand.tmp 15)]) (rother_ok o.senders w.g (by have := hs.senders; omega)) (.ent rfl (by repeat (first | exact Ents.nil | refine Ents.cons ?_ ?_ | refine Ent.tup ?_ | refine Ent.agg ?_ | exact Ent.row _ _ _ _ | exact Ent.nil _ _ | exact Ent.func _ | exact Ent.refl _ | exact Ent.of_eq rfl | refine Ent.cells ?_)) (.ent rfl (by repeat (first | exact Ents.nil | refine Ents.cons ?_ ?_ | refine Ent.tup ?_ | refine Ent.agg ?_ | exact Ent.row _ _ _ _ | exact Ent.nil _ _ | exact Ent.func _ | exact Ent.refl _ | exact Ent.of_eq rfl | refine Ent.cells ?_)) .nil)) fn46) rfl ?_
  refine lx (op_move rfl) rfl ?_
  refine lx (op_extract rfl rfl) rfl ?_
  refine lx (op_extract rfl rfl) rfl ?_
  refine lxn (op_alloc (m := 6) (k := 6) (ps := [eqP (.int .i64 0), eqP (.int .i64 0), eqP (.int .i64 0), eqP (.int .i64 0), eqP (.int .i64 0)]) ze33 rfl rfl (by first | exact hC.low _ (by decide) | rfl)) rfl ?_
  refine lxr (op_store_all (m := 6) rfl rfl rfl (.agg rfl) sz33 rfl) rfl ?_
  refine lx (op_assign rfl) rfl ?_
  refine lx_end ⟨by kernel_rfl, ?_⟩
  refine pe_then_normal ?_
  refine tr_sub hC (.cons (t := 2) rfl (.cons (t := 3) rfl (.cons (t := 4) rfl (.cons (t := 5) rfl (.cons (t := 6) rfl (.cons (t := 7) rfl .nil)))))) (.cons (t := 2) rfl (.cons (t := 3) rfl (.cons (t := 4) rfl (.cons (t := 5) rfl (.cons (t := 6) rfl .nil))))) rfl ?_
  refine tr_seq ?_
  refine tr_seq ?_
  refine tr_region (fun N2 hN => ?_)
  refine lx (op_move rfl) rfl ?_
  refine lx (op_move rfl) rfl ?_
  refine lxs rfl rfl rfl guard_eq (.cons (t := 2) rfl (fun _ => Ent.refl _) .nil) (op_fieldAddr rfl fl28_3 sz3) rfl ?_
  refine lxs rfl rfl rfl guard_eq (.cons (t := 21) rfl (fun h => entW h) .nil) (op_bload_one (m := 2) rfl rfl ag3 rfl) rfl ?_
  refine lxs rfl rfl rfl guard_eq (.cons (t := 22) rfl (fun h => entW h) .nil) (op_eql rfl rfl) rfl ?_
  refine lx (op_pick_and rfl rfl) rfl ?_
  refine lx_end ⟨by kernel_rfl, ?_⟩
  refine pe_then_normal ?_
  refine tr_sub hC (.cons (t := 2) rfl (.cons (t := 3) rfl (.cons (t := 4) rfl (.cons (t := 5) rfl (.cons (t := 6) rfl (.cons (t := 7) rfl (.cons (t := 24) rfl .nil))))))) (.cons (t := 2) rfl (.cons (t := 3) rfl (.cons (t := 4) rfl (.cons (t := 5) rfl (.cons (t := 6) rfl .nil))))) rfl ?_
  refine tr_cond rfl (fun h24 => ?_) (fun h24 => ?_)
  · (try simp only [Bool.and_eq_true, Bool.or_eq_true, Bool.and_eq_false_iff, Bool.or_eq_false_iff, decide_eq_true_eq, decide_eq_false_iff_not, Bool.not_eq_true', Bool.not_eq_false', List.length_map, ne_eq, Decidable.not_not, Int.not_lt, Int.not_le] at h24)
    have h := recv_pair h24
    refine tr_seq ?_
    refine tr_region (fun N3 hN => ?_)
    refine lx (op_bload (m := 2) rfl rfl ag28 sz28) rfl ?_
    refine lx (op_fieldAddr rfl fl33_0 sz3) rfl ?_
    refine lx (op_bload_one (m := 6) rfl rfl ag3 rfl) rfl ?_
    first | refine lx (op_call (l := [(Go.Operand.tmp 25), (Go.Operand.tmp 27)]) (rLeave_ok o _ hs.toLens) (.cons rfl (.cons rfl .nil)) fn22) rfl ?_ | refine lx (op_call (l := [(Go.Operand.tmp 25), (Go.Operand.tmp 27)]) (rLeave_ok o _ hs.toLens) (.ent rfl (by repeat (first | exact Ents.nil | refine Ents.cons ?_ ?_ | refine Ent.tup ?_ | refine Ent.agg ?_ | exact Ent.row _ _ _ _ | exact Ent.nil _ _ | exact Ent.func _ | exact Ent.refl _ | exact Ent.of_eq rfl | refine Ent.cells ?_)) (.ent rfl (by repeat (first | exact Ents.nil | refine Ents.cons ?_ ?_ | refine Ent.tup ?_ | refine Ent.agg ?_ | exact Ent.row _ _ _ _ | exact Ent.nil _ _ | exact Ent.func _ | exact Ent.refl _ | exact Ent.of_eq rfl | refine Ent.cells ?_)) .nil)) fn22) rfl ?_
    refine lxn (op_alloc (m := 8) (k := 8) (ps := [eqP (.int .i64 0), eqP (.slice none 0 0), eqP (.bool false), eqP (.int .i64 0), eqP (.slice none 0 0), eqP (.bool false), eqP (.int .i64 0), eqP (.int .i64 0), eqP (.slice none 0 0), eqP (.slice none 0 0)]) ze28 rfl rfl (by first | exact hC.low _ (by decide) | rfl)) rfl ?_
    refine lxr (op_store_all (m := 8) rfl rfl rfl (.agg rfl) sz28 rfl) rfl ?_
    refine lx_end ⟨by kernel_rfl, ?_⟩
    refine pe_then_normal ?_
    refine tr_sub hC (.cons (t := 2) rfl (.cons (t := 4) rfl (.cons (t := 5) rfl (.cons (t := 6) rfl (.cons (t := 8) rfl .nil))))) (.cons (t := 2) rfl (.cons (t := 4) rfl (.cons (t := 5) rfl (.cons (t := 6) rfl (.cons (t := 8) rfl .nil))))) rfl ?_
    refine tr_seq ?_
    refine tr_region (fun N4 hN => ?_)
    refine lx (op_fieldAddr rfl fl28_6 sz3) rfl ?_
    refine lx (op_bload_one (m := 2) rfl rfl ag3 rfl) rfl ?_
    refine lx (op_add rfl rfl (by have := hs.sent; first | omega | (simp only [leaveF]; omega))) rfl ?_
    refine lx (op_fieldAddr rfl fl28_6 sz3) rfl ?_
    refine lxr (op_store (m := 8) (rs := [_, _, _, _, _, _, _, _, _, _]) rfl rfl rfl (.one (by (first | exact One.eq rfl | exact One.mv _ _ _ _ _ | exact One.cl _ _ _ | exact One.map _ | exact One.sl _ _ _ | exact One.row _ _ _ _ | exact One.msl _ _ _ _ | exact One.ptr _ _ | exact One.b _ | exact One.cells _))) sz3 rfl rfl rfl) rfl ?_
    refine lx_end ⟨by kernel_rfl, ?_⟩
    refine pe_then_normal ?_
    refine tr_sub hC (.cons (t := 2) rfl (.cons (t := 4) rfl (.cons (t := 5) rfl (.cons (t := 6) rfl (.cons (t := 8) rfl .nil))))) (.cons (t := 2) rfl (.cons (t := 4) rfl (.cons (t := 5) rfl (.cons (t := 6) rfl (.cons (t := 8) rfl .nil))))) rfl ?_
    refine tr_seq ?_
    refine tr_region (fun N5 hN => ?_)
    refine lx (op_fieldAddr rfl fl28_7 sz3) rfl ?_
    refine lx (op_bload_one (m := 2) rfl rfl ag3 rfl) rfl ?_
    refine lx (op_add rfl rfl (by have := hs.received; first | omega | (simp only [leaveF]; omega))) rfl ?_
    refine lx (op_fieldAddr rfl fl28_7 sz3) rfl ?_
    refine lxr (op_store (m := 8) (rs := [_, _, _, _, _, _, _, _, _, _]) rfl rfl rfl (.one (by (first | exact One.eq rfl | exact One.mv _ _ _ _ _ | exact One.cl _ _ _ | exact One.map _ | exact One.sl _ _ _ | exact One.row _ _ _ _ | exact One.msl _ _ _ _ | exact One.ptr _ _ | exact One.b _ | exact One.cells _))) sz3 rfl rfl rfl) rfl ?_
    refine lx_end ⟨by kernel_rfl, ?_⟩
    refine pe_then_normal ?_
    refine tr_sub hC (.cons (t := 2) rfl (.cons (t := 4) rfl (.cons (t := 5) rfl (.cons (t := 6) rfl (.cons (t := 8) rfl .nil))))) (.cons (t := 2) rfl (.cons (t := 4) rfl (.cons (t := 5) rfl (.cons (t := 6) rfl (.cons (t := 8) rfl .nil))))) rfl ?_
    refine tr_seq ?_
    refine tr_drawn mixed (fun N6 hN => ?_)
    refine lx (op_bload (m := 8) rfl rfl ag28 sz28) rfl ?_
    refine lx (op_fieldAddr rfl fl33_2 sz23) rfl ?_
    refine lx (op_bload_part (m := 6) (qs := [_, _, _]) rfl rfl ag23 sz23 rfl rfl) rfl ?_
    refine lx (op_fieldAddr rfl fl28_7 sz3) rfl ?_
    refine lx (op_bload_one (m := 2) rfl rfl ag3 rfl) rfl ?_
    refine lx (op_bload (m := 6) rfl rfl ag33 sz33) rfl ?_
    refine lx (op_fieldAddr rfl fl28_6 sz3) rfl ?_
    refine lx (op_bload_one (m := 2) rfl rfl ag3 rfl) rfl ?_
    refine lx (op_build (qs := [_, _, _, _, _, _, _, _, _, _, _, _, _, _, _]) (parts := [(0, (Go.Operand.const (Go.Value.int Go.IntKind.i64 0))), (1, (Go.Operand.tmp 39)), (2, (Go.Operand.const (Go.Value.bool Bool.true))), (3, (Go.Operand.tmp 41)), (4, (Go.Operand.const (Go.Value.bool Bool.true))), (5, (Go.Operand.tmp 42)), (6, (Go.Operand.tmp 44))]) ze35 rfl rfl fs35 (.cons rfl (.one (by (first | exact One.eq rfl | exact One.mv _ _ _ _ _ | exact One.cl _ _ _ | exact One.map _ | exact One.sl _ _ _ | exact One.row _ _ _ _ | exact One.msl _ _ _ _ | exact One.ptr _ _ | exact One.b _ | exact One.cells _))) fl35_0 sz3 rfl (.cons rfl (.agg rfl) fl35_1 sz23 rfl (.cons rfl (.one (by (first | exact One.eq rfl | exact One.mv _ _ _ _ _ | exact One.cl _ _ _ | exact One.map _ | exact One.sl _ _ _ | exact One.row _ _ _ _ | exact One.msl _ _ _ _ | exact One.ptr _ _ | exact One.b _ | exact One.cells _))) fl35_2 sz4 rfl (.cons rfl (.one (by (first | exact One.eq rfl | exact One.mv _ _ _ _ _ | exact One.cl _ _ _ | exact One.map _ | exact One.sl _ _ _ | exact One.row _ _ _ _ | exact One.msl _ _ _ _ | exact One.ptr _ _ | exact One.b _ | exact One.cells _))) fl35_3 sz3 rfl (.cons rfl (.one (by (first | exact One.eq rfl | exact One.mv _ _ _ _ _ | exact One.cl _ _ _ | exact One.map _ | exact One.sl _ _ _ | exact One.row _ _ _ _ | exact One.msl _ _ _ _ | exact One.ptr _ _ | exact One.b _ | exact One.cells _))) fl35_4 sz4 rfl (.cons rfl (.agg rfl) fl35_5 sz33 rfl (.cons rfl (.one (by (first | exact One.eq rfl | exact One.mv _ _ _ _ _ | exact One.cl _ _ _ | exact One.map _ | exact One.sl _ _ _ | exact One.row _ _ _ _ | exact One.msl _ _ _ _ | exact One.ptr _ _ | exact One.b _ | exact One.cells _))) fl35_6 sz3 rfl .nil))))))) rfl rfl) rfl ?_
    refine lxr (op_store_all (m := 4) rfl rfl rfl (.agg rfl) sz28 rfl) rfl ?_
    refine lxr (op_store_all (m := 5) rfl rfl rfl (.agg rfl) sz35 rfl) rfl ?_
    refine lx_end ⟨by kernel_rfl, ?_⟩
    refine pe_then_normal ?_
    refine tr_sub hC (.cons (t := 4) rfl (.cons (t := 5) rfl .nil)) (.cons (t := 4) rfl (.cons (t := 5) rfl .nil)) rfl ?_
    refine tr_ret ?_
    refine pe_then_ret ?_
    refine pe_retN (rs := [.cell 4 28, .cell 5 35]) rfl rfl hO rfl (.cell (m := 4) rfl rfl ag28 sz28 (.cell (m := 5) rfl rfl ag35 sz35 .nil)) ?_
    rw [h]
    repeat (first | exact Ents.nil | refine Ents.cons ?_ ?_ | refine Ent.tup ?_ | refine Ent.agg ?_ | exact Ent.row _ _ _ _ | exact Ent.nil _ _ | exact Ent.func _ | exact Ent.refl _ | exact Ent.of_eq rfl | refine Ent.cells ?_)
  · (try simp only [Bool.and_eq_true, Bool.or_eq_true, Bool.and_eq_false_iff, Bool.or_eq_false_iff, decide_eq_true_eq, decide_eq_false_iff_not, Bool.not_eq_true', Bool.not_eq_false', List.length_map, ne_eq, Decidable.not_not, Int.not_lt, Int.not_le] at h24)
    refine tr_skip ?_
    refine pe_then_normal ?_
    refine tr_sub hC (.cons (t := 2) rfl (.cons (t := 3) rfl (.cons (t := 4) rfl (.cons (t := 5) rfl (.cons (t := 6) rfl (.cons (t := 7) rfl .nil)))))) (.cons (t := 2) rfl (.cons (t := 3) rfl (.cons (t := 4) rfl (.cons (t := 5) rfl (.cons (t := 6) rfl .nil))))) rfl ?_
    refine tr_seq ?_
    refine tr_seq ?_
    refine tr_region (fun N7 hN => ?_)
    refine lx (op_move rfl) rfl ?_
    refine lx (op_move rfl) rfl ?_
    refine lxs rfl rfl rfl guard_eq (.cons (t := 2) rfl (fun _ => Ent.refl _) .nil) (op_fieldAddr rfl fl28_4 sz25) rfl ?_
    refine lxs rfl rfl rfl guard_eq (.cons (t := 48) rfl (fun h => entW h) .nil) (op_bload_one (m := 2) rfl rfl ag25 rfl) rfl ?_
    first | refine lxs rfl rfl rfl guard_eq (.cons (t := 49) rfl (fun h => entW h) .nil) (op_len rfl el25) rfl ?_ | refine lxs rfl rfl rfl guard_eq (.cons (t := 49) rfl (fun h => entW h) .nil) (op_len_row rfl el25) rfl ?_ | refine lxs rfl rfl rfl guard_eq (.cons (t := 49) rfl (fun h => entW h) .nil) (op_len_mv rfl el25) rfl ?_ | refine lxs rfl rfl rfl guard_eq (.cons (t := 49) rfl (fun h => entW h) .nil) (op_len_nil rfl el25) rfl ?_
    refine lxs rfl rfl rfl guard_eq (.cons (t := 50) rfl (fun h => entW h) .nil) (op_gtr rfl rfl) rfl ?_
    refine lx (op_pick_and rfl rfl) rfl ?_
    refine lx_end ⟨by kernel_rfl, ?_⟩
    refine pe_then_normal ?_
    refine tr_sub hC (.cons (t := 2) rfl (.cons (t := 3) rfl (.cons (t := 4) rfl (.cons (t := 5) rfl (.cons (t := 6) rfl (.cons (t := 52) rfl .nil)))))) (.cons (t := 2) rfl (.cons (t := 3) rfl (.cons (t := 4) rfl (.cons (t := 5) rfl (.cons (t := 6) rfl .nil))))) rfl ?_
    refine tr_cond rfl (fun h52 => ?_) (fun h52 => ?_)
    · (try simp only [Bool.and_eq_true, Bool.or_eq_true, Bool.and_eq_false_iff, Bool.or_eq_false_iff, decide_eq_true_eq, decide_eq_false_iff_not, Bool.not_eq_true', Bool.not_eq_false', List.length_map, ne_eq, Decidable.not_not, Int.not_lt, Int.not_le] at h52)
      have hq : 0 < o.queue.length := by omega
      have h := recv_rel h24 ⟨h52.1, hq⟩
      refine tr_seq ?_
      refine tr_region (fun N8 hN => ?_)
      refine lx (op_bload (m := 2) rfl rfl ag28 sz28) rfl ?_
      refine lx (op_fieldAddr rfl fl33_0 sz3) rfl ?_
      refine lx (op_bload_one (m := 6) rfl rfl ag3 rfl) rfl ?_
      first | refine lx (op_call (l := [(Go.Operand.tmp 53), (Go.Operand.tmp 55)]) (rLeave_ok o _ hs.toLens) (.cons rfl (.cons rfl .nil)) fn22) rfl ?_ | refine lx (op_call (l := [(Go.Operand.tmp 53), (Go.Operand.tmp 55)]) (rLeave_ok o _ hs.toLens) (.ent rfl (by repeat (first | exact Ents.nil | refine Ents.cons ?_ ?_ | refine Ent.tup ?_ | refine Ent.agg ?_ | exact Ent.row _ _ _ _ | exact Ent.nil _ _ | exact Ent.func _ | exact Ent.refl _ | exact Ent.of_eq rfl | refine Ent.cells ?_)) (.ent rfl (by repeat (first | exact Ents.nil | refine Ents.cons ?_ ?_ | refine Ent.tup ?_ | refine Ent.agg ?_ | exact Ent.row _ _ _ _ | exact Ent.nil _ _ | exact Ent.func _ | exact Ent.refl _ | exact Ent.of_eq rfl | refine Ent.cells ?_)) .nil)) fn22) rfl ?_
      refine lxn (op_alloc (m := 9) (k := 9) (ps := [eqP (.int .i64 0), eqP (.slice none 0 0), eqP (.bool false), eqP (.int .i64 0), eqP (.slice none 0 0), eqP (.bool false), eqP (.int .i64 0), eqP (.int .i64 0), eqP (.slice none 0 0), eqP (.slice none 0 0)]) ze28 rfl rfl (by first | exact hC.low _ (by decide) | rfl)) rfl ?_
      refine lxr (op_store_all (m := 9) rfl rfl rfl (.agg rfl) sz28 rfl) rfl ?_
      refine lx_end ⟨by kernel_rfl, ?_⟩
      refine pe_then_normal ?_
      refine tr_sub hC (.cons (t := 2) rfl (.cons (t := 4) rfl (.cons (t := 5) rfl (.cons (t := 6) rfl (.cons (t := 9) rfl .nil))))) (.cons (t := 2) rfl (.cons (t := 4) rfl (.cons (t := 5) rfl (.cons (t := 6) rfl (.cons (t := 9) rfl .nil))))) rfl ?_
      refine tr_seq ?_
      refine tr_drawn mixed (fun N9 hN => ?_)
      refine lxn (op_buildEmpty (m' := 57) (kk := 57) (f := vp) el25 sz23 (by first | exact hC.low _ (by decide) | rfl)) rfl ?_
      refine lx (op_fieldAddr rfl fl28_4 sz25) rfl ?_
      refine lx (op_bload_one (m := 2) rfl rfl ag25 rfl) rfl ?_
      refine lx (op_slice_l rfl rfl el25 sz23 (by rfl : (1 : Int) = ((1 : Nat) : Int)) (by omega)) rfl ?_
      refine lxr (op_append (m := 57) (m' := 61) (kk := 61) rfl rfl rfl (.inr (by first | exact hC.low _ (by decide) | rfl)) el25 ze23 sz23 by23 rfl vp_len (by have := hs.queue; simp; omega) (by have := hs.queue; simp; omega)) rfl ?_
      refine lx (op_fieldAddr rfl fl33_2 sz23) rfl ?_
      refine lx (op_bload_part (m := 6) (qs := [_, _, _]) rfl rfl ag23 sz23 rfl rfl) rfl ?_
      refine lx (op_buildSlice (f := vp) (xs := [(otherF o.senders w.g).1.v]) (l := [(0, (Go.Operand.tmp 63))]) ze23 rfl rfl (by decide) el25 sz23 vp_len (.cons rfl (.agg rfl) .nil) rfl (by decide)) rfl ?_
      refine lxr (op_append (m := 61) (m' := 65) (kk := 65) rfl rfl rfl (.inr (by first | exact hC.low _ (by decide) | rfl)) el25 ze23 sz23 by23 rfl vp_len (by have := hs.queue; simp; omega) (by have := hs.queue; simp; omega)) rfl ?_
      refine lx (op_fieldAddr rfl fl28_4 sz25) rfl ?_
      refine lxr (op_store (m := 9) (rs := [_, _, _, _, _, _, _, _, _, _]) rfl rfl rfl (.one (by (first | exact One.eq rfl | exact One.mv _ _ _ _ _ | exact One.cl _ _ _ | exact One.map _ | exact One.sl _ _ _ | exact One.row _ _ _ _ | exact One.msl _ _ _ _ | exact One.ptr _ _ | exact One.b _ | exact One.cells _))) sz25 rfl rfl rfl) rfl ?_
      refine lx_end ⟨by kernel_rfl, ?_⟩
      refine pe_then_normal ?_
      refine tr_sub hC (.cons (t := 2) rfl (.cons (t := 4) rfl (.cons (t := 5) rfl (.cons (t := 6) rfl (.cons (t := 9) rfl .nil))))) (.cons (t := 2) rfl (.cons (t := 4) rfl (.cons (t := 5) rfl (.cons (t := 6) rfl (.cons (t := 9) rfl .nil))))) rfl ?_
      refine tr_seq ?_
      refine tr_region (fun N10 hN => ?_)
      refine lx (op_fieldAddr rfl fl28_6 sz3) rfl ?_
      refine lx (op_bload_one (m := 2) rfl rfl ag3 rfl) rfl ?_
      refine lx (op_add rfl rfl (by have := hs.sent; first | omega | (simp only [leaveF]; omega))) rfl ?_
      refine lx (op_fieldAddr rfl fl28_6 sz3) rfl ?_
      refine lxr (op_store (m := 9) (rs := [_, _, _, _, _, _, _, _, _, _]) rfl rfl rfl (.one (by (first | exact One.eq rfl | exact One.mv _ _ _ _ _ | exact One.cl _ _ _ | exact One.map _ | exact One.sl _ _ _ | exact One.row _ _ _ _ | exact One.msl _ _ _ _ | exact One.ptr _ _ | exact One.b _ | exact One.cells _))) sz3 rfl rfl rfl) rfl ?_
      refine lx_end ⟨by kernel_rfl, ?_⟩
      refine pe_then_normal ?_
      refine tr_sub hC (.cons (t := 2) rfl (.cons (t := 4) rfl (.cons (t := 5) rfl (.cons (t := 6) rfl (.cons (t := 9) rfl .nil))))) (.cons (t := 2) rfl (.cons (t := 4) rfl (.cons (t := 5) rfl (.cons (t := 6) rfl (.cons (t := 9) rfl .nil))))) rfl ?_
      refine tr_seq ?_
      refine tr_region (fun N11 hN => ?_)
      refine lx (op_fieldAddr rfl fl28_7 sz3) rfl ?_
      refine lx (op_bload_one (m := 2) rfl rfl ag3 rfl) rfl ?_
      refine lx (op_add rfl rfl (by have := hs.received; first | omega | (simp only [leaveF]; omega))) rfl ?_
      refine lx (op_fieldAddr rfl fl28_7 sz3) rfl ?_
      refine lxr (op_store (m := 9) (rs := [_, _, _, _, _, _, _, _, _, _]) rfl rfl rfl (.one (by (first | exact One.eq rfl | exact One.mv _ _ _ _ _ | exact One.cl _ _ _ | exact One.map _ | exact One.sl _ _ _ | exact One.row _ _ _ _ | exact One.msl _ _ _ _ | exact One.ptr _ _ | exact One.b _ | exact One.cells _))) sz3 rfl rfl rfl) rfl ?_
      refine lx_end ⟨by kernel_rfl, ?_⟩
      refine pe_then_normal ?_
      refine tr_sub hC (.cons (t := 2) rfl (.cons (t := 4) rfl (.cons (t := 5) rfl (.cons (t := 6) rfl (.cons (t := 9) rfl .nil))))) (.cons (t := 2) rfl (.cons (t := 4) rfl (.cons (t := 5) rfl (.cons (t := 6) rfl (.cons (t := 9) rfl .nil))))) rfl ?_
      refine tr_seq ?_
      refine tr_drawn mixed (fun N12 hN => ?_)
      refine lx (op_bload (m := 9) rfl rfl ag28 sz28) rfl ?_
      refine lx (op_fieldAddr rfl fl28_4 sz25) rfl ?_
      refine lx (op_bload_one (m := 2) rfl rfl ag25 rfl) rfl ?_
      refine lx (op_index rfl rfl el25 sz23 rfl (head_at hq)) rfl ?_
      first | refine lx (op_load_all rfl ag23 sz23) rfl ?_ | refine lx (op_load_agg rfl ag23 sz23 rfl) rfl ?_ | refine lx (op_bload (m := 2) rfl rfl ag23 sz23) rfl ?_ | refine lx (op_bload (m := 4) rfl rfl ag23 sz23) rfl ?_ | refine lx (op_bload (m := 5) rfl rfl ag23 sz23) rfl ?_ | refine lx (op_bload (m := 6) rfl rfl ag23 sz23) rfl ?_ | refine lx (op_bload (m := 9) rfl rfl ag23 sz23) rfl ?_ | refine lx (op_bload_part (m := 2) (qs := [_, _, _]) rfl rfl ag23 sz23 rfl rfl) rfl ?_ | refine lx (op_bload_part (m := 4) (qs := [_, _, _]) rfl rfl ag23 sz23 rfl rfl) rfl ?_ | refine lx (op_bload_part (m := 5) (qs := [_, _, _]) rfl rfl ag23 sz23 rfl rfl) rfl ?_ | refine lx (op_bload_part (m := 6) (qs := [_, _, _]) rfl rfl ag23 sz23 rfl rfl) rfl ?_ | refine lx (op_bload_part (m := 9) (qs := [_, _, _]) rfl rfl ag23 sz23 rfl rfl) rfl ?_
      refine lx (op_fieldAddr rfl fl28_7 sz3) rfl ?_
      refine lx (op_bload_one (m := 2) rfl rfl ag3 rfl) rfl ?_
      refine lx (op_bload (m := 6) rfl rfl ag33 sz33) rfl ?_
      refine lx (op_fieldAddr rfl fl28_6 sz3) rfl ?_
      refine lx (op_bload_one (m := 2) rfl rfl ag3 rfl) rfl ?_
      refine lx (op_build (qs := [_, _, _, _, _, _, _, _, _, _, _, _, _, _, _]) (parts := [(0, (Go.Operand.const (Go.Value.int Go.IntKind.i64 0))), (1, (Go.Operand.tmp 79)), (2, (Go.Operand.const (Go.Value.bool Bool.true))), (3, (Go.Operand.tmp 81)), (4, (Go.Operand.const (Go.Value.bool Bool.true))), (5, (Go.Operand.tmp 82)), (6, (Go.Operand.tmp 84))]) ze35 rfl rfl fs35 (.cons rfl (.one (by (first | exact One.eq rfl | exact One.mv _ _ _ _ _ | exact One.cl _ _ _ | exact One.map _ | exact One.sl _ _ _ | exact One.row _ _ _ _ | exact One.msl _ _ _ _ | exact One.ptr _ _ | exact One.b _ | exact One.cells _))) fl35_0 sz3 rfl (.cons rfl (.agg rfl) fl35_1 sz23 rfl (.cons rfl (.one (by (first | exact One.eq rfl | exact One.mv _ _ _ _ _ | exact One.cl _ _ _ | exact One.map _ | exact One.sl _ _ _ | exact One.row _ _ _ _ | exact One.msl _ _ _ _ | exact One.ptr _ _ | exact One.b _ | exact One.cells _))) fl35_2 sz4 rfl (.cons rfl (.one (by (first | exact One.eq rfl | exact One.mv _ _ _ _ _ | exact One.cl _ _ _ | exact One.map _ | exact One.sl _ _ _ | exact One.row _ _ _ _ | exact One.msl _ _ _ _ | exact One.ptr _ _ | exact One.b _ | exact One.cells _))) fl35_3 sz3 rfl (.cons rfl (.one (by (first | exact One.eq rfl | exact One.mv _ _ _ _ _ | exact One.cl _ _ _ | exact One.map _ | exact One.sl _ _ _ | exact One.row _ _ _ _ | exact One.msl _ _ _ _ | exact One.ptr _ _ | exact One.b _ | exact One.cells _))) fl35_4 sz4 rfl (.cons rfl (.agg rfl) fl35_5 sz33 rfl (.cons rfl (.one (by (first | exact One.eq rfl | exact One.mv _ _ _ _ _ | exact One.cl _ _ _ | exact One.map _ | exact One.sl _ _ _ | exact One.row _ _ _ _ | exact One.msl _ _ _ _ | exact One.ptr _ _ | exact One.b _ | exact One.cells _))) fl35_6 sz3 rfl .nil))))))) rfl rfl) rfl ?_
      refine lxr (op_store_all (m := 4) rfl rfl rfl (.agg rfl) sz28 rfl) rfl ?_
      refine lxr (op_store_all (m := 5) rfl rfl rfl (.agg rfl) sz35 rfl) rfl ?_
      refine lx_end ⟨by kernel_rfl, ?_⟩
      refine pe_then_normal ?_
      refine tr_sub hC (.cons (t := 4) rfl (.cons (t := 5) rfl .nil)) (.cons (t := 4) rfl (.cons (t := 5) rfl .nil)) rfl ?_
      refine tr_ret ?_
      refine pe_then_ret ?_
      refine pe_retN (rs := [.cell 4 28, .cell 5 35]) rfl rfl hO rfl (.cell (m := 4) rfl rfl ag28 sz28 (.cell (m := 5) rfl rfl ag35 sz35 .nil)) ?_
      rw [h]
      repeat (first | exact Ents.nil | refine Ents.cons ?_ ?_ | refine Ent.tup ?_ | refine Ent.agg ?_ | exact Ent.row _ _ _ _ | exact Ent.nil _ _ | exact Ent.func _ | exact Ent.refl _ | exact Ent.of_eq rfl | refine Ent.cells ?_)
    · (try simp only [Bool.and_eq_true, Bool.or_eq_true, Bool.and_eq_false_iff, Bool.or_eq_false_iff, decide_eq_true_eq, decide_eq_false_iff_not, Bool.not_eq_true', Bool.not_eq_false', List.length_map, ne_eq, Decidable.not_not, Int.not_lt, Int.not_le] at h52)
      refine tr_skip ?_
      refine pe_then_normal ?_
      refine tr_sub hC (.cons (t := 2) rfl (.cons (t := 3) rfl (.cons (t := 4) rfl (.cons (t := 5) rfl .nil)))) (.cons (t := 2) rfl (.cons (t := 3) rfl (.cons (t := 4) rfl (.cons (t := 5) rfl .nil)))) rfl ?_
      refine tr_seq ?_
      refine tr_region (fun N13 hN => ?_)
      refine lx (op_bload (m := 2) rfl rfl ag28 sz28) rfl ?_
      first | refine lx (op_call (l := [(Go.Operand.tmp 86)]) (copy_ok o hs.toLens) (.cons rfl .nil) fn45) rfl ?_ | refine lx (op_call (l := [(Go.Operand.tmp 86)]) (copy_ok o hs.toLens) (.ent rfl (by repeat (first | exact Ents.nil | refine Ents.cons ?_ ?_ | refine Ent.tup ?_ | refine Ent.agg ?_ | exact Ent.row _ _ _ _ | exact Ent.nil _ _ | exact Ent.func _ | exact Ent.refl _ | exact Ent.of_eq rfl | refine Ent.cells ?_)) .nil) fn45) rfl ?_
      refine lxn (op_alloc (m := 10) (k := 10) (ps := [eqP (.int .i64 0), eqP (.slice none 0 0), eqP (.bool false), eqP (.int .i64 0), eqP (.slice none 0 0), eqP (.bool false), eqP (.int .i64 0), eqP (.int .i64 0), eqP (.slice none 0 0), eqP (.slice none 0 0)]) ze28 rfl rfl (by first | exact hC.low _ (by decide) | rfl)) rfl ?_
      refine lxr (op_store_all (m := 10) rfl rfl rfl (.agg rfl) sz28 rfl) rfl ?_
      refine lx_end ⟨by kernel_rfl, ?_⟩
      refine pe_then_normal ?_
      refine tr_sub hC (.cons (t := 2) rfl (.cons (t := 3) rfl (.cons (t := 4) rfl (.cons (t := 5) rfl (.cons (t := 10) rfl .nil))))) (.cons (t := 2) rfl (.cons (t := 3) rfl (.cons (t := 4) rfl (.cons (t := 5) rfl (.cons (t := 10) rfl .nil))))) rfl ?_
      refine tr_seq ?_
      refine tr_seq ?_
      refine tr_region (fun N14 hN => ?_)
      refine lx (op_fieldAddr rfl fl28_4 sz25) rfl ?_
      refine lx (op_bload_one (m := 2) rfl rfl ag25 rfl) rfl ?_
      first | refine lx (op_len rfl el25) rfl ?_ | refine lx (op_len_row rfl el25) rfl ?_ | refine lx (op_len_mv rfl el25) rfl ?_ | refine lx (op_len_nil rfl el25) rfl ?_
      refine lx (op_gtr rfl rfl) rfl ?_
      refine lx_end ⟨by kernel_rfl, ?_⟩
      refine pe_then_normal ?_
      refine tr_sub hC (.cons (t := 2) rfl (.cons (t := 3) rfl (.cons (t := 4) rfl (.cons (t := 5) rfl (.cons (t := 10) rfl (.cons (t := 91) rfl .nil)))))) (.cons (t := 2) rfl (.cons (t := 3) rfl (.cons (t := 4) rfl (.cons (t := 5) rfl (.cons (t := 10) rfl .nil))))) rfl ?_
      refine tr_cond rfl (fun h91 => ?_) (fun h91 => ?_)
      · (try simp only [Bool.and_eq_true, Bool.or_eq_true, Bool.and_eq_false_iff, Bool.or_eq_false_iff, decide_eq_true_eq, decide_eq_false_iff_not, Bool.not_eq_true', Bool.not_eq_false', List.length_map, ne_eq, Decidable.not_not, Int.not_lt, Int.not_le] at h91)
        have hq : 0 < o.queue.length := by omega
        have h := recv_deq h24 h52 hq
        refine tr_seq ?_
        refine tr_region (fun N15 hN => ?_)
        refine lxn (op_buildEmpty (m' := 92) (kk := 92) (f := vp) el25 sz23 (by first | exact hC.low _ (by decide) | rfl)) rfl ?_
        refine lx (op_fieldAddr rfl fl28_4 sz25) rfl ?_
        refine lx (op_bload_one (m := 2) rfl rfl ag25 rfl) rfl ?_
        refine lx (op_slice_l rfl rfl el25 sz23 (by rfl : (1 : Int) = ((1 : Nat) : Int)) (by omega)) rfl ?_
        refine lxr (op_append (m := 92) (m' := 96) (kk := 96) rfl rfl rfl (.inr (by first | exact hC.low _ (by decide) | rfl)) el25 ze23 sz23 by23 rfl vp_len (by have := hs.queue; simp; omega) (by have := hs.queue; simp; omega)) rfl ?_
        refine lx (op_fieldAddr rfl fl28_4 sz25) rfl ?_
        refine lxr (op_store (m := 10) (rs := [_, _, _, _, _, _, _, _, _, _]) rfl rfl rfl (.one (by (first | exact One.eq rfl | exact One.mv _ _ _ _ _ | exact One.cl _ _ _ | exact One.map _ | exact One.sl _ _ _ | exact One.row _ _ _ _ | exact One.msl _ _ _ _ | exact One.ptr _ _ | exact One.b _ | exact One.cells _))) sz25 rfl rfl rfl) rfl ?_
        refine lx_end ⟨by kernel_rfl, ?_⟩
        refine pe_then_normal ?_
        refine tr_sub hC (.cons (t := 2) rfl (.cons (t := 4) rfl (.cons (t := 5) rfl (.cons (t := 10) rfl .nil)))) (.cons (t := 2) rfl (.cons (t := 4) rfl (.cons (t := 5) rfl (.cons (t := 10) rfl .nil)))) rfl ?_
        refine tr_seq ?_
        refine tr_region (fun N16 hN => ?_)
        refine lx (op_fieldAddr rfl fl28_7 sz3) rfl ?_
        refine lx (op_bload_one (m := 2) rfl rfl ag3 rfl) rfl ?_
        refine lx (op_add rfl rfl (by have := hs.received; first | omega | (simp only [leaveF]; omega))) rfl ?_
        refine lx (op_fieldAddr rfl fl28_7 sz3) rfl ?_
        refine lxr (op_store (m := 10) (rs := [_, _, _, _, _, _, _, _, _, _]) rfl rfl rfl (.one (by (first | exact One.eq rfl | exact One.mv _ _ _ _ _ | exact One.cl _ _ _ | exact One.map _ | exact One.sl _ _ _ | exact One.row _ _ _ _ | exact One.msl _ _ _ _ | exact One.ptr _ _ | exact One.b _ | exact One.cells _))) sz3 rfl rfl rfl) rfl ?_
        refine lx_end ⟨by kernel_rfl, ?_⟩
        refine pe_then_normal ?_
        refine tr_sub hC (.cons (t := 2) rfl (.cons (t := 4) rfl (.cons (t := 5) rfl (.cons (t := 10) rfl .nil)))) (.cons (t := 2) rfl (.cons (t := 4) rfl (.cons (t := 5) rfl (.cons (t := 10) rfl .nil)))) rfl ?_
        refine tr_seq ?_
        refine tr_drawn mixed (fun N17 hN => ?_)
        refine lx (op_bload (m := 10) rfl rfl ag28 sz28) rfl ?_
        refine lx (op_fieldAddr rfl fl28_4 sz25) rfl ?_
        refine lx (op_bload_one (m := 2) rfl rfl ag25 rfl) rfl ?_
        refine lx (op_index rfl rfl el25 sz23 rfl (head_at hq)) rfl ?_
        first | refine lx (op_load_all rfl ag23 sz23) rfl ?_ | refine lx (op_load_agg rfl ag23 sz23 rfl) rfl ?_ | refine lx (op_bload (m := 2) rfl rfl ag23 sz23) rfl ?_ | refine lx (op_bload (m := 4) rfl rfl ag23 sz23) rfl ?_ | refine lx (op_bload (m := 5) rfl rfl ag23 sz23) rfl ?_ | refine lx (op_bload (m := 10) rfl rfl ag23 sz23) rfl ?_ | refine lx (op_bload_part (m := 2) (qs := [_, _, _]) rfl rfl ag23 sz23 rfl rfl) rfl ?_ | refine lx (op_bload_part (m := 4) (qs := [_, _, _]) rfl rfl ag23 sz23 rfl rfl) rfl ?_ | refine lx (op_bload_part (m := 5) (qs := [_, _, _]) rfl rfl ag23 sz23 rfl rfl) rfl ?_ | refine lx (op_bload_part (m := 10) (qs := [_, _, _]) rfl rfl ag23 sz23 rfl rfl) rfl ?_
        refine lx (op_fieldAddr rfl fl28_7 sz3) rfl ?_
        refine lx (op_bload_one (m := 2) rfl rfl ag3 rfl) rfl ?_
        refine lx (op_build (qs := [_, _, _, _, _, _, _, _, _, _, _, _, _, _, _]) (parts := [(0, (Go.Operand.const (Go.Value.int Go.IntKind.i64 0))), (1, (Go.Operand.tmp 106)), (2, (Go.Operand.const (Go.Value.bool Bool.true))), (3, (Go.Operand.tmp 108))]) ze35 rfl rfl fs35 (.cons rfl (.one (by (first | exact One.eq rfl | exact One.mv _ _ _ _ _ | exact One.cl _ _ _ | exact One.map _ | exact One.sl _ _ _ | exact One.row _ _ _ _ | exact One.msl _ _ _ _ | exact One.ptr _ _ | exact One.b _ | exact One.cells _))) fl35_0 sz3 rfl (.cons rfl (.agg rfl) fl35_1 sz23 rfl (.cons rfl (.one (by (first | exact One.eq rfl | exact One.mv _ _ _ _ _ | exact One.cl _ _ _ | exact One.map _ | exact One.sl _ _ _ | exact One.row _ _ _ _ | exact One.msl _ _ _ _ | exact One.ptr _ _ | exact One.b _ | exact One.cells _))) fl35_2 sz4 rfl (.cons rfl (.one (by (first | exact One.eq rfl | exact One.mv _ _ _ _ _ | exact One.cl _ _ _ | exact One.map _ | exact One.sl _ _ _ | exact One.row _ _ _ _ | exact One.msl _ _ _ _ | exact One.ptr _ _ | exact One.b _ | exact One.cells _))) fl35_3 sz3 rfl .nil)))) rfl rfl) rfl ?_
        refine lxr (op_store_all (m := 4) rfl rfl rfl (.agg rfl) sz28 rfl) rfl ?_
        refine lxr (op_store_all (m := 5) rfl rfl rfl (.agg rfl) sz35 rfl) rfl ?_
        refine lx_end ⟨by kernel_rfl, ?_⟩
        refine pe_then_normal ?_
        refine tr_sub hC (.cons (t := 4) rfl (.cons (t := 5) rfl .nil)) (.cons (t := 4) rfl (.cons (t := 5) rfl .nil)) rfl ?_
        refine tr_ret ?_
        refine pe_then_ret ?_
        refine pe_retN (rs := [.cell 4 28, .cell 5 35]) rfl rfl hO rfl (.cell (m := 4) rfl rfl ag28 sz28 (.cell (m := 5) rfl rfl ag35 sz35 .nil)) ?_
        rw [h]
        repeat (first | exact Ents.nil | refine Ents.cons ?_ ?_ | refine Ent.tup ?_ | refine Ent.agg ?_ | exact Ent.row _ _ _ _ | exact Ent.nil _ _ | exact Ent.func _ | exact Ent.refl _ | exact Ent.of_eq rfl | refine Ent.cells ?_)
      · (try simp only [Bool.and_eq_true, Bool.or_eq_true, Bool.and_eq_false_iff, Bool.or_eq_false_iff, decide_eq_true_eq, decide_eq_false_iff_not, Bool.not_eq_true', Bool.not_eq_false', List.length_map, ne_eq, Decidable.not_not, Int.not_lt, Int.not_le] at h91)
        have hq : o.queue.length = 0 := by omega
        refine tr_skip ?_
        refine pe_then_normal ?_
        refine tr_sub hC (.cons (t := 2) rfl (.cons (t := 3) rfl (.cons (t := 4) rfl (.cons (t := 5) rfl (.cons (t := 10) rfl .nil))))) (.cons (t := 2) rfl (.cons (t := 3) rfl (.cons (t := 4) rfl (.cons (t := 5) rfl (.cons (t := 10) rfl .nil))))) rfl ?_
        refine tr_seq ?_
        refine tr_seq ?_
        refine tr_region (fun N18 hN => ?_)
        refine lx (op_fieldAddr rfl fl28_5 sz4) rfl ?_
        refine lx (op_bload_one (m := 2) rfl rfl ag4 rfl) rfl ?_
        refine lx_end ⟨by kernel_rfl, ?_⟩
        refine pe_then_normal ?_
        refine tr_sub hC (.cons (t := 2) rfl (.cons (t := 3) rfl (.cons (t := 4) rfl (.cons (t := 5) rfl (.cons (t := 10) rfl (.cons (t := 111) rfl .nil)))))) (.cons (t := 2) rfl (.cons (t := 3) rfl (.cons (t := 4) rfl (.cons (t := 5) rfl (.cons (t := 10) rfl .nil))))) rfl ?_
        refine tr_cond rfl (fun h111 => ?_) (fun h111 => ?_)
        · (try simp only [Bool.and_eq_true, Bool.or_eq_true, Bool.and_eq_false_iff, Bool.or_eq_false_iff, decide_eq_true_eq, decide_eq_false_iff_not, Bool.not_eq_true', Bool.not_eq_false', List.length_map, ne_eq, Decidable.not_not, Int.not_lt, Int.not_le] at h111)
          have h := recv_exh h24 hq h111
          refine tr_seq ?_
          refine tr_drawn mixed (fun N19 hN => ?_)
          refine lx (op_bload (m := 10) rfl rfl ag28 sz28) rfl ?_
          refine lx (op_fieldAddr rfl fl28_7 sz3) rfl ?_
          refine lx (op_bload_one (m := 2) rfl rfl ag3 rfl) rfl ?_
          refine lx (op_build (qs := [_, _, _, _, _, _, _, _, _, _, _, _, _, _, _]) (parts := [(0, (Go.Operand.const (Go.Value.int Go.IntKind.i64 0))), (3, (Go.Operand.tmp 114))]) ze35 rfl rfl fs35 (.cons rfl (.one (by (first | exact One.eq rfl | exact One.mv _ _ _ _ _ | exact One.cl _ _ _ | exact One.map _ | exact One.sl _ _ _ | exact One.row _ _ _ _ | exact One.msl _ _ _ _ | exact One.ptr _ _ | exact One.b _ | exact One.cells _))) fl35_0 sz3 rfl (.cons rfl (.one (by (first | exact One.eq rfl | exact One.mv _ _ _ _ _ | exact One.cl _ _ _ | exact One.map _ | exact One.sl _ _ _ | exact One.row _ _ _ _ | exact One.msl _ _ _ _ | exact One.ptr _ _ | exact One.b _ | exact One.cells _))) fl35_3 sz3 rfl .nil)) rfl rfl) rfl ?_
          refine lxr (op_store_all (m := 4) rfl rfl rfl (.agg rfl) sz28 rfl) rfl ?_
          refine lxr (op_store_all (m := 5) rfl rfl rfl (.agg rfl) sz35 rfl) rfl ?_
          refine lx_end ⟨by kernel_rfl, ?_⟩
          refine pe_then_normal ?_
          refine tr_sub hC (.cons (t := 4) rfl (.cons (t := 5) rfl .nil)) (.cons (t := 4) rfl (.cons (t := 5) rfl .nil)) rfl ?_
          refine tr_ret ?_
          refine pe_then_ret ?_
          refine pe_retN (rs := [.cell 4 28, .cell 5 35]) rfl rfl hO rfl (.cell (m := 4) rfl rfl ag28 sz28 (.cell (m := 5) rfl rfl ag35 sz35 .nil)) ?_
          rw [h]
          repeat (first | exact Ents.nil | refine Ents.cons ?_ ?_ | refine Ent.tup ?_ | refine Ent.agg ?_ | exact Ent.row _ _ _ _ | exact Ent.nil _ _ | exact Ent.func _ | exact Ent.refl _ | exact Ent.of_eq rfl | refine Ent.cells ?_)
        · (try simp only [Bool.and_eq_true, Bool.or_eq_true, Bool.and_eq_false_iff, Bool.or_eq_false_iff, decide_eq_true_eq, decide_eq_false_iff_not, Bool.not_eq_true', Bool.not_eq_false', List.length_map, ne_eq, Decidable.not_not, Int.not_lt, Int.not_le] at h111)
          have h := recv_park h24 hq h111
          refine tr_skip ?_
          refine pe_then_normal ?_
          refine tr_sub hC (.cons (t := 2) rfl (.cons (t := 3) rfl (.cons (t := 4) rfl (.cons (t := 5) rfl (.cons (t := 10) rfl .nil))))) (.cons (t := 2) rfl (.cons (t := 3) rfl (.cons (t := 4) rfl (.cons (t := 5) rfl (.cons (t := 10) rfl .nil))))) rfl ?_
          refine tr_seq ?_
          refine tr_region (fun N20 hN => ?_)
          refine lx (op_build (qs := [_, _, _]) (parts := []) ze23 rfl rfl fs23 .nil rfl rfl) rfl ?_
          refine lx (op_fieldAddr rfl fl33_2 sz23) rfl ?_
          refine lxr (op_store (m := 3) (rs := [_, _, _, _, _]) rfl rfl rfl (.agg rfl) sz23 rfl rfl rfl) rfl ?_
          refine lx_end ⟨by kernel_rfl, ?_⟩
          refine pe_then_normal ?_
          refine tr_sub hC (.cons (t := 2) rfl (.cons (t := 3) rfl (.cons (t := 4) rfl (.cons (t := 5) rfl (.cons (t := 10) rfl .nil))))) (.cons (t := 2) rfl (.cons (t := 3) rfl (.cons (t := 4) rfl (.cons (t := 5) rfl (.cons (t := 10) rfl .nil))))) rfl ?_
          refine tr_seq ?_
          refine tr_drawn mixed (fun N21 hN => ?_)
          refine lxn (op_buildEmpty (m' := 118) (kk := 118) (f := wp) el26 sz33 (by first | exact hC.low _ (by decide) | rfl)) rfl ?_
          refine lx (op_fieldAddr rfl fl28_9 sz26) rfl ?_
          refine lx (op_bload_one (m := 2) rfl rfl ag26 rfl) rfl ?_
          refine lxr (op_append (m := 118) (m' := 121) (kk := 121) rfl rfl rfl (.inr (by first | exact hC.low _ (by decide) | rfl)) el26 ze33 sz33 by33 rfl wp_len (by have := hs.receivers; first | omega | (simp; omega)) (by have := hs.receivers; first | omega | (simp; omega))) rfl ?_
          refine lx (op_bload (m := 3) rfl rfl ag33 sz33) rfl ?_
          refine lx (op_buildSlice (f := wp) (xs := [⟨w.g, w.c, v0⟩]) (l := [(0, (Go.Operand.tmp 122))]) ze33 rfl rfl (by decide) el26 sz33 wp_len (.cons rfl (.agg rfl) .nil) rfl (by decide)) rfl ?_
          refine lxr (op_append (m := 121) (m' := 124) (kk := 124) rfl rfl rfl (.inr (by first | exact hC.low _ (by decide) | rfl)) el26 ze33 sz33 by33 rfl wp_len (by have := hs.receivers; first | omega | (simp; omega)) (by have := hs.receivers; first | omega | (simp; omega))) rfl ?_
          refine lx (op_fieldAddr rfl fl28_9 sz26) rfl ?_
          refine lxr (op_store (m := 10) (rs := [_, _, _, _, _, _, _, _, _, _]) rfl rfl rfl (.one (by (first | exact One.eq rfl | exact One.mv _ _ _ _ _ | exact One.cl _ _ _ | exact One.map _ | exact One.sl _ _ _ | exact One.row _ _ _ _ | exact One.msl _ _ _ _ | exact One.ptr _ _ | exact One.b _ | exact One.cells _))) sz26 rfl rfl rfl) rfl ?_
          refine lx_end ⟨by kernel_rfl, ?_⟩
          refine pe_then_normal ?_
          refine tr_sub hC (.cons (t := 4) rfl (.cons (t := 5) rfl (.cons (t := 10) rfl .nil))) (.cons (t := 4) rfl (.cons (t := 5) rfl (.cons (t := 10) rfl .nil))) rfl ?_
          refine tr_seq ?_
          refine tr_region (fun N22 hN => ?_)
          refine lx (op_bload (m := 10) rfl rfl ag28 sz28) rfl ?_
          refine lx (op_build (qs := [_, _, _, _, _, _, _, _, _, _, _, _, _, _, _]) (parts := [(0, (Go.Operand.const (Go.Value.int Go.IntKind.i64 1)))]) ze35 rfl rfl fs35 (.cons rfl (.one (by (first | exact One.eq rfl | exact One.mv _ _ _ _ _ | exact One.cl _ _ _ | exact One.map _ | exact One.sl _ _ _ | exact One.row _ _ _ _ | exact One.msl _ _ _ _ | exact One.ptr _ _ | exact One.b _ | exact One.cells _))) fl35_0 sz3 rfl .nil) rfl rfl) rfl ?_
          refine lxr (op_store_all (m := 4) rfl rfl rfl (.agg rfl) sz28 rfl) rfl ?_
          refine lxr (op_store_all (m := 5) rfl rfl rfl (.agg rfl) sz35 rfl) rfl ?_
          refine lx_end ⟨by kernel_rfl, ?_⟩
          refine pe_then_normal ?_
          refine tr_sub hC (.cons (t := 4) rfl (.cons (t := 5) rfl .nil)) (.cons (t := 4) rfl (.cons (t := 5) rfl .nil)) rfl ?_
          refine tr_ret ?_
          refine pe_retN (rs := [.cell 4 28, .cell 5 35]) rfl rfl hO rfl (.cell (m := 4) rfl rfl ag28 sz28 (.cell (m := 5) rfl rfl ag35 sz35 .nil)) ?_
          rw [h]
          repeat (first | exact Ents.nil | refine Ents.cons ?_ ?_ | refine Ent.tup ?_ | refine Ent.agg ?_ | exact Ent.row _ _ _ _ | exact Ent.nil _ _ | exact Ent.func _ | exact Ent.refl _ | exact Ent.of_eq rfl | refine Ent.cells ?_)

theorem rClose_ok (o : Ob) (hs : Lens o) : FnP Try.prog 28 [aggP o.ps] (tupP [aggP (closeF o).1.ps, aggP (closeF o).2.ps]) := by
  refine fn_pure' Try.func28 rfl Try.ntmps28 rfl ?_
  intro σ0 M ex Rf R hC hO
  simp only [frameOf, tokOf]
  refine tr_seq ?_
  refine tr_region (fun N0 hN => ?_)
  refine lxn (op_box (m := 1) (k := 1) rfl (.agg rfl) (by first | exact hC.low _ (by decide) | rfl)) rfl ?_
  refine lxn (op_alloc (m := 2) (k := 2) (ps := [eqP (.int .i64 0), eqP (.slice none 0 0), eqP (.bool false), eqP (.int .i64 0), eqP (.slice none 0 0), eqP (.bool false), eqP (.int .i64 0), eqP (.int .i64 0), eqP (.slice none 0 0), eqP (.slice none 0 0)]) ze28 rfl rfl (by first | exact hC.low _ (by decide) | rfl)) rfl ?_
  refine lxn (op_alloc (m := 3) (k := 3) (ps := [eqP (.int .i64 0), eqP (.int .i64 0), eqP (.int .i64 0), eqP (.int .i64 0), eqP (.bool false), eqP (.int .i64 0), eqP (.bool false), eqP (.int .i64 0), eqP (.int .i64 0), eqP (.int .i64 0), eqP (.int .i64 0), eqP (.int .i64 0), eqP (.int .i64 0), eqP (.slice none 0 0), eqP (.slice none 0 0)]) ze35 rfl rfl (by first | exact hC.low _ (by decide) | rfl)) rfl ?_
  refine lx_end ⟨by kernel_rfl, ?_⟩
  refine pe_then_normal ?_
  refine tr_sub hC (.cons (t := 1) rfl (.cons (t := 2) rfl (.cons (t := 3) rfl .nil))) (.cons (t := 1) rfl (.cons (t := 2) rfl (.cons (t := 3) rfl .nil))) rfl ?_
  refine tr_seq ?_
  refine tr_seq ?_
  refine tr_region (fun N1 hN => ?_)
  refine lx (op_fieldAddr rfl fl28_5 sz4) rfl ?_
  refine lx (op_bload_one (m := 1) rfl rfl ag4 rfl) rfl ?_
  refine lx_end ⟨by kernel_rfl, ?_⟩
  refine pe_then_normal ?_
  refine tr_sub hC (.cons (t := 1) rfl (.cons (t := 2) rfl (.cons (t := 3) rfl (.cons (t := 7) rfl .nil)))) (.cons (t := 1) rfl (.cons (t := 2) rfl (.cons (t := 3) rfl .nil))) rfl ?_
  refine tr_cond rfl (fun h7 => ?_) (fun h7 => ?_)
  · (try simp only [Bool.and_eq_true, Bool.or_eq_true, Bool.and_eq_false_iff, Bool.or_eq_false_iff, decide_eq_true_eq, decide_eq_false_iff_not, Bool.not_eq_true', Bool.not_eq_false', List.length_map, ne_eq, Decidable.not_not, Int.not_lt, Int.not_le] at h7)
    have h : closeF o = (o, { tr0 with status := 2 }) := by unfold closeF; rw [if_pos h7]
    refine tr_seq ?_
    refine tr_region (fun N2 hN => ?_)
    refine lx (op_bload (m := 1) rfl rfl ag28 sz28) rfl ?_
    first | refine lx (op_call (l := [(Go.Operand.tmp 8)]) (copy_ok o hs) (.cons rfl .nil) fn45) rfl ?_ | refine lx (op_call (l := [(Go.Operand.tmp 8)]) (copy_ok o hs) (.ent rfl (by repeat (first | exact Ents.nil | refine Ents.cons ?_ ?_ | refine Ent.tup ?_ | refine Ent.agg ?_ | exact Ent.row _ _ _ _ | exact Ent.nil _ _ | exact Ent.func _ | exact Ent.refl _ | exact Ent.of_eq rfl | refine Ent.cells ?_)) .nil) fn45) rfl ?_
    refine lx (op_build (qs := [_, _, _, _, _, _, _, _, _, _, _, _, _, _, _]) (parts := [(0, (Go.Operand.const (Go.Value.int Go.IntKind.i64 2)))]) ze35 rfl rfl fs35 (.cons rfl (.one (by (first | exact One.eq rfl | exact One.mv _ _ _ _ _ | exact One.cl _ _ _ | exact One.map _ | exact One.sl _ _ _ | exact One.row _ _ _ _ | exact One.msl _ _ _ _ | exact One.ptr _ _ | exact One.b _ | exact One.cells _))) fl35_0 sz3 rfl .nil) rfl rfl) rfl ?_
    refine lxr (op_store_all (m := 2) rfl rfl rfl (.agg rfl) sz28 rfl) rfl ?_
    refine lxr (op_store_all (m := 3) rfl rfl rfl (.agg rfl) sz35 rfl) rfl ?_
    refine lx_end ⟨by kernel_rfl, ?_⟩
    refine pe_then_normal ?_
    refine tr_sub hC (.cons (t := 2) rfl (.cons (t := 3) rfl .nil)) (.cons (t := 2) rfl (.cons (t := 3) rfl .nil)) rfl ?_
    refine tr_ret ?_
    refine pe_then_ret ?_
    refine pe_retN (rs := [.cell 2 28, .cell 3 35]) rfl rfl hO rfl (.cell (m := 2) rfl rfl ag28 sz28 (.cell (m := 3) rfl rfl ag35 sz35 .nil)) ?_
    rw [h]
    repeat (first | exact Ents.nil | refine Ents.cons ?_ ?_ | refine Ent.tup ?_ | refine Ent.agg ?_ | exact Ent.row _ _ _ _ | exact Ent.nil _ _ | exact Ent.func _ | exact Ent.refl _ | exact Ent.of_eq rfl | refine Ent.cells ?_)
  · (try simp only [Bool.and_eq_true, Bool.or_eq_true, Bool.and_eq_false_iff, Bool.or_eq_false_iff, decide_eq_true_eq, decide_eq_false_iff_not, Bool.not_eq_true', Bool.not_eq_false', List.length_map, ne_eq, Decidable.not_not, Int.not_lt, Int.not_le] at h7)
    have h := close_no h7
    refine tr_skip ?_
    refine pe_then_normal ?_
    refine tr_sub hC (.cons (t := 1) rfl (.cons (t := 2) rfl (.cons (t := 3) rfl .nil))) (.cons (t := 1) rfl (.cons (t := 2) rfl (.cons (t := 3) rfl .nil))) rfl ?_
    refine tr_seq ?_
    refine tr_region (fun N3 hN => ?_)
    refine lx (op_bload (m := 1) rfl rfl ag28 sz28) rfl ?_
    first | refine lx (op_call (l := [(Go.Operand.tmp 11)]) (copy_ok o hs) (.cons rfl .nil) fn45) rfl ?_ | refine lx (op_call (l := [(Go.Operand.tmp 11)]) (copy_ok o hs) (.ent rfl (by repeat (first | exact Ents.nil | refine Ents.cons ?_ ?_ | refine Ent.tup ?_ | refine Ent.agg ?_ | exact Ent.row _ _ _ _ | exact Ent.nil _ _ | exact Ent.func _ | exact Ent.refl _ | exact Ent.of_eq rfl | refine Ent.cells ?_)) .nil) fn45) rfl ?_
    refine lxn (op_alloc (m := 4) (k := 4) (ps := [eqP (.int .i64 0), eqP (.slice none 0 0), eqP (.bool false), eqP (.int .i64 0), eqP (.slice none 0 0), eqP (.bool false), eqP (.int .i64 0), eqP (.int .i64 0), eqP (.slice none 0 0), eqP (.slice none 0 0)]) ze28 rfl rfl (by first | exact hC.low _ (by decide) | rfl)) rfl ?_
    refine lxr (op_store_all (m := 4) rfl rfl rfl (.agg rfl) sz28 rfl) rfl ?_
    refine lx_end ⟨by kernel_rfl, ?_⟩
    refine pe_then_normal ?_
    refine tr_sub hC (.cons (t := 1) rfl (.cons (t := 2) rfl (.cons (t := 3) rfl (.cons (t := 4) rfl .nil)))) (.cons (t := 1) rfl (.cons (t := 2) rfl (.cons (t := 3) rfl (.cons (t := 4) rfl .nil)))) rfl ?_
    refine tr_seq ?_
    refine tr_region (fun N4 hN => ?_)
    refine lx (op_fieldAddr rfl fl28_5 sz4) rfl ?_
    refine lxr (op_store (m := 4) (rs := [_, _, _, _, _, _, _, _, _, _]) rfl rfl rfl (.one (by (first | exact One.eq rfl | exact One.mv _ _ _ _ _ | exact One.cl _ _ _ | exact One.map _ | exact One.sl _ _ _ | exact One.row _ _ _ _ | exact One.msl _ _ _ _ | exact One.ptr _ _ | exact One.b _ | exact One.cells _))) sz4 rfl rfl rfl) rfl ?_
    refine lx_end ⟨by kernel_rfl, ?_⟩
    refine pe_then_normal ?_
    refine tr_sub hC (.cons (t := 1) rfl (.cons (t := 2) rfl (.cons (t := 3) rfl (.cons (t := 4) rfl .nil)))) (.cons (t := 1) rfl (.cons (t := 2) rfl (.cons (t := 3) rfl (.cons (t := 4) rfl .nil)))) rfl ?_
    refine tr_seq ?_
    refine tr_region (fun N5 hN => ?_)
    refine lx (op_fieldAddr rfl fl28_8 sz26) rfl ?_
    refine lxr (op_store (m := 4) (rs := [_, _, _, _, _, _, _, _, _, _]) rfl rfl rfl (.one (by (first | exact One.eq rfl | exact One.mv _ _ _ _ _ | exact One.cl _ _ _ | exact One.map _ | exact One.sl _ _ _ | exact One.row _ _ _ _ | exact One.msl _ _ _ _ | exact One.ptr _ _ | exact One.b _ | exact One.cells _))) sz26 rfl rfl rfl) rfl ?_
    refine lx_end ⟨by kernel_rfl, ?_⟩
    refine pe_then_normal ?_
    refine tr_sub hC (.cons (t := 1) rfl (.cons (t := 2) rfl (.cons (t := 3) rfl (.cons (t := 4) rfl .nil)))) (.cons (t := 1) rfl (.cons (t := 2) rfl (.cons (t := 3) rfl (.cons (t := 4) rfl .nil)))) rfl ?_
    refine tr_seq ?_
    refine tr_region (fun N6 hN => ?_)
    refine lx (op_fieldAddr rfl fl28_9 sz26) rfl ?_
    refine lxr (op_store (m := 4) (rs := [_, _, _, _, _, _, _, _, _, _]) rfl rfl rfl (.one (by (first | exact One.eq rfl | exact One.mv _ _ _ _ _ | exact One.cl _ _ _ | exact One.map _ | exact One.sl _ _ _ | exact One.row _ _ _ _ | exact One.msl _ _ _ _ | exact One.ptr _ _ | exact One.b _ | exact One.cells _))) sz26 rfl rfl rfl) rfl ?_
    refine lx_end ⟨by kernel_rfl, ?_⟩
    refine pe_then_normal ?_
    refine tr_sub hC (.cons (t := 1) rfl (.cons (t := 2) rfl (.cons (t := 3) rfl (.cons (t := 4) rfl .nil)))) (.cons (t := 1) rfl (.cons (t := 2) rfl (.cons (t := 3) rfl (.cons (t := 4) rfl .nil)))) rfl ?_
    refine tr_seq ?_
    refine tr_region (fun N7 hN => ?_)
    refine lx (op_fieldAddr rfl fl28_9 sz26) rfl ?_
    refine lx (op_bload_one (m := 1) rfl rfl ag26 rfl) rfl ?_
    first | refine lx (op_call (l := [(Go.Operand.tmp 17), (Go.Operand.const (Go.Value.slice Option.none 0 0))]) (firsts_ok o.receivers [] (by have := hs.receivers; omega) (by decide)) (.cons rfl (.cons rfl .nil)) fn52) rfl ?_ | refine lx (op_call (l := [(Go.Operand.tmp 17), (Go.Operand.const (Go.Value.slice Option.none 0 0))]) (firsts_ok o.receivers [] (by have := hs.receivers; omega) (by decide)) (.ent rfl (by repeat (first | exact Ents.nil | refine Ents.cons ?_ ?_ | refine Ent.tup ?_ | refine Ent.agg ?_ | exact Ent.row _ _ _ _ | exact Ent.nil _ _ | exact Ent.func _ | exact Ent.refl _ | exact Ent.of_eq rfl | refine Ent.cells ?_)) (.ent rfl (by repeat (first | exact Ents.nil | refine Ents.cons ?_ ?_ | refine Ent.tup ?_ | refine Ent.agg ?_ | exact Ent.row _ _ _ _ | exact Ent.nil _ _ | exact Ent.func _ | exact Ent.refl _ | exact Ent.of_eq rfl | refine Ent.cells ?_)) .nil)) fn52) rfl ?_
    refine lx (op_assign rfl) rfl ?_
    refine lx_end ⟨by kernel_rfl, ?_⟩
    refine pe_then_normal ?_
    refine tr_sub hC (.cons (t := 1) rfl (.cons (t := 2) rfl (.cons (t := 3) rfl (.cons (t := 4) rfl (.cons (t := 5) rfl .nil))))) (.cons (t := 1) rfl (.cons (t := 2) rfl (.cons (t := 3) rfl (.cons (t := 4) rfl .nil)))) rfl ?_
    refine tr_seq ?_
    refine tr_drawn mixed (fun N8 hN => ?_)
    refine lx (op_bload (m := 4) rfl rfl ag28 sz28) rfl ?_
    refine lx (op_fieldAddr rfl fl28_7 sz3) rfl ?_
    refine lx (op_bload_one (m := 1) rfl rfl ag3 rfl) rfl ?_
    refine lx (op_move rfl) rfl ?_
    refine lx (op_fieldAddr rfl fl28_8 sz26) rfl ?_
    refine lx (op_bload_one (m := 1) rfl rfl ag26 rfl) rfl ?_
    refine lx (op_move rfl) rfl ?_
    first | refine lx (op_call (l := [(Go.Operand.tmp 24), (Go.Operand.tmp 25)]) (firsts_ok o.senders _ (by have := hs.senders; omega) (by have := firsts_len [] o.receivers []; have := hs.receivers; simp at *; omega)) (.cons rfl (.cons rfl .nil)) fn52) rfl ?_ | refine lx (op_call (l := [(Go.Operand.tmp 24), (Go.Operand.tmp 25)]) (firsts_ok o.senders _ (by have := hs.senders; omega) (by have := firsts_len [] o.receivers []; have := hs.receivers; simp at *; omega)) (.ent rfl (by repeat (first | exact Ents.nil | refine Ents.cons ?_ ?_ | refine Ent.tup ?_ | refine Ent.agg ?_ | exact Ent.row _ _ _ _ | exact Ent.nil _ _ | exact Ent.func _ | exact Ent.refl _ | exact Ent.of_eq rfl | refine Ent.cells ?_)) (.ent rfl (by repeat (first | exact Ents.nil | refine Ents.cons ?_ ?_ | refine Ent.tup ?_ | refine Ent.agg ?_ | exact Ent.row _ _ _ _ | exact Ent.nil _ _ | exact Ent.func _ | exact Ent.refl _ | exact Ent.of_eq rfl | refine Ent.cells ?_)) .nil)) fn52) rfl ?_
    refine lx (op_build (qs := [_, _, _, _, _, _, _, _, _, _, _, _, _, _, _]) (parts := [(0, (Go.Operand.const (Go.Value.int Go.IntKind.i64 0))), (3, (Go.Operand.tmp 21)), (7, (Go.Operand.tmp 22)), (8, (Go.Operand.tmp 26))]) ze35 rfl rfl fs35 (.cons rfl (.one (by (first | exact One.eq rfl | exact One.mv _ _ _ _ _ | exact One.cl _ _ _ | exact One.map _ | exact One.sl _ _ _ | exact One.row _ _ _ _ | exact One.msl _ _ _ _ | exact One.ptr _ _ | exact One.b _ | exact One.cells _))) fl35_0 sz3 rfl (.cons rfl (.one (by (first | exact One.eq rfl | exact One.mv _ _ _ _ _ | exact One.cl _ _ _ | exact One.map _ | exact One.sl _ _ _ | exact One.row _ _ _ _ | exact One.msl _ _ _ _ | exact One.ptr _ _ | exact One.b _ | exact One.cells _))) fl35_3 sz3 rfl (.cons rfl (.one (by (first | exact One.eq rfl | exact One.mv _ _ _ _ _ | exact One.cl _ _ _ | exact One.map _ | exact One.sl _ _ _ | exact One.row _ _ _ _ | exact One.msl _ _ _ _ | exact One.ptr _ _ | exact One.b _ | exact One.cells _))) fl35_7 sz26 rfl (.cons rfl (.one (by (first | exact One.eq rfl | exact One.mv _ _ _ _ _ | exact One.cl _ _ _ | exact One.map _ | exact One.sl _ _ _ | exact One.row _ _ _ _ | exact One.msl _ _ _ _ | exact One.ptr _ _ | exact One.b _ | exact One.cells _))) fl35_8 sz26 rfl .nil)))) rfl rfl) rfl ?_
    refine lxr (op_store_all (m := 2) rfl rfl rfl (.agg rfl) sz28 rfl) rfl ?_
    refine lxr (op_store_all (m := 3) rfl rfl rfl (.agg rfl) sz35 rfl) rfl ?_
    refine lx_end ⟨by kernel_rfl, ?_⟩
    refine pe_then_normal ?_
    refine tr_sub hC (.cons (t := 2) rfl (.cons (t := 3) rfl .nil)) (.cons (t := 2) rfl (.cons (t := 3) rfl .nil)) rfl ?_
    refine tr_ret ?_
    refine pe_retN (rs := [.cell 2 28, .cell 3 35]) rfl rfl hO rfl (.cell (m := 2) rfl rfl ag28 sz28 (.cell (m := 3) rfl rfl ag35 sz35 .nil)) ?_
    rw [h]
    repeat (first | exact Ents.nil | refine Ents.cons ?_ ?_ | refine Ent.tup ?_ | refine Ent.agg ?_ | exact Ent.row _ _ _ _ | exact Ent.nil _ _ | exact Ent.func _ | exact Ent.refl _ | exact Ent.of_eq rfl | refine Ent.cells ?_)

theorem Same_ok (a b : Ob) (hs : Lens a) : FnP Try.prog 15 [aggP a.ps, aggP b.ps] (eqP (.bool (decide (a = b)))) := by
  refine fn_pure' Try.func15 rfl Try.ntmps15 rfl ?_
  intro σ0 M ex Rf R hC hO
  simp only [frameOf, tokOf]
  refine tr_seq ?_
  refine tr_region (fun N0 hN => ?_)
  refine lxn (op_box (m := 2) (k := 2) rfl (.agg rfl) (by first | exact hC.low _ (by decide) | rfl)) rfl ?_
  refine lxn (op_box (m := 3) (k := 3) rfl (.agg rfl) (by first | exact hC.low _ (by decide) | rfl)) rfl ?_
  refine lx (op_assign rfl) rfl ?_
  refine lx_end ⟨by kernel_rfl, ?_⟩
  refine pe_then_normal ?_
  refine tr_sub hC (.cons (t := 2) rfl (.cons (t := 3) rfl .nil)) (.cons (t := 2) rfl (.cons (t := 3) rfl .nil)) rfl ?_
  refine tr_seq ?_
  refine tr_region (fun N1 hN => ?_)
  refine lx (op_fieldAddr rfl fl28_0 sz3) rfl ?_
  refine lx (op_bload_one (m := 2) rfl rfl ag3 rfl) rfl ?_
  refine lx (op_fieldAddr rfl fl28_0 sz3) rfl ?_
  refine lx (op_bload_one (m := 3) rfl rfl ag3 rfl) rfl ?_
  refine lx (op_eql rfl rfl) rfl ?_
  refine lx (op_move rfl) rfl ?_
  refine lxs rfl rfl rfl guard_eq (.cons (t := 2) rfl (fun _ => Ent.refl _) .nil) (op_fieldAddr rfl fl28_2 sz4) rfl ?_
  refine lxs rfl rfl rfl guard_eq (.cons (t := 11) rfl (fun h => entW h) .nil) (op_bload_one (m := 2) rfl rfl ag4 rfl) rfl ?_
  refine lxs rfl rfl rfl guard_eq (.cons (t := 3) rfl (fun _ => Ent.refl _) .nil) (op_fieldAddr rfl fl28_2 sz4) rfl ?_
  refine lxs rfl rfl rfl guard_eq (.cons (t := 13) rfl (fun h => entW h) .nil) (op_bload_one (m := 3) rfl rfl ag4 rfl) rfl ?_
  refine lxs rfl rfl rfl guard_eq (.cons (t := 12) rfl (fun h => entW h) (.cons (t := 14) rfl (fun h => entW h) .nil)) (op_eql_bool bo4 rfl rfl) rfl ?_
  refine lx (op_pick_and rfl rfl) rfl ?_
  refine lx (op_move rfl) rfl ?_
  refine lxs rfl rfl rfl guard_eq (.cons (t := 2) rfl (fun _ => Ent.refl _) .nil) (op_fieldAddr rfl fl28_3 sz3) rfl ?_
  refine lxs rfl rfl rfl guard_eq (.cons (t := 18) rfl (fun h => entW h) .nil) (op_bload_one (m := 2) rfl rfl ag3 rfl) rfl ?_
  refine lxs rfl rfl rfl guard_eq (.cons (t := 3) rfl (fun _ => Ent.refl _) .nil) (op_fieldAddr rfl fl28_3 sz3) rfl ?_
  refine lxs rfl rfl rfl guard_eq (.cons (t := 20) rfl (fun h => entW h) .nil) (op_bload_one (m := 3) rfl rfl ag3 rfl) rfl ?_
  refine lxs rfl rfl rfl guard_eq (.cons (t := 19) rfl (fun h => entW h) (.cons (t := 21) rfl (fun h => entW h) .nil)) (op_eql rfl rfl) rfl ?_
  refine lx (op_pick_and rfl rfl) rfl ?_
  refine lx (op_move rfl) rfl ?_
  refine lxs rfl rfl rfl guard_eq (.cons (t := 2) rfl (fun _ => Ent.refl _) .nil) (op_fieldAddr rfl fl28_5 sz4) rfl ?_
  refine lxs rfl rfl rfl guard_eq (.cons (t := 25) rfl (fun h => entW h) .nil) (op_bload_one (m := 2) rfl rfl ag4 rfl) rfl ?_
  refine lxs rfl rfl rfl guard_eq (.cons (t := 3) rfl (fun _ => Ent.refl _) .nil) (op_fieldAddr rfl fl28_5 sz4) rfl ?_
  refine lxs rfl rfl rfl guard_eq (.cons (t := 27) rfl (fun h => entW h) .nil) (op_bload_one (m := 3) rfl rfl ag4 rfl) rfl ?_
  refine lxs rfl rfl rfl guard_eq (.cons (t := 26) rfl (fun h => entW h) (.cons (t := 28) rfl (fun h => entW h) .nil)) (op_eql_bool bo4 rfl rfl) rfl ?_
  refine lx (op_pick_and rfl rfl) rfl ?_
  refine lx (op_move rfl) rfl ?_
  refine lxs rfl rfl rfl guard_eq (.cons (t := 2) rfl (fun _ => Ent.refl _) .nil) (op_fieldAddr rfl fl28_6 sz3) rfl ?_
  refine lxs rfl rfl rfl guard_eq (.cons (t := 32) rfl (fun h => entW h) .nil) (op_bload_one (m := 2) rfl rfl ag3 rfl) rfl ?_
  refine lxs rfl rfl rfl guard_eq (.cons (t := 3) rfl (fun _ => Ent.refl _) .nil) (op_fieldAddr rfl fl28_6 sz3) rfl ?_
  refine lxs rfl rfl rfl guard_eq (.cons (t := 34) rfl (fun h => entW h) .nil) (op_bload_one (m := 3) rfl rfl ag3 rfl) rfl ?_
  refine lxs rfl rfl rfl guard_eq (.cons (t := 33) rfl (fun h => entW h) (.cons (t := 35) rfl (fun h => entW h) .nil)) (op_eql rfl rfl) rfl ?_
  refine lx (op_pick_and rfl rfl) rfl ?_
  refine lx (op_move rfl) rfl ?_
  refine lxs rfl rfl rfl guard_eq (.cons (t := 2) rfl (fun _ => Ent.refl _) .nil) (op_fieldAddr rfl fl28_7 sz3) rfl ?_
  refine lxs rfl rfl rfl guard_eq (.cons (t := 39) rfl (fun h => entW h) .nil) (op_bload_one (m := 2) rfl rfl ag3 rfl) rfl ?_
  refine lxs rfl rfl rfl guard_eq (.cons (t := 3) rfl (fun _ => Ent.refl _) .nil) (op_fieldAddr rfl fl28_7 sz3) rfl ?_
  refine lxs rfl rfl rfl guard_eq (.cons (t := 41) rfl (fun h => entW h) .nil) (op_bload_one (m := 3) rfl rfl ag3 rfl) rfl ?_
  refine lxs rfl rfl rfl guard_eq (.cons (t := 40) rfl (fun h => entW h) (.cons (t := 42) rfl (fun h => entW h) .nil)) (op_eql rfl rfl) rfl ?_
  refine lx (op_pick_and rfl rfl) rfl ?_
  refine lx (op_move rfl) rfl ?_
  refine lxs rfl rfl rfl guard_eq (.cons (t := 2) rfl (fun _ => Ent.refl _) .nil) (op_fieldAddr rfl fl28_1 sz25) rfl ?_
  refine lxs rfl rfl rfl guard_eq (.cons (t := 46) rfl (fun h => entW h) .nil) (op_bload_one (m := 2) rfl rfl ag25 rfl) rfl ?_
  refine lxs rfl rfl rfl guard_eq (.cons (t := 3) rfl (fun _ => Ent.refl _) .nil) (op_fieldAddr rfl fl28_1 sz25) rfl ?_
  refine lxs rfl rfl rfl guard_eq (.cons (t := 48) rfl (fun h => entW h) .nil) (op_bload_one (m := 3) rfl rfl ag25 rfl) rfl ?_
  first | refine lxs rfl rfl rfl guard_eq (.cons (t := 47) rfl (fun h => entW h) (.cons (t := 49) rfl (fun h => entW h) .nil)) (op_call (l := [(Go.Operand.tmp 47), (Go.Operand.tmp 49)]) (sameV_ok a.cells b.cells (by have := hs.cells; omega)) (.cons rfl (.cons rfl .nil)) fn42) rfl ?_ | refine lxs rfl rfl rfl guard_eq (.cons (t := 47) rfl (fun h => entW h) (.cons (t := 49) rfl (fun h => entW h) .nil)) (op_call (l := [(Go.Operand.tmp 47), (Go.Operand.tmp 49)]) (sameV_ok a.cells b.cells (by have := hs.cells; omega)) (.ent rfl (by repeat (first | exact Ents.nil | refine Ents.cons ?_ ?_ | refine Ent.tup ?_ | refine Ent.agg ?_ | exact Ent.row _ _ _ _ | exact Ent.nil _ _ | exact Ent.func _ | exact Ent.refl _ | exact Ent.of_eq rfl | refine Ent.cells ?_)) (.ent rfl (by repeat (first | exact Ents.nil | refine Ents.cons ?_ ?_ | refine Ent.tup ?_ | refine Ent.agg ?_ | exact Ent.row _ _ _ _ | exact Ent.nil _ _ | exact Ent.func _ | exact Ent.refl _ | exact Ent.of_eq rfl | refine Ent.cells ?_)) .nil)) fn42) rfl ?_
  refine lx (op_pick_and rfl rfl) rfl ?_
  refine lx (op_move rfl) rfl ?_
  refine lxs rfl rfl rfl guard_eq (.cons (t := 2) rfl (fun _ => Ent.refl _) .nil) (op_fieldAddr rfl fl28_4 sz25) rfl ?_
  refine lxs rfl rfl rfl guard_eq (.cons (t := 53) rfl (fun h => entW h) .nil) (op_bload_one (m := 2) rfl rfl ag25 rfl) rfl ?_
  refine lxs rfl rfl rfl guard_eq (.cons (t := 3) rfl (fun _ => Ent.refl _) .nil) (op_fieldAddr rfl fl28_4 sz25) rfl ?_
  refine lxs rfl rfl rfl guard_eq (.cons (t := 55) rfl (fun h => entW h) .nil) (op_bload_one (m := 3) rfl rfl ag25 rfl) rfl ?_
  first | refine lxs rfl rfl rfl guard_eq (.cons (t := 54) rfl (fun h => entW h) (.cons (t := 56) rfl (fun h => entW h) .nil)) (op_call (l := [(Go.Operand.tmp 54), (Go.Operand.tmp 56)]) (sameV_ok a.queue b.queue (by have := hs.queue; omega)) (.cons rfl (.cons rfl .nil)) fn42) rfl ?_ | refine lxs rfl rfl rfl guard_eq (.cons (t := 54) rfl (fun h => entW h) (.cons (t := 56) rfl (fun h => entW h) .nil)) (op_call (l := [(Go.Operand.tmp 54), (Go.Operand.tmp 56)]) (sameV_ok a.queue b.queue (by have := hs.queue; omega)) (.ent rfl (by repeat (first | exact Ents.nil | refine Ents.cons ?_ ?_ | refine Ent.tup ?_ | refine Ent.agg ?_ | exact Ent.row _ _ _ _ | exact Ent.nil _ _ | exact Ent.func _ | exact Ent.refl _ | exact Ent.of_eq rfl | refine Ent.cells ?_)) (.ent rfl (by repeat (first | exact Ents.nil | refine Ents.cons ?_ ?_ | refine Ent.tup ?_ | refine Ent.agg ?_ | exact Ent.row _ _ _ _ | exact Ent.nil _ _ | exact Ent.func _ | exact Ent.refl _ | exact Ent.of_eq rfl | refine Ent.cells ?_)) .nil)) fn42) rfl ?_
  refine lx (op_pick_and rfl rfl) rfl ?_
  refine lx (op_move rfl) rfl ?_
  refine lxs rfl rfl rfl guard_eq (.cons (t := 2) rfl (fun _ => Ent.refl _) .nil) (op_fieldAddr rfl fl28_8 sz26) rfl ?_
  refine lxs rfl rfl rfl guard_eq (.cons (t := 60) rfl (fun h => entW h) .nil) (op_bload_one (m := 2) rfl rfl ag26 rfl) rfl ?_
  refine lxs rfl rfl rfl guard_eq (.cons (t := 3) rfl (fun _ => Ent.refl _) .nil) (op_fieldAddr rfl fl28_8 sz26) rfl ?_
  refine lxs rfl rfl rfl guard_eq (.cons (t := 62) rfl (fun h => entW h) .nil) (op_bload_one (m := 3) rfl rfl ag26 rfl) rfl ?_
  first | refine lxs rfl rfl rfl guard_eq (.cons (t := 61) rfl (fun h => entW h) (.cons (t := 63) rfl (fun h => entW h) .nil)) (op_call (l := [(Go.Operand.tmp 61), (Go.Operand.tmp 63)]) (sameW_ok a.senders b.senders (by have := hs.senders; omega)) (.cons rfl (.cons rfl .nil)) fn43) rfl ?_ | refine lxs rfl rfl rfl guard_eq (.cons (t := 61) rfl (fun h => entW h) (.cons (t := 63) rfl (fun h => entW h) .nil)) (op_call (l := [(Go.Operand.tmp 61), (Go.Operand.tmp 63)]) (sameW_ok a.senders b.senders (by have := hs.senders; omega)) (.ent rfl (by repeat (first | exact Ents.nil | refine Ents.cons ?_ ?_ | refine Ent.tup ?_ | refine Ent.agg ?_ | exact Ent.row _ _ _ _ | exact Ent.nil _ _ | exact Ent.func _ | exact Ent.refl _ | exact Ent.of_eq rfl | refine Ent.cells ?_)) (.ent rfl (by repeat (first | exact Ents.nil | refine Ents.cons ?_ ?_ | refine Ent.tup ?_ | refine Ent.agg ?_ | exact Ent.row _ _ _ _ | exact Ent.nil _ _ | exact Ent.func _ | exact Ent.refl _ | exact Ent.of_eq rfl | refine Ent.cells ?_)) .nil)) fn43) rfl ?_
  refine lx (op_pick_and rfl rfl) rfl ?_
  refine lx (op_move rfl) rfl ?_
  refine lxs rfl rfl rfl guard_eq (.cons (t := 2) rfl (fun _ => Ent.refl _) .nil) (op_fieldAddr rfl fl28_9 sz26) rfl ?_
  refine lxs rfl rfl rfl guard_eq (.cons (t := 67) rfl (fun h => entW h) .nil) (op_bload_one (m := 2) rfl rfl ag26 rfl) rfl ?_
  refine lxs rfl rfl rfl guard_eq (.cons (t := 3) rfl (fun _ => Ent.refl _) .nil) (op_fieldAddr rfl fl28_9 sz26) rfl ?_
  refine lxs rfl rfl rfl guard_eq (.cons (t := 69) rfl (fun h => entW h) .nil) (op_bload_one (m := 3) rfl rfl ag26 rfl) rfl ?_
  first | refine lxs rfl rfl rfl guard_eq (.cons (t := 68) rfl (fun h => entW h) (.cons (t := 70) rfl (fun h => entW h) .nil)) (op_call (l := [(Go.Operand.tmp 68), (Go.Operand.tmp 70)]) (sameW_ok a.receivers b.receivers (by have := hs.receivers; omega)) (.cons rfl (.cons rfl .nil)) fn43) rfl ?_ | refine lxs rfl rfl rfl guard_eq (.cons (t := 68) rfl (fun h => entW h) (.cons (t := 70) rfl (fun h => entW h) .nil)) (op_call (l := [(Go.Operand.tmp 68), (Go.Operand.tmp 70)]) (sameW_ok a.receivers b.receivers (by have := hs.receivers; omega)) (.ent rfl (by repeat (first | exact Ents.nil | refine Ents.cons ?_ ?_ | refine Ent.tup ?_ | refine Ent.agg ?_ | exact Ent.row _ _ _ _ | exact Ent.nil _ _ | exact Ent.func _ | exact Ent.refl _ | exact Ent.of_eq rfl | refine Ent.cells ?_)) (.ent rfl (by repeat (first | exact Ents.nil | refine Ents.cons ?_ ?_ | refine Ent.tup ?_ | refine Ent.agg ?_ | exact Ent.row _ _ _ _ | exact Ent.nil _ _ | exact Ent.func _ | exact Ent.refl _ | exact Ent.of_eq rfl | refine Ent.cells ?_)) .nil)) fn43) rfl ?_
  refine lx (op_pick_and rfl rfl) rfl ?_
  refine lx (op_assign rfl) rfl ?_
  refine lx_end ⟨by kernel_rfl, ?_⟩
  refine pe_then_normal ?_
  refine tr_sub hC (.cons (t := 4) rfl .nil) .nil rfl ?_
  refine tr_ret ?_
  refine pe_ret1 rfl hO rfl (.tmp rfl .nil) ?_
  exact entB (same_eq a b)

theorem SameT_ok (a b : Trf) (h1 : a.woken.length ≤ 1000000) (h2 : a.failed.length ≤ 1000000) : FnP Try.prog 20 [aggP a.ps, aggP b.ps] (eqP (.bool (decide (a = b)))) := by
  refine fn_pure' Try.func20 rfl Try.ntmps20 rfl ?_
  intro σ0 M ex Rf R hC hO
  simp only [frameOf, tokOf]
  refine tr_seq ?_
  refine tr_region (fun N0 hN => ?_)
  refine lxn (op_box (m := 2) (k := 2) rfl (.agg rfl) (by first | exact hC.low _ (by decide) | rfl)) rfl ?_
  refine lxn (op_box (m := 3) (k := 3) rfl (.agg rfl) (by first | exact hC.low _ (by decide) | rfl)) rfl ?_
  refine lx (op_assign rfl) rfl ?_
  refine lx_end ⟨by kernel_rfl, ?_⟩
  refine pe_then_normal ?_
  refine tr_sub hC (.cons (t := 2) rfl (.cons (t := 3) rfl .nil)) (.cons (t := 2) rfl (.cons (t := 3) rfl .nil)) rfl ?_
  refine tr_seq ?_
  refine tr_region (fun N1 hN => ?_)
  refine lx (op_fieldAddr rfl fl35_0 sz3) rfl ?_
  refine lx (op_bload_one (m := 2) rfl rfl ag3 rfl) rfl ?_
  refine lx (op_fieldAddr rfl fl35_0 sz3) rfl ?_
  refine lx (op_bload_one (m := 3) rfl rfl ag3 rfl) rfl ?_
  refine lx (op_eql rfl rfl) rfl ?_
  refine lx (op_move rfl) rfl ?_
  refine lxs rfl rfl rfl guard_eq (.cons (t := 2) rfl (fun _ => Ent.refl _) .nil) (op_fieldAddr rfl fl35_1 sz23) rfl ?_
  refine lxs rfl rfl rfl guard_eq (.cons (t := 11) rfl (fun h => entW h) .nil) (op_bload_part (m := 2) (qs := [_, _, _]) rfl rfl ag23 sz23 rfl rfl) rfl ?_
  refine lxs rfl rfl rfl guard_eq (.cons (t := 3) rfl (fun _ => Ent.refl _) .nil) (op_fieldAddr rfl fl35_1 sz23) rfl ?_
  refine lxs rfl rfl rfl guard_eq (.cons (t := 13) rfl (fun h => entW h) .nil) (op_bload_part (m := 3) (qs := [_, _, _]) rfl rfl ag23 sz23 rfl rfl) rfl ?_
  refine lxs rfl rfl rfl guard_eq (.cons (t := 12) rfl (fun h => entW h) (.cons (t := 14) rfl (fun h => entW h) .nil)) (op_eql_agg rfl rfl (eqV a.value b.value)) rfl ?_
  refine lx (op_pick_and rfl rfl) rfl ?_
  refine lx (op_move rfl) rfl ?_
  refine lxs rfl rfl rfl guard_eq (.cons (t := 2) rfl (fun _ => Ent.refl _) .nil) (op_fieldAddr rfl fl35_2 sz4) rfl ?_
  refine lxs rfl rfl rfl guard_eq (.cons (t := 18) rfl (fun h => entW h) .nil) (op_bload_one (m := 2) rfl rfl ag4 rfl) rfl ?_
  refine lxs rfl rfl rfl guard_eq (.cons (t := 3) rfl (fun _ => Ent.refl _) .nil) (op_fieldAddr rfl fl35_2 sz4) rfl ?_
  refine lxs rfl rfl rfl guard_eq (.cons (t := 20) rfl (fun h => entW h) .nil) (op_bload_one (m := 3) rfl rfl ag4 rfl) rfl ?_
  refine lxs rfl rfl rfl guard_eq (.cons (t := 19) rfl (fun h => entW h) (.cons (t := 21) rfl (fun h => entW h) .nil)) (op_eql_bool bo4 rfl rfl) rfl ?_
  refine lx (op_pick_and rfl rfl) rfl ?_
  refine lx (op_move rfl) rfl ?_
  refine lxs rfl rfl rfl guard_eq (.cons (t := 2) rfl (fun _ => Ent.refl _) .nil) (op_fieldAddr rfl fl35_3 sz3) rfl ?_
  refine lxs rfl rfl rfl guard_eq (.cons (t := 25) rfl (fun h => entW h) .nil) (op_bload_one (m := 2) rfl rfl ag3 rfl) rfl ?_
  refine lxs rfl rfl rfl guard_eq (.cons (t := 3) rfl (fun _ => Ent.refl _) .nil) (op_fieldAddr rfl fl35_3 sz3) rfl ?_
  refine lxs rfl rfl rfl guard_eq (.cons (t := 27) rfl (fun h => entW h) .nil) (op_bload_one (m := 3) rfl rfl ag3 rfl) rfl ?_
  refine lxs rfl rfl rfl guard_eq (.cons (t := 26) rfl (fun h => entW h) (.cons (t := 28) rfl (fun h => entW h) .nil)) (op_eql rfl rfl) rfl ?_
  refine lx (op_pick_and rfl rfl) rfl ?_
  refine lx (op_move rfl) rfl ?_
  refine lxs rfl rfl rfl guard_eq (.cons (t := 2) rfl (fun _ => Ent.refl _) .nil) (op_fieldAddr rfl fl35_4 sz4) rfl ?_
  refine lxs rfl rfl rfl guard_eq (.cons (t := 32) rfl (fun h => entW h) .nil) (op_bload_one (m := 2) rfl rfl ag4 rfl) rfl ?_
  refine lxs rfl rfl rfl guard_eq (.cons (t := 3) rfl (fun _ => Ent.refl _) .nil) (op_fieldAddr rfl fl35_4 sz4) rfl ?_
  refine lxs rfl rfl rfl guard_eq (.cons (t := 34) rfl (fun h => entW h) .nil) (op_bload_one (m := 3) rfl rfl ag4 rfl) rfl ?_
  refine lxs rfl rfl rfl guard_eq (.cons (t := 33) rfl (fun h => entW h) (.cons (t := 35) rfl (fun h => entW h) .nil)) (op_eql_bool bo4 rfl rfl) rfl ?_
  refine lx (op_pick_and rfl rfl) rfl ?_
  refine lx (op_move rfl) rfl ?_
  refine lxs rfl rfl rfl guard_eq (.cons (t := 2) rfl (fun _ => Ent.refl _) .nil) (op_fieldAddr rfl fl35_5 sz33) rfl ?_
  refine lxs rfl rfl rfl guard_eq (.cons (t := 39) rfl (fun h => entW h) .nil) (op_bload_part (m := 2) (qs := [_, _, _, _, _]) rfl rfl ag33 sz33 rfl rfl) rfl ?_
  refine lxs rfl rfl rfl guard_eq (.cons (t := 3) rfl (fun _ => Ent.refl _) .nil) (op_fieldAddr rfl fl35_5 sz33) rfl ?_
  refine lxs rfl rfl rfl guard_eq (.cons (t := 41) rfl (fun h => entW h) .nil) (op_bload_part (m := 3) (qs := [_, _, _, _, _]) rfl rfl ag33 sz33 rfl rfl) rfl ?_
  refine lxs rfl rfl rfl guard_eq (.cons (t := 40) rfl (fun h => entW h) (.cons (t := 42) rfl (fun h => entW h) .nil)) (op_eql_agg rfl rfl (eqW a.partner b.partner)) rfl ?_
  refine lx (op_pick_and rfl rfl) rfl ?_
  refine lx (op_move rfl) rfl ?_
  refine lxs rfl rfl rfl guard_eq (.cons (t := 2) rfl (fun _ => Ent.refl _) .nil) (op_fieldAddr rfl fl35_6 sz3) rfl ?_
  refine lxs rfl rfl rfl guard_eq (.cons (t := 46) rfl (fun h => entW h) .nil) (op_bload_one (m := 2) rfl rfl ag3 rfl) rfl ?_
  refine lxs rfl rfl rfl guard_eq (.cons (t := 3) rfl (fun _ => Ent.refl _) .nil) (op_fieldAddr rfl fl35_6 sz3) rfl ?_
  refine lxs rfl rfl rfl guard_eq (.cons (t := 48) rfl (fun h => entW h) .nil) (op_bload_one (m := 3) rfl rfl ag3 rfl) rfl ?_
  refine lxs rfl rfl rfl guard_eq (.cons (t := 47) rfl (fun h => entW h) (.cons (t := 49) rfl (fun h => entW h) .nil)) (op_eql rfl rfl) rfl ?_
  refine lx (op_pick_and rfl rfl) rfl ?_
  refine lx (op_move rfl) rfl ?_
  refine lxs rfl rfl rfl guard_eq (.cons (t := 2) rfl (fun _ => Ent.refl _) .nil) (op_fieldAddr rfl fl35_7 sz26) rfl ?_
  refine lxs rfl rfl rfl guard_eq (.cons (t := 53) rfl (fun h => entW h) .nil) (op_bload_one (m := 2) rfl rfl ag26 rfl) rfl ?_
  refine lxs rfl rfl rfl guard_eq (.cons (t := 3) rfl (fun _ => Ent.refl _) .nil) (op_fieldAddr rfl fl35_7 sz26) rfl ?_
  refine lxs rfl rfl rfl guard_eq (.cons (t := 55) rfl (fun h => entW h) .nil) (op_bload_one (m := 3) rfl rfl ag26 rfl) rfl ?_
  first | refine lxs rfl rfl rfl guard_eq (.cons (t := 54) rfl (fun h => entW h) (.cons (t := 56) rfl (fun h => entW h) .nil)) (op_call (l := [(Go.Operand.tmp 54), (Go.Operand.tmp 56)]) (sameW_ok a.woken b.woken h1) (.cons rfl (.cons rfl .nil)) fn43) rfl ?_ | refine lxs rfl rfl rfl guard_eq (.cons (t := 54) rfl (fun h => entW h) (.cons (t := 56) rfl (fun h => entW h) .nil)) (op_call (l := [(Go.Operand.tmp 54), (Go.Operand.tmp 56)]) (sameW_ok a.woken b.woken h1) (.ent rfl (by repeat (first | exact Ents.nil | refine Ents.cons ?_ ?_ | refine Ent.tup ?_ | refine Ent.agg ?_ | exact Ent.row _ _ _ _ | exact Ent.nil _ _ | exact Ent.func _ | exact Ent.refl _ | exact Ent.of_eq rfl | refine Ent.cells ?_)) (.ent rfl (by repeat (first | exact Ents.nil | refine Ents.cons ?_ ?_ | refine Ent.tup ?_ | refine Ent.agg ?_ | exact Ent.row _ _ _ _ | exact Ent.nil _ _ | exact Ent.func _ | exact Ent.refl _ | exact Ent.of_eq rfl | refine Ent.cells ?_)) .nil)) fn43) rfl ?_
  refine lx (op_pick_and rfl rfl) rfl ?_
  refine lx (op_move rfl) rfl ?_
  refine lxs rfl rfl rfl guard_eq (.cons (t := 2) rfl (fun _ => Ent.refl _) .nil) (op_fieldAddr rfl fl35_8 sz26) rfl ?_
  refine lxs rfl rfl rfl guard_eq (.cons (t := 60) rfl (fun h => entW h) .nil) (op_bload_one (m := 2) rfl rfl ag26 rfl) rfl ?_
  refine lxs rfl rfl rfl guard_eq (.cons (t := 3) rfl (fun _ => Ent.refl _) .nil) (op_fieldAddr rfl fl35_8 sz26) rfl ?_
  refine lxs rfl rfl rfl guard_eq (.cons (t := 62) rfl (fun h => entW h) .nil) (op_bload_one (m := 3) rfl rfl ag26 rfl) rfl ?_
  first | refine lxs rfl rfl rfl guard_eq (.cons (t := 61) rfl (fun h => entW h) (.cons (t := 63) rfl (fun h => entW h) .nil)) (op_call (l := [(Go.Operand.tmp 61), (Go.Operand.tmp 63)]) (sameW_ok a.failed b.failed h2) (.cons rfl (.cons rfl .nil)) fn43) rfl ?_ | refine lxs rfl rfl rfl guard_eq (.cons (t := 61) rfl (fun h => entW h) (.cons (t := 63) rfl (fun h => entW h) .nil)) (op_call (l := [(Go.Operand.tmp 61), (Go.Operand.tmp 63)]) (sameW_ok a.failed b.failed h2) (.ent rfl (by repeat (first | exact Ents.nil | refine Ents.cons ?_ ?_ | refine Ent.tup ?_ | refine Ent.agg ?_ | exact Ent.row _ _ _ _ | exact Ent.nil _ _ | exact Ent.func _ | exact Ent.refl _ | exact Ent.of_eq rfl | refine Ent.cells ?_)) (.ent rfl (by repeat (first | exact Ents.nil | refine Ents.cons ?_ ?_ | refine Ent.tup ?_ | refine Ent.agg ?_ | exact Ent.row _ _ _ _ | exact Ent.nil _ _ | exact Ent.func _ | exact Ent.refl _ | exact Ent.of_eq rfl | refine Ent.cells ?_)) .nil)) fn43) rfl ?_
  refine lx (op_pick_and rfl rfl) rfl ?_
  refine lx (op_assign rfl) rfl ?_
  refine lx_end ⟨by kernel_rfl, ?_⟩
  refine pe_then_normal ?_
  refine tr_sub hC (.cons (t := 4) rfl .nil) .nil rfl ?_
  refine tr_ret ?_
  refine pe_ret1 rfl hO rfl (.tmp rfl .nil) ?_
  exact entB (sameT_eq a b)

theorem fresh_ok (id : AL.Id) (s : List Bool) (hl : s.length = 8) (w : Wt) : FnOK Try.prog 49 [aggP (wp w), cellsP [mvP id 1 0 8 8]] [(id, blkX 1 4 (s.flatMap bp))] 0 (fun ι => eqP (.bool (seenF s w).1)) (fun ι => [(id, blkX 1 4 ((seenF s w).2.flatMap bp))]) := by
  refine fn_ownN Try.func49 rfl Try.ntmps49 rfl ?_
  intro σ0 M Rf R hC hO
  simp only [frameOf, tokOf]
  refine tr_seq ?_
  refine tr_region (fun N0 hN => ?_)
  refine lxn (op_box (m := 2) (k := 2) rfl (.agg rfl) (by first | exact hC.low _ (by decide) | rfl)) rfl ?_
  refine lx (op_assign rfl) rfl ?_
  refine lx_end ⟨by kernel_rfl, ?_⟩
  refine pe_then_normal ?_
  refine tr_sub hC (.cons (t := 1) rfl (.cons (t := 2) rfl .nil)) (.cons (t := 0) rfl (.cons (t := 2) rfl .nil)) rfl ?_
  refine tr_seq ?_
  refine tr_seq ?_
  refine tr_region (fun N1 hN => ?_)
  refine lx (op_fieldAddr rfl fl33_0 sz3) rfl ?_
  refine lx (op_bload_one (m := 2) rfl rfl ag3 rfl) rfl ?_
  first | refine lxc (op_call (l := [(Go.Operand.tmp 5)]) (goro_ok _) (.cons rfl .nil) fn50) rfl (fun h6 => ?_) (fun h6 => ?_) | refine lxc (op_call (l := [(Go.Operand.tmp 5)]) (goro_ok _) (.ent rfl (by repeat (first | exact Ents.nil | refine Ents.cons ?_ ?_ | refine Ent.tup ?_ | refine Ent.agg ?_ | exact Ent.row _ _ _ _ | exact Ent.nil _ _ | exact Ent.func _ | exact Ent.refl _ | exact Ent.of_eq rfl | refine Ent.cells ?_)) .nil) fn50) rfl (fun h6 => ?_) (fun h6 => ?_)
  · (try simp only [Bool.and_eq_true, Bool.or_eq_true, Bool.and_eq_false_iff, Bool.or_eq_false_iff, decide_eq_true_eq, decide_eq_false_iff_not, Bool.not_eq_true', Bool.not_eq_false', List.length_map, ne_eq, Decidable.not_not, Int.not_lt, Int.not_le] at h6)
    have hg : goro w.g = true := h6
    have hgb := goro_in hg
    first | refine lx (op_not rfl) rfl ?_ | refine lx (op_not_b rfl) rfl ?_
    refine lx (op_move rfl) rfl ?_
    first | refine lxg rfl rfl rfl (op_load_one rfl ag63 rfl) rfl ?_ | refine lxg rfl rfl rfl (op_bload_one (m := 0) rfl rfl ag63 rfl) rfl ?_ | refine lxg rfl rfl rfl (op_bload_one (m := 2) rfl rfl ag63 rfl) rfl ?_
    refine lxg rfl rfl rfl (op_fieldAddr rfl fl33_0 sz3) rfl ?_
    refine lxg rfl rfl rfl (op_bload_one (m := 2) rfl rfl ag3 rfl) rfl ?_
    refine lxg rfl rfl rfl (op_index_mv rfl rfl el63 sz4 (by omega : w.g = ((w.g.toNat : Nat) : Int)) (by omega)) rfl ?_
    refine lxg rfl rfl rfl (op_tload_one (m := 0) (j := w.g.toNat) (fo := 0) rfl rfl ag4 bp_len (by omega) (List.getElem?_eq_getElem (by omega : w.g.toNat < s.length)) rfl) rfl ?_
    refine lx (op_pick_f rfl rfl) rfl ?_
    refine lx_end ⟨by kernel_rfl, ?_⟩
    refine pe_then_normal ?_
    refine tr_sub hC (.cons (t := 1) rfl (.cons (t := 2) rfl (.cons (t := 14) rfl .nil))) (.cons (t := 0) rfl (.cons (t := 2) rfl .nil)) rfl ?_
    refine tr_cond rfl (fun h14 => ?_) (fun h14 => ?_)
    · (try simp only [Bool.and_eq_true, Bool.or_eq_true, Bool.and_eq_false_iff, Bool.or_eq_false_iff, decide_eq_true_eq, decide_eq_false_iff_not, Bool.not_eq_true', Bool.not_eq_false', List.length_map, ne_eq, Decidable.not_not, Int.not_lt, Int.not_le] at h14)
      have h := seen_old hg (by omega : w.g.toNat < s.length) h14
      refine tr_seq ?_
      refine tr_region (fun N2 hN => ?_)
      refine lx (op_assign rfl) rfl ?_
      refine lx_end ⟨by kernel_rfl, ?_⟩
      refine pe_then_normal ?_
      refine tr_sub hC (.cons (t := 3) rfl .nil) (.cons (t := 0) rfl .nil) rfl ?_
      refine tr_ret ?_
      refine pe_then_ret ?_
      refine pe_ownS' [0] rfl hO rfl (.tmp rfl .nil) .nil rfl rfl rfl ?_
      intro τ ι hs
      refine ⟨?_, ?_⟩
      · rw [h]; exact ent_at (Ent.refl _)
      · exact (.kept rfl rfl (by rw [h]; exact fun b o h => h) .nil)
    · (try simp only [Bool.and_eq_true, Bool.or_eq_true, Bool.and_eq_false_iff, Bool.or_eq_false_iff, decide_eq_true_eq, decide_eq_false_iff_not, Bool.not_eq_true', Bool.not_eq_false', List.length_map, ne_eq, Decidable.not_not, Int.not_lt, Int.not_le] at h14)
      have h := seen_new hg (by omega : w.g.toNat < s.length) h14
      refine tr_skip ?_
      refine pe_then_normal ?_
      refine tr_sub hC (.cons (t := 1) rfl (.cons (t := 2) rfl .nil)) (.cons (t := 0) rfl (.cons (t := 2) rfl .nil)) rfl ?_
      refine tr_seq ?_
      refine tr_region (fun N3 hN => ?_)
      first | refine lx (op_load_one rfl ag63 rfl) rfl ?_ | refine lx (op_bload_one (m := 0) rfl rfl ag63 rfl) rfl ?_ | refine lx (op_bload_one (m := 2) rfl rfl ag63 rfl) rfl ?_
      refine lx (op_fieldAddr rfl fl33_0 sz3) rfl ?_
      refine lx (op_bload_one (m := 2) rfl rfl ag3 rfl) rfl ?_
      refine lx (op_index_mv rfl rfl el63 sz4 (by omega : w.g = ((w.g.toNat : Nat) : Int)) (by omega)) rfl ?_
      refine lxr (op_tstore (m := 0) (j := w.g.toNat) (fo := 0) (z' := true) rfl rfl rfl (.one (by (first | exact One.eq rfl | exact One.mv _ _ _ _ _ | exact One.cl _ _ _ | exact One.map _ | exact One.sl _ _ _ | exact One.row _ _ _ _ | exact One.msl _ _ _ _ | exact One.ptr _ _ | exact One.b _ | exact One.cells _))) sz4 rfl bp_len (by omega) (List.getElem?_eq_getElem (by omega : w.g.toNat < s.length)) rfl rfl) rfl ?_
      refine lx_end ⟨by kernel_rfl, ?_⟩
      refine pe_then_normal ?_
      refine tr_sub hC .nil (.cons (t := 0) rfl .nil) rfl ?_
      refine tr_seq ?_
      refine tr_region (fun N4 hN => ?_)
      refine lx (op_assign rfl) rfl ?_
      refine lx_end ⟨by kernel_rfl, ?_⟩
      refine pe_then_normal ?_
      refine tr_sub hC (.cons (t := 3) rfl .nil) (.cons (t := 0) rfl .nil) rfl ?_
      refine tr_ret ?_
      refine pe_ownS' [0] rfl hO rfl (.tmp rfl .nil) .nil rfl rfl rfl ?_
      intro τ ι hs
      refine ⟨?_, ?_⟩
      · rw [h]; exact ent_at (Ent.refl _)
      · exact (.kept rfl rfl (by rw [h]; exact fun b o h => h) .nil)
  · (try simp only [Bool.and_eq_true, Bool.or_eq_true, Bool.and_eq_false_iff, Bool.or_eq_false_iff, decide_eq_true_eq, decide_eq_false_iff_not, Bool.not_eq_true', Bool.not_eq_false', List.length_map, ne_eq, Decidable.not_not, Int.not_lt, Int.not_le] at h6)
    have hg : goro w.g = false := h6
    have h := seen_out (s := s) hg
    first | refine lx (op_not rfl) rfl ?_ | refine lx (op_not_b rfl) rfl ?_
    refine lx (op_move rfl) rfl ?_
    refine lx_skip rfl rfl rfl (by first | exact notThe_bool rfl | exact notThe_undef) rfl ?_
    refine lx_skip rfl rfl rfl (by first | exact notThe_bool rfl | exact notThe_undef) rfl ?_
    refine lx_skip rfl rfl rfl (by first | exact notThe_bool rfl | exact notThe_undef) rfl ?_
    refine lx_skip rfl rfl rfl (by first | exact notThe_bool rfl | exact notThe_undef) rfl ?_
    refine lx_skip rfl rfl rfl (by first | exact notThe_bool rfl | exact notThe_undef) rfl ?_
    refine lx (op_pick_t rfl rfl) rfl ?_
    refine lx_end ⟨by kernel_rfl, ?_⟩
    refine pe_then_normal ?_
    refine tr_sub hC (.cons (t := 1) rfl (.cons (t := 2) rfl (.cons (t := 14) rfl .nil))) (.cons (t := 0) rfl (.cons (t := 2) rfl .nil)) rfl ?_
    refine tr_cond_t rfl ?_
    refine tr_seq ?_
    refine tr_region (fun N2 hN => ?_)
    refine lx (op_assign rfl) rfl ?_
    refine lx_end ⟨by kernel_rfl, ?_⟩
    refine pe_then_normal ?_
    refine tr_sub hC (.cons (t := 3) rfl .nil) (.cons (t := 0) rfl .nil) rfl ?_
    refine tr_ret ?_
    refine pe_then_ret ?_
    refine pe_ownS' [0] rfl hO rfl (.tmp rfl .nil) .nil rfl rfl rfl ?_
    intro τ ι hs
    refine ⟨?_, ?_⟩
    · rw [h]; exact ent_at (Ent.refl _)
    · exact (.kept rfl rfl (by rw [h]; exact fun b o h => h) .nil)

end Go.Proofs.Ytagjjeofdcgcmaa
