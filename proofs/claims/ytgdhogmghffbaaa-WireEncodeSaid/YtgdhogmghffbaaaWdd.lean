/- Parts of a proof that share one text: WrWalk5, WrWalk6, WrWalk7, WrWalk8. -/
import Derived.Test.YtgdhogmghffbaaaWdc
import Derived.Test.YtgdhogmghffbaaaWdb
set_option linter.unusedVariables false
set_option linter.unusedSimpArgs false

set_option linter.unusedVariables false
set_option linter.unusedSimpArgs false
namespace Go.Proofs.Ytgdhogmghffbaaa
open Go.AL Go.Wr Go.RowKit
theorem ag38 : aggB Try.prog 38 = some false := by kernel_rfl
theorem ag39 : aggB Try.prog 39 = some false := by kernel_rfl
theorem ag41 : aggB Try.prog 41 = some true := by kernel_rfl
theorem ag43 : aggB Try.prog 43 = some false := by kernel_rfl
theorem ag44 : aggB Try.prog 44 = some false := by kernel_rfl
theorem ag46 : aggB Try.prog 46 = some true := by kernel_rfl
theorem el38 : elemB Try.prog 38 = some 9 := by kernel_rfl
theorem el39 : elemB Try.prog 39 = some 23 := by kernel_rfl
theorem el43 : elemB Try.prog 43 = some 25 := by kernel_rfl
theorem el44 : elemB Try.prog 44 = some 27 := by kernel_rfl
theorem fl41_0 : fldB Try.prog 41 0 = some (0, 3) := by kernel_rfl
theorem fl41_3 : fldB Try.prog 41 3 = some (3, 38) := by kernel_rfl
theorem fl41_4 : fldB Try.prog 41 4 = some (4, 39) := by kernel_rfl
theorem fl46_0 : fldB Try.prog 46 0 = some (0, 3) := by kernel_rfl
theorem fl46_1 : fldB Try.prog 46 1 = some (1, 3) := by kernel_rfl
theorem fl46_2 : fldB Try.prog 46 2 = some (2, 43) := by kernel_rfl
theorem fl46_3 : fldB Try.prog 46 3 = some (3, 3) := by kernel_rfl
theorem fl46_4 : fldB Try.prog 46 4 = some (4, 44) := by kernel_rfl
theorem fs41 : sizesB Try.prog 41 = true := by kernel_rfl
theorem fs46 : sizesB Try.prog 46 = true := by kernel_rfl
theorem sz38 : sizeB Try.prog 38 = some 1 := by kernel_rfl
theorem sz39 : sizeB Try.prog 39 = some 1 := by kernel_rfl
theorem sz41 : sizeB Try.prog 41 = some 5 := by kernel_rfl
theorem sz43 : sizeB Try.prog 43 = some 1 := by kernel_rfl
theorem sz44 : sizeB Try.prog 44 = some 1 := by kernel_rfl
theorem sz46 : sizeB Try.prog 46 = some 5 := by kernel_rfl
theorem ze41 : zeroB Try.prog 41 = some (some (.agg #[.int .i64 0, .int .i64 0, .int .i64 0, .slice none 0 0, .slice none 0 0])) := by kernel_rfl
theorem ze46 : zeroB Try.prog 46 = some (some (.agg #[.int .i64 0, .int .i64 0, .slice none 0 0, .int .i64 0, .slice none 0 0])) := by kernel_rfl
theorem large_ok (e : RE) : FnP Try.prog 14 [aggP e.ps] (eqP (.bool (decide ((e.sent.length : Int) > 40) || decide ((e.early.length : Int) > 40)))) := by
  refine fn_pure' Try.func14 rfl Try.ntmps14 rfl ?_
  intro σ0 M ex Rf R hC hO
  simp only [frameOf, tokOf]
  refine tr_seq ?_
  refine tr_region (fun N0 hN => ?_)
  refine lxn (op_box (m := 1) (k := 1) rfl (.agg rfl) (by first | exact hC.low _ (by decide) | rfl)) rfl ?_
  refine lx (op_assign rfl) rfl ?_
  refine lx_end ⟨by kernel_rfl, ?_⟩
  refine pe_then_normal ?_
  refine tr_sub hC (.cons (t := 1) rfl .nil) (.cons (t := 1) rfl .nil) rfl ?_
  refine tr_seq ?_
  refine tr_region (fun N1 hN => ?_)
  refine lx (op_fieldAddr rfl fl41_3 sz38) rfl ?_
  refine lx (op_bload_one (m := 1) rfl rfl ag38 rfl) rfl ?_
  first | refine lx (op_len rfl el38) rfl ?_ | refine lx (op_len_row rfl el38) rfl ?_ | refine lx (op_len_mv rfl el38) rfl ?_ | refine lx (op_len_nil rfl el38) rfl ?_
  refine lx (op_gtr rfl rfl) rfl ?_
  refine lx (op_move rfl) rfl ?_
  refine lxs rfl rfl rfl guard_eq (.cons (t := 1) rfl (fun _ => Ent.refl _) .nil) (op_fieldAddr rfl fl41_4 sz39) rfl ?_
  refine lxs rfl rfl rfl guard_eq (.cons (t := 8) rfl (fun h => entW h) .nil) (op_bload_one (m := 1) rfl rfl ag39 rfl) rfl ?_
  first | refine lxs rfl rfl rfl guard_eq (.cons (t := 9) rfl (fun h => entW h) .nil) (op_len rfl el39) rfl ?_ | refine lxs rfl rfl rfl guard_eq (.cons (t := 9) rfl (fun h => entW h) .nil) (op_len_row rfl el39) rfl ?_ | refine lxs rfl rfl rfl guard_eq (.cons (t := 9) rfl (fun h => entW h) .nil) (op_len_mv rfl el39) rfl ?_ | refine lxs rfl rfl rfl guard_eq (.cons (t := 9) rfl (fun h => entW h) .nil) (op_len_nil rfl el39) rfl ?_
  refine lxs rfl rfl rfl guard_eq (.cons (t := 10) rfl (fun h => entW h) .nil) (op_gtr rfl rfl) rfl ?_
  refine lx (op_pick_or rfl rfl) rfl ?_
  refine lx (op_assign rfl) rfl ?_
  refine lx_end ⟨by kernel_rfl, ?_⟩
  refine pe_then_normal ?_
  refine tr_sub hC (.cons (t := 2) rfl .nil) .nil rfl ?_
  refine tr_ret ?_
  refine pe_ret1 rfl hO rfl (.tmp rfl .nil) ?_
  repeat (first | exact Ents.nil | refine Ents.cons ?_ ?_ | refine Ent.tup ?_ | refine Ent.agg ?_ | exact Ent.row _ _ _ _ | exact Ent.nil _ _ | exact Ent.func _ | exact Ent.refl _ | exact Ent.of_eq rfl | refine Ent.cells ?_)
theorem New_ok (w : Int) : FnP Try.prog 15 [eqP (.int .i64 w)] (tupP [aggP (newF w).1.ps, eqP (.int .i64 (newF w).2)]) := by
  refine fn_pure' Try.func15 rfl Try.ntmps15 rfl ?_
  intro σ0 M ex Rf R hC hO
  simp only [frameOf, tokOf]
  refine tr_seq ?_
  refine tr_region (fun N0 hN => ?_)
  refine lxn (op_alloc (m := 2) (k := 2) (ps := [eqP (.int .i64 0), eqP (.int .i64 0), eqP (.slice none 0 0), eqP (.int .i64 0), eqP (.slice none 0 0)]) ze46 rfl rfl (by first | exact hC.low _ (by decide) | rfl)) rfl ?_
  refine lx (op_assign rfl) rfl ?_
  refine lx_end ⟨by kernel_rfl, ?_⟩
  refine pe_then_normal ?_
  refine tr_sub hC (.cons (t := 0) rfl (.cons (t := 2) rfl .nil)) (.cons (t := 2) rfl .nil) rfl ?_
  refine tr_seq ?_
  refine tr_seq ?_
  refine tr_region (fun N1 hN => ?_)
  refine lx (op_move rfl) rfl ?_
  first | refine lx (op_call (l := [(Go.Operand.tmp 4), (Go.Operand.const (Go.Value.int Go.IntKind.i64 1)), (Go.Operand.const (Go.Value.int Go.IntKind.i64 16))]) (within_ok w 1 16) (.cons rfl (.cons rfl (.cons rfl .nil))) fn31) rfl ?_ | refine lx (op_call (l := [(Go.Operand.tmp 4), (Go.Operand.const (Go.Value.int Go.IntKind.i64 1)), (Go.Operand.const (Go.Value.int Go.IntKind.i64 16))]) (within_ok w 1 16) (.ent rfl (by repeat (first | exact Ents.nil | refine Ents.cons ?_ ?_ | refine Ent.tup ?_ | refine Ent.agg ?_ | exact Ent.row _ _ _ _ | exact Ent.nil _ _ | exact Ent.func _ | exact Ent.refl _ | exact Ent.of_eq rfl | refine Ent.cells ?_)) (.ent rfl (by repeat (first | exact Ents.nil | refine Ents.cons ?_ ?_ | refine Ent.tup ?_ | refine Ent.agg ?_ | exact Ent.row _ _ _ _ | exact Ent.nil _ _ | exact Ent.func _ | exact Ent.refl _ | exact Ent.of_eq rfl | refine Ent.cells ?_)) (.ent rfl (by repeat (first | exact Ents.nil | refine Ents.cons ?_ ?_ | refine Ent.tup ?_ | refine Ent.agg ?_ | exact Ent.row _ _ _ _ | exact Ent.nil _ _ | exact Ent.func _ | exact Ent.refl _ | exact Ent.of_eq rfl | refine Ent.cells ?_)) .nil))) fn31) rfl ?_
  first | refine lx (op_not rfl) rfl ?_ | refine lx (op_not_b rfl) rfl ?_
  refine lx_end ⟨by kernel_rfl, ?_⟩
  refine pe_then_normal ?_
  refine tr_sub hC (.cons (t := 0) rfl (.cons (t := 2) rfl (.cons (t := 6) rfl .nil))) (.cons (t := 2) rfl .nil) rfl ?_
  refine tr_cond rfl (fun h6 => ?_) (fun h6 => ?_)
  · (try simp only [Bool.and_eq_true, Bool.or_eq_true, Bool.and_eq_false_iff, Bool.or_eq_false_iff, decide_eq_true_eq, decide_eq_false_iff_not, Bool.not_eq_true', Bool.not_eq_false', List.length_map, ne_eq, Decidable.not_not, Int.not_lt, Int.not_le] at h6)
    have h : newF w = (WE0, 1) := if_neg (by omega)
    refine tr_seq ?_
    refine tr_region (fun N2 hN => ?_)
    refine lx (op_build (qs := [_, _, _, _, _]) (parts := []) ze46 rfl rfl fs46 .nil rfl rfl) rfl ?_
    refine lxr (op_store_all (m := 2) rfl rfl rfl (.agg rfl) sz46 rfl) rfl ?_
    refine lx (op_assign rfl) rfl ?_
    refine lx_end ⟨by kernel_rfl, ?_⟩
    refine pe_then_normal ?_
    refine tr_sub hC (.cons (t := 2) rfl (.cons (t := 3) rfl .nil)) (.cons (t := 2) rfl .nil) rfl ?_
    refine tr_ret ?_
    refine pe_then_ret ?_
    refine pe_retN (rs := [.cell 2 46, .tmp 3]) rfl rfl hO rfl (.cell (m := 2) rfl rfl ag46 sz46 (.tmp rfl .nil)) ?_
    rw [h]
    repeat (first | exact Ents.nil | refine Ents.cons ?_ ?_ | refine Ent.tup ?_ | refine Ent.agg ?_ | exact Ent.row _ _ _ _ | exact Ent.nil _ _ | exact Ent.func _ | exact Ent.refl _ | exact Ent.of_eq rfl | refine Ent.cells ?_)
  · (try simp only [Bool.and_eq_true, Bool.or_eq_true, Bool.and_eq_false_iff, Bool.or_eq_false_iff, decide_eq_true_eq, decide_eq_false_iff_not, Bool.not_eq_true', Bool.not_eq_false', List.length_map, ne_eq, Decidable.not_not, Int.not_lt, Int.not_le] at h6)
    have h : newF w = (⟨w, 0, [], 0, []⟩, 0) := if_pos (by omega)
    refine tr_skip ?_
    refine pe_then_normal ?_
    refine tr_sub hC (.cons (t := 0) rfl (.cons (t := 2) rfl .nil)) (.cons (t := 2) rfl .nil) rfl ?_
    refine tr_seq ?_
    refine tr_region (fun N3 hN => ?_)
    refine lx (op_move rfl) rfl ?_
    refine lx (op_build (qs := [_, _, _, _, _]) (parts := [(0, (Go.Operand.tmp 8))]) ze46 rfl rfl fs46 (.cons rfl (.one (by (first | exact One.eq rfl | exact One.mv _ _ _ _ _ | exact One.cl _ _ _ | exact One.map _ | exact One.sl _ _ _ | exact One.row _ _ _ _ | exact One.msl _ _ _ _ | exact One.ptr _ _ | exact One.b _ | exact One.cells _))) fl46_0 sz3 rfl .nil) rfl rfl) rfl ?_
    refine lxr (op_store_all (m := 2) rfl rfl rfl (.agg rfl) sz46 rfl) rfl ?_
    refine lx (op_assign rfl) rfl ?_
    refine lx_end ⟨by kernel_rfl, ?_⟩
    refine pe_then_normal ?_
    refine tr_sub hC (.cons (t := 2) rfl (.cons (t := 3) rfl .nil)) (.cons (t := 2) rfl .nil) rfl ?_
    refine tr_ret ?_
    refine pe_retN (rs := [.cell 2 46, .tmp 3]) rfl rfl hO rfl (.cell (m := 2) rfl rfl ag46 sz46 (.tmp rfl .nil)) ?_
    rw [h]
    repeat (first | exact Ents.nil | refine Ents.cons ?_ ?_ | refine Ent.tup ?_ | refine Ent.agg ?_ | exact Ent.row _ _ _ _ | exact Ent.nil _ _ | exact Ent.func _ | exact Ent.refl _ | exact Ent.of_eq rfl | refine Ent.cells ?_)
theorem rNew_ok (w : Int) : FnP Try.prog 16 [eqP (.int .i64 w)] (tupP [aggP (newF w).1.to.ps, eqP (.int .i64 (newF w).2)]) := by
  refine fn_pure' Try.func16 rfl Try.ntmps16 rfl ?_
  intro σ0 M ex Rf R hC hO
  simp only [frameOf, tokOf]
  refine tr_seq ?_
  refine tr_region (fun N0 hN => ?_)
  refine lxn (op_alloc (m := 2) (k := 2) (ps := [eqP (.int .i64 0), eqP (.int .i64 0), eqP (.int .i64 0), eqP (.slice none 0 0), eqP (.slice none 0 0)]) ze41 rfl rfl (by first | exact hC.low _ (by decide) | rfl)) rfl ?_
  refine lx (op_assign rfl) rfl ?_
  refine lx_end ⟨by kernel_rfl, ?_⟩
  refine pe_then_normal ?_
  refine tr_sub hC (.cons (t := 0) rfl (.cons (t := 2) rfl .nil)) (.cons (t := 2) rfl .nil) rfl ?_
  refine tr_seq ?_
  refine tr_seq ?_
  refine tr_region (fun N1 hN => ?_)
  refine lx (op_move rfl) rfl ?_
  refine lx (op_lss rfl rfl) rfl ?_
  refine lx (op_move rfl) rfl ?_
  refine lxs rfl rfl rfl guard_eq (.cons (t := 0) rfl (fun _ => Ent.refl _) .nil) (op_move rfl) rfl ?_
  refine lxs rfl rfl rfl guard_eq (.cons (t := 7) rfl (fun h => entW h) .nil) (op_gtr rfl rfl) rfl ?_
  refine lx (op_pick_or rfl rfl) rfl ?_
  refine lx_end ⟨by kernel_rfl, ?_⟩
  refine pe_then_normal ?_
  refine tr_sub hC (.cons (t := 0) rfl (.cons (t := 2) rfl (.cons (t := 9) rfl .nil))) (.cons (t := 2) rfl .nil) rfl ?_
  refine tr_cond rfl (fun h9 => ?_) (fun h9 => ?_)
  · (try simp only [Bool.and_eq_true, Bool.or_eq_true, Bool.and_eq_false_iff, Bool.or_eq_false_iff, decide_eq_true_eq, decide_eq_false_iff_not, Bool.not_eq_true', Bool.not_eq_false', List.length_map, ne_eq, Decidable.not_not, Int.not_lt, Int.not_le] at h9)
    have h : newF w = (WE0, 1) := if_neg (by omega)
    refine tr_seq ?_
    refine tr_region (fun N2 hN => ?_)
    refine lx (op_build (qs := [_, _, _, _, _]) (parts := []) ze41 rfl rfl fs41 .nil rfl rfl) rfl ?_
    refine lxr (op_store_all (m := 2) rfl rfl rfl (.agg rfl) sz41 rfl) rfl ?_
    refine lx (op_assign rfl) rfl ?_
    refine lx_end ⟨by kernel_rfl, ?_⟩
    refine pe_then_normal ?_
    refine tr_sub hC (.cons (t := 2) rfl (.cons (t := 3) rfl .nil)) (.cons (t := 2) rfl .nil) rfl ?_
    refine tr_ret ?_
    refine pe_then_ret ?_
    refine pe_retN (rs := [.cell 2 41, .tmp 3]) rfl rfl hO rfl (.cell (m := 2) rfl rfl ag41 sz41 (.tmp rfl .nil)) ?_
    rw [h]
    repeat (first | exact Ents.nil | refine Ents.cons ?_ ?_ | refine Ent.tup ?_ | refine Ent.agg ?_ | exact Ent.row _ _ _ _ | exact Ent.nil _ _ | exact Ent.func _ | exact Ent.refl _ | exact Ent.of_eq rfl | refine Ent.cells ?_)
  · (try simp only [Bool.and_eq_true, Bool.or_eq_true, Bool.and_eq_false_iff, Bool.or_eq_false_iff, decide_eq_true_eq, decide_eq_false_iff_not, Bool.not_eq_true', Bool.not_eq_false', List.length_map, ne_eq, Decidable.not_not, Int.not_lt, Int.not_le] at h9)
    have h : newF w = (⟨w, 0, [], 0, []⟩, 0) := if_pos (by omega)
    refine tr_skip ?_
    refine pe_then_normal ?_
    refine tr_sub hC (.cons (t := 0) rfl (.cons (t := 2) rfl .nil)) (.cons (t := 2) rfl .nil) rfl ?_
    refine tr_seq ?_
    refine tr_region (fun N3 hN => ?_)
    refine lx (op_move rfl) rfl ?_
    refine lx (op_build (qs := [_, _, _, _, _]) (parts := [(0, (Go.Operand.tmp 11))]) ze41 rfl rfl fs41 (.cons rfl (.one (by (first | exact One.eq rfl | exact One.mv _ _ _ _ _ | exact One.cl _ _ _ | exact One.map _ | exact One.sl _ _ _ | exact One.row _ _ _ _ | exact One.msl _ _ _ _ | exact One.ptr _ _ | exact One.b _ | exact One.cells _))) fl41_0 sz3 rfl .nil) rfl rfl) rfl ?_
    refine lxr (op_store_all (m := 2) rfl rfl rfl (.agg rfl) sz41 rfl) rfl ?_
    refine lx (op_assign rfl) rfl ?_
    refine lx_end ⟨by kernel_rfl, ?_⟩
    refine pe_then_normal ?_
    refine tr_sub hC (.cons (t := 2) rfl (.cons (t := 3) rfl .nil)) (.cons (t := 2) rfl .nil) rfl ?_
    refine tr_ret ?_
    refine pe_retN (rs := [.cell 2 41, .tmp 3]) rfl rfl hO rfl (.cell (m := 2) rfl rfl ag41 sz41 (.tmp rfl .nil)) ?_
    rw [h]
    repeat (first | exact Ents.nil | refine Ents.cons ?_ ?_ | refine Ent.tup ?_ | refine Ent.agg ?_ | exact Ent.row _ _ _ _ | exact Ent.nil _ _ | exact Ent.func _ | exact Ent.refl _ | exact Ent.of_eq rfl | refine Ent.cells ?_)
theorem Valid_ok (e : WE) : FnP Try.prog 22 [aggP e.ps] (eqP (.bool (validF e))) := by
  refine fn_pure' Try.func22 rfl Try.ntmps22 rfl ?_
  intro σ0 M ex Rf R hC hO
  simp only [frameOf, tokOf]
  refine tr_seq ?_
  refine tr_region (fun N0 hN => ?_)
  refine lxn (op_box (m := 1) (k := 1) rfl (.agg rfl) (by first | exact hC.low _ (by decide) | rfl)) rfl ?_
  refine lx (op_assign rfl) rfl ?_
  refine lx_end ⟨by kernel_rfl, ?_⟩
  refine pe_then_normal ?_
  refine tr_sub hC (.cons (t := 1) rfl .nil) (.cons (t := 1) rfl .nil) rfl ?_
  refine tr_seq ?_
  refine tr_seq ?_
  refine tr_region (fun N1 hN => ?_)
  refine lx (op_fieldAddr rfl fl46_0 sz3) rfl ?_
  refine lx (op_bload_one (m := 1) rfl rfl ag3 rfl) rfl ?_
  first | refine lx (op_call (l := [(Go.Operand.tmp 9), (Go.Operand.const (Go.Value.int Go.IntKind.i64 1)), (Go.Operand.const (Go.Value.int Go.IntKind.i64 16))]) (within_ok e.window 1 16) (.cons rfl (.cons rfl (.cons rfl .nil))) fn31) rfl ?_ | refine lx (op_call (l := [(Go.Operand.tmp 9), (Go.Operand.const (Go.Value.int Go.IntKind.i64 1)), (Go.Operand.const (Go.Value.int Go.IntKind.i64 16))]) (within_ok e.window 1 16) (.ent rfl (by repeat (first | exact Ents.nil | refine Ents.cons ?_ ?_ | refine Ent.tup ?_ | refine Ent.agg ?_ | exact Ent.row _ _ _ _ | exact Ent.nil _ _ | exact Ent.func _ | exact Ent.refl _ | exact Ent.of_eq rfl | refine Ent.cells ?_)) (.ent rfl (by repeat (first | exact Ents.nil | refine Ents.cons ?_ ?_ | refine Ent.tup ?_ | refine Ent.agg ?_ | exact Ent.row _ _ _ _ | exact Ent.nil _ _ | exact Ent.func _ | exact Ent.refl _ | exact Ent.of_eq rfl | refine Ent.cells ?_)) (.ent rfl (by repeat (first | exact Ents.nil | refine Ents.cons ?_ ?_ | refine Ent.tup ?_ | refine Ent.agg ?_ | exact Ent.row _ _ _ _ | exact Ent.nil _ _ | exact Ent.func _ | exact Ent.refl _ | exact Ent.of_eq rfl | refine Ent.cells ?_)) .nil))) fn31) rfl ?_
  first | refine lx (op_not rfl) rfl ?_ | refine lx (op_not_b rfl) rfl ?_
  refine lx (op_move rfl) rfl ?_
  refine lxs rfl rfl rfl guard_eq (.cons (t := 1) rfl (fun _ => Ent.refl _) .nil) (op_fieldAddr rfl fl46_1 sz3) rfl ?_
  refine lxs rfl rfl rfl guard_eq (.cons (t := 13) rfl (fun h => entW h) .nil) (op_bload_one (m := 1) rfl rfl ag3 rfl) rfl ?_
  first | refine lxs rfl rfl rfl guard_eq (.cons (t := 14) rfl (fun h => entW h) .nil) (op_call (l := [(Go.Operand.tmp 14), (Go.Operand.const (Go.Value.int Go.IntKind.i64 0)), (Go.Operand.const (Go.Value.int Go.IntKind.i64 1000000000))]) (within_ok e.base 0 1000000000) (.cons rfl (.cons rfl (.cons rfl .nil))) fn31) rfl ?_ | refine lxs rfl rfl rfl guard_eq (.cons (t := 14) rfl (fun h => entW h) .nil) (op_call (l := [(Go.Operand.tmp 14), (Go.Operand.const (Go.Value.int Go.IntKind.i64 0)), (Go.Operand.const (Go.Value.int Go.IntKind.i64 1000000000))]) (within_ok e.base 0 1000000000) (.ent rfl (by repeat (first | exact Ents.nil | refine Ents.cons ?_ ?_ | refine Ent.tup ?_ | refine Ent.agg ?_ | exact Ent.row _ _ _ _ | exact Ent.nil _ _ | exact Ent.func _ | exact Ent.refl _ | exact Ent.of_eq rfl | refine Ent.cells ?_)) (.ent rfl (by repeat (first | exact Ents.nil | refine Ents.cons ?_ ?_ | refine Ent.tup ?_ | refine Ent.agg ?_ | exact Ent.row _ _ _ _ | exact Ent.nil _ _ | exact Ent.func _ | exact Ent.refl _ | exact Ent.of_eq rfl | refine Ent.cells ?_)) (.ent rfl (by repeat (first | exact Ents.nil | refine Ents.cons ?_ ?_ | refine Ent.tup ?_ | refine Ent.agg ?_ | exact Ent.row _ _ _ _ | exact Ent.nil _ _ | exact Ent.func _ | exact Ent.refl _ | exact Ent.of_eq rfl | refine Ent.cells ?_)) .nil))) fn31) rfl ?_
  first | refine lxs rfl rfl rfl guard_eq (.cons (t := 15) rfl (fun h => entW h) .nil) (op_not rfl) rfl ?_ | refine lxs rfl rfl rfl guard_eq (.cons (t := 15) rfl (fun h => entW h) .nil) (op_not_b rfl) rfl ?_
  refine lx (op_pick_or rfl rfl) rfl ?_
  refine lx (op_move rfl) rfl ?_
  refine lxs rfl rfl rfl guard_eq (.cons (t := 1) rfl (fun _ => Ent.refl _) .nil) (op_fieldAddr rfl fl46_3 sz3) rfl ?_
  refine lxs rfl rfl rfl guard_eq (.cons (t := 19) rfl (fun h => entW h) .nil) (op_bload_one (m := 1) rfl rfl ag3 rfl) rfl ?_
  first | refine lxs rfl rfl rfl guard_eq (.cons (t := 20) rfl (fun h => entW h) .nil) (op_call (l := [(Go.Operand.tmp 20), (Go.Operand.const (Go.Value.int Go.IntKind.i64 0)), (Go.Operand.const (Go.Value.int Go.IntKind.i64 1000000000))]) (within_ok e.got 0 1000000000) (.cons rfl (.cons rfl (.cons rfl .nil))) fn31) rfl ?_ | refine lxs rfl rfl rfl guard_eq (.cons (t := 20) rfl (fun h => entW h) .nil) (op_call (l := [(Go.Operand.tmp 20), (Go.Operand.const (Go.Value.int Go.IntKind.i64 0)), (Go.Operand.const (Go.Value.int Go.IntKind.i64 1000000000))]) (within_ok e.got 0 1000000000) (.ent rfl (by repeat (first | exact Ents.nil | refine Ents.cons ?_ ?_ | refine Ent.tup ?_ | refine Ent.agg ?_ | exact Ent.row _ _ _ _ | exact Ent.nil _ _ | exact Ent.func _ | exact Ent.refl _ | exact Ent.of_eq rfl | refine Ent.cells ?_)) (.ent rfl (by repeat (first | exact Ents.nil | refine Ents.cons ?_ ?_ | refine Ent.tup ?_ | refine Ent.agg ?_ | exact Ent.row _ _ _ _ | exact Ent.nil _ _ | exact Ent.func _ | exact Ent.refl _ | exact Ent.of_eq rfl | refine Ent.cells ?_)) (.ent rfl (by repeat (first | exact Ents.nil | refine Ents.cons ?_ ?_ | refine Ent.tup ?_ | refine Ent.agg ?_ | exact Ent.row _ _ _ _ | exact Ent.nil _ _ | exact Ent.func _ | exact Ent.refl _ | exact Ent.of_eq rfl | refine Ent.cells ?_)) .nil))) fn31) rfl ?_
  first | refine lxs rfl rfl rfl guard_eq (.cons (t := 21) rfl (fun h => entW h) .nil) (op_not rfl) rfl ?_ | refine lxs rfl rfl rfl guard_eq (.cons (t := 21) rfl (fun h => entW h) .nil) (op_not_b rfl) rfl ?_
  refine lx (op_pick_or rfl rfl) rfl ?_
  refine lx (op_move rfl) rfl ?_
  refine lxs rfl rfl rfl guard_eq (.cons (t := 1) rfl (fun _ => Ent.refl _) .nil) (op_fieldAddr rfl fl46_2 sz43) rfl ?_
  refine lxs rfl rfl rfl guard_eq (.cons (t := 25) rfl (fun h => entW h) .nil) (op_bload_one (m := 1) rfl rfl ag43 rfl) rfl ?_
  first | refine lxs rfl rfl rfl guard_eq (.cons (t := 26) rfl (fun h => entW h) .nil) (op_len rfl el43) rfl ?_ | refine lxs rfl rfl rfl guard_eq (.cons (t := 26) rfl (fun h => entW h) .nil) (op_len_row rfl el43) rfl ?_ | refine lxs rfl rfl rfl guard_eq (.cons (t := 26) rfl (fun h => entW h) .nil) (op_len_mv rfl el43) rfl ?_ | refine lxs rfl rfl rfl guard_eq (.cons (t := 26) rfl (fun h => entW h) .nil) (op_len_nil rfl el43) rfl ?_
  refine lxs rfl rfl rfl guard_eq (.cons (t := 1) rfl (fun _ => Ent.refl _) .nil) (op_fieldAddr rfl fl46_0 sz3) rfl ?_
  refine lxs rfl rfl rfl guard_eq (.cons (t := 28) rfl (fun h => entW h) .nil) (op_bload_one (m := 1) rfl rfl ag3 rfl) rfl ?_
  refine lxs rfl rfl rfl guard_eq (.cons (t := 27) rfl (fun h => entW h) (.cons (t := 29) rfl (fun h => entW h) .nil)) (op_gtr rfl rfl) rfl ?_
  refine lx (op_pick_or rfl rfl) rfl ?_
  refine lx (op_move rfl) rfl ?_
  refine lxs rfl rfl rfl guard_eq (.cons (t := 1) rfl (fun _ => Ent.refl _) .nil) (op_fieldAddr rfl fl46_1 sz3) rfl ?_
  refine lxs rfl rfl rfl guard_eq (.cons (t := 33) rfl (fun h => entW h) .nil) (op_bload_one (m := 1) rfl rfl ag3 rfl) rfl ?_
  refine lxs rfl rfl rfl guard_eq (.cons (t := 1) rfl (fun _ => Ent.refl _) .nil) (op_fieldAddr rfl fl46_2 sz43) rfl ?_
  refine lxs rfl rfl rfl guard_eq (.cons (t := 35) rfl (fun h => entW h) .nil) (op_bload_one (m := 1) rfl rfl ag43 rfl) rfl ?_
  first | refine lxs rfl rfl rfl guard_eq (.cons (t := 36) rfl (fun h => entW h) .nil) (op_len rfl el43) rfl ?_ | refine lxs rfl rfl rfl guard_eq (.cons (t := 36) rfl (fun h => entW h) .nil) (op_len_row rfl el43) rfl ?_ | refine lxs rfl rfl rfl guard_eq (.cons (t := 36) rfl (fun h => entW h) .nil) (op_len_mv rfl el43) rfl ?_ | refine lxs rfl rfl rfl guard_eq (.cons (t := 36) rfl (fun h => entW h) .nil) (op_len_nil rfl el43) rfl ?_
  refine lxs rfl rfl rfl guard_eq (.cons (t := 34) rfl (fun h => entW h) (.cons (t := 37) rfl (fun h => entW h) .nil)) (op_add_w rfl rfl) rfl ?_
  refine lxs rfl rfl rfl guard_eq (.cons (t := 38) rfl (fun h => entW h) .nil) (op_gtr rfl rfl) rfl ?_
  refine lx (op_pick_or rfl rfl) rfl ?_
  refine lx_end ⟨by kernel_rfl, ?_⟩
  refine pe_then_normal ?_
  refine tr_sub hC (.cons (t := 1) rfl (.cons (t := 40) rfl .nil)) (.cons (t := 1) rfl .nil) rfl ?_
  refine tr_cond rfl (fun h40 => ?_) (fun h40 => ?_)
  · (try simp only [Bool.and_eq_true, Bool.or_eq_true, Bool.and_eq_false_iff, Bool.or_eq_false_iff, decide_eq_true_eq, decide_eq_false_iff_not, Bool.not_eq_true', Bool.not_eq_false', List.length_map, ne_eq, Decidable.not_not, Int.not_lt, Int.not_le] at h40)
    have h := valid_no (head_bad (e := e) (wrap_or _) (by omega))
    refine tr_seq ?_
    refine tr_region (fun N2 hN => ?_)
    refine lx (op_assign rfl) rfl ?_
    refine lx_end ⟨by kernel_rfl, ?_⟩
    refine pe_then_normal ?_
    refine tr_sub hC (.cons (t := 2) rfl .nil) .nil rfl ?_
    refine tr_ret ?_
    refine pe_then_ret ?_
    refine pe_ret1 rfl hO rfl (.tmp rfl .nil) ?_
    rw [h]
    repeat (first | exact Ents.nil | refine Ents.cons ?_ ?_ | refine Ent.tup ?_ | refine Ent.agg ?_ | exact Ent.row _ _ _ _ | exact Ent.nil _ _ | exact Ent.func _ | exact Ent.refl _ | exact Ent.of_eq rfl | refine Ent.cells ?_)
  · (try simp only [Bool.and_eq_true, Bool.or_eq_true, Bool.and_eq_false_iff, Bool.or_eq_false_iff, decide_eq_true_eq, decide_eq_false_iff_not, Bool.not_eq_true', Bool.not_eq_false', List.length_map, ne_eq, Decidable.not_not, Int.not_lt, Int.not_le] at h40)
    have hh : headOK e := by
      have hw := wrap_or (e.base + (e.sent.length : Int))
      unfold headOK
      omega
    have hv := valid_yes hh
    unfold headOK at hh
    refine tr_skip ?_
    refine pe_then_normal ?_
    refine tr_sub hC (.cons (t := 1) rfl .nil) (.cons (t := 1) rfl .nil) rfl ?_
    refine tr_seq ?_
    refine tr_seq ?_
    refine tr_region (fun N3 hN => ?_)
    refine lx (op_fieldAddr rfl fl46_2 sz43) rfl ?_
    refine lx (op_bload_one (m := 1) rfl rfl ag43 rfl) rfl ?_
    first | refine lx (op_len rfl el43) rfl ?_ | refine lx (op_len_row rfl el43) rfl ?_ | refine lx (op_len_mv rfl el43) rfl ?_ | refine lx (op_len_nil rfl el43) rfl ?_
    refine lx (op_move rfl) rfl ?_
    refine lx_end ⟨by kernel_rfl, ?_⟩
    refine pe_then_normal ?_
    refine tr_sub hC (.cons (t := 1) rfl (.cons (t := 42) rfl (.cons (t := 43) rfl (.cons (t := 44) rfl .nil)))) (.cons (t := 1) rfl .nil) rfl ?_
    refine tr_block ?_
    refine tr_loopK (α := {zz : Nat // zz ≤ e.sent.length ∧ (e.sent.drop zz).all lenOK = e.sent.all lenOK}) (⟨(0), Nat.zero_le _, rfl⟩) (fun zz => [(44, eqP (.int .i64 (zz.1 : Int)))]) (fun zz => []) (fun zz => e.sent.length - zz.1) hC (.cons (t := 1) rfl (.cons (t := 42) rfl (.cons (t := 43) rfl .nil))) (.cons (t := 1) rfl .nil) rfl ?_ ?_ (fun zz => ?_)
    · try dsimp only [List.cons_append, List.nil_append]
      first | refine SubF.cons rfl ?_ | (refine SubF.ent rfl ?_ ?_; · repeat (first | exact Ents.nil | refine Ents.cons ?_ ?_ | refine Ent.tup ?_ | refine Ent.agg ?_ | exact Ent.row _ _ _ _ | exact Ent.nil _ _ | exact Ent.func _ | exact Ent.refl _ | exact Ent.of_eq rfl | refine Ent.cells ?_))
      exact SubF.nil
    · try dsimp only [List.cons_append, List.nil_append]
      repeat (first | exact SubL.nil | refine SubL.cons rfl ?_)
    · obtain ⟨k, hk1, hk2⟩ := zz
      dsimp only [List.cons_append, List.nil_append]
      refine tr_seq ?_
      refine tr_region (fun N4 hN => ?_)
      refine lx (op_lss rfl rfl) rfl ?_
      refine lx_end ⟨by kernel_rfl, ?_⟩
      refine pe_then_normal ?_
      refine tr_sub hC (.cons (t := 1) rfl (.cons (t := 42) rfl (.cons (t := 43) rfl (.cons (t := 44) rfl (.cons (t := 45) rfl .nil))))) (.cons (t := 1) rfl .nil) rfl ?_
      refine tr_seq ?_
      refine tr_cond rfl (fun h45 => ?_) (fun h45 => ?_)
      · (try simp only [Bool.and_eq_true, Bool.or_eq_true, Bool.and_eq_false_iff, Bool.or_eq_false_iff, decide_eq_true_eq, decide_eq_false_iff_not, Bool.not_eq_true', Bool.not_eq_false', List.length_map, ne_eq, Decidable.not_not, Int.not_lt, Int.not_le] at h45)
        refine tr_skip ?_
        refine pe_then_normal ?_
        refine tr_sub hC (.cons (t := 1) rfl (.cons (t := 42) rfl (.cons (t := 43) rfl (.cons (t := 44) rfl .nil)))) (.cons (t := 1) rfl .nil) rfl ?_
        refine tr_seq ?_
        refine tr_block ?_
        refine tr_seq ?_
        refine tr_region (fun N5 hN => ?_)
        refine lx (op_index rfl rfl el43 sz25 rfl (List.getElem?_eq_getElem (by omega : k < e.sent.length))) rfl ?_
        first | refine lx (op_load_one rfl ag25 rfl) rfl ?_ | refine lx (op_bload_one (m := 1) rfl rfl ag25 rfl) rfl ?_
        refine lx (op_assign rfl) rfl ?_
        refine lx_end ⟨by kernel_rfl, ?_⟩
        refine pe_then_normal ?_
        refine tr_sub hC (.cons (t := 1) rfl (.cons (t := 4) rfl (.cons (t := 42) rfl (.cons (t := 43) rfl (.cons (t := 44) rfl .nil))))) (.cons (t := 1) rfl .nil) rfl ?_
        refine tr_seq ?_
        refine tr_region (fun N6 hN => ?_)
        refine lx (op_move rfl) rfl ?_
        first | refine lx (op_len rfl el25) rfl ?_ | refine lx (op_len_row rfl el25) rfl ?_ | refine lx (op_len_mv rfl el25) rfl ?_ | refine lx (op_len_nil rfl el25) rfl ?_
        refine lx (op_gtr rfl rfl) rfl ?_
        refine lx_end ⟨by kernel_rfl, ?_⟩
        refine pe_then_normal ?_
        refine tr_sub hC (.cons (t := 1) rfl (.cons (t := 42) rfl (.cons (t := 43) rfl (.cons (t := 44) rfl (.cons (t := 50) rfl .nil))))) (.cons (t := 1) rfl .nil) rfl ?_
        refine tr_cond rfl (fun h50 => ?_) (fun h50 => ?_)
        · (try simp only [Bool.and_eq_true, Bool.or_eq_true, Bool.and_eq_false_iff, Bool.or_eq_false_iff, decide_eq_true_eq, decide_eq_false_iff_not, Bool.not_eq_true', Bool.not_eq_false', List.length_map, ne_eq, Decidable.not_not, Int.not_lt, Int.not_le] at h50)
          have h : validF e = false := by rw [hv, ← hk2, len_no (by omega) (by omega)]; rfl
          refine tr_seq ?_
          refine tr_region (fun N7 hN => ?_)
          refine lx (op_assign rfl) rfl ?_
          refine lx_end ⟨by kernel_rfl, ?_⟩
          refine pe_then_normal ?_
          refine tr_sub hC (.cons (t := 2) rfl .nil) .nil rfl ?_
          refine tr_ret ?_
          refine pe_block_ret ?_
          refine pe_then_ret ?_
          refine pe_then_ret ?_
          refine pe_block_ret ?_
          refine pe_then_ret ?_
          refine pe_ret1 rfl hO rfl (.tmp rfl .nil) ?_
          rw [h]
          repeat (first | exact Ents.nil | refine Ents.cons ?_ ?_ | refine Ent.tup ?_ | refine Ent.agg ?_ | exact Ent.row _ _ _ _ | exact Ent.nil _ _ | exact Ent.func _ | exact Ent.refl _ | exact Ent.of_eq rfl | refine Ent.cells ?_)
        · (try simp only [Bool.and_eq_true, Bool.or_eq_true, Bool.and_eq_false_iff, Bool.or_eq_false_iff, decide_eq_true_eq, decide_eq_false_iff_not, Bool.not_eq_true', Bool.not_eq_false', List.length_map, ne_eq, Decidable.not_not, Int.not_lt, Int.not_le] at h50)
          refine tr_skip ?_
          refine pe_block_normal ?_
          refine pe_then_normal ?_
          refine tr_sub hC (.cons (t := 1) rfl (.cons (t := 42) rfl (.cons (t := 43) rfl (.cons (t := 44) rfl .nil)))) (.cons (t := 1) rfl .nil) rfl ?_
          refine tr_region (fun N8 hN => ?_)
          refine lx (op_add rfl rfl (by omega)) rfl ?_
          refine lx (op_move rfl) rfl ?_
          refine lx_end ⟨by kernel_rfl, ?_⟩
          refine pe_round (⟨(k + 1), by omega, (len_yes (by omega) (by omega)).trans hk2⟩) (by dsimp only; omega) (pe_st hC ?_ ?_ rfl)
          · try dsimp only [List.cons_append, List.nil_append]
            first | refine SubF.cons rfl ?_ | (refine SubF.ent rfl ?_ ?_; · repeat (first | exact Ents.nil | refine Ents.cons ?_ ?_ | refine Ent.tup ?_ | refine Ent.agg ?_ | exact Ent.row _ _ _ _ | exact Ent.nil _ _ | exact Ent.func _ | exact Ent.refl _ | exact Ent.of_eq rfl | refine Ent.cells ?_))
            first | refine SubF.cons rfl ?_ | (refine SubF.ent rfl ?_ ?_; · repeat (first | exact Ents.nil | refine Ents.cons ?_ ?_ | refine Ent.tup ?_ | refine Ent.agg ?_ | exact Ent.row _ _ _ _ | exact Ent.nil _ _ | exact Ent.func _ | exact Ent.refl _ | exact Ent.of_eq rfl | refine Ent.cells ?_))
            first | refine SubF.cons rfl ?_ | (refine SubF.ent rfl ?_ ?_; · repeat (first | exact Ents.nil | refine Ents.cons ?_ ?_ | refine Ent.tup ?_ | refine Ent.agg ?_ | exact Ent.row _ _ _ _ | exact Ent.nil _ _ | exact Ent.func _ | exact Ent.refl _ | exact Ent.of_eq rfl | refine Ent.cells ?_))
            first | refine SubF.cons rfl ?_ | (refine SubF.ent rfl ?_ ?_; · repeat (first | exact Ents.nil | refine Ents.cons ?_ ?_ | refine Ent.tup ?_ | refine Ent.agg ?_ | exact Ent.row _ _ _ _ | exact Ent.nil _ _ | exact Ent.func _ | exact Ent.refl _ | exact Ent.of_eq rfl | refine Ent.cells ?_))
            exact SubF.nil
          · try dsimp only [List.cons_append, List.nil_append]
            repeat (first | exact SubL.nil | refine SubL.cons rfl ?_)
      · (try simp only [Bool.and_eq_true, Bool.or_eq_true, Bool.and_eq_false_iff, Bool.or_eq_false_iff, decide_eq_true_eq, decide_eq_false_iff_not, Bool.not_eq_true', Bool.not_eq_false', List.length_map, ne_eq, Decidable.not_not, Int.not_lt, Int.not_le] at h45)
        obtain rfl : k = e.sent.length := by omega
        have hsent : e.sent.all lenOK = true := by rw [← hk2]; exact len_end (Nat.le_refl _)
        refine tr_exit ?_
        refine pe_then_exit ?_
        refine pe_then_exit ?_
        refine pe_block_eq ?_
        refine pe_then_normal ?_
        refine tr_sub hC (.cons (t := 1) rfl .nil) (.cons (t := 1) rfl .nil) rfl ?_
        refine tr_seq ?_
        refine tr_region (fun N9 hN => ?_)
        refine lx (op_fieldAddr rfl fl46_3 sz3) rfl ?_
        refine lx (op_bload_one (m := 1) rfl rfl ag3 rfl) rfl ?_
        refine lx (op_add rfl rfl (by omega)) rfl ?_
        refine lx (op_assign rfl) rfl ?_
        refine lx_end ⟨by kernel_rfl, ?_⟩
        refine pe_then_normal ?_
        refine tr_sub hC (.cons (t := 1) rfl (.cons (t := 5) rfl .nil)) (.cons (t := 1) rfl .nil) rfl ?_
        refine tr_seq ?_
        refine tr_seq ?_
        refine tr_region (fun N10 hN => ?_)
        refine lx (op_fieldAddr rfl fl46_4 sz44) rfl ?_
        refine lx (op_bload_one (m := 1) rfl rfl ag44 rfl) rfl ?_
        first | refine lx (op_len rfl el44) rfl ?_ | refine lx (op_len_row rfl el44) rfl ?_ | refine lx (op_len_mv rfl el44) rfl ?_ | refine lx (op_len_nil rfl el44) rfl ?_
        refine lx (op_move rfl) rfl ?_
        refine lx_end ⟨by kernel_rfl, ?_⟩
        refine pe_then_normal ?_
        refine tr_sub hC (.cons (t := 1) rfl (.cons (t := 5) rfl (.cons (t := 56) rfl (.cons (t := 57) rfl (.cons (t := 58) rfl .nil))))) (.cons (t := 1) rfl .nil) rfl ?_
        refine tr_block ?_
        refine tr_loopK (α := {zz : Nat × Int // zz.1 ≤ e.early.length ∧ (e.got + 2 + (zz.1 : Int) ≤ zz.2 ∧ (zz.1 = 0 ∨ zz.2 ≤ 1000000001)) ∧ earlyOK zz.2 (hiF e) (e.early.drop zz.1) = earlyOK (e.got + 2) (hiF e) e.early}) (⟨(0, e.got + 2), Nat.zero_le _, by simp, rfl⟩) (fun zz => [(5, eqP (.int .i64 zz.1.2)), (58, eqP (.int .i64 (zz.1.1 : Int)))]) (fun zz => []) (fun zz => e.early.length - zz.1.1) hC (.cons (t := 1) rfl (.cons (t := 56) rfl (.cons (t := 57) rfl .nil))) (.cons (t := 1) rfl .nil) rfl ?_ ?_ (fun zz => ?_)
        · try dsimp only [List.cons_append, List.nil_append]
          first | refine SubF.cons rfl ?_ | (refine SubF.ent rfl ?_ ?_; · repeat (first | exact Ents.nil | refine Ents.cons ?_ ?_ | refine Ent.tup ?_ | refine Ent.agg ?_ | exact Ent.row _ _ _ _ | exact Ent.nil _ _ | exact Ent.func _ | exact Ent.refl _ | exact Ent.of_eq rfl | refine Ent.cells ?_))
          first | refine SubF.cons rfl ?_ | (refine SubF.ent rfl ?_ ?_; · repeat (first | exact Ents.nil | refine Ents.cons ?_ ?_ | refine Ent.tup ?_ | refine Ent.agg ?_ | exact Ent.row _ _ _ _ | exact Ent.nil _ _ | exact Ent.func _ | exact Ent.refl _ | exact Ent.of_eq rfl | refine Ent.cells ?_))
          exact SubF.nil
        · try dsimp only [List.cons_append, List.nil_append]
          repeat (first | exact SubL.nil | refine SubL.cons rfl ?_)
        · obtain ⟨⟨j, next⟩, hj1, hj3, hj2⟩ := zz
          try dsimp only at hj1
          try dsimp only at hj3
          try dsimp only at hj2
          dsimp only [List.cons_append, List.nil_append]
          refine tr_seq ?_
          refine tr_region (fun N11 hN => ?_)
          refine lx (op_lss rfl rfl) rfl ?_
          refine lx_end ⟨by kernel_rfl, ?_⟩
          refine pe_then_normal ?_
          refine tr_sub hC (.cons (t := 1) rfl (.cons (t := 5) rfl (.cons (t := 56) rfl (.cons (t := 57) rfl (.cons (t := 58) rfl (.cons (t := 59) rfl .nil)))))) (.cons (t := 1) rfl .nil) rfl ?_
          refine tr_seq ?_
          refine tr_cond rfl (fun h59 => ?_) (fun h59 => ?_)
          · (try simp only [Bool.and_eq_true, Bool.or_eq_true, Bool.and_eq_false_iff, Bool.or_eq_false_iff, decide_eq_true_eq, decide_eq_false_iff_not, Bool.not_eq_true', Bool.not_eq_false', List.length_map, ne_eq, Decidable.not_not, Int.not_lt, Int.not_le] at h59)
            refine tr_skip ?_
            refine pe_then_normal ?_
            refine tr_sub hC (.cons (t := 1) rfl (.cons (t := 5) rfl (.cons (t := 56) rfl (.cons (t := 57) rfl (.cons (t := 58) rfl .nil))))) (.cons (t := 1) rfl .nil) rfl ?_
            refine tr_seq ?_
            refine tr_block ?_
            refine tr_seq ?_
            refine tr_region (fun N12 hN => ?_)
            refine lx (op_index rfl rfl el44 sz27 rfl (List.getElem?_eq_getElem (by omega : j < e.early.length))) rfl ?_
            first | refine lx (op_load_all rfl ag27 sz27) rfl ?_ | refine lx (op_load_agg rfl ag27 sz27 rfl) rfl ?_ | refine lx (op_bload (m := 1) rfl rfl ag27 sz27) rfl ?_ | refine lx (op_bload_part (m := 1) (qs := [_, _, _]) rfl rfl ag27 sz27 rfl rfl) rfl ?_
            refine lxn (op_alloc (m := 7) (k := 7) (ps := [eqP (.int .i64 0), eqP (.int .i64 0), eqP (.slice none 0 0)]) ze27 rfl rfl (by first | exact hC.low _ (by decide) | rfl)) rfl ?_
            refine lxr (op_store_all (m := 7) rfl rfl rfl (.agg rfl) sz27 rfl) rfl ?_
            refine lx_end ⟨by kernel_rfl, ?_⟩
            refine pe_then_normal ?_
            refine tr_sub hC (.cons (t := 1) rfl (.cons (t := 5) rfl (.cons (t := 7) rfl (.cons (t := 56) rfl (.cons (t := 57) rfl (.cons (t := 58) rfl .nil)))))) (.cons (t := 1) rfl (.cons (t := 7) rfl .nil)) rfl ?_
            refine tr_seq ?_
            refine tr_seq ?_
            refine tr_region (fun N13 hN => ?_)
            refine lx (op_fieldAddr rfl fl27_0 sz3) rfl ?_
            refine lx (op_bload_one (m := 7) rfl rfl ag3 rfl) rfl ?_
            refine lx (op_move rfl) rfl ?_
            refine lx (op_fieldAddr rfl fl46_3 sz3) rfl ?_
            refine lx (op_bload_one (m := 1) rfl rfl ag3 rfl) rfl ?_
            refine lx (op_fieldAddr rfl fl46_0 sz3) rfl ?_
            refine lx (op_bload_one (m := 1) rfl rfl ag3 rfl) rfl ?_
            refine lx (op_add rfl rfl (by omega)) rfl ?_
            refine lx (op_min rfl rfl) rfl ?_
            first | refine lx (op_call (l := [(Go.Operand.tmp 63), (Go.Operand.tmp 64), (Go.Operand.tmp 70)]) (within_ok e.early[j].seq next (min (e.got + e.window) 1000000000)) (.cons rfl (.cons rfl (.cons rfl .nil))) fn31) rfl ?_ | refine lx (op_call (l := [(Go.Operand.tmp 63), (Go.Operand.tmp 64), (Go.Operand.tmp 70)]) (within_ok e.early[j].seq next (min (e.got + e.window) 1000000000)) (.ent rfl (by repeat (first | exact Ents.nil | refine Ents.cons ?_ ?_ | refine Ent.tup ?_ | refine Ent.agg ?_ | exact Ent.row _ _ _ _ | exact Ent.nil _ _ | exact Ent.func _ | exact Ent.refl _ | exact Ent.of_eq rfl | refine Ent.cells ?_)) (.ent rfl (by repeat (first | exact Ents.nil | refine Ents.cons ?_ ?_ | refine Ent.tup ?_ | refine Ent.agg ?_ | exact Ent.row _ _ _ _ | exact Ent.nil _ _ | exact Ent.func _ | exact Ent.refl _ | exact Ent.of_eq rfl | refine Ent.cells ?_)) (.ent rfl (by repeat (first | exact Ents.nil | refine Ents.cons ?_ ?_ | refine Ent.tup ?_ | refine Ent.agg ?_ | exact Ent.row _ _ _ _ | exact Ent.nil _ _ | exact Ent.func _ | exact Ent.refl _ | exact Ent.of_eq rfl | refine Ent.cells ?_)) .nil))) fn31) rfl ?_
            first | refine lx (op_not rfl) rfl ?_ | refine lx (op_not_b rfl) rfl ?_
            refine lx (op_move rfl) rfl ?_
            refine lxs rfl rfl rfl guard_eq (.cons (t := 7) rfl (fun _ => Ent.refl _) .nil) (op_fieldAddr rfl fl27_1 sz3) rfl ?_
            refine lxs rfl rfl rfl guard_eq (.cons (t := 74) rfl (fun h => entW h) .nil) (op_bload_one (m := 7) rfl rfl ag3 rfl) rfl ?_
            refine lxs rfl rfl rfl guard_eq (.cons (t := 75) rfl (fun h => entW h) .nil) (op_neq rfl rfl) rfl ?_
            refine lx (op_pick_or rfl rfl) rfl ?_
            refine lx (op_move rfl) rfl ?_
            refine lxs rfl rfl rfl guard_eq (.cons (t := 7) rfl (fun _ => Ent.refl _) .nil) (op_fieldAddr rfl fl27_2 sz25) rfl ?_
            refine lxs rfl rfl rfl guard_eq (.cons (t := 79) rfl (fun h => entW h) .nil) (op_bload_one (m := 7) rfl rfl ag25 rfl) rfl ?_
            first | refine lxs rfl rfl rfl guard_eq (.cons (t := 80) rfl (fun h => entW h) .nil) (op_len rfl el25) rfl ?_ | refine lxs rfl rfl rfl guard_eq (.cons (t := 80) rfl (fun h => entW h) .nil) (op_len_row rfl el25) rfl ?_ | refine lxs rfl rfl rfl guard_eq (.cons (t := 80) rfl (fun h => entW h) .nil) (op_len_mv rfl el25) rfl ?_ | refine lxs rfl rfl rfl guard_eq (.cons (t := 80) rfl (fun h => entW h) .nil) (op_len_nil rfl el25) rfl ?_
            refine lxs rfl rfl rfl guard_eq (.cons (t := 81) rfl (fun h => entW h) .nil) (op_gtr rfl rfl) rfl ?_
            refine lx (op_pick_or rfl rfl) rfl ?_
            refine lx_end ⟨by kernel_rfl, ?_⟩
            refine pe_then_normal ?_
            refine tr_sub hC (.cons (t := 1) rfl (.cons (t := 7) rfl (.cons (t := 56) rfl (.cons (t := 57) rfl (.cons (t := 58) rfl (.cons (t := 83) rfl .nil)))))) (.cons (t := 1) rfl (.cons (t := 7) rfl .nil)) rfl ?_
            refine tr_cond rfl (fun h83 => ?_) (fun h83 => ?_)
            · (try simp only [Bool.and_eq_true, Bool.or_eq_true, Bool.and_eq_false_iff, Bool.or_eq_false_iff, decide_eq_true_eq, decide_eq_false_iff_not, Bool.not_eq_true', Bool.not_eq_false', List.length_map, ne_eq, Decidable.not_not, Int.not_lt, Int.not_le] at h83)
              have h : validF e = false := by rw [hv, hsent, ← hj2]; unfold hiF; rw [early_no (by omega) (by omega)]; rfl
              refine tr_seq ?_
              refine tr_region (fun N14 hN => ?_)
              refine lx (op_assign rfl) rfl ?_
              refine lx_end ⟨by kernel_rfl, ?_⟩
              refine pe_then_normal ?_
              refine tr_sub hC (.cons (t := 2) rfl .nil) .nil rfl ?_
              refine tr_ret ?_
              refine pe_then_ret ?_
              refine pe_block_ret ?_
              refine pe_then_ret ?_
              refine pe_then_ret ?_
              refine pe_block_ret ?_
              refine pe_then_ret ?_
              refine pe_ret1 rfl hO rfl (.tmp rfl .nil) ?_
              rw [h]
              repeat (first | exact Ents.nil | refine Ents.cons ?_ ?_ | refine Ent.tup ?_ | refine Ent.agg ?_ | exact Ent.row _ _ _ _ | exact Ent.nil _ _ | exact Ent.func _ | exact Ent.refl _ | exact Ent.of_eq rfl | refine Ent.cells ?_)
            · (try simp only [Bool.and_eq_true, Bool.or_eq_true, Bool.and_eq_false_iff, Bool.or_eq_false_iff, decide_eq_true_eq, decide_eq_false_iff_not, Bool.not_eq_true', Bool.not_eq_false', List.length_map, ne_eq, Decidable.not_not, Int.not_lt, Int.not_le] at h83)
              have hok : next ≤ e.early[j].seq ∧ e.early[j].seq ≤ hiF e ∧ e.early[j].ack = 0 ∧ e.early[j].data.length ≤ 1000 := by unfold hiF; omega
              have hle : e.early[j].seq ≤ 1000000000 := by omega
              refine tr_skip ?_
              refine pe_then_normal ?_
              refine tr_sub hC (.cons (t := 1) rfl (.cons (t := 7) rfl (.cons (t := 56) rfl (.cons (t := 57) rfl (.cons (t := 58) rfl .nil))))) (.cons (t := 1) rfl (.cons (t := 7) rfl .nil)) rfl ?_
              refine tr_region (fun N15 hN => ?_)
              refine lx (op_fieldAddr rfl fl27_0 sz3) rfl ?_
              refine lx (op_bload_one (m := 7) rfl rfl ag3 rfl) rfl ?_
              refine lx (op_add rfl rfl (by omega)) rfl ?_
              refine lx (op_assign rfl) rfl ?_
              refine lx_end ⟨by kernel_rfl, ?_⟩
              refine pe_block_normal ?_
              refine pe_then_normal ?_
              refine tr_sub hC (.cons (t := 1) rfl (.cons (t := 5) rfl (.cons (t := 56) rfl (.cons (t := 57) rfl (.cons (t := 58) rfl .nil))))) (.cons (t := 1) rfl .nil) rfl ?_
              refine tr_region (fun N16 hN => ?_)
              refine lx (op_add rfl rfl (by omega)) rfl ?_
              refine lx (op_move rfl) rfl ?_
              refine lx_end ⟨by kernel_rfl, ?_⟩
              refine pe_round (⟨(j + 1, e.early[j].seq + 1), by dsimp only; omega, by dsimp only; omega, (early_yes (by omega) hok).trans hj2⟩) (by dsimp only; omega) (pe_st hC ?_ ?_ rfl)
              · try dsimp only [List.cons_append, List.nil_append]
                first | refine SubF.cons rfl ?_ | (refine SubF.ent rfl ?_ ?_; · repeat (first | exact Ents.nil | refine Ents.cons ?_ ?_ | refine Ent.tup ?_ | refine Ent.agg ?_ | exact Ent.row _ _ _ _ | exact Ent.nil _ _ | exact Ent.func _ | exact Ent.refl _ | exact Ent.of_eq rfl | refine Ent.cells ?_))
                first | refine SubF.cons rfl ?_ | (refine SubF.ent rfl ?_ ?_; · repeat (first | exact Ents.nil | refine Ents.cons ?_ ?_ | refine Ent.tup ?_ | refine Ent.agg ?_ | exact Ent.row _ _ _ _ | exact Ent.nil _ _ | exact Ent.func _ | exact Ent.refl _ | exact Ent.of_eq rfl | refine Ent.cells ?_))
                first | refine SubF.cons rfl ?_ | (refine SubF.ent rfl ?_ ?_; · repeat (first | exact Ents.nil | refine Ents.cons ?_ ?_ | refine Ent.tup ?_ | refine Ent.agg ?_ | exact Ent.row _ _ _ _ | exact Ent.nil _ _ | exact Ent.func _ | exact Ent.refl _ | exact Ent.of_eq rfl | refine Ent.cells ?_))
                first | refine SubF.cons rfl ?_ | (refine SubF.ent rfl ?_ ?_; · repeat (first | exact Ents.nil | refine Ents.cons ?_ ?_ | refine Ent.tup ?_ | refine Ent.agg ?_ | exact Ent.row _ _ _ _ | exact Ent.nil _ _ | exact Ent.func _ | exact Ent.refl _ | exact Ent.of_eq rfl | refine Ent.cells ?_))
                first | refine SubF.cons rfl ?_ | (refine SubF.ent rfl ?_ ?_; · repeat (first | exact Ents.nil | refine Ents.cons ?_ ?_ | refine Ent.tup ?_ | refine Ent.agg ?_ | exact Ent.row _ _ _ _ | exact Ent.nil _ _ | exact Ent.func _ | exact Ent.refl _ | exact Ent.of_eq rfl | refine Ent.cells ?_))
                exact SubF.nil
              · try dsimp only [List.cons_append, List.nil_append]
                repeat (first | exact SubL.nil | refine SubL.cons rfl ?_)
          · (try simp only [Bool.and_eq_true, Bool.or_eq_true, Bool.and_eq_false_iff, Bool.or_eq_false_iff, decide_eq_true_eq, decide_eq_false_iff_not, Bool.not_eq_true', Bool.not_eq_false', List.length_map, ne_eq, Decidable.not_not, Int.not_lt, Int.not_le] at h59)
            have h : validF e = true := by rw [hv, hsent, ← hj2, early_end (by omega)]; rfl
            refine tr_exit ?_
            refine pe_then_exit ?_
            refine pe_then_exit ?_
            refine pe_block_eq ?_
            refine pe_then_normal ?_
            refine tr_sub hC .nil .nil rfl ?_
            refine tr_seq ?_
            refine tr_region (fun N17 hN => ?_)
            refine lx (op_assign rfl) rfl ?_
            refine lx_end ⟨by kernel_rfl, ?_⟩
            refine pe_then_normal ?_
            refine tr_sub hC (.cons (t := 2) rfl .nil) .nil rfl ?_
            refine tr_ret ?_
            refine pe_ret1 rfl hO rfl (.tmp rfl .nil) ?_
            rw [h]
            repeat (first | exact Ents.nil | refine Ents.cons ?_ ?_ | refine Ent.tup ?_ | refine Ent.agg ?_ | exact Ent.row _ _ _ _ | exact Ent.nil _ _ | exact Ent.func _ | exact Ent.refl _ | exact Ent.of_eq rfl | refine Ent.cells ?_)
end Go.Proofs.Ytgdhogmghffbaaa


set_option linter.unusedVariables false
set_option linter.unusedSimpArgs false
namespace Go.Proofs.Ytgdhogmghffbaaa
open Go.AL Go.Wr Go.RowKit
theorem fl41_1 : fldB Try.prog 41 1 = some (1, 3) := by kernel_rfl
theorem fl41_2 : fldB Try.prog 41 2 = some (2, 3) := by kernel_rfl
set_option maxHeartbeats 1000000 in
theorem rValid_ok (e : RE) : FnP Try.prog 23 [aggP e.ps] (eqP (.bool (validF e.to))) := by
  have e1 : e.to.window = e.window := rfl
  have e2 : e.to.base = e.base := rfl
  have e3 : e.to.got = e.got := rfl
  have e4 : e.to.sent.length = e.sent.length := e.to_sent
  have e5 : e.to.sent = e.sent.map byL := rfl
  have e6 : e.to.early = e.early.map RF.to := rfl
  have e7 : (e.early.map RF.to).length = e.early.length := List.length_map ..
  refine fn_pure' Try.func23 rfl Try.ntmps23 rfl ?_
  intro σ0 M ex Rf R hC hO
  simp only [frameOf, tokOf]
  refine tr_seq ?_
  refine tr_region (fun N0 hN => ?_)
  refine lxn (op_box (m := 1) (k := 1) rfl (.agg rfl) (by first | exact hC.low _ (by decide) | rfl)) rfl ?_
  refine lx (op_assign rfl) rfl ?_
  refine lx_end ⟨by kernel_rfl, ?_⟩
  refine pe_then_normal ?_
  refine tr_sub hC (.cons (t := 1) rfl .nil) (.cons (t := 1) rfl .nil) rfl ?_
  refine tr_seq ?_
  refine tr_seq ?_
  refine tr_region (fun N1 hN => ?_)
  refine lx (op_fieldAddr rfl fl41_0 sz3) rfl ?_
  refine lx (op_bload_one (m := 1) rfl rfl ag3 rfl) rfl ?_
  refine lx (op_lss rfl rfl) rfl ?_
  refine lx (op_move rfl) rfl ?_
  refine lxs rfl rfl rfl guard_eq (.cons (t := 1) rfl (fun _ => Ent.refl _) .nil) (op_fieldAddr rfl fl41_0 sz3) rfl ?_
  refine lxs rfl rfl rfl guard_eq (.cons (t := 10) rfl (fun h => entW h) .nil) (op_bload_one (m := 1) rfl rfl ag3 rfl) rfl ?_
  refine lxs rfl rfl rfl guard_eq (.cons (t := 11) rfl (fun h => entW h) .nil) (op_gtr rfl rfl) rfl ?_
  refine lx (op_pick_or rfl rfl) rfl ?_
  refine lx (op_move rfl) rfl ?_
  refine lxs rfl rfl rfl guard_eq (.cons (t := 1) rfl (fun _ => Ent.refl _) .nil) (op_fieldAddr rfl fl41_1 sz3) rfl ?_
  refine lxs rfl rfl rfl guard_eq (.cons (t := 15) rfl (fun h => entW h) .nil) (op_bload_one (m := 1) rfl rfl ag3 rfl) rfl ?_
  refine lxs rfl rfl rfl guard_eq (.cons (t := 16) rfl (fun h => entW h) .nil) (op_lss rfl rfl) rfl ?_
  refine lx (op_pick_or rfl rfl) rfl ?_
  refine lx (op_move rfl) rfl ?_
  refine lxs rfl rfl rfl guard_eq (.cons (t := 1) rfl (fun _ => Ent.refl _) .nil) (op_fieldAddr rfl fl41_1 sz3) rfl ?_
  refine lxs rfl rfl rfl guard_eq (.cons (t := 20) rfl (fun h => entW h) .nil) (op_bload_one (m := 1) rfl rfl ag3 rfl) rfl ?_
  refine lxs rfl rfl rfl guard_eq (.cons (t := 21) rfl (fun h => entW h) .nil) (op_gtr rfl rfl) rfl ?_
  refine lx (op_pick_or rfl rfl) rfl ?_
  refine lx (op_move rfl) rfl ?_
  refine lxs rfl rfl rfl guard_eq (.cons (t := 1) rfl (fun _ => Ent.refl _) .nil) (op_fieldAddr rfl fl41_2 sz3) rfl ?_
  refine lxs rfl rfl rfl guard_eq (.cons (t := 25) rfl (fun h => entW h) .nil) (op_bload_one (m := 1) rfl rfl ag3 rfl) rfl ?_
  refine lxs rfl rfl rfl guard_eq (.cons (t := 26) rfl (fun h => entW h) .nil) (op_lss rfl rfl) rfl ?_
  refine lx (op_pick_or rfl rfl) rfl ?_
  refine lx (op_move rfl) rfl ?_
  refine lxs rfl rfl rfl guard_eq (.cons (t := 1) rfl (fun _ => Ent.refl _) .nil) (op_fieldAddr rfl fl41_2 sz3) rfl ?_
  refine lxs rfl rfl rfl guard_eq (.cons (t := 30) rfl (fun h => entW h) .nil) (op_bload_one (m := 1) rfl rfl ag3 rfl) rfl ?_
  refine lxs rfl rfl rfl guard_eq (.cons (t := 31) rfl (fun h => entW h) .nil) (op_gtr rfl rfl) rfl ?_
  refine lx (op_pick_or rfl rfl) rfl ?_
  refine lx (op_move rfl) rfl ?_
  refine lxs rfl rfl rfl guard_eq (.cons (t := 1) rfl (fun _ => Ent.refl _) .nil) (op_fieldAddr rfl fl41_3 sz38) rfl ?_
  refine lxs rfl rfl rfl guard_eq (.cons (t := 35) rfl (fun h => entW h) .nil) (op_bload_one (m := 1) rfl rfl ag38 rfl) rfl ?_
  first | refine lxs rfl rfl rfl guard_eq (.cons (t := 36) rfl (fun h => entW h) .nil) (op_len rfl el38) rfl ?_ | refine lxs rfl rfl rfl guard_eq (.cons (t := 36) rfl (fun h => entW h) .nil) (op_len_row rfl el38) rfl ?_ | refine lxs rfl rfl rfl guard_eq (.cons (t := 36) rfl (fun h => entW h) .nil) (op_len_mv rfl el38) rfl ?_ | refine lxs rfl rfl rfl guard_eq (.cons (t := 36) rfl (fun h => entW h) .nil) (op_len_nil rfl el38) rfl ?_
  refine lxs rfl rfl rfl guard_eq (.cons (t := 1) rfl (fun _ => Ent.refl _) .nil) (op_fieldAddr rfl fl41_0 sz3) rfl ?_
  refine lxs rfl rfl rfl guard_eq (.cons (t := 38) rfl (fun h => entW h) .nil) (op_bload_one (m := 1) rfl rfl ag3 rfl) rfl ?_
  refine lxs rfl rfl rfl guard_eq (.cons (t := 37) rfl (fun h => entW h) (.cons (t := 39) rfl (fun h => entW h) .nil)) (op_gtr rfl rfl) rfl ?_
  refine lx (op_pick_or rfl rfl) rfl ?_
  refine lx (op_move rfl) rfl ?_
  refine lxs rfl rfl rfl guard_eq (.cons (t := 1) rfl (fun _ => Ent.refl _) .nil) (op_fieldAddr rfl fl41_1 sz3) rfl ?_
  refine lxs rfl rfl rfl guard_eq (.cons (t := 43) rfl (fun h => entW h) .nil) (op_bload_one (m := 1) rfl rfl ag3 rfl) rfl ?_
  refine lxs rfl rfl rfl guard_eq (.cons (t := 1) rfl (fun _ => Ent.refl _) .nil) (op_fieldAddr rfl fl41_3 sz38) rfl ?_
  refine lxs rfl rfl rfl guard_eq (.cons (t := 45) rfl (fun h => entW h) .nil) (op_bload_one (m := 1) rfl rfl ag38 rfl) rfl ?_
  first | refine lxs rfl rfl rfl guard_eq (.cons (t := 46) rfl (fun h => entW h) .nil) (op_len rfl el38) rfl ?_ | refine lxs rfl rfl rfl guard_eq (.cons (t := 46) rfl (fun h => entW h) .nil) (op_len_row rfl el38) rfl ?_ | refine lxs rfl rfl rfl guard_eq (.cons (t := 46) rfl (fun h => entW h) .nil) (op_len_mv rfl el38) rfl ?_ | refine lxs rfl rfl rfl guard_eq (.cons (t := 46) rfl (fun h => entW h) .nil) (op_len_nil rfl el38) rfl ?_
  refine lxs rfl rfl rfl guard_eq (.cons (t := 44) rfl (fun h => entW h) (.cons (t := 47) rfl (fun h => entW h) .nil)) (op_add_w rfl rfl) rfl ?_
  refine lxs rfl rfl rfl guard_eq (.cons (t := 48) rfl (fun h => entW h) .nil) (op_gtr rfl rfl) rfl ?_
  refine lx (op_pick_or rfl rfl) rfl ?_
  refine lx_end ⟨by kernel_rfl, ?_⟩
  refine pe_then_normal ?_
  refine tr_sub hC (.cons (t := 1) rfl (.cons (t := 50) rfl .nil)) (.cons (t := 1) rfl .nil) rfl ?_
  refine tr_cond rfl (fun h50 => ?_) (fun h50 => ?_)
  · (try simp only [Bool.and_eq_true, Bool.or_eq_true, Bool.and_eq_false_iff, Bool.or_eq_false_iff, decide_eq_true_eq, decide_eq_false_iff_not, Bool.not_eq_true', Bool.not_eq_false', List.length_map, ne_eq, Decidable.not_not, Int.not_lt, Int.not_le] at h50)
    have h := valid_no (e := e.to) (head_bad (wrap_or _) (by rw [e1, e2, e3, e4]; omega))
    refine tr_seq ?_
    refine tr_region (fun N2 hN => ?_)
    refine lx (op_assign rfl) rfl ?_
    refine lx_end ⟨by kernel_rfl, ?_⟩
    refine pe_then_normal ?_
    refine tr_sub hC (.cons (t := 2) rfl .nil) .nil rfl ?_
    refine tr_ret ?_
    refine pe_then_ret ?_
    refine pe_ret1 rfl hO rfl (.tmp rfl .nil) ?_
    rw [h]
    repeat (first | exact Ents.nil | refine Ents.cons ?_ ?_ | refine Ent.tup ?_ | refine Ent.agg ?_ | exact Ent.row _ _ _ _ | exact Ent.nil _ _ | exact Ent.func _ | exact Ent.refl _ | exact Ent.of_eq rfl | refine Ent.cells ?_)
  · (try simp only [Bool.and_eq_true, Bool.or_eq_true, Bool.and_eq_false_iff, Bool.or_eq_false_iff, decide_eq_true_eq, decide_eq_false_iff_not, Bool.not_eq_true', Bool.not_eq_false', List.length_map, ne_eq, Decidable.not_not, Int.not_lt, Int.not_le] at h50)
    have hh : headOK e.to := by
      have hw := wrap_or (e.base + (e.sent.length : Int))
      unfold headOK
      rw [e1, e2, e3, e4]
      omega
    have hv := valid_yes hh
    unfold headOK at hh
    rw [e1, e2, e3, e4] at hh
    refine tr_skip ?_
    refine pe_then_normal ?_
    refine tr_sub hC (.cons (t := 1) rfl .nil) (.cons (t := 1) rfl .nil) rfl ?_
    refine tr_seq ?_
    refine tr_seq ?_
    refine tr_region (fun N3 hN => ?_)
    refine lx (op_assign rfl) rfl ?_
    refine lx_end ⟨by kernel_rfl, ?_⟩
    refine pe_then_normal ?_
    refine tr_sub hC (.cons (t := 1) rfl (.cons (t := 3) rfl .nil)) (.cons (t := 1) rfl .nil) rfl ?_
    refine tr_block ?_
    refine tr_loopK (α := {zz : Nat // zz ≤ e.to.sent.length ∧ (e.to.sent.drop zz).all lenOK = e.to.sent.all lenOK}) (⟨(0), Nat.zero_le _, rfl⟩) (fun zz => [(3, eqP (.int .i64 (zz.1 : Int)))]) (fun zz => []) (fun zz => e.to.sent.length - zz.1) hC (.cons (t := 1) rfl .nil) (.cons (t := 1) rfl .nil) rfl ?_ ?_ (fun zz => ?_)
    · try dsimp only [List.cons_append, List.nil_append]
      first | refine SubF.cons rfl ?_ | (refine SubF.ent rfl ?_ ?_; · repeat (first | exact Ents.nil | refine Ents.cons ?_ ?_ | refine Ent.tup ?_ | refine Ent.agg ?_ | exact Ent.row _ _ _ _ | exact Ent.nil _ _ | exact Ent.func _ | exact Ent.refl _ | exact Ent.of_eq rfl | refine Ent.cells ?_))
      exact SubF.nil
    · try dsimp only [List.cons_append, List.nil_append]
      repeat (first | exact SubL.nil | refine SubL.cons rfl ?_)
    · obtain ⟨k, hk1, hk2⟩ := zz
      dsimp only [List.cons_append, List.nil_append]
      refine tr_seq ?_
      refine tr_seq ?_
      refine tr_region (fun N4 hN => ?_)
      refine lx (op_move rfl) rfl ?_
      refine lx (op_fieldAddr rfl fl41_3 sz38) rfl ?_
      refine lx (op_bload_one (m := 1) rfl rfl ag38 rfl) rfl ?_
      first | refine lx (op_len rfl el38) rfl ?_ | refine lx (op_len_row rfl el38) rfl ?_ | refine lx (op_len_mv rfl el38) rfl ?_ | refine lx (op_len_nil rfl el38) rfl ?_
      refine lx (op_lss rfl rfl) rfl ?_
      refine lx_end ⟨by kernel_rfl, ?_⟩
      refine pe_then_normal ?_
      refine tr_sub hC (.cons (t := 1) rfl (.cons (t := 3) rfl (.cons (t := 55) rfl .nil))) (.cons (t := 1) rfl .nil) rfl ?_
      refine tr_cond rfl (fun h55 => ?_) (fun h55 => ?_)
      · (try simp only [Bool.and_eq_true, Bool.or_eq_true, Bool.and_eq_false_iff, Bool.or_eq_false_iff, decide_eq_true_eq, decide_eq_false_iff_not, Bool.not_eq_true', Bool.not_eq_false', List.length_map, ne_eq, Decidable.not_not, Int.not_lt, Int.not_le] at h55)
        refine tr_skip ?_
        refine pe_then_normal ?_
        refine tr_sub hC (.cons (t := 1) rfl (.cons (t := 3) rfl .nil)) (.cons (t := 1) rfl .nil) rfl ?_
        refine tr_seq ?_
        refine tr_block ?_
        refine tr_seq ?_
        refine tr_region (fun N6 hN => ?_)
        refine lx (op_fieldAddr rfl fl41_3 sz38) rfl ?_
        refine lx (op_bload_one (m := 1) rfl rfl ag38 rfl) rfl ?_
        refine lx (op_move rfl) rfl ?_
        refine lx (op_index rfl rfl el38 sz9 rfl (List.getElem?_eq_getElem (by omega : k < e.sent.length))) rfl ?_
        first | refine lx (op_load_one rfl ag9 rfl) rfl ?_ | refine lx (op_bload_one (m := 1) rfl rfl ag9 rfl) rfl ?_
        refine lx (op_len_str rfl st9) rfl ?_
        refine lx (op_gtr rfl rfl) rfl ?_
        refine lx_end ⟨by kernel_rfl, ?_⟩
        refine pe_then_normal ?_
        refine tr_sub hC (.cons (t := 1) rfl (.cons (t := 3) rfl (.cons (t := 64) rfl .nil))) (.cons (t := 1) rfl .nil) rfl ?_
        refine tr_cond rfl (fun h64 => ?_) (fun h64 => ?_)
        · (try simp only [Bool.and_eq_true, Bool.or_eq_true, Bool.and_eq_false_iff, Bool.or_eq_false_iff, decide_eq_true_eq, decide_eq_false_iff_not, Bool.not_eq_true', Bool.not_eq_false', List.length_map, ne_eq, Decidable.not_not, Int.not_lt, Int.not_le] at h64)
          have h : validF e.to = false := by rw [hv, ← hk2, len_no (by omega) (by simp only [e5, List.getElem_map]; rw [byL_len]; omega)]; rfl
          refine tr_seq ?_
          refine tr_region (fun N7 hN => ?_)
          refine lx (op_assign rfl) rfl ?_
          refine lx_end ⟨by kernel_rfl, ?_⟩
          refine pe_then_normal ?_
          refine tr_sub hC (.cons (t := 2) rfl .nil) .nil rfl ?_
          refine tr_ret ?_
          refine pe_block_ret ?_
          refine pe_then_ret ?_
          refine pe_then_ret ?_
          refine pe_block_ret ?_
          refine pe_then_ret ?_
          refine pe_ret1 rfl hO rfl (.tmp rfl .nil) ?_
          rw [h]
          repeat (first | exact Ents.nil | refine Ents.cons ?_ ?_ | refine Ent.tup ?_ | refine Ent.agg ?_ | exact Ent.row _ _ _ _ | exact Ent.nil _ _ | exact Ent.func _ | exact Ent.refl _ | exact Ent.of_eq rfl | refine Ent.cells ?_)
        · (try simp only [Bool.and_eq_true, Bool.or_eq_true, Bool.and_eq_false_iff, Bool.or_eq_false_iff, decide_eq_true_eq, decide_eq_false_iff_not, Bool.not_eq_true', Bool.not_eq_false', List.length_map, ne_eq, Decidable.not_not, Int.not_lt, Int.not_le] at h64)
          refine tr_skip ?_
          refine pe_block_normal ?_
          refine pe_then_normal ?_
          refine tr_sub hC (.cons (t := 1) rfl (.cons (t := 3) rfl .nil)) (.cons (t := 1) rfl .nil) rfl ?_
          refine tr_region (fun N5 hN => ?_)
          refine lx (op_move rfl) rfl ?_
          refine lx (op_add rfl rfl (by omega)) rfl ?_
          refine lx (op_assign rfl) rfl ?_
          refine lx_end ⟨by kernel_rfl, ?_⟩
          refine pe_round (⟨(k + 1), by omega, (len_yes (by omega) (by simp only [e5, List.getElem_map]; rw [byL_len]; omega)).trans hk2⟩) (by dsimp only; omega) (pe_st hC ?_ ?_ rfl)
          · try dsimp only [List.cons_append, List.nil_append]
            first | refine SubF.cons rfl ?_ | (refine SubF.ent rfl ?_ ?_; · repeat (first | exact Ents.nil | refine Ents.cons ?_ ?_ | refine Ent.tup ?_ | refine Ent.agg ?_ | exact Ent.row _ _ _ _ | exact Ent.nil _ _ | exact Ent.func _ | exact Ent.refl _ | exact Ent.of_eq rfl | refine Ent.cells ?_))
            first | refine SubF.cons rfl ?_ | (refine SubF.ent rfl ?_ ?_; · repeat (first | exact Ents.nil | refine Ents.cons ?_ ?_ | refine Ent.tup ?_ | refine Ent.agg ?_ | exact Ent.row _ _ _ _ | exact Ent.nil _ _ | exact Ent.func _ | exact Ent.refl _ | exact Ent.of_eq rfl | refine Ent.cells ?_))
            exact SubF.nil
          · try dsimp only [List.cons_append, List.nil_append]
            repeat (first | exact SubL.nil | refine SubL.cons rfl ?_)
      · (try simp only [Bool.and_eq_true, Bool.or_eq_true, Bool.and_eq_false_iff, Bool.or_eq_false_iff, decide_eq_true_eq, decide_eq_false_iff_not, Bool.not_eq_true', Bool.not_eq_false', List.length_map, ne_eq, Decidable.not_not, Int.not_lt, Int.not_le] at h55)
        obtain rfl : k = e.to.sent.length := by omega
        have hsent : e.to.sent.all lenOK = true := by rw [← hk2]; exact len_end (Nat.le_refl _)
        refine tr_exit ?_
        refine pe_then_exit ?_
        refine pe_then_exit ?_
        refine pe_block_eq ?_
        refine pe_then_normal ?_
        refine tr_sub hC (.cons (t := 1) rfl .nil) (.cons (t := 1) rfl .nil) rfl ?_
        refine tr_seq ?_
        refine tr_seq ?_
        refine tr_region (fun N8 hN => ?_)
        refine lx (op_assign rfl) rfl ?_
        refine lx_end ⟨by kernel_rfl, ?_⟩
        refine pe_then_normal ?_
        refine tr_sub hC (.cons (t := 1) rfl (.cons (t := 4) rfl .nil)) (.cons (t := 1) rfl .nil) rfl ?_
        refine tr_block ?_
        refine tr_loopK (α := {zz : Nat × Int // zz.1 ≤ e.early.length ∧ (e.got + 2 + (zz.1 : Int) ≤ zz.2 ∧ (zz.1 = 0 ∨ zz.2 ≤ 1000000001)) ∧ ((zz.1 = 0 → zz.2 = e.got + 2) ∧ (∀ h : 0 < zz.1, ∀ h2 : zz.1 - 1 < e.early.length, zz.2 = (e.early[zz.1 - 1]'h2).seq + 1)) ∧ earlyOK zz.2 (hiF e.to) (e.to.early.drop zz.1) = earlyOK (e.to.got + 2) (hiF e.to) e.to.early}) (⟨(0, e.got + 2), Nat.zero_le _, by simp, ⟨fun _ => rfl, fun h _ => by omega⟩, rfl⟩) (fun zz => [(4, eqP (.int .i64 (zz.1.1 : Int)))]) (fun zz => []) (fun zz => e.early.length - zz.1.1) hC (.cons (t := 1) rfl .nil) (.cons (t := 1) rfl .nil) rfl ?_ ?_ (fun zz => ?_)
        · try dsimp only [List.cons_append, List.nil_append]
          first | refine SubF.cons rfl ?_ | (refine SubF.ent rfl ?_ ?_; · repeat (first | exact Ents.nil | refine Ents.cons ?_ ?_ | refine Ent.tup ?_ | refine Ent.agg ?_ | exact Ent.row _ _ _ _ | exact Ent.nil _ _ | exact Ent.func _ | exact Ent.refl _ | exact Ent.of_eq rfl | refine Ent.cells ?_))
          exact SubF.nil
        · try dsimp only [List.cons_append, List.nil_append]
          repeat (first | exact SubL.nil | refine SubL.cons rfl ?_)
        · obtain ⟨⟨j, next⟩, hj1, hj3, hj4, hj2⟩ := zz
          try dsimp only at hj1
          try dsimp only at hj3
          try dsimp only at hj4
          try dsimp only at hj2
          dsimp only [List.cons_append, List.nil_append]
          refine tr_seq ?_
          refine tr_seq ?_
          refine tr_region (fun N9 hN => ?_)
          refine lx (op_move rfl) rfl ?_
          refine lx (op_fieldAddr rfl fl41_4 sz39) rfl ?_
          refine lx (op_bload_one (m := 1) rfl rfl ag39 rfl) rfl ?_
          first | refine lx (op_len rfl el39) rfl ?_ | refine lx (op_len_row rfl el39) rfl ?_ | refine lx (op_len_mv rfl el39) rfl ?_ | refine lx (op_len_nil rfl el39) rfl ?_
          refine lx (op_lss rfl rfl) rfl ?_
          refine lx_end ⟨by kernel_rfl, ?_⟩
          refine pe_then_normal ?_
          refine tr_sub hC (.cons (t := 1) rfl (.cons (t := 4) rfl (.cons (t := 69) rfl .nil))) (.cons (t := 1) rfl .nil) rfl ?_
          refine tr_cond rfl (fun h69 => ?_) (fun h69 => ?_)
          · (try simp only [Bool.and_eq_true, Bool.or_eq_true, Bool.and_eq_false_iff, Bool.or_eq_false_iff, decide_eq_true_eq, decide_eq_false_iff_not, Bool.not_eq_true', Bool.not_eq_false', List.length_map, ne_eq, Decidable.not_not, Int.not_lt, Int.not_le] at h69)
            refine tr_skip ?_
            refine pe_then_normal ?_
            refine tr_sub hC (.cons (t := 1) rfl (.cons (t := 4) rfl .nil)) (.cons (t := 1) rfl .nil) rfl ?_
            have hnx : (j = 0 → next = e.got + 2) ∧ (0 < j → next = (e.early[j - 1]'(by omega)).seq + 1) := ⟨hj4.1, fun h => hj4.2 h (by omega)⟩
            refine tr_seq ?_
            refine tr_block ?_
            refine tr_seq ?_
            refine tr_region (fun N11 hN => ?_)
            refine lx (op_fieldAddr rfl fl41_4 sz39) rfl ?_
            refine lx (op_bload_one (m := 1) rfl rfl ag39 rfl) rfl ?_
            refine lx (op_move rfl) rfl ?_
            refine lx (op_index rfl rfl el39 sz23 rfl (List.getElem?_eq_getElem (by omega : j < e.early.length))) rfl ?_
            first | refine lx (op_load_all rfl ag23 sz23) rfl ?_ | refine lx (op_load_agg rfl ag23 sz23 rfl) rfl ?_ | refine lx (op_bload (m := 1) rfl rfl ag23 sz23) rfl ?_ | refine lx (op_bload_part (m := 1) (qs := [_, _, _]) rfl rfl ag23 sz23 rfl rfl) rfl ?_
            refine lxn (op_alloc (m := 5) (k := 5) (ps := [eqP (.int .i64 0), eqP (.int .i64 0), eqP (.string ⟨#[]⟩)]) ze23 rfl rfl (by first | exact hC.low _ (by decide) | rfl)) rfl ?_
            refine lxr (op_store_all (m := 5) rfl rfl rfl (.agg rfl) sz23 rfl) rfl ?_
            refine lx_end ⟨by kernel_rfl, ?_⟩
            refine pe_then_normal ?_
            refine tr_sub hC (.cons (t := 1) rfl (.cons (t := 4) rfl (.cons (t := 5) rfl .nil))) (.cons (t := 1) rfl (.cons (t := 5) rfl .nil)) rfl ?_
            refine tr_seq ?_
            refine tr_drawn mixed (fun N12 hN => ?_)
            refine lx (op_fieldAddr rfl fl23_0 sz3) rfl ?_
            refine lx (op_bload_one (m := 5) rfl rfl ag3 rfl) rfl ?_
            refine lx (op_fieldAddr rfl fl41_2 sz3) rfl ?_
            refine lx (op_bload_one (m := 1) rfl rfl ag3 rfl) rfl ?_
            refine lx (op_add rfl rfl (by omega)) rfl ?_
            refine lx (op_lss rfl rfl) rfl ?_
            refine lx (op_move rfl) rfl ?_
            refine lxs rfl rfl rfl guard_eq (.cons (t := 5) rfl (fun _ => Ent.refl _) .nil) (op_fieldAddr rfl fl23_0 sz3) rfl ?_
            refine lxs rfl rfl rfl guard_eq (.cons (t := 84) rfl (fun h => entW h) .nil) (op_bload_one (m := 5) rfl rfl ag3 rfl) rfl ?_
            refine lxs rfl rfl rfl guard_eq (.cons (t := 1) rfl (fun _ => Ent.refl _) .nil) (op_fieldAddr rfl fl41_2 sz3) rfl ?_
            refine lxs rfl rfl rfl guard_eq (.cons (t := 86) rfl (fun h => entW h) .nil) (op_bload_one (m := 1) rfl rfl ag3 rfl) rfl ?_
            refine lxs rfl rfl rfl guard_eq (.cons (t := 1) rfl (fun _ => Ent.refl _) .nil) (op_fieldAddr rfl fl41_0 sz3) rfl ?_
            refine lxs rfl rfl rfl guard_eq (.cons (t := 88) rfl (fun h => entW h) .nil) (op_bload_one (m := 1) rfl rfl ag3 rfl) rfl ?_
            refine lxs rfl rfl rfl guard_eq (.cons (t := 87) rfl (fun h => entW h) (.cons (t := 89) rfl (fun h => entW h) .nil)) (op_add rfl rfl (by omega)) rfl ?_
            refine lxs rfl rfl rfl guard_eq (.cons (t := 85) rfl (fun h => entW h) (.cons (t := 90) rfl (fun h => entW h) .nil)) (op_gtr rfl rfl) rfl ?_
            refine lx (op_pick_or rfl rfl) rfl ?_
            refine lx (op_move rfl) rfl ?_
            refine lxs rfl rfl rfl guard_eq (.cons (t := 5) rfl (fun _ => Ent.refl _) .nil) (op_fieldAddr rfl fl23_0 sz3) rfl ?_
            refine lxs rfl rfl rfl guard_eq (.cons (t := 94) rfl (fun h => entW h) .nil) (op_bload_one (m := 5) rfl rfl ag3 rfl) rfl ?_
            refine lxs rfl rfl rfl guard_eq (.cons (t := 95) rfl (fun h => entW h) .nil) (op_gtr rfl rfl) rfl ?_
            refine lx (op_pick_or rfl rfl) rfl ?_
            refine lx (op_move rfl) rfl ?_
            refine lxs rfl rfl rfl guard_eq (.cons (t := 5) rfl (fun _ => Ent.refl _) .nil) (op_fieldAddr rfl fl23_1 sz3) rfl ?_
            refine lxs rfl rfl rfl guard_eq (.cons (t := 99) rfl (fun h => entW h) .nil) (op_bload_one (m := 5) rfl rfl ag3 rfl) rfl ?_
            refine lxs rfl rfl rfl guard_eq (.cons (t := 100) rfl (fun h => entW h) .nil) (op_neq rfl rfl) rfl ?_
            refine lx (op_pick_or rfl rfl) rfl ?_
            refine lx (op_move rfl) rfl ?_
            refine lxs rfl rfl rfl guard_eq (.cons (t := 5) rfl (fun _ => Ent.refl _) .nil) (op_fieldAddr rfl fl23_2 sz9) rfl ?_
            refine lxs rfl rfl rfl guard_eq (.cons (t := 104) rfl (fun h => entW h) .nil) (op_bload_one (m := 5) rfl rfl ag9 rfl) rfl ?_
            refine lxs rfl rfl rfl guard_eq (.cons (t := 105) rfl (fun h => entW h) .nil) (op_len_str rfl st9) rfl ?_
            refine lxs rfl rfl rfl guard_eq (.cons (t := 106) rfl (fun h => entW h) .nil) (op_gtr rfl rfl) rfl ?_
            refine lx (op_pick_or rfl rfl) rfl ?_
            refine lx (op_move rfl) rfl ?_
            refine lxs rfl rfl rfl guard_eq (.cons (t := 4) rfl (fun _ => Ent.refl _) .nil) (op_move rfl) rfl ?_
            refine lxs rfl rfl rfl guard_eq (.cons (t := 110) rfl (fun h => entW h) .nil) (op_gtr rfl rfl) rfl ?_
            refine lxs rfl rfl rfl guard_eq (.cons (t := 111) rfl (fun h => entW h) .nil) (op_move rfl) rfl ?_
            refine lxs rfl rfl rfl guard_w (.cons (t := 5) rfl (fun _ => Ent.refl _) .nil) (op_fieldAddr rfl fl23_0 sz3) rfl ?_
            refine lxs rfl rfl rfl guard_w (.cons (t := 113) rfl (fun h => entW h) .nil) (op_bload_one (m := 5) rfl rfl ag3 rfl) rfl ?_
            refine lxs rfl rfl rfl guard_w (.cons (t := 1) rfl (fun _ => Ent.refl _) .nil) (op_fieldAddr rfl fl41_4 sz39) rfl ?_
            refine lxs rfl rfl rfl guard_w (.cons (t := 115) rfl (fun h => entW h) .nil) (op_bload_one (m := 1) rfl rfl ag39 rfl) rfl ?_
            refine lxs rfl rfl rfl guard_w (.cons (t := 4) rfl (fun _ => Ent.refl _) .nil) (op_move rfl) rfl ?_
            refine lxs rfl rfl rfl guard_w (.cons (t := 117) rfl (fun h => entW h) .nil) (op_sub rfl rfl (by omega)) rfl ?_
            refine lxsc (rd := [(116, slP RF.ps 3 e.early), (118, eqP (.int .i64 ((j : Int) - 1)))]) (φ := cellsP (e.early[j - 1]'(by omega)).ps) rfl rfl rfl guard_w (.cons (t := 116) rfl (fun h => entW h) (.cons (t := 118) rfl (fun h => entW h) .nil)) (fun hgd => ?_) rfl rfl ?_
            · have hq0 : 0 < j := by
                simp at hgd
                omega
              exact op_index rfl rfl el39 sz23 (by omega : (j : Int) - 1 = ((j - 1 : Nat) : Int)) (List.getElem?_eq_getElem (by omega : j - 1 < e.early.length))
            first | refine lxs rfl rfl rfl guard_w (.cons (t := 119) rfl (fun h => entW h) .nil) (op_fieldAddr rfl fl23_0 sz3) rfl ?_ | refine lxs rfl rfl rfl guard_w (.cons (t := 119) rfl (fun h => entW h) .nil) (op_fieldCells rfl fl23_0 sz3) rfl ?_
            first | refine lxs rfl rfl rfl guard_w (.cons (t := 120) rfl (fun h => entW h) .nil) (op_load_one rfl ag3 rfl) rfl ?_ | refine lxs rfl rfl rfl guard_w (.cons (t := 120) rfl (fun h => entW h) .nil) (op_bload_one (m := 1) rfl rfl ag3 rfl) rfl ?_ | refine lxs rfl rfl rfl guard_w (.cons (t := 120) rfl (fun h => entW h) .nil) (op_bload_one (m := 5) rfl rfl ag3 rfl) rfl ?_
            refine lxs rfl rfl rfl guard_w (.cons (t := 114) rfl (fun h => entW h) (.cons (t := 121) rfl (fun h => entW h) .nil)) (op_leq rfl rfl) rfl ?_
            refine lxs rfl rfl rfl guard_eq (.cons (t := 112) rfl (fun h => entW h) (.cons (t := 122) rfl (fun h => entS h) .nil)) (op_pick_and rfl rfl) rfl ?_
            refine lx (op_pick_or rfl rfl) rfl ?_
            refine lx_end ⟨by kernel_rfl, ?_⟩
            refine pe_then_normal ?_
            refine tr_sub hC (.cons (t := 1) rfl (.cons (t := 4) rfl (.cons (t := 124) rfl .nil))) (.cons (t := 1) rfl .nil) rfl ?_
            refine tr_cond rfl (fun h124 => ?_) (fun h124 => ?_)
            · (try simp only [Bool.and_eq_true, Bool.or_eq_true, Bool.and_eq_false_iff, Bool.or_eq_false_iff, decide_eq_true_eq, decide_eq_false_iff_not, Bool.not_eq_true', Bool.not_eq_false', List.length_map, ne_eq, Decidable.not_not, Int.not_lt, Int.not_le] at h124)
              have h : validF e.to = false := by rw [hv, hsent, ← hj2]; unfold hiF; rw [e1, e3, early_no (by rw [e6, e7]; omega) (by simp only [e6, List.getElem_map, RF.to, byL_len]; omega)]; rfl
              refine tr_seq ?_
              refine tr_region (fun N13 hN => ?_)
              refine lx (op_assign rfl) rfl ?_
              refine lx_end ⟨by kernel_rfl, ?_⟩
              refine pe_then_normal ?_
              refine tr_sub hC (.cons (t := 2) rfl .nil) .nil rfl ?_
              refine tr_ret ?_
              refine pe_block_ret ?_
              refine pe_then_ret ?_
              refine pe_then_ret ?_
              refine pe_block_ret ?_
              refine pe_then_ret ?_
              refine pe_ret1 rfl hO rfl (.tmp rfl .nil) ?_
              rw [h]
              repeat (first | exact Ents.nil | refine Ents.cons ?_ ?_ | refine Ent.tup ?_ | refine Ent.agg ?_ | exact Ent.row _ _ _ _ | exact Ent.nil _ _ | exact Ent.func _ | exact Ent.refl _ | exact Ent.of_eq rfl | refine Ent.cells ?_)
            · (try simp only [Bool.and_eq_true, Bool.or_eq_true, Bool.and_eq_false_iff, Bool.or_eq_false_iff, decide_eq_true_eq, decide_eq_false_iff_not, Bool.not_eq_true', Bool.not_eq_false', List.length_map, ne_eq, Decidable.not_not, Int.not_lt, Int.not_le] at h124)
              have hok : next ≤ (e.to.early[j]'(by rw [e6, e7]; omega)).seq ∧ (e.to.early[j]'(by rw [e6, e7]; omega)).seq ≤ hiF e.to ∧ (e.to.early[j]'(by rw [e6, e7]; omega)).ack = 0 ∧ (e.to.early[j]'(by rw [e6, e7]; omega)).data.length ≤ 1000 := by unfold hiF; rw [e1, e3]; simp only [e6, List.getElem_map, RF.to, byL_len]; omega
              have hst := early_yes (hi := hiF e.to) (by rw [e6, e7]; omega) hok
              have hsq : (e.to.early[j]'(by rw [e6, e7]; omega)).seq = e.early[j].seq := by simp only [e6, List.getElem_map, RF.to]
              rw [hsq] at hst
              refine tr_skip ?_
              refine pe_block_normal ?_
              refine pe_then_normal ?_
              refine tr_sub hC (.cons (t := 1) rfl (.cons (t := 4) rfl .nil)) (.cons (t := 1) rfl .nil) rfl ?_
              refine tr_region (fun N10 hN => ?_)
              refine lx (op_move rfl) rfl ?_
              refine lx (op_add rfl rfl (by omega)) rfl ?_
              refine lx (op_assign rfl) rfl ?_
              refine lx_end ⟨by kernel_rfl, ?_⟩
              refine pe_round (⟨(j + 1, e.early[j].seq + 1), by dsimp only; omega, by dsimp only; omega, ⟨fun h => by simp at h, fun _ _ => by simp⟩, hst.trans hj2⟩) (by dsimp only; omega) (pe_st hC ?_ ?_ rfl)
              · try dsimp only [List.cons_append, List.nil_append]
                first | refine SubF.cons rfl ?_ | (refine SubF.ent rfl ?_ ?_; · repeat (first | exact Ents.nil | refine Ents.cons ?_ ?_ | refine Ent.tup ?_ | refine Ent.agg ?_ | exact Ent.row _ _ _ _ | exact Ent.nil _ _ | exact Ent.func _ | exact Ent.refl _ | exact Ent.of_eq rfl | refine Ent.cells ?_))
                first | refine SubF.cons rfl ?_ | (refine SubF.ent rfl ?_ ?_; · repeat (first | exact Ents.nil | refine Ents.cons ?_ ?_ | refine Ent.tup ?_ | refine Ent.agg ?_ | exact Ent.row _ _ _ _ | exact Ent.nil _ _ | exact Ent.func _ | exact Ent.refl _ | exact Ent.of_eq rfl | refine Ent.cells ?_))
                exact SubF.nil
              · try dsimp only [List.cons_append, List.nil_append]
                repeat (first | exact SubL.nil | refine SubL.cons rfl ?_)
          · (try simp only [Bool.and_eq_true, Bool.or_eq_true, Bool.and_eq_false_iff, Bool.or_eq_false_iff, decide_eq_true_eq, decide_eq_false_iff_not, Bool.not_eq_true', Bool.not_eq_false', List.length_map, ne_eq, Decidable.not_not, Int.not_lt, Int.not_le] at h69)
            have h : validF e.to = true := by rw [hv, hsent, ← hj2, early_end (by rw [e6, e7]; omega)]; rfl
            refine tr_exit ?_
            refine pe_then_exit ?_
            refine pe_then_exit ?_
            refine pe_block_eq ?_
            refine pe_then_normal ?_
            refine tr_sub hC .nil .nil rfl ?_
            refine tr_seq ?_
            refine tr_region (fun N14 hN => ?_)
            refine lx (op_assign rfl) rfl ?_
            refine lx_end ⟨by kernel_rfl, ?_⟩
            refine pe_then_normal ?_
            refine tr_sub hC (.cons (t := 2) rfl .nil) .nil rfl ?_
            refine tr_ret ?_
            refine pe_ret1 rfl hO rfl (.tmp rfl .nil) ?_
            rw [h]
            repeat (first | exact Ents.nil | refine Ents.cons ?_ ?_ | refine Ent.tup ?_ | refine Ent.agg ?_ | exact Ent.row _ _ _ _ | exact Ent.nil _ _ | exact Ent.func _ | exact Ent.refl _ | exact Ent.of_eq rfl | refine Ent.cells ?_)
end Go.Proofs.Ytgdhogmghffbaaa


set_option linter.unusedVariables false
set_option linter.unusedSimpArgs false
namespace Go.Proofs.Ytgdhogmghffbaaa
open Go.AL Go.Wr Go.RowKit
theorem by25 : bytesB Try.prog 25 = some 24 := by kernel_rfl
theorem by27 : bytesB Try.prog 27 = some 40 := by kernel_rfl
theorem ze25 : zeroB Try.prog 25 = some (some (.slice none 0 0)) := by kernel_rfl
theorem clone_send (e : WE) (hb : BdE e) : FnOK Try.prog 42 [aggP e.ps] [] 1 (fun ι => aggP [eqP (.int .i64 e.window), eqP (.int .i64 e.base), rowP (ι 0) byS 1 e.sent, eqP (.int .i64 e.got), slP WF.ps 3 e.early]) (fun ι => [(ι 0, tail 25 1 (e.sent.length * 1))]) := by
  have hbs := hb.sent
  have hbe := hb.early
  refine fn_ownN Try.func42 rfl Try.ntmps42 rfl ?_
  intro σ0 M Rf R hC hO
  simp only [frameOf, tokOf]
  refine tr_seq ?_
  refine tr_region (fun N0 hN => ?_)
  refine lxn (op_box (m := 1) (k := 1) rfl (.agg rfl) (by first | exact hC.low _ (by decide) | rfl)) rfl ?_
  refine lxn (op_alloc (m := 2) (k := 2) (ps := [eqP (.int .i64 0), eqP (.int .i64 0), eqP (.slice none 0 0), eqP (.int .i64 0), eqP (.slice none 0 0)]) ze46 rfl rfl (by first | exact hC.low _ (by decide) | rfl)) rfl ?_
  refine lx_end ⟨by kernel_rfl, ?_⟩
  refine pe_then_normal ?_
  refine tr_sub hC (.cons (t := 1) rfl (.cons (t := 2) rfl .nil)) (.cons (t := 1) rfl (.cons (t := 2) rfl .nil)) rfl ?_
  refine tr_seq ?_
  refine tr_region (fun N1 hN => ?_)
  refine lx (op_fieldAddr rfl fl46_2 sz43) rfl ?_
  refine lx (op_bload_one (m := 1) rfl rfl ag43 rfl) rfl ?_
  first | refine lx (op_len rfl el43) rfl ?_ | refine lx (op_len_row rfl el43) rfl ?_ | refine lx (op_len_mv rfl el43) rfl ?_ | refine lx (op_len_nil rfl el43) rfl ?_
  refine lxn (op_makeRow0 (m' := 12) (kk := 12) (f := byS) rfl rfl (by rfl : (e.sent.length : Int) = ((e.sent.length : Nat) : Int)) (by first | exact hC.low _ (by decide) | rfl) el43 ze25 sz25 by25 rfl byS_len (by omega) (by unfold maxLen; omega)) rfl ?_
  refine lx (op_assign rfl) rfl ?_
  refine lx_end ⟨by kernel_rfl, ?_⟩
  refine pe_then_normal ?_
  refine tr_sub hC (.cons (t := 1) rfl (.cons (t := 2) rfl (.cons (t := 3) rfl .nil))) (.cons (t := 1) rfl (.cons (t := 2) rfl (.cons (t := 12) rfl .nil))) rfl ?_
  refine tr_seq ?_
  refine tr_seq ?_
  refine tr_region (fun N2 hN => ?_)
  refine lx (op_fieldAddr rfl fl46_2 sz43) rfl ?_
  refine lx (op_bload_one (m := 1) rfl rfl ag43 rfl) rfl ?_
  first | refine lx (op_len rfl el43) rfl ?_ | refine lx (op_len_row rfl el43) rfl ?_ | refine lx (op_len_mv rfl el43) rfl ?_ | refine lx (op_len_nil rfl el43) rfl ?_
  refine lx (op_move rfl) rfl ?_
  refine lx_end ⟨by kernel_rfl, ?_⟩
  refine pe_then_normal ?_
  refine tr_sub hC (.cons (t := 1) rfl (.cons (t := 2) rfl (.cons (t := 3) rfl (.cons (t := 14) rfl (.cons (t := 15) rfl (.cons (t := 16) rfl .nil)))))) (.cons (t := 1) rfl (.cons (t := 2) rfl (.cons (t := 12) rfl .nil))) rfl ?_
  refine tr_block ?_
  refine tr_loopK (α := {zz : Nat × (List (List Int)) × AL.Id // zz.1 ≤ e.sent.length ∧ zz.2.1 = e.sent.take zz.1}) (⟨(0, [], (N1, 12)), Nat.zero_le _, rfl⟩) (fun zz => [(16, eqP (.int .i64 (zz.1.1 : Int))), (3, rowP zz.1.2.2 byS 1 zz.1.2.1)]) (fun zz => [(12, some (zz.1.2.2, tail 25 1 (zz.1.2.1.length * 1)))]) (fun zz => e.sent.length - zz.1.1) hC (.cons (t := 1) rfl (.cons (t := 2) rfl (.cons (t := 14) rfl (.cons (t := 15) rfl .nil)))) (.cons (t := 1) rfl (.cons (t := 2) rfl .nil)) rfl ?_ ?_ (fun zz => ?_)
  · try dsimp only [List.cons_append, List.nil_append]
    first | refine SubF.cons rfl ?_ | (refine SubF.ent rfl ?_ ?_; · repeat (first | exact Ents.nil | refine Ents.cons ?_ ?_ | refine Ent.tup ?_ | refine Ent.agg ?_ | exact Ent.row _ _ _ _ | exact Ent.nil _ _ | exact Ent.func _ | exact Ent.refl _ | exact Ent.of_eq rfl | refine Ent.cells ?_))
    first | refine SubF.cons rfl ?_ | (refine SubF.ent rfl ?_ ?_; · repeat (first | exact Ents.nil | refine Ents.cons ?_ ?_ | refine Ent.tup ?_ | refine Ent.agg ?_ | exact Ent.row _ _ _ _ | exact Ent.nil _ _ | exact Ent.func _ | exact Ent.refl _ | exact Ent.of_eq rfl | refine Ent.cells ?_))
    exact SubF.nil
  · try dsimp only [List.cons_append, List.nil_append]
    repeat (first | exact SubL.nil | refine SubL.cons rfl ?_)
  · obtain ⟨⟨k, xs, i⟩, hk1, hxs⟩ := zz
    try dsimp only at hk1
    try dsimp only at hxs
    dsimp only [List.cons_append, List.nil_append]
    refine tr_seq ?_
    refine tr_region (fun N3 hN => ?_)
    refine lx (op_lss rfl rfl) rfl ?_
    refine lx_end ⟨by kernel_rfl, ?_⟩
    refine pe_then_normal ?_
    refine tr_sub hC (.cons (t := 1) rfl (.cons (t := 2) rfl (.cons (t := 3) rfl (.cons (t := 14) rfl (.cons (t := 15) rfl (.cons (t := 16) rfl (.cons (t := 17) rfl .nil))))))) (.cons (t := 12) rfl (.cons (t := 1) rfl (.cons (t := 2) rfl .nil))) rfl ?_
    refine tr_seq ?_
    refine tr_cond rfl (fun h17 => ?_) (fun h17 => ?_)
    · (try simp only [Bool.and_eq_true, Bool.or_eq_true, Bool.and_eq_false_iff, Bool.or_eq_false_iff, decide_eq_true_eq, decide_eq_false_iff_not, Bool.not_eq_true', Bool.not_eq_false', List.length_map, ne_eq, Decidable.not_not, Int.not_lt, Int.not_le] at h17)
      have hxl : xs.length ≤ k := by rw [hxs, List.length_take]; omega
      refine tr_skip ?_
      refine pe_then_normal ?_
      refine tr_sub hC (.cons (t := 1) rfl (.cons (t := 2) rfl (.cons (t := 3) rfl (.cons (t := 14) rfl (.cons (t := 15) rfl (.cons (t := 16) rfl .nil)))))) (.cons (t := 12) rfl (.cons (t := 1) rfl (.cons (t := 2) rfl .nil))) rfl ?_
      refine tr_seq ?_
      refine tr_block ?_
      refine tr_seq ?_
      refine tr_region (fun N4 hN => ?_)
      refine lx (op_index rfl rfl el43 sz25 rfl (List.getElem?_eq_getElem (by omega : k < e.sent.length))) rfl ?_
      first | refine lx (op_load_one rfl ag25 rfl) rfl ?_ | refine lx (op_bload_one (m := 12) rfl rfl ag25 rfl) rfl ?_ | refine lx (op_bload_one (m := 1) rfl rfl ag25 rfl) rfl ?_ | refine lx (op_bload_one (m := 2) rfl rfl ag25 rfl) rfl ?_
      refine lx (op_assign rfl) rfl ?_
      refine lx_end ⟨by kernel_rfl, ?_⟩
      refine pe_then_normal ?_
      refine tr_sub hC (.cons (t := 1) rfl (.cons (t := 2) rfl (.cons (t := 3) rfl (.cons (t := 5) rfl (.cons (t := 14) rfl (.cons (t := 15) rfl (.cons (t := 16) rfl .nil))))))) (.cons (t := 12) rfl (.cons (t := 1) rfl (.cons (t := 2) rfl .nil))) rfl ?_
      refine tr_region (fun N5 hN => ?_)
      refine lx (op_move rfl) rfl ?_
      refine lx (op_move rfl) rfl ?_
      first | refine lx (op_call (l := [(Go.Operand.tmp 21)]) (clone_ok e.sent[k] (by have := hb.each _ (List.getElem_mem (by omega : k < e.sent.length)); omega)) (.cons rfl .nil) fn38) rfl ?_ | refine lx (op_call (l := [(Go.Operand.tmp 21)]) (clone_ok e.sent[k] (by have := hb.each _ (List.getElem_mem (by omega : k < e.sent.length)); omega)) (.ent rfl (by repeat (first | exact Ents.nil | refine Ents.cons ?_ ?_ | refine Ent.tup ?_ | refine Ent.agg ?_ | exact Ent.row _ _ _ _ | exact Ent.nil _ _ | exact Ent.func _ | exact Ent.refl _ | exact Ent.of_eq rfl | refine Ent.cells ?_)) .nil) fn38) rfl ?_
      refine lx (op_buildSlice (f := byS) (xs := [e.sent[k]]) (l := [(0, (Go.Operand.tmp 22))]) ze25 rfl rfl (by decide) el43 sz25 byS_len (.cons rfl (.one (by (first | exact One.eq rfl | exact One.mv _ _ _ _ _ | exact One.cl _ _ _ | exact One.map _ | exact One.sl _ _ _ | exact One.row _ _ _ _ | exact One.msl _ _ _ _ | exact One.ptr _ _ | exact One.b _ | exact One.cells _))) .nil) rfl (by decide)) rfl ?_
      refine lxr (op_append (m := 12) (m' := 12) (kk := 24) rfl rfl rfl (.inl rfl) el43 ze25 sz25 by25 rfl byS_len (by rw [List.length_singleton]; omega) (by rw [List.length_singleton]; omega)) rfl ?_
      refine lx (op_assign rfl) rfl ?_
      refine lx_end ⟨by kernel_rfl, ?_⟩
      refine pe_block_normal ?_
      refine pe_then_normal ?_
      refine tr_sub hC (.cons (t := 1) rfl (.cons (t := 2) rfl (.cons (t := 3) rfl (.cons (t := 14) rfl (.cons (t := 15) rfl (.cons (t := 16) rfl .nil)))))) (.cons (t := 1) rfl (.cons (t := 2) rfl (.cons (t := 12) rfl .nil))) rfl ?_
      refine tr_region (fun N6 hN => ?_)
      refine lx (op_add rfl rfl (by omega)) rfl ?_
      refine lx (op_move rfl) rfl ?_
      refine lx_end ⟨by kernel_rfl, ?_⟩
      refine pe_round (⟨(k + 1, xs ++ [e.sent[k]], (N5, 24)), by dsimp only; omega, by dsimp only; rw [hxs, take_at (by omega : k < e.sent.length)]⟩) (by dsimp only; omega) (pe_st hC ?_ ?_ rfl)
      · try dsimp only [List.cons_append, List.nil_append]
        first | refine SubF.cons rfl ?_ | (refine SubF.ent rfl ?_ ?_; · repeat (first | exact Ents.nil | refine Ents.cons ?_ ?_ | refine Ent.tup ?_ | refine Ent.agg ?_ | exact Ent.row _ _ _ _ | exact Ent.nil _ _ | exact Ent.func _ | exact Ent.refl _ | exact Ent.of_eq rfl | refine Ent.cells ?_))
        first | refine SubF.cons rfl ?_ | (refine SubF.ent rfl ?_ ?_; · repeat (first | exact Ents.nil | refine Ents.cons ?_ ?_ | refine Ent.tup ?_ | refine Ent.agg ?_ | exact Ent.row _ _ _ _ | exact Ent.nil _ _ | exact Ent.func _ | exact Ent.refl _ | exact Ent.of_eq rfl | refine Ent.cells ?_))
        first | refine SubF.cons rfl ?_ | (refine SubF.ent rfl ?_ ?_; · repeat (first | exact Ents.nil | refine Ents.cons ?_ ?_ | refine Ent.tup ?_ | refine Ent.agg ?_ | exact Ent.row _ _ _ _ | exact Ent.nil _ _ | exact Ent.func _ | exact Ent.refl _ | exact Ent.of_eq rfl | refine Ent.cells ?_))
        first | refine SubF.cons rfl ?_ | (refine SubF.ent rfl ?_ ?_; · repeat (first | exact Ents.nil | refine Ents.cons ?_ ?_ | refine Ent.tup ?_ | refine Ent.agg ?_ | exact Ent.row _ _ _ _ | exact Ent.nil _ _ | exact Ent.func _ | exact Ent.refl _ | exact Ent.of_eq rfl | refine Ent.cells ?_))
        first | refine SubF.cons rfl ?_ | (refine SubF.ent rfl ?_ ?_; · repeat (first | exact Ents.nil | refine Ents.cons ?_ ?_ | refine Ent.tup ?_ | refine Ent.agg ?_ | exact Ent.row _ _ _ _ | exact Ent.nil _ _ | exact Ent.func _ | exact Ent.refl _ | exact Ent.of_eq rfl | refine Ent.cells ?_))
        first | refine SubF.cons rfl ?_ | (refine SubF.ent rfl ?_ ?_; · repeat (first | exact Ents.nil | refine Ents.cons ?_ ?_ | refine Ent.tup ?_ | refine Ent.agg ?_ | exact Ent.row _ _ _ _ | exact Ent.nil _ _ | exact Ent.func _ | exact Ent.refl _ | exact Ent.of_eq rfl | refine Ent.cells ?_))
        exact SubF.nil
      · try dsimp only [List.cons_append, List.nil_append]
        repeat (first | exact SubL.nil | refine SubL.cons rfl ?_)
    · (try simp only [Bool.and_eq_true, Bool.or_eq_true, Bool.and_eq_false_iff, Bool.or_eq_false_iff, decide_eq_true_eq, decide_eq_false_iff_not, Bool.not_eq_true', Bool.not_eq_false', List.length_map, ne_eq, Decidable.not_not, Int.not_lt, Int.not_le] at h17)
      have hfin : xs = e.sent := by rw [hxs, List.take_of_length_le (by omega)]
      subst hfin
      refine tr_exit ?_
      refine pe_then_exit ?_
      refine pe_then_exit ?_
      refine pe_block_eq ?_
      refine pe_then_normal ?_
      refine tr_sub hC (.cons (t := 1) rfl (.cons (t := 2) rfl (.cons (t := 3) rfl .nil))) (.cons (t := 12) rfl (.cons (t := 1) rfl (.cons (t := 2) rfl .nil))) rfl ?_
      refine tr_seq ?_
      refine tr_region (fun N7 hN => ?_)
      refine lx (op_fieldAddr rfl fl46_4 sz44) rfl ?_
      refine lx (op_bload_one (m := 1) rfl rfl ag44 rfl) rfl ?_
      first | refine lx (op_len rfl el44) rfl ?_ | refine lx (op_len_row rfl el44) rfl ?_ | refine lx (op_len_mv rfl el44) rfl ?_ | refine lx (op_len_nil rfl el44) rfl ?_
      refine lxn (op_makeRow0 (m' := 29) (kk := 29) (f := WF.ps) rfl rfl (by rfl : (e.early.length : Int) = ((e.early.length : Nat) : Int)) (by first | exact hC.low _ (by decide) | rfl) el44 ze27 sz27 by27 rfl WF.len (by omega) (by unfold maxLen; omega)) rfl ?_
      refine lx (op_assign rfl) rfl ?_
      refine lx_end ⟨by kernel_rfl, ?_⟩
      refine pe_then_normal ?_
      refine tr_sub hC (.cons (t := 1) rfl (.cons (t := 2) rfl (.cons (t := 3) rfl (.cons (t := 6) rfl .nil)))) (.cons (t := 12) rfl (.cons (t := 1) rfl (.cons (t := 2) rfl (.cons (t := 29) rfl .nil)))) rfl ?_
      refine tr_seq ?_
      refine tr_seq ?_
      refine tr_region (fun N8 hN => ?_)
      refine lx (op_fieldAddr rfl fl46_4 sz44) rfl ?_
      refine lx (op_bload_one (m := 1) rfl rfl ag44 rfl) rfl ?_
      first | refine lx (op_len rfl el44) rfl ?_ | refine lx (op_len_row rfl el44) rfl ?_ | refine lx (op_len_mv rfl el44) rfl ?_ | refine lx (op_len_nil rfl el44) rfl ?_
      refine lx (op_move rfl) rfl ?_
      refine lx_end ⟨by kernel_rfl, ?_⟩
      refine pe_then_normal ?_
      refine tr_sub hC (.cons (t := 1) rfl (.cons (t := 2) rfl (.cons (t := 3) rfl (.cons (t := 6) rfl (.cons (t := 31) rfl (.cons (t := 32) rfl (.cons (t := 33) rfl .nil))))))) (.cons (t := 12) rfl (.cons (t := 1) rfl (.cons (t := 2) rfl (.cons (t := 29) rfl .nil)))) rfl ?_
      refine tr_block ?_
      refine tr_loopK (α := {zz : Nat × (List WF) × AL.Id // zz.1 ≤ e.early.length ∧ zz.2.1 = e.early.take zz.1}) (⟨(0, [], (N7, 29)), Nat.zero_le _, rfl⟩) (fun zz => [(33, eqP (.int .i64 (zz.1.1 : Int))), (6, rowP zz.1.2.2 WF.ps 3 zz.1.2.1)]) (fun zz => [(29, some (zz.1.2.2, tail 27 3 (zz.1.2.1.length * 3)))]) (fun zz => e.early.length - zz.1.1) hC (.cons (t := 1) rfl (.cons (t := 2) rfl (.cons (t := 3) rfl (.cons (t := 31) rfl (.cons (t := 32) rfl .nil))))) (.cons (t := 12) rfl (.cons (t := 1) rfl (.cons (t := 2) rfl .nil))) rfl ?_ ?_ (fun zz => ?_)
      · try dsimp only [List.cons_append, List.nil_append]
        first | refine SubF.cons rfl ?_ | (refine SubF.ent rfl ?_ ?_; · repeat (first | exact Ents.nil | refine Ents.cons ?_ ?_ | refine Ent.tup ?_ | refine Ent.agg ?_ | exact Ent.row _ _ _ _ | exact Ent.nil _ _ | exact Ent.func _ | exact Ent.refl _ | exact Ent.of_eq rfl | refine Ent.cells ?_))
        first | refine SubF.cons rfl ?_ | (refine SubF.ent rfl ?_ ?_; · repeat (first | exact Ents.nil | refine Ents.cons ?_ ?_ | refine Ent.tup ?_ | refine Ent.agg ?_ | exact Ent.row _ _ _ _ | exact Ent.nil _ _ | exact Ent.func _ | exact Ent.refl _ | exact Ent.of_eq rfl | refine Ent.cells ?_))
        exact SubF.nil
      · try dsimp only [List.cons_append, List.nil_append]
        repeat (first | exact SubL.nil | refine SubL.cons rfl ?_)
      · obtain ⟨⟨k, xs, i⟩, hk1, hxs⟩ := zz
        try dsimp only at hk1
        try dsimp only at hxs
        dsimp only [List.cons_append, List.nil_append]
        refine tr_seq ?_
        refine tr_region (fun N9 hN => ?_)
        refine lx (op_lss rfl rfl) rfl ?_
        refine lx_end ⟨by kernel_rfl, ?_⟩
        refine pe_then_normal ?_
        refine tr_sub hC (.cons (t := 1) rfl (.cons (t := 2) rfl (.cons (t := 3) rfl (.cons (t := 6) rfl (.cons (t := 31) rfl (.cons (t := 32) rfl (.cons (t := 33) rfl (.cons (t := 34) rfl .nil)))))))) (.cons (t := 29) rfl (.cons (t := 12) rfl (.cons (t := 1) rfl (.cons (t := 2) rfl .nil)))) rfl ?_
        refine tr_seq ?_
        refine tr_cond rfl (fun h34 => ?_) (fun h34 => ?_)
        · (try simp only [Bool.and_eq_true, Bool.or_eq_true, Bool.and_eq_false_iff, Bool.or_eq_false_iff, decide_eq_true_eq, decide_eq_false_iff_not, Bool.not_eq_true', Bool.not_eq_false', List.length_map, ne_eq, Decidable.not_not, Int.not_lt, Int.not_le] at h34)
          have hxl : xs.length ≤ k := by rw [hxs, List.length_take]; omega
          refine tr_skip ?_
          refine pe_then_normal ?_
          refine tr_sub hC (.cons (t := 1) rfl (.cons (t := 2) rfl (.cons (t := 3) rfl (.cons (t := 6) rfl (.cons (t := 31) rfl (.cons (t := 32) rfl (.cons (t := 33) rfl .nil))))))) (.cons (t := 29) rfl (.cons (t := 12) rfl (.cons (t := 1) rfl (.cons (t := 2) rfl .nil)))) rfl ?_
          refine tr_seq ?_
          refine tr_block ?_
          refine tr_seq ?_
          refine tr_region (fun N10 hN => ?_)
          refine lx (op_index rfl rfl el44 sz27 rfl (List.getElem?_eq_getElem (by omega : k < e.early.length))) rfl ?_
          first | refine lx (op_load_all rfl ag27 sz27) rfl ?_ | refine lx (op_load_agg rfl ag27 sz27 rfl) rfl ?_ | refine lx (op_bload (m := 29) rfl rfl ag27 sz27) rfl ?_ | refine lx (op_bload (m := 12) rfl rfl ag27 sz27) rfl ?_ | refine lx (op_bload (m := 1) rfl rfl ag27 sz27) rfl ?_ | refine lx (op_bload (m := 2) rfl rfl ag27 sz27) rfl ?_ | refine lx (op_bload_part (m := 29) (qs := [_, _, _]) rfl rfl ag27 sz27 rfl rfl) rfl ?_ | refine lx (op_bload_part (m := 12) (qs := [_, _, _]) rfl rfl ag27 sz27 rfl rfl) rfl ?_ | refine lx (op_bload_part (m := 1) (qs := [_, _, _]) rfl rfl ag27 sz27 rfl rfl) rfl ?_ | refine lx (op_bload_part (m := 2) (qs := [_, _, _]) rfl rfl ag27 sz27 rfl rfl) rfl ?_
          refine lxn (op_alloc (m := 8) (k := 8) (ps := [eqP (.int .i64 0), eqP (.int .i64 0), eqP (.slice none 0 0)]) ze27 rfl rfl (by first | exact hC.low _ (by decide) | rfl)) rfl ?_
          refine lxr (op_store_all (m := 8) rfl rfl rfl (.agg rfl) sz27 rfl) rfl ?_
          refine lx_end ⟨by kernel_rfl, ?_⟩
          refine pe_then_normal ?_
          refine tr_sub hC (.cons (t := 1) rfl (.cons (t := 2) rfl (.cons (t := 3) rfl (.cons (t := 6) rfl (.cons (t := 8) rfl (.cons (t := 31) rfl (.cons (t := 32) rfl (.cons (t := 33) rfl .nil)))))))) (.cons (t := 29) rfl (.cons (t := 12) rfl (.cons (t := 1) rfl (.cons (t := 2) rfl (.cons (t := 8) rfl .nil))))) rfl ?_
          refine tr_seq ?_
          refine tr_region (fun N11 hN => ?_)
          refine lx (op_fieldAddr rfl fl27_2 sz25) rfl ?_
          refine lx (op_bload_one (m := 8) rfl rfl ag25 rfl) rfl ?_
          first | refine lx (op_call (l := [(Go.Operand.tmp 38)]) (clone_ok e.early[k].data (by have := hb.data _ (List.getElem_mem (by omega : k < e.early.length)); omega)) (.cons rfl .nil) fn38) rfl ?_ | refine lx (op_call (l := [(Go.Operand.tmp 38)]) (clone_ok e.early[k].data (by have := hb.data _ (List.getElem_mem (by omega : k < e.early.length)); omega)) (.ent rfl (by repeat (first | exact Ents.nil | refine Ents.cons ?_ ?_ | refine Ent.tup ?_ | refine Ent.agg ?_ | exact Ent.row _ _ _ _ | exact Ent.nil _ _ | exact Ent.func _ | exact Ent.refl _ | exact Ent.of_eq rfl | refine Ent.cells ?_)) .nil) fn38) rfl ?_
          refine lx (op_fieldAddr rfl fl27_2 sz25) rfl ?_
          refine lxr (op_store (m := 8) (rs := [_, _, _]) rfl rfl rfl (.one (by (first | exact One.eq rfl | exact One.mv _ _ _ _ _ | exact One.cl _ _ _ | exact One.map _ | exact One.sl _ _ _ | exact One.row _ _ _ _ | exact One.msl _ _ _ _ | exact One.ptr _ _ | exact One.b _ | exact One.cells _))) sz25 rfl rfl rfl) rfl ?_
          refine lx_end ⟨by kernel_rfl, ?_⟩
          refine pe_then_normal ?_
          refine tr_sub hC (.cons (t := 1) rfl (.cons (t := 2) rfl (.cons (t := 3) rfl (.cons (t := 6) rfl (.cons (t := 8) rfl (.cons (t := 31) rfl (.cons (t := 32) rfl (.cons (t := 33) rfl .nil)))))))) (.cons (t := 29) rfl (.cons (t := 12) rfl (.cons (t := 1) rfl (.cons (t := 2) rfl (.cons (t := 8) rfl .nil))))) rfl ?_
          refine tr_region (fun N12 hN => ?_)
          refine lx (op_move rfl) rfl ?_
          refine lx (op_bload (m := 8) rfl rfl ag27 sz27) rfl ?_
          refine lx (op_buildSlice (f := WF.ps) (xs := [e.early[k]]) (l := [(0, (Go.Operand.tmp 42))]) ze27 rfl rfl (by decide) el44 sz27 WF.len (.cons rfl (.agg rfl) .nil) rfl (by decide)) rfl ?_
          refine lxr (op_append (m := 29) (m' := 29) (kk := 44) rfl rfl rfl (.inl rfl) el44 ze27 sz27 by27 rfl WF.len (by rw [List.length_singleton]; omega) (by rw [List.length_singleton]; omega)) rfl ?_
          refine lx (op_assign rfl) rfl ?_
          refine lx_end ⟨by kernel_rfl, ?_⟩
          refine pe_block_normal ?_
          refine pe_then_normal ?_
          refine tr_sub hC (.cons (t := 1) rfl (.cons (t := 2) rfl (.cons (t := 3) rfl (.cons (t := 6) rfl (.cons (t := 31) rfl (.cons (t := 32) rfl (.cons (t := 33) rfl .nil))))))) (.cons (t := 12) rfl (.cons (t := 1) rfl (.cons (t := 2) rfl (.cons (t := 29) rfl .nil)))) rfl ?_
          refine tr_region (fun N13 hN => ?_)
          refine lx (op_add rfl rfl (by omega)) rfl ?_
          refine lx (op_move rfl) rfl ?_
          refine lx_end ⟨by kernel_rfl, ?_⟩
          refine pe_round (⟨(k + 1, xs ++ [e.early[k]], (N12, 44)), by dsimp only; omega, by dsimp only; rw [hxs, take_at (by omega : k < e.early.length)]⟩) (by dsimp only; omega) (pe_st hC ?_ ?_ rfl)
          · try dsimp only [List.cons_append, List.nil_append]
            first | refine SubF.cons rfl ?_ | (refine SubF.ent rfl ?_ ?_; · repeat (first | exact Ents.nil | refine Ents.cons ?_ ?_ | refine Ent.tup ?_ | refine Ent.agg ?_ | exact Ent.row _ _ _ _ | exact Ent.nil _ _ | exact Ent.func _ | exact Ent.refl _ | exact Ent.of_eq rfl | refine Ent.cells ?_))
            first | refine SubF.cons rfl ?_ | (refine SubF.ent rfl ?_ ?_; · repeat (first | exact Ents.nil | refine Ents.cons ?_ ?_ | refine Ent.tup ?_ | refine Ent.agg ?_ | exact Ent.row _ _ _ _ | exact Ent.nil _ _ | exact Ent.func _ | exact Ent.refl _ | exact Ent.of_eq rfl | refine Ent.cells ?_))
            first | refine SubF.cons rfl ?_ | (refine SubF.ent rfl ?_ ?_; · repeat (first | exact Ents.nil | refine Ents.cons ?_ ?_ | refine Ent.tup ?_ | refine Ent.agg ?_ | exact Ent.row _ _ _ _ | exact Ent.nil _ _ | exact Ent.func _ | exact Ent.refl _ | exact Ent.of_eq rfl | refine Ent.cells ?_))
            first | refine SubF.cons rfl ?_ | (refine SubF.ent rfl ?_ ?_; · repeat (first | exact Ents.nil | refine Ents.cons ?_ ?_ | refine Ent.tup ?_ | refine Ent.agg ?_ | exact Ent.row _ _ _ _ | exact Ent.nil _ _ | exact Ent.func _ | exact Ent.refl _ | exact Ent.of_eq rfl | refine Ent.cells ?_))
            first | refine SubF.cons rfl ?_ | (refine SubF.ent rfl ?_ ?_; · repeat (first | exact Ents.nil | refine Ents.cons ?_ ?_ | refine Ent.tup ?_ | refine Ent.agg ?_ | exact Ent.row _ _ _ _ | exact Ent.nil _ _ | exact Ent.func _ | exact Ent.refl _ | exact Ent.of_eq rfl | refine Ent.cells ?_))
            first | refine SubF.cons rfl ?_ | (refine SubF.ent rfl ?_ ?_; · repeat (first | exact Ents.nil | refine Ents.cons ?_ ?_ | refine Ent.tup ?_ | refine Ent.agg ?_ | exact Ent.row _ _ _ _ | exact Ent.nil _ _ | exact Ent.func _ | exact Ent.refl _ | exact Ent.of_eq rfl | refine Ent.cells ?_))
            first | refine SubF.cons rfl ?_ | (refine SubF.ent rfl ?_ ?_; · repeat (first | exact Ents.nil | refine Ents.cons ?_ ?_ | refine Ent.tup ?_ | refine Ent.agg ?_ | exact Ent.row _ _ _ _ | exact Ent.nil _ _ | exact Ent.func _ | exact Ent.refl _ | exact Ent.of_eq rfl | refine Ent.cells ?_))
            exact SubF.nil
          · try dsimp only [List.cons_append, List.nil_append]
            repeat (first | exact SubL.nil | refine SubL.cons rfl ?_)
        · (try simp only [Bool.and_eq_true, Bool.or_eq_true, Bool.and_eq_false_iff, Bool.or_eq_false_iff, decide_eq_true_eq, decide_eq_false_iff_not, Bool.not_eq_true', Bool.not_eq_false', List.length_map, ne_eq, Decidable.not_not, Int.not_lt, Int.not_le] at h34)
          have hfin : xs = e.early := by rw [hxs, List.take_of_length_le (by omega)]
          subst hfin
          refine tr_exit ?_
          refine pe_then_exit ?_
          refine pe_then_exit ?_
          refine pe_block_eq ?_
          refine pe_then_normal ?_
          refine tr_sub hC (.cons (t := 1) rfl (.cons (t := 2) rfl (.cons (t := 3) rfl (.cons (t := 6) rfl .nil)))) (.cons (t := 29) rfl (.cons (t := 12) rfl (.cons (t := 1) rfl (.cons (t := 2) rfl .nil)))) rfl ?_
          refine tr_seq ?_
          refine tr_region (fun N14 hN => ?_)
          refine lx (op_move rfl) rfl ?_
          refine lx (op_move rfl) rfl ?_
          refine lx (op_fieldAddr rfl fl46_2 sz43) rfl ?_
          refine lxr (op_store (m := 1) (rs := [_, _, _, _, _]) rfl rfl rfl (.one (by (first | exact One.eq rfl | exact One.mv _ _ _ _ _ | exact One.cl _ _ _ | exact One.map _ | exact One.sl _ _ _ | exact One.row _ _ _ _ | exact One.msl _ _ _ _ | exact One.ptr _ _ | exact One.b _ | exact One.cells _))) sz43 rfl rfl rfl) rfl ?_
          refine lx (op_fieldAddr rfl fl46_4 sz44) rfl ?_
          refine lxr (op_store (m := 1) (rs := [_, _, _, _, _]) rfl rfl rfl (.one (by (first | exact One.eq rfl | exact One.mv _ _ _ _ _ | exact One.cl _ _ _ | exact One.map _ | exact One.sl _ _ _ | exact One.row _ _ _ _ | exact One.msl _ _ _ _ | exact One.ptr _ _ | exact One.b _ | exact One.cells _))) sz44 rfl rfl rfl) rfl ?_
          refine lx_end ⟨by kernel_rfl, ?_⟩
          refine pe_then_normal ?_
          refine tr_sub hC (.cons (t := 1) rfl (.cons (t := 2) rfl .nil)) (.cons (t := 12) rfl (.cons (t := 1) rfl (.cons (t := 2) rfl .nil))) rfl ?_
          refine tr_seq ?_
          refine tr_region (fun N15 hN => ?_)
          refine lx (op_bload (m := 1) rfl rfl ag46 sz46) rfl ?_
          refine lxr (op_store_all (m := 2) rfl rfl rfl (.agg rfl) sz46 rfl) rfl ?_
          refine lx_end ⟨by kernel_rfl, ?_⟩
          refine pe_then_normal ?_
          refine tr_sub hC (.cons (t := 2) rfl .nil) (.cons (t := 12) rfl (.cons (t := 2) rfl .nil)) rfl ?_
          refine tr_ret ?_
          refine pe_ownS' [12] rfl hO rfl (.cell (m := 2) rfl rfl ag46 sz46 .nil) (.cons (m := 12) rfl (RenR.tail _ _ _) .nil) rfl rfl rfl ?_
          intro τ ι hs'
          refine ⟨?_, ?_⟩
          · exact aggP_at (.cons (ent_at (Ent.refl _)) (.cons (ent_at (Ent.refl _)) (.cons (row_ren (hs' 0 _ rfl).1 (hs' 0 _ rfl).2) (.cons (ent_at (Ent.refl _)) (.cons (ent_at (Ent.row _ _ _ _)) .nil)))))
          · exact (.moved rfl (fun b o h => h) .nil)
theorem clone_recv (e : WE) (hb : BdE e) : FnOK Try.prog 42 [aggP e.ps] [] 1 (fun ι => aggP [eqP (.int .i64 e.window), eqP (.int .i64 e.base), slP byS 1 e.sent, eqP (.int .i64 e.got), mvP (ι 0) 3 0 e.early.length e.early.length]) (fun ι => [(ι 0, blkX 3 27 (e.early.flatMap WF.ps))]) := by
  have hbs := hb.sent
  have hbe := hb.early
  refine fn_ownN Try.func42 rfl Try.ntmps42 rfl ?_
  intro σ0 M Rf R hC hO
  simp only [frameOf, tokOf]
  refine tr_seq ?_
  refine tr_region (fun N0 hN => ?_)
  refine lxn (op_box (m := 1) (k := 1) rfl (.agg rfl) (by first | exact hC.low _ (by decide) | rfl)) rfl ?_
  refine lxn (op_alloc (m := 2) (k := 2) (ps := [eqP (.int .i64 0), eqP (.int .i64 0), eqP (.slice none 0 0), eqP (.int .i64 0), eqP (.slice none 0 0)]) ze46 rfl rfl (by first | exact hC.low _ (by decide) | rfl)) rfl ?_
  refine lx_end ⟨by kernel_rfl, ?_⟩
  refine pe_then_normal ?_
  refine tr_sub hC (.cons (t := 1) rfl (.cons (t := 2) rfl .nil)) (.cons (t := 1) rfl (.cons (t := 2) rfl .nil)) rfl ?_
  refine tr_seq ?_
  refine tr_region (fun N1 hN => ?_)
  refine lx (op_fieldAddr rfl fl46_2 sz43) rfl ?_
  refine lx (op_bload_one (m := 1) rfl rfl ag43 rfl) rfl ?_
  first | refine lx (op_len rfl el43) rfl ?_ | refine lx (op_len_row rfl el43) rfl ?_ | refine lx (op_len_mv rfl el43) rfl ?_ | refine lx (op_len_nil rfl el43) rfl ?_
  refine lxn (op_makeRow0 (m' := 12) (kk := 12) (f := byS) rfl rfl (by rfl : (e.sent.length : Int) = ((e.sent.length : Nat) : Int)) (by first | exact hC.low _ (by decide) | rfl) el43 ze25 sz25 by25 rfl byS_len (by omega) (by unfold maxLen; omega)) rfl ?_
  refine lx (op_assign rfl) rfl ?_
  refine lx_end ⟨by kernel_rfl, ?_⟩
  refine pe_then_normal ?_
  refine tr_sub hC (.cons (t := 1) rfl (.cons (t := 2) rfl (.cons (t := 3) rfl .nil))) (.cons (t := 1) rfl (.cons (t := 2) rfl (.cons (t := 12) rfl .nil))) rfl ?_
  refine tr_seq ?_
  refine tr_seq ?_
  refine tr_region (fun N2 hN => ?_)
  refine lx (op_fieldAddr rfl fl46_2 sz43) rfl ?_
  refine lx (op_bload_one (m := 1) rfl rfl ag43 rfl) rfl ?_
  first | refine lx (op_len rfl el43) rfl ?_ | refine lx (op_len_row rfl el43) rfl ?_ | refine lx (op_len_mv rfl el43) rfl ?_ | refine lx (op_len_nil rfl el43) rfl ?_
  refine lx (op_move rfl) rfl ?_
  refine lx_end ⟨by kernel_rfl, ?_⟩
  refine pe_then_normal ?_
  refine tr_sub hC (.cons (t := 1) rfl (.cons (t := 2) rfl (.cons (t := 3) rfl (.cons (t := 14) rfl (.cons (t := 15) rfl (.cons (t := 16) rfl .nil)))))) (.cons (t := 1) rfl (.cons (t := 2) rfl (.cons (t := 12) rfl .nil))) rfl ?_
  refine tr_block ?_
  refine tr_loopK (α := {zz : Nat × (List (List Int)) × AL.Id // zz.1 ≤ e.sent.length ∧ zz.2.1 = e.sent.take zz.1}) (⟨(0, [], (N1, 12)), Nat.zero_le _, rfl⟩) (fun zz => [(16, eqP (.int .i64 (zz.1.1 : Int))), (3, rowP zz.1.2.2 byS 1 zz.1.2.1)]) (fun zz => [(12, some (zz.1.2.2, tail 25 1 (zz.1.2.1.length * 1)))]) (fun zz => e.sent.length - zz.1.1) hC (.cons (t := 1) rfl (.cons (t := 2) rfl (.cons (t := 14) rfl (.cons (t := 15) rfl .nil)))) (.cons (t := 1) rfl (.cons (t := 2) rfl .nil)) rfl ?_ ?_ (fun zz => ?_)
  · try dsimp only [List.cons_append, List.nil_append]
    first | refine SubF.cons rfl ?_ | (refine SubF.ent rfl ?_ ?_; · repeat (first | exact Ents.nil | refine Ents.cons ?_ ?_ | refine Ent.tup ?_ | refine Ent.agg ?_ | exact Ent.row _ _ _ _ | exact Ent.nil _ _ | exact Ent.func _ | exact Ent.refl _ | exact Ent.of_eq rfl | refine Ent.cells ?_))
    first | refine SubF.cons rfl ?_ | (refine SubF.ent rfl ?_ ?_; · repeat (first | exact Ents.nil | refine Ents.cons ?_ ?_ | refine Ent.tup ?_ | refine Ent.agg ?_ | exact Ent.row _ _ _ _ | exact Ent.nil _ _ | exact Ent.func _ | exact Ent.refl _ | exact Ent.of_eq rfl | refine Ent.cells ?_))
    exact SubF.nil
  · try dsimp only [List.cons_append, List.nil_append]
    repeat (first | exact SubL.nil | refine SubL.cons rfl ?_)
  · obtain ⟨⟨k, xs, i⟩, hk1, hxs⟩ := zz
    try dsimp only at hk1
    try dsimp only at hxs
    dsimp only [List.cons_append, List.nil_append]
    refine tr_seq ?_
    refine tr_region (fun N3 hN => ?_)
    refine lx (op_lss rfl rfl) rfl ?_
    refine lx_end ⟨by kernel_rfl, ?_⟩
    refine pe_then_normal ?_
    refine tr_sub hC (.cons (t := 1) rfl (.cons (t := 2) rfl (.cons (t := 3) rfl (.cons (t := 14) rfl (.cons (t := 15) rfl (.cons (t := 16) rfl (.cons (t := 17) rfl .nil))))))) (.cons (t := 12) rfl (.cons (t := 1) rfl (.cons (t := 2) rfl .nil))) rfl ?_
    refine tr_seq ?_
    refine tr_cond rfl (fun h17 => ?_) (fun h17 => ?_)
    · (try simp only [Bool.and_eq_true, Bool.or_eq_true, Bool.and_eq_false_iff, Bool.or_eq_false_iff, decide_eq_true_eq, decide_eq_false_iff_not, Bool.not_eq_true', Bool.not_eq_false', List.length_map, ne_eq, Decidable.not_not, Int.not_lt, Int.not_le] at h17)
      have hxl : xs.length ≤ k := by rw [hxs, List.length_take]; omega
      refine tr_skip ?_
      refine pe_then_normal ?_
      refine tr_sub hC (.cons (t := 1) rfl (.cons (t := 2) rfl (.cons (t := 3) rfl (.cons (t := 14) rfl (.cons (t := 15) rfl (.cons (t := 16) rfl .nil)))))) (.cons (t := 12) rfl (.cons (t := 1) rfl (.cons (t := 2) rfl .nil))) rfl ?_
      refine tr_seq ?_
      refine tr_block ?_
      refine tr_seq ?_
      refine tr_region (fun N4 hN => ?_)
      refine lx (op_index rfl rfl el43 sz25 rfl (List.getElem?_eq_getElem (by omega : k < e.sent.length))) rfl ?_
      first | refine lx (op_load_one rfl ag25 rfl) rfl ?_ | refine lx (op_bload_one (m := 12) rfl rfl ag25 rfl) rfl ?_ | refine lx (op_bload_one (m := 1) rfl rfl ag25 rfl) rfl ?_ | refine lx (op_bload_one (m := 2) rfl rfl ag25 rfl) rfl ?_
      refine lx (op_assign rfl) rfl ?_
      refine lx_end ⟨by kernel_rfl, ?_⟩
      refine pe_then_normal ?_
      refine tr_sub hC (.cons (t := 1) rfl (.cons (t := 2) rfl (.cons (t := 3) rfl (.cons (t := 5) rfl (.cons (t := 14) rfl (.cons (t := 15) rfl (.cons (t := 16) rfl .nil))))))) (.cons (t := 12) rfl (.cons (t := 1) rfl (.cons (t := 2) rfl .nil))) rfl ?_
      refine tr_region (fun N5 hN => ?_)
      refine lx (op_move rfl) rfl ?_
      refine lx (op_move rfl) rfl ?_
      first | refine lx (op_call (l := [(Go.Operand.tmp 21)]) (clone_ok e.sent[k] (by have := hb.each _ (List.getElem_mem (by omega : k < e.sent.length)); omega)) (.cons rfl .nil) fn38) rfl ?_ | refine lx (op_call (l := [(Go.Operand.tmp 21)]) (clone_ok e.sent[k] (by have := hb.each _ (List.getElem_mem (by omega : k < e.sent.length)); omega)) (.ent rfl (by repeat (first | exact Ents.nil | refine Ents.cons ?_ ?_ | refine Ent.tup ?_ | refine Ent.agg ?_ | exact Ent.row _ _ _ _ | exact Ent.nil _ _ | exact Ent.func _ | exact Ent.refl _ | exact Ent.of_eq rfl | refine Ent.cells ?_)) .nil) fn38) rfl ?_
      refine lx (op_buildSlice (f := byS) (xs := [e.sent[k]]) (l := [(0, (Go.Operand.tmp 22))]) ze25 rfl rfl (by decide) el43 sz25 byS_len (.cons rfl (.one (by (first | exact One.eq rfl | exact One.mv _ _ _ _ _ | exact One.cl _ _ _ | exact One.map _ | exact One.sl _ _ _ | exact One.row _ _ _ _ | exact One.msl _ _ _ _ | exact One.ptr _ _ | exact One.b _ | exact One.cells _))) .nil) rfl (by decide)) rfl ?_
      refine lxr (op_append (m := 12) (m' := 12) (kk := 24) rfl rfl rfl (.inl rfl) el43 ze25 sz25 by25 rfl byS_len (by rw [List.length_singleton]; omega) (by rw [List.length_singleton]; omega)) rfl ?_
      refine lx (op_assign rfl) rfl ?_
      refine lx_end ⟨by kernel_rfl, ?_⟩
      refine pe_block_normal ?_
      refine pe_then_normal ?_
      refine tr_sub hC (.cons (t := 1) rfl (.cons (t := 2) rfl (.cons (t := 3) rfl (.cons (t := 14) rfl (.cons (t := 15) rfl (.cons (t := 16) rfl .nil)))))) (.cons (t := 1) rfl (.cons (t := 2) rfl (.cons (t := 12) rfl .nil))) rfl ?_
      refine tr_region (fun N6 hN => ?_)
      refine lx (op_add rfl rfl (by omega)) rfl ?_
      refine lx (op_move rfl) rfl ?_
      refine lx_end ⟨by kernel_rfl, ?_⟩
      refine pe_round (⟨(k + 1, xs ++ [e.sent[k]], (N5, 24)), by dsimp only; omega, by dsimp only; rw [hxs, take_at (by omega : k < e.sent.length)]⟩) (by dsimp only; omega) (pe_st hC ?_ ?_ rfl)
      · try dsimp only [List.cons_append, List.nil_append]
        first | refine SubF.cons rfl ?_ | (refine SubF.ent rfl ?_ ?_; · repeat (first | exact Ents.nil | refine Ents.cons ?_ ?_ | refine Ent.tup ?_ | refine Ent.agg ?_ | exact Ent.row _ _ _ _ | exact Ent.nil _ _ | exact Ent.func _ | exact Ent.refl _ | exact Ent.of_eq rfl | refine Ent.cells ?_))
        first | refine SubF.cons rfl ?_ | (refine SubF.ent rfl ?_ ?_; · repeat (first | exact Ents.nil | refine Ents.cons ?_ ?_ | refine Ent.tup ?_ | refine Ent.agg ?_ | exact Ent.row _ _ _ _ | exact Ent.nil _ _ | exact Ent.func _ | exact Ent.refl _ | exact Ent.of_eq rfl | refine Ent.cells ?_))
        first | refine SubF.cons rfl ?_ | (refine SubF.ent rfl ?_ ?_; · repeat (first | exact Ents.nil | refine Ents.cons ?_ ?_ | refine Ent.tup ?_ | refine Ent.agg ?_ | exact Ent.row _ _ _ _ | exact Ent.nil _ _ | exact Ent.func _ | exact Ent.refl _ | exact Ent.of_eq rfl | refine Ent.cells ?_))
        first | refine SubF.cons rfl ?_ | (refine SubF.ent rfl ?_ ?_; · repeat (first | exact Ents.nil | refine Ents.cons ?_ ?_ | refine Ent.tup ?_ | refine Ent.agg ?_ | exact Ent.row _ _ _ _ | exact Ent.nil _ _ | exact Ent.func _ | exact Ent.refl _ | exact Ent.of_eq rfl | refine Ent.cells ?_))
        first | refine SubF.cons rfl ?_ | (refine SubF.ent rfl ?_ ?_; · repeat (first | exact Ents.nil | refine Ents.cons ?_ ?_ | refine Ent.tup ?_ | refine Ent.agg ?_ | exact Ent.row _ _ _ _ | exact Ent.nil _ _ | exact Ent.func _ | exact Ent.refl _ | exact Ent.of_eq rfl | refine Ent.cells ?_))
        first | refine SubF.cons rfl ?_ | (refine SubF.ent rfl ?_ ?_; · repeat (first | exact Ents.nil | refine Ents.cons ?_ ?_ | refine Ent.tup ?_ | refine Ent.agg ?_ | exact Ent.row _ _ _ _ | exact Ent.nil _ _ | exact Ent.func _ | exact Ent.refl _ | exact Ent.of_eq rfl | refine Ent.cells ?_))
        exact SubF.nil
      · try dsimp only [List.cons_append, List.nil_append]
        repeat (first | exact SubL.nil | refine SubL.cons rfl ?_)
    · (try simp only [Bool.and_eq_true, Bool.or_eq_true, Bool.and_eq_false_iff, Bool.or_eq_false_iff, decide_eq_true_eq, decide_eq_false_iff_not, Bool.not_eq_true', Bool.not_eq_false', List.length_map, ne_eq, Decidable.not_not, Int.not_lt, Int.not_le] at h17)
      have hfin : xs = e.sent := by rw [hxs, List.take_of_length_le (by omega)]
      subst hfin
      refine tr_exit ?_
      refine pe_then_exit ?_
      refine pe_then_exit ?_
      refine pe_block_eq ?_
      refine pe_then_normal ?_
      refine tr_sub hC (.cons (t := 1) rfl (.cons (t := 2) rfl (.cons (t := 3) rfl .nil))) (.cons (t := 12) rfl (.cons (t := 1) rfl (.cons (t := 2) rfl .nil))) rfl ?_
      refine tr_seq ?_
      refine tr_region (fun N7 hN => ?_)
      refine lx (op_fieldAddr rfl fl46_4 sz44) rfl ?_
      refine lx (op_bload_one (m := 1) rfl rfl ag44 rfl) rfl ?_
      first | refine lx (op_len rfl el44) rfl ?_ | refine lx (op_len_row rfl el44) rfl ?_ | refine lx (op_len_mv rfl el44) rfl ?_ | refine lx (op_len_nil rfl el44) rfl ?_
      refine lxn (op_makeSlice (m' := 29) (kk := 29) rfl rfl (l := 0) (c := e.early.length) rfl rfl (by first | exact hC.low _ (by decide) | rfl) el44 ze27 sz27 by27 rfl rfl rfl rfl (by omega) (by omega) (by unfold maxLen; omega)) rfl ?_
      refine lx (op_assign rfl) rfl ?_
      refine lx_end ⟨by kernel_rfl, ?_⟩
      refine pe_then_normal ?_
      refine tr_sub hC (.cons (t := 1) rfl (.cons (t := 2) rfl (.cons (t := 3) rfl (.cons (t := 6) rfl .nil)))) (.cons (t := 12) rfl (.cons (t := 1) rfl (.cons (t := 2) rfl (.cons (t := 29) rfl .nil)))) rfl ?_
      refine tr_seq ?_
      refine tr_seq ?_
      refine tr_region (fun N8 hN => ?_)
      refine lx (op_fieldAddr rfl fl46_4 sz44) rfl ?_
      refine lx (op_bload_one (m := 1) rfl rfl ag44 rfl) rfl ?_
      first | refine lx (op_len rfl el44) rfl ?_ | refine lx (op_len_row rfl el44) rfl ?_ | refine lx (op_len_mv rfl el44) rfl ?_ | refine lx (op_len_nil rfl el44) rfl ?_
      refine lx (op_move rfl) rfl ?_
      refine lx_end ⟨by kernel_rfl, ?_⟩
      refine pe_then_normal ?_
      refine tr_sub hC (.cons (t := 1) rfl (.cons (t := 2) rfl (.cons (t := 3) rfl (.cons (t := 6) rfl (.cons (t := 31) rfl (.cons (t := 32) rfl (.cons (t := 33) rfl .nil))))))) (.cons (t := 12) rfl (.cons (t := 1) rfl (.cons (t := 2) rfl (.cons (t := 29) rfl .nil)))) rfl ?_
      refine tr_block ?_
      refine tr_prefTok (m := 29) [] rfl ⟨_, rfl⟩ ?_
      refine tr_sub hC (.cons (t := 1) rfl (.cons (t := 2) rfl (.cons (t := 3) rfl (.ent (t := 6) rfl (Ent.mvc (c' := 0) (by omega)) (.cons (t := 31) rfl (.cons (t := 32) rfl (.cons (t := 33) rfl .nil))))))) (.cons (t := 12) rfl (.cons (t := 1) rfl (.cons (t := 2) rfl (.cons (t := 29) rfl .nil)))) rfl ?_
      refine tr_loopK (α := {zz : Nat × (List WF) × AL.Id // zz.1 ≤ e.early.length ∧ zz.2.1 = e.early.take zz.1}) (⟨(0, [], (N7, 29)), Nat.zero_le _, rfl⟩) (fun zz => [(33, eqP (.int .i64 (zz.1.1 : Int))), (6, mvP zz.1.2.2 3 0 zz.1.2.1.length zz.1.2.1.length)]) (fun zz => [(29, some (zz.1.2.2, blkX 3 27 (zz.1.2.1.flatMap WF.ps)))]) (fun zz => e.early.length - zz.1.1) hC (.cons (t := 1) rfl (.cons (t := 2) rfl (.cons (t := 3) rfl (.cons (t := 31) rfl (.cons (t := 32) rfl .nil))))) (.cons (t := 12) rfl (.cons (t := 1) rfl (.cons (t := 2) rfl .nil))) rfl ?_ ?_ (fun zz => ?_)
      · try dsimp only [List.cons_append, List.nil_append]
        first | refine SubF.cons rfl ?_ | (refine SubF.ent rfl ?_ ?_; · repeat (first | exact Ents.nil | refine Ents.cons ?_ ?_ | refine Ent.tup ?_ | refine Ent.agg ?_ | exact Ent.row _ _ _ _ | exact Ent.nil _ _ | exact Ent.func _ | exact Ent.refl _ | exact Ent.of_eq rfl | refine Ent.cells ?_))
        first | refine SubF.cons rfl ?_ | (refine SubF.ent rfl ?_ ?_; · repeat (first | exact Ents.nil | refine Ents.cons ?_ ?_ | refine Ent.tup ?_ | refine Ent.agg ?_ | exact Ent.row _ _ _ _ | exact Ent.nil _ _ | exact Ent.func _ | exact Ent.refl _ | exact Ent.of_eq rfl | refine Ent.cells ?_))
        exact SubF.nil
      · try dsimp only [List.cons_append, List.nil_append]
        repeat (first | exact SubL.nil | refine SubL.cons rfl ?_)
      · obtain ⟨⟨k, xs, i2⟩, hk1, hxs⟩ := zz
        try dsimp only at hk1
        try dsimp only at hxs
        dsimp only [List.cons_append, List.nil_append]
        refine tr_seq ?_
        refine tr_region (fun N9 hN => ?_)
        refine lx (op_lss rfl rfl) rfl ?_
        refine lx_end ⟨by kernel_rfl, ?_⟩
        refine pe_then_normal ?_
        refine tr_sub hC (.cons (t := 1) rfl (.cons (t := 2) rfl (.cons (t := 3) rfl (.cons (t := 6) rfl (.cons (t := 31) rfl (.cons (t := 32) rfl (.cons (t := 33) rfl (.cons (t := 34) rfl .nil)))))))) (.cons (t := 29) rfl (.cons (t := 12) rfl (.cons (t := 1) rfl (.cons (t := 2) rfl .nil)))) rfl ?_
        refine tr_seq ?_
        refine tr_cond rfl (fun h34 => ?_) (fun h34 => ?_)
        · (try simp only [Bool.and_eq_true, Bool.or_eq_true, Bool.and_eq_false_iff, Bool.or_eq_false_iff, decide_eq_true_eq, decide_eq_false_iff_not, Bool.not_eq_true', Bool.not_eq_false', List.length_map, ne_eq, Decidable.not_not, Int.not_lt, Int.not_le] at h34)
          have hxl : xs.length ≤ k := by rw [hxs, List.length_take]; omega
          refine tr_skip ?_
          refine pe_then_normal ?_
          refine tr_sub hC (.cons (t := 1) rfl (.cons (t := 2) rfl (.cons (t := 3) rfl (.cons (t := 6) rfl (.cons (t := 31) rfl (.cons (t := 32) rfl (.cons (t := 33) rfl .nil))))))) (.cons (t := 29) rfl (.cons (t := 12) rfl (.cons (t := 1) rfl (.cons (t := 2) rfl .nil)))) rfl ?_
          refine tr_seq ?_
          refine tr_block ?_
          refine tr_seq ?_
          refine tr_region (fun N10 hN => ?_)
          refine lx (op_index rfl rfl el44 sz27 rfl (List.getElem?_eq_getElem (by omega : k < e.early.length))) rfl ?_
          first | refine lx (op_load_all rfl ag27 sz27) rfl ?_ | refine lx (op_load_agg rfl ag27 sz27 rfl) rfl ?_ | refine lx (op_bload (m := 29) rfl rfl ag27 sz27) rfl ?_ | refine lx (op_bload (m := 12) rfl rfl ag27 sz27) rfl ?_ | refine lx (op_bload (m := 1) rfl rfl ag27 sz27) rfl ?_ | refine lx (op_bload (m := 2) rfl rfl ag27 sz27) rfl ?_ | refine lx (op_bload_part (m := 29) (qs := [_, _, _]) rfl rfl ag27 sz27 rfl rfl) rfl ?_ | refine lx (op_bload_part (m := 12) (qs := [_, _, _]) rfl rfl ag27 sz27 rfl rfl) rfl ?_ | refine lx (op_bload_part (m := 1) (qs := [_, _, _]) rfl rfl ag27 sz27 rfl rfl) rfl ?_ | refine lx (op_bload_part (m := 2) (qs := [_, _, _]) rfl rfl ag27 sz27 rfl rfl) rfl ?_
          refine lxn (op_alloc (m := 8) (k := 8) (ps := [eqP (.int .i64 0), eqP (.int .i64 0), eqP (.slice none 0 0)]) ze27 rfl rfl (by first | exact hC.low _ (by decide) | rfl)) rfl ?_
          refine lxr (op_store_all (m := 8) rfl rfl rfl (.agg rfl) sz27 rfl) rfl ?_
          refine lx_end ⟨by kernel_rfl, ?_⟩
          refine pe_then_normal ?_
          refine tr_sub hC (.cons (t := 1) rfl (.cons (t := 2) rfl (.cons (t := 3) rfl (.cons (t := 6) rfl (.cons (t := 8) rfl (.cons (t := 31) rfl (.cons (t := 32) rfl (.cons (t := 33) rfl .nil)))))))) (.cons (t := 29) rfl (.cons (t := 12) rfl (.cons (t := 1) rfl (.cons (t := 2) rfl (.cons (t := 8) rfl .nil))))) rfl ?_
          refine tr_seq ?_
          refine tr_region (fun N11 hN => ?_)
          refine lx (op_fieldAddr rfl fl27_2 sz25) rfl ?_
          refine lx (op_bload_one (m := 8) rfl rfl ag25 rfl) rfl ?_
          first | refine lx (op_call (l := [(Go.Operand.tmp 38)]) (clone_ok e.early[k].data (by have := hb.data _ (List.getElem_mem (by omega : k < e.early.length)); omega)) (.cons rfl .nil) fn38) rfl ?_ | refine lx (op_call (l := [(Go.Operand.tmp 38)]) (clone_ok e.early[k].data (by have := hb.data _ (List.getElem_mem (by omega : k < e.early.length)); omega)) (.ent rfl (by repeat (first | exact Ents.nil | refine Ents.cons ?_ ?_ | refine Ent.tup ?_ | refine Ent.agg ?_ | exact Ent.row _ _ _ _ | exact Ent.nil _ _ | exact Ent.func _ | exact Ent.refl _ | exact Ent.of_eq rfl | refine Ent.cells ?_)) .nil) fn38) rfl ?_
          refine lx (op_fieldAddr rfl fl27_2 sz25) rfl ?_
          refine lxr (op_store (m := 8) (rs := [_, _, _]) rfl rfl rfl (.one (by (first | exact One.eq rfl | exact One.mv _ _ _ _ _ | exact One.cl _ _ _ | exact One.map _ | exact One.sl _ _ _ | exact One.row _ _ _ _ | exact One.msl _ _ _ _ | exact One.ptr _ _ | exact One.b _ | exact One.cells _))) sz25 rfl rfl rfl) rfl ?_
          refine lx_end ⟨by kernel_rfl, ?_⟩
          refine pe_then_normal ?_
          refine tr_sub hC (.cons (t := 1) rfl (.cons (t := 2) rfl (.cons (t := 3) rfl (.cons (t := 6) rfl (.cons (t := 8) rfl (.cons (t := 31) rfl (.cons (t := 32) rfl (.cons (t := 33) rfl .nil)))))))) (.cons (t := 29) rfl (.cons (t := 12) rfl (.cons (t := 1) rfl (.cons (t := 2) rfl (.cons (t := 8) rfl .nil))))) rfl ?_
          refine tr_region (fun N12 hN => ?_)
          refine lx (op_move rfl) rfl ?_
          refine lx (op_bload (m := 8) rfl rfl ag27 sz27) rfl ?_
          refine lx (op_buildSlice (f := WF.ps) (xs := [e.early[k]]) (l := [(0, (Go.Operand.tmp 42))]) ze27 rfl rfl (by decide) el44 sz27 WF.len (.cons rfl (.agg rfl) .nil) rfl (by decide)) rfl ?_
          refine lxr (op_append_t (m := 29) (m' := 29) (kk := 44) (f := WF.ps) rfl rfl rfl (.inl rfl) el44 ze27 sz27 by27 rfl (by decide) WF.len (by rw [List.length_singleton]; omega) (by rw [List.length_singleton]; omega)) rfl ?_
          refine lx (op_assign rfl) rfl ?_
          refine lx_end ⟨by kernel_rfl, ?_⟩
          refine pe_block_normal ?_
          refine pe_then_normal ?_
          refine tr_sub hC (.cons (t := 1) rfl (.cons (t := 2) rfl (.cons (t := 3) rfl (.cons (t := 6) rfl (.cons (t := 31) rfl (.cons (t := 32) rfl (.cons (t := 33) rfl .nil))))))) (.cons (t := 12) rfl (.cons (t := 1) rfl (.cons (t := 2) rfl (.cons (t := 29) rfl .nil)))) rfl ?_
          refine tr_region (fun N13 hN => ?_)
          refine lx (op_add rfl rfl (by omega)) rfl ?_
          refine lx (op_move rfl) rfl ?_
          refine lx_end ⟨by kernel_rfl, ?_⟩
          refine pe_round (⟨(k + 1, xs ++ [e.early[k]], (N12, 44)), by dsimp only; omega, by dsimp only; rw [hxs, take_at (by omega : k < e.early.length)]⟩) (by dsimp only; omega) (pe_st hC ?_ ?_ rfl)
          · try dsimp only [List.cons_append, List.nil_append]
            first | refine SubF.cons rfl ?_ | (refine SubF.ent rfl ?_ ?_; · repeat (first | exact Ents.nil | refine Ents.cons ?_ ?_ | refine Ent.tup ?_ | refine Ent.agg ?_ | exact Ent.row _ _ _ _ | exact Ent.nil _ _ | exact Ent.func _ | exact Ent.refl _ | exact Ent.of_eq rfl | refine Ent.cells ?_))
            first | refine SubF.cons rfl ?_ | (refine SubF.ent rfl ?_ ?_; · repeat (first | exact Ents.nil | refine Ents.cons ?_ ?_ | refine Ent.tup ?_ | refine Ent.agg ?_ | exact Ent.row _ _ _ _ | exact Ent.nil _ _ | exact Ent.func _ | exact Ent.refl _ | exact Ent.of_eq rfl | refine Ent.cells ?_))
            first | refine SubF.cons rfl ?_ | (refine SubF.ent rfl ?_ ?_; · repeat (first | exact Ents.nil | refine Ents.cons ?_ ?_ | refine Ent.tup ?_ | refine Ent.agg ?_ | exact Ent.row _ _ _ _ | exact Ent.nil _ _ | exact Ent.func _ | exact Ent.refl _ | exact Ent.of_eq rfl | refine Ent.cells ?_))
            first | refine SubF.cons rfl ?_ | (refine SubF.ent rfl ?_ ?_; · repeat (first | exact Ents.nil | refine Ents.cons ?_ ?_ | refine Ent.tup ?_ | refine Ent.agg ?_ | exact Ent.row _ _ _ _ | exact Ent.nil _ _ | exact Ent.func _ | exact Ent.refl _ | exact Ent.of_eq rfl | refine Ent.cells ?_))
            first | refine SubF.cons rfl ?_ | (refine SubF.ent rfl ?_ ?_; · repeat (first | exact Ents.nil | refine Ents.cons ?_ ?_ | refine Ent.tup ?_ | refine Ent.agg ?_ | exact Ent.row _ _ _ _ | exact Ent.nil _ _ | exact Ent.func _ | exact Ent.refl _ | exact Ent.of_eq rfl | refine Ent.cells ?_))
            first | refine SubF.cons rfl ?_ | (refine SubF.ent rfl ?_ ?_; · repeat (first | exact Ents.nil | refine Ents.cons ?_ ?_ | refine Ent.tup ?_ | refine Ent.agg ?_ | exact Ent.row _ _ _ _ | exact Ent.nil _ _ | exact Ent.func _ | exact Ent.refl _ | exact Ent.of_eq rfl | refine Ent.cells ?_))
            first | refine SubF.cons rfl ?_ | (refine SubF.ent rfl ?_ ?_; · repeat (first | exact Ents.nil | refine Ents.cons ?_ ?_ | refine Ent.tup ?_ | refine Ent.agg ?_ | exact Ent.row _ _ _ _ | exact Ent.nil _ _ | exact Ent.func _ | exact Ent.refl _ | exact Ent.of_eq rfl | refine Ent.cells ?_))
            exact SubF.nil
          · try dsimp only [List.cons_append, List.nil_append]
            repeat (first | exact SubL.nil | refine SubL.cons rfl ?_)
        · (try simp only [Bool.and_eq_true, Bool.or_eq_true, Bool.and_eq_false_iff, Bool.or_eq_false_iff, decide_eq_true_eq, decide_eq_false_iff_not, Bool.not_eq_true', Bool.not_eq_false', List.length_map, ne_eq, Decidable.not_not, Int.not_lt, Int.not_le] at h34)
          have hfin : xs = e.early := by rw [hxs, List.take_of_length_le (by omega)]
          subst hfin
          refine tr_exit ?_
          refine pe_then_exit ?_
          refine pe_then_exit ?_
          refine pe_block_eq ?_
          refine pe_then_normal ?_
          refine tr_sub hC (.cons (t := 1) rfl (.cons (t := 2) rfl (.cons (t := 3) rfl (.cons (t := 6) rfl .nil)))) (.cons (t := 29) rfl (.cons (t := 12) rfl (.cons (t := 1) rfl (.cons (t := 2) rfl .nil)))) rfl ?_
          refine tr_seq ?_
          refine tr_region (fun N14 hN => ?_)
          refine lx (op_move rfl) rfl ?_
          refine lx (op_move rfl) rfl ?_
          refine lx (op_fieldAddr rfl fl46_2 sz43) rfl ?_
          refine lxr (op_store (m := 1) (rs := [_, _, _, _, _]) rfl rfl rfl (.one (by (first | exact One.eq rfl | exact One.mv _ _ _ _ _ | exact One.cl _ _ _ | exact One.map _ | exact One.sl _ _ _ | exact One.row _ _ _ _ | exact One.msl _ _ _ _ | exact One.ptr _ _ | exact One.b _ | exact One.cells _))) sz43 rfl rfl rfl) rfl ?_
          refine lx (op_fieldAddr rfl fl46_4 sz44) rfl ?_
          refine lxr (op_store (m := 1) (rs := [_, _, _, _, _]) rfl rfl rfl (.one (by (first | exact One.eq rfl | exact One.mv _ _ _ _ _ | exact One.cl _ _ _ | exact One.map _ | exact One.sl _ _ _ | exact One.row _ _ _ _ | exact One.msl _ _ _ _ | exact One.ptr _ _ | exact One.b _ | exact One.cells _))) sz44 rfl rfl rfl) rfl ?_
          refine lx_end ⟨by kernel_rfl, ?_⟩
          refine pe_then_normal ?_
          refine tr_sub hC (.cons (t := 1) rfl (.cons (t := 2) rfl .nil)) (.cons (t := 29) rfl (.cons (t := 1) rfl (.cons (t := 2) rfl .nil))) rfl ?_
          refine tr_seq ?_
          refine tr_region (fun N15 hN => ?_)
          refine lx (op_bload (m := 1) rfl rfl ag46 sz46) rfl ?_
          refine lxr (op_store_all (m := 2) rfl rfl rfl (.agg rfl) sz46 rfl) rfl ?_
          refine lx_end ⟨by kernel_rfl, ?_⟩
          refine pe_then_normal ?_
          refine tr_sub hC (.cons (t := 2) rfl .nil) (.cons (t := 29) rfl (.cons (t := 2) rfl .nil)) rfl ?_
          refine tr_ret ?_
          refine pe_ownS' [29] rfl hO rfl (.cell (m := 2) rfl rfl ag46 sz46 .nil) (.cons (m := 29) rfl (RenR.blk _ _ _) .nil) rfl rfl rfl ?_
          intro τ ι hs'
          refine ⟨?_, ?_⟩
          · exact aggP_at (.cons (ent_at (Ent.refl _)) (.cons (ent_at (Ent.refl _)) (.cons (ent_at (Ent.row _ _ _ _)) (.cons (ent_at (Ent.refl _)) (.cons (mv_ren (hs' 0 _ rfl).1 (hs' 0 _ rfl).2) .nil)))))
          · exact (.moved rfl (fun b o h => h) .nil)
end Go.Proofs.Ytgdhogmghffbaaa


set_option linter.unusedVariables false
set_option linter.unusedSimpArgs false
namespace Go.Proofs.Ytgdhogmghffbaaa
open Go.AL Go.Wr Go.RowKit
theorem by9 : bytesB Try.prog 9 = some 16 := by kernel_rfl
theorem fn22 : fnB Try.prog 22 = true := by kernel_rfl
theorem fn23 : fnB Try.prog 23 = true := by kernel_rfl
theorem fn42 : fnB Try.prog 42 = true := by kernel_rfl
theorem ze9 : zeroB Try.prog 9 = some (some (.string ⟨#[]⟩)) := by kernel_rfl
theorem Send_ok (e : WE) (d : List Int) (hd : d.length ≤ 4000000) : FnP Try.prog 17 [aggP e.ps, slP byP 1 d] (tupP [aggP (sendF e d).1.ps, eqP (.int .i64 (sendF e d).2)]) := by
  refine fn_pure' Try.func17 rfl Try.ntmps17 rfl ?_
  intro σ0 M ex Rf R hC hO
  simp only [frameOf, tokOf]
  refine tr_seq ?_
  refine tr_region (fun N0 hN => ?_)
  refine lxn (op_box (m := 2) (k := 2) rfl (.agg rfl) (by first | exact hC.low _ (by decide) | rfl)) rfl ?_
  refine lxn (op_alloc (m := 4) (k := 4) (ps := [eqP (.int .i64 0), eqP (.int .i64 0), eqP (.slice none 0 0), eqP (.int .i64 0), eqP (.slice none 0 0)]) ze46 rfl rfl (by first | exact hC.low _ (by decide) | rfl)) rfl ?_
  refine lx (op_assign rfl) rfl ?_
  refine lx_end ⟨by kernel_rfl, ?_⟩
  refine pe_then_normal ?_
  refine tr_sub hC (.cons (t := 1) rfl (.cons (t := 2) rfl (.cons (t := 4) rfl .nil))) (.cons (t := 2) rfl (.cons (t := 4) rfl .nil)) rfl ?_
  refine tr_seq ?_
  refine tr_block ?_
  refine tr_seq ?_
  refine tr_region (fun N1 hN => ?_)
  refine lx (op_bload (m := 2) rfl rfl ag46 sz46) rfl ?_
  first | refine lx (op_call (l := [(Go.Operand.tmp 7)]) (Valid_ok e) (.cons rfl .nil) fn22) rfl ?_ | refine lx (op_call (l := [(Go.Operand.tmp 7)]) (Valid_ok e) (.ent rfl (by repeat (first | exact Ents.nil | refine Ents.cons ?_ ?_ | refine Ent.tup ?_ | refine Ent.agg ?_ | exact Ent.row _ _ _ _ | exact Ent.nil _ _ | exact Ent.func _ | exact Ent.refl _ | exact Ent.of_eq rfl | refine Ent.cells ?_)) .nil) fn22) rfl ?_
  first | refine lx (op_not rfl) rfl ?_ | refine lx (op_not_b rfl) rfl ?_
  refine lx (op_assign rfl) rfl ?_
  refine lx_end ⟨by kernel_rfl, ?_⟩
  refine pe_then_normal ?_
  refine tr_sub hC (.cons (t := 1) rfl (.cons (t := 2) rfl (.cons (t := 4) rfl (.cons (t := 6) rfl .nil)))) (.cons (t := 2) rfl (.cons (t := 4) rfl .nil)) rfl ?_
  refine tr_cond rfl (fun h6 => ?_) (fun h6 => ?_)
  · have hv : validF e = false := by simpa using h6
    have h := send_1 (d := d) hv
    refine tr_seq ?_
    refine tr_region (fun N2 hN => ?_)
    refine lx (op_build (qs := [_, _, _, _, _]) (parts := []) ze46 rfl rfl fs46 .nil rfl rfl) rfl ?_
    refine lxr (op_store_all (m := 4) rfl rfl rfl (.agg rfl) sz46 rfl) rfl ?_
    refine lx (op_assign rfl) rfl ?_
    refine lx_end ⟨by kernel_rfl, ?_⟩
    refine pe_then_normal ?_
    refine tr_sub hC (.cons (t := 4) rfl (.cons (t := 5) rfl .nil)) (.cons (t := 4) rfl .nil) rfl ?_
    refine tr_ret ?_
    refine pe_block_ret ?_
    refine pe_then_ret ?_
    refine pe_retN (rs := [.cell 4 46, .tmp 5]) rfl rfl hO rfl (.cell (m := 4) rfl rfl ag46 sz46 (.tmp rfl .nil)) ?_
    rw [h]
    repeat (first | exact Ents.nil | refine Ents.cons ?_ ?_ | refine Ent.tup ?_ | refine Ent.agg ?_ | exact Ent.row _ _ _ _ | exact Ent.nil _ _ | exact Ent.func _ | exact Ent.refl _ | exact Ent.of_eq rfl | refine Ent.cells ?_)
  · have hv : validF e = true := by simpa using h6
    have hh := valid_head hv
    unfold headOK at hh
    refine tr_seq ?_
    refine tr_region (fun N3 hN => ?_)
    refine lx (op_move rfl) rfl ?_
    first | refine lx (op_len rfl el25) rfl ?_ | refine lx (op_len_row rfl el25) rfl ?_ | refine lx (op_len_mv rfl el25) rfl ?_ | refine lx (op_len_nil rfl el25) rfl ?_
    refine lx (op_gtr rfl rfl) rfl ?_
    refine lx (op_move rfl) rfl ?_
    refine lxs rfl rfl rfl guard_eq (.cons (t := 2) rfl (fun _ => Ent.refl _) .nil) (op_fieldAddr rfl fl46_1 sz3) rfl ?_
    refine lxs rfl rfl rfl guard_eq (.cons (t := 16) rfl (fun h => entW h) .nil) (op_bload_one (m := 2) rfl rfl ag3 rfl) rfl ?_
    refine lxs rfl rfl rfl guard_eq (.cons (t := 2) rfl (fun _ => Ent.refl _) .nil) (op_fieldAddr rfl fl46_2 sz43) rfl ?_
    refine lxs rfl rfl rfl guard_eq (.cons (t := 18) rfl (fun h => entW h) .nil) (op_bload_one (m := 2) rfl rfl ag43 rfl) rfl ?_
    first | refine lxs rfl rfl rfl guard_eq (.cons (t := 19) rfl (fun h => entW h) .nil) (op_len rfl el43) rfl ?_ | refine lxs rfl rfl rfl guard_eq (.cons (t := 19) rfl (fun h => entW h) .nil) (op_len_row rfl el43) rfl ?_ | refine lxs rfl rfl rfl guard_eq (.cons (t := 19) rfl (fun h => entW h) .nil) (op_len_mv rfl el43) rfl ?_ | refine lxs rfl rfl rfl guard_eq (.cons (t := 19) rfl (fun h => entW h) .nil) (op_len_nil rfl el43) rfl ?_
    refine lxs rfl rfl rfl guard_eq (.cons (t := 17) rfl (fun h => entW h) (.cons (t := 20) rfl (fun h => entW h) .nil)) (op_add rfl rfl (by omega)) rfl ?_
    refine lxs rfl rfl rfl guard_eq (.cons (t := 21) rfl (fun h => entW h) .nil) (op_geq rfl rfl) rfl ?_
    refine lx (op_pick_or rfl rfl) rfl ?_
    refine lx (op_assign rfl) rfl ?_
    refine lx_end ⟨by kernel_rfl, ?_⟩
    refine pe_then_normal ?_
    refine tr_sub hC (.cons (t := 1) rfl (.cons (t := 2) rfl (.cons (t := 4) rfl (.cons (t := 11) rfl .nil)))) (.cons (t := 2) rfl (.cons (t := 4) rfl .nil)) rfl ?_
    refine tr_cond rfl (fun h11 => ?_) (fun h11 => ?_)
    · (try simp only [Bool.and_eq_true, Bool.or_eq_true, Bool.and_eq_false_iff, Bool.or_eq_false_iff, decide_eq_true_eq, decide_eq_false_iff_not, Bool.not_eq_true', Bool.not_eq_false', List.length_map, ne_eq, Decidable.not_not, Int.not_lt, Int.not_le] at h11)
      have h := send_2 (d := d) hv (by omega)
      refine tr_seq ?_
      refine tr_region (fun N4 hN => ?_)
      refine lx (op_build (qs := [_, _, _, _, _]) (parts := []) ze46 rfl rfl fs46 .nil rfl rfl) rfl ?_
      refine lxr (op_store_all (m := 4) rfl rfl rfl (.agg rfl) sz46 rfl) rfl ?_
      refine lx (op_assign rfl) rfl ?_
      refine lx_end ⟨by kernel_rfl, ?_⟩
      refine pe_then_normal ?_
      refine tr_sub hC (.cons (t := 4) rfl (.cons (t := 5) rfl .nil)) (.cons (t := 4) rfl .nil) rfl ?_
      refine tr_ret ?_
      refine pe_block_ret ?_
      refine pe_then_ret ?_
      refine pe_retN (rs := [.cell 4 46, .tmp 5]) rfl rfl hO rfl (.cell (m := 4) rfl rfl ag46 sz46 (.tmp rfl .nil)) ?_
      rw [h]
      repeat (first | exact Ents.nil | refine Ents.cons ?_ ?_ | refine Ent.tup ?_ | refine Ent.agg ?_ | exact Ent.row _ _ _ _ | exact Ent.nil _ _ | exact Ent.func _ | exact Ent.refl _ | exact Ent.of_eq rfl | refine Ent.cells ?_)
    · (try simp only [Bool.and_eq_true, Bool.or_eq_true, Bool.and_eq_false_iff, Bool.or_eq_false_iff, decide_eq_true_eq, decide_eq_false_iff_not, Bool.not_eq_true', Bool.not_eq_false', List.length_map, ne_eq, Decidable.not_not, Int.not_lt, Int.not_le] at h11)
      have h2 : (¬ (d.length > 1000 ∨ e.base + (e.sent.length : Int) ≥ 1000000000)) := by omega
      refine tr_seq ?_
      refine tr_region (fun N5 hN => ?_)
      refine lx (op_fieldAddr rfl fl46_2 sz43) rfl ?_
      refine lx (op_bload_one (m := 2) rfl rfl ag43 rfl) rfl ?_
      first | refine lx (op_len rfl el43) rfl ?_ | refine lx (op_len_row rfl el43) rfl ?_ | refine lx (op_len_mv rfl el43) rfl ?_ | refine lx (op_len_nil rfl el43) rfl ?_
      refine lx (op_fieldAddr rfl fl46_0 sz3) rfl ?_
      refine lx (op_bload_one (m := 2) rfl rfl ag3 rfl) rfl ?_
      refine lx (op_eql rfl rfl) rfl ?_
      refine lx (op_assign rfl) rfl ?_
      refine lx_end ⟨by kernel_rfl, ?_⟩
      refine pe_then_normal ?_
      refine tr_sub hC (.cons (t := 1) rfl (.cons (t := 2) rfl (.cons (t := 4) rfl (.cons (t := 25) rfl .nil)))) (.cons (t := 2) rfl (.cons (t := 4) rfl .nil)) rfl ?_
      refine tr_cond rfl (fun h25 => ?_) (fun h25 => ?_)
      · (try simp only [Bool.and_eq_true, Bool.or_eq_true, Bool.and_eq_false_iff, Bool.or_eq_false_iff, decide_eq_true_eq, decide_eq_false_iff_not, Bool.not_eq_true', Bool.not_eq_false', List.length_map, ne_eq, Decidable.not_not, Int.not_lt, Int.not_le] at h25)
        have h := send_3 hv h2 (by omega)
        refine tr_seq ?_
        refine tr_region (fun N6 hN => ?_)
        refine lx (op_build (qs := [_, _, _, _, _]) (parts := []) ze46 rfl rfl fs46 .nil rfl rfl) rfl ?_
        refine lxr (op_store_all (m := 4) rfl rfl rfl (.agg rfl) sz46 rfl) rfl ?_
        refine lx (op_assign rfl) rfl ?_
        refine lx_end ⟨by kernel_rfl, ?_⟩
        refine pe_then_normal ?_
        refine tr_sub hC (.cons (t := 4) rfl (.cons (t := 5) rfl .nil)) (.cons (t := 4) rfl .nil) rfl ?_
        refine tr_ret ?_
        refine pe_block_ret ?_
        refine pe_then_ret ?_
        refine pe_retN (rs := [.cell 4 46, .tmp 5]) rfl rfl hO rfl (.cell (m := 4) rfl rfl ag46 sz46 (.tmp rfl .nil)) ?_
        rw [h]
        repeat (first | exact Ents.nil | refine Ents.cons ?_ ?_ | refine Ent.tup ?_ | refine Ent.agg ?_ | exact Ent.row _ _ _ _ | exact Ent.nil _ _ | exact Ent.func _ | exact Ent.refl _ | exact Ent.of_eq rfl | refine Ent.cells ?_)
      · (try simp only [Bool.and_eq_true, Bool.or_eq_true, Bool.and_eq_false_iff, Bool.or_eq_false_iff, decide_eq_true_eq, decide_eq_false_iff_not, Bool.not_eq_true', Bool.not_eq_false', List.length_map, ne_eq, Decidable.not_not, Int.not_lt, Int.not_le] at h25)
        have h := send_4 hv h2 (by omega)
        refine tr_skip ?_
        refine pe_block_normal ?_
        refine pe_then_normal ?_
        refine tr_sub hC (.cons (t := 1) rfl (.cons (t := 2) rfl (.cons (t := 4) rfl .nil))) (.cons (t := 2) rfl (.cons (t := 4) rfl .nil)) rfl ?_
        refine tr_seq ?_
        refine tr_region (fun N7 hN => ?_)
        refine lx (op_bload (m := 2) rfl rfl ag46 sz46) rfl ?_
        first | refine lx_any rfl (op_callG2 (l := [(Go.Operand.tmp 33)]) (add := [(601, ((N7, 100340), tail 25 1 (e.sent.length * 1)))]) (ks := [100340]) (φ := aggP [eqP (.int .i64 e.window), eqP (.int .i64 e.base), rowP (N7, 100340) byS 1 e.sent, eqP (.int .i64 e.got), slP WF.ps 3 e.early]) .nil (clone_send e (valid_bd hv)) (.cons rfl .nil) fn42 rfl rfl rfl (.new (by first | exact hC.low _ (by decide) | rfl) .nil) rfl) (dOK_spec rfl) ?_ | refine lx_any rfl (op_callG2 (l := [(Go.Operand.tmp 33)]) (add := [(601, ((N7, 100340), tail 25 1 (e.sent.length * 1)))]) (ks := [100340]) (φ := aggP [eqP (.int .i64 e.window), eqP (.int .i64 e.base), rowP (N7, 100340) byS 1 e.sent, eqP (.int .i64 e.got), slP WF.ps 3 e.early]) .nil (clone_send e (valid_bd hv)) (.ent rfl (by repeat (first | exact Ents.nil | refine Ents.cons ?_ ?_ | refine Ent.tup ?_ | refine Ent.agg ?_ | exact Ent.row _ _ _ _ | exact Ent.nil _ _ | exact Ent.func _ | exact Ent.refl _ | exact Ent.of_eq rfl | refine Ent.cells ?_)) .nil) fn42 rfl rfl rfl (.new (by first | exact hC.low _ (by decide) | rfl) .nil) rfl) (dOK_spec rfl) ?_
        refine lxr (op_store_all (m := 2) rfl rfl rfl (.agg rfl) sz46 rfl) rfl ?_
        refine lx_end ⟨by kernel_rfl, ?_⟩
        refine pe_then_normal ?_
        refine tr_sub hC (.cons (t := 1) rfl (.cons (t := 2) rfl (.cons (t := 4) rfl .nil))) (.cons (t := 2) rfl (.cons (t := 4) rfl (.cons (t := 601) rfl .nil))) rfl ?_
        refine tr_seq ?_
        refine tr_drawn mixed (fun N8 hN => ?_)
        refine lx (op_fieldAddr rfl fl46_2 sz43) rfl ?_
        refine lx (op_bload_one (m := 2) rfl rfl ag43 rfl) rfl ?_
        refine lx (op_move rfl) rfl ?_
        first | refine lx (op_call (l := [(Go.Operand.tmp 37)]) (clone_ok d hd) (.cons rfl .nil) fn38) rfl ?_ | refine lx (op_call (l := [(Go.Operand.tmp 37)]) (clone_ok d hd) (.ent rfl (by repeat (first | exact Ents.nil | refine Ents.cons ?_ ?_ | refine Ent.tup ?_ | refine Ent.agg ?_ | exact Ent.row _ _ _ _ | exact Ent.nil _ _ | exact Ent.func _ | exact Ent.refl _ | exact Ent.of_eq rfl | refine Ent.cells ?_)) .nil) fn38) rfl ?_
        refine lx (op_buildSlice (f := byS) (xs := [d]) (l := [(0, (Go.Operand.tmp 38))]) ze25 rfl rfl (by decide) el43 sz25 byS_len (.cons rfl (.one (by (first | exact One.eq rfl | exact One.mv _ _ _ _ _ | exact One.cl _ _ _ | exact One.map _ | exact One.sl _ _ _ | exact One.row _ _ _ _ | exact One.msl _ _ _ _ | exact One.ptr _ _ | exact One.b _ | exact One.cells _))) .nil) rfl (by decide)) rfl ?_
        refine lxr (op_append (m := 601) (m' := 601) (kk := 40) rfl rfl rfl (.inl rfl) el43 ze25 sz25 by25 rfl byS_len (by rw [List.length_singleton]; omega) (by rw [List.length_singleton]; omega)) rfl ?_
        refine lx (op_fieldAddr rfl fl46_2 sz43) rfl ?_
        refine lxr (op_store (m := 2) (rs := [_, _, _, _, _]) rfl rfl rfl (.one (by (first | exact One.eq rfl | exact One.mv _ _ _ _ _ | exact One.cl _ _ _ | exact One.map _ | exact One.sl _ _ _ | exact One.row _ _ _ _ | exact One.msl _ _ _ _ | exact One.ptr _ _ | exact One.b _ | exact One.cells _))) sz43 rfl rfl rfl) rfl ?_
        refine lx_end ⟨by kernel_rfl, ?_⟩
        refine pe_then_normal ?_
        refine tr_sub hC (.cons (t := 2) rfl (.cons (t := 4) rfl .nil)) (.cons (t := 2) rfl (.cons (t := 4) rfl (.cons (t := 601) rfl .nil))) rfl ?_
        refine tr_seq ?_
        refine tr_region (fun N9 hN => ?_)
        refine lx (op_bload (m := 2) rfl rfl ag46 sz46) rfl ?_
        refine lxr (op_store_all (m := 4) rfl rfl rfl (.agg rfl) sz46 rfl) rfl ?_
        refine lx (op_assign rfl) rfl ?_
        refine lx_end ⟨by kernel_rfl, ?_⟩
        refine pe_then_normal ?_
        refine tr_sub hC (.cons (t := 4) rfl (.cons (t := 5) rfl .nil)) (.cons (t := 4) rfl (.cons (t := 601) rfl .nil)) rfl ?_
        refine tr_ret ?_
        refine pe_retN (rs := [.cell 4 46, .tmp 5]) rfl rfl hO rfl (.cell (m := 4) rfl rfl ag46 sz46 (.tmp rfl .nil)) ?_
        rw [h]
        repeat (first | exact Ents.nil | refine Ents.cons ?_ ?_ | refine Ent.tup ?_ | refine Ent.agg ?_ | exact Ent.row _ _ _ _ | exact Ent.nil _ _ | exact Ent.func _ | exact Ent.refl _ | exact Ent.of_eq rfl | refine Ent.cells ?_)
theorem rSend_ok (e : RE) (d : ByteArray) : FnP Try.prog 19 [aggP e.ps, eqP (.string d)] (tupP [aggP (rsendF e d).1.ps, eqP (.int .i64 (rsendF e d).2)]) := by
  have e1 : e.to.window = e.window := rfl
  have e2 : e.to.base = e.base := rfl
  have e3 : e.to.got = e.got := rfl
  have e4 : e.to.sent.length = e.sent.length := e.to_sent
  refine fn_pure' Try.func19 rfl Try.ntmps19 rfl ?_
  intro σ0 M ex Rf R hC hO
  simp only [frameOf, tokOf]
  refine tr_seq ?_
  refine tr_region (fun N0 hN => ?_)
  refine lxn (op_box (m := 2) (k := 2) rfl (.agg rfl) (by first | exact hC.low _ (by decide) | rfl)) rfl ?_
  refine lxn (op_alloc (m := 4) (k := 4) (ps := [eqP (.int .i64 0), eqP (.int .i64 0), eqP (.int .i64 0), eqP (.slice none 0 0), eqP (.slice none 0 0)]) ze41 rfl rfl (by first | exact hC.low _ (by decide) | rfl)) rfl ?_
  refine lx (op_assign rfl) rfl ?_
  refine lx_end ⟨by kernel_rfl, ?_⟩
  refine pe_then_normal ?_
  refine tr_sub hC (.cons (t := 1) rfl (.cons (t := 2) rfl (.cons (t := 4) rfl .nil))) (.cons (t := 2) rfl (.cons (t := 4) rfl .nil)) rfl ?_
  refine tr_seq ?_
  refine tr_block ?_
  refine tr_seq ?_
  refine tr_region (fun N1 hN => ?_)
  refine lx (op_bload (m := 2) rfl rfl ag41 sz41) rfl ?_
  first | refine lx (op_call (l := [(Go.Operand.tmp 7)]) (rValid_ok e) (.cons rfl .nil) fn23) rfl ?_ | refine lx (op_call (l := [(Go.Operand.tmp 7)]) (rValid_ok e) (.ent rfl (by repeat (first | exact Ents.nil | refine Ents.cons ?_ ?_ | refine Ent.tup ?_ | refine Ent.agg ?_ | exact Ent.row _ _ _ _ | exact Ent.nil _ _ | exact Ent.func _ | exact Ent.refl _ | exact Ent.of_eq rfl | refine Ent.cells ?_)) .nil) fn23) rfl ?_
  first | refine lx (op_not rfl) rfl ?_ | refine lx (op_not_b rfl) rfl ?_
  refine lx (op_assign rfl) rfl ?_
  refine lx_end ⟨by kernel_rfl, ?_⟩
  refine pe_then_normal ?_
  refine tr_sub hC (.cons (t := 1) rfl (.cons (t := 2) rfl (.cons (t := 4) rfl (.cons (t := 6) rfl .nil)))) (.cons (t := 2) rfl (.cons (t := 4) rfl .nil)) rfl ?_
  refine tr_cond rfl (fun h6 => ?_) (fun h6 => ?_)
  · have hv : validF e.to = false := by simpa using h6
    have h := rsend_1 (d := d) hv
    refine tr_seq ?_
    refine tr_region (fun N2 hN => ?_)
    refine lx (op_build (qs := [_, _, _, _, _]) (parts := []) ze41 rfl rfl fs41 .nil rfl rfl) rfl ?_
    refine lxr (op_store_all (m := 4) rfl rfl rfl (.agg rfl) sz41 rfl) rfl ?_
    refine lx (op_assign rfl) rfl ?_
    refine lx_end ⟨by kernel_rfl, ?_⟩
    refine pe_then_normal ?_
    refine tr_sub hC (.cons (t := 4) rfl (.cons (t := 5) rfl .nil)) (.cons (t := 4) rfl .nil) rfl ?_
    refine tr_ret ?_
    refine pe_block_ret ?_
    refine pe_then_ret ?_
    refine pe_retN (rs := [.cell 4 41, .tmp 5]) rfl rfl hO rfl (.cell (m := 4) rfl rfl ag41 sz41 (.tmp rfl .nil)) ?_
    rw [h]
    repeat (first | exact Ents.nil | refine Ents.cons ?_ ?_ | refine Ent.tup ?_ | refine Ent.agg ?_ | exact Ent.row _ _ _ _ | exact Ent.nil _ _ | exact Ent.func _ | exact Ent.refl _ | exact Ent.of_eq rfl | refine Ent.cells ?_)
  · have hv : validF e.to = true := by simpa using h6
    have hh := valid_head hv
    unfold headOK at hh
    rw [e1, e2, e3, e4] at hh
    refine tr_seq ?_
    refine tr_region (fun N3 hN => ?_)
    refine lx (op_move rfl) rfl ?_
    refine lx (op_len_str rfl st9) rfl ?_
    refine lx (op_gtr rfl rfl) rfl ?_
    refine lx (op_move rfl) rfl ?_
    refine lxs rfl rfl rfl guard_eq (.cons (t := 2) rfl (fun _ => Ent.refl _) .nil) (op_fieldAddr rfl fl41_1 sz3) rfl ?_
    refine lxs rfl rfl rfl guard_eq (.cons (t := 16) rfl (fun h => entW h) .nil) (op_bload_one (m := 2) rfl rfl ag3 rfl) rfl ?_
    refine lxs rfl rfl rfl guard_eq (.cons (t := 2) rfl (fun _ => Ent.refl _) .nil) (op_fieldAddr rfl fl41_3 sz38) rfl ?_
    refine lxs rfl rfl rfl guard_eq (.cons (t := 18) rfl (fun h => entW h) .nil) (op_bload_one (m := 2) rfl rfl ag38 rfl) rfl ?_
    first | refine lxs rfl rfl rfl guard_eq (.cons (t := 19) rfl (fun h => entW h) .nil) (op_len rfl el38) rfl ?_ | refine lxs rfl rfl rfl guard_eq (.cons (t := 19) rfl (fun h => entW h) .nil) (op_len_row rfl el38) rfl ?_ | refine lxs rfl rfl rfl guard_eq (.cons (t := 19) rfl (fun h => entW h) .nil) (op_len_mv rfl el38) rfl ?_ | refine lxs rfl rfl rfl guard_eq (.cons (t := 19) rfl (fun h => entW h) .nil) (op_len_nil rfl el38) rfl ?_
    refine lxs rfl rfl rfl guard_eq (.cons (t := 17) rfl (fun h => entW h) (.cons (t := 20) rfl (fun h => entW h) .nil)) (op_add rfl rfl (by omega)) rfl ?_
    refine lxs rfl rfl rfl guard_eq (.cons (t := 21) rfl (fun h => entW h) .nil) (op_geq rfl rfl) rfl ?_
    refine lx (op_pick_or rfl rfl) rfl ?_
    refine lx (op_assign rfl) rfl ?_
    refine lx_end ⟨by kernel_rfl, ?_⟩
    refine pe_then_normal ?_
    refine tr_sub hC (.cons (t := 1) rfl (.cons (t := 2) rfl (.cons (t := 4) rfl (.cons (t := 11) rfl .nil)))) (.cons (t := 2) rfl (.cons (t := 4) rfl .nil)) rfl ?_
    refine tr_cond rfl (fun h11 => ?_) (fun h11 => ?_)
    · (try simp only [Bool.and_eq_true, Bool.or_eq_true, Bool.and_eq_false_iff, Bool.or_eq_false_iff, decide_eq_true_eq, decide_eq_false_iff_not, Bool.not_eq_true', Bool.not_eq_false', List.length_map, ne_eq, Decidable.not_not, Int.not_lt, Int.not_le] at h11)
      have h := rsend_2 (d := d) hv (by omega)
      refine tr_seq ?_
      refine tr_region (fun N4 hN => ?_)
      refine lx (op_build (qs := [_, _, _, _, _]) (parts := []) ze41 rfl rfl fs41 .nil rfl rfl) rfl ?_
      refine lxr (op_store_all (m := 4) rfl rfl rfl (.agg rfl) sz41 rfl) rfl ?_
      refine lx (op_assign rfl) rfl ?_
      refine lx_end ⟨by kernel_rfl, ?_⟩
      refine pe_then_normal ?_
      refine tr_sub hC (.cons (t := 4) rfl (.cons (t := 5) rfl .nil)) (.cons (t := 4) rfl .nil) rfl ?_
      refine tr_ret ?_
      refine pe_block_ret ?_
      refine pe_then_ret ?_
      refine pe_retN (rs := [.cell 4 41, .tmp 5]) rfl rfl hO rfl (.cell (m := 4) rfl rfl ag41 sz41 (.tmp rfl .nil)) ?_
      rw [h]
      repeat (first | exact Ents.nil | refine Ents.cons ?_ ?_ | refine Ent.tup ?_ | refine Ent.agg ?_ | exact Ent.row _ _ _ _ | exact Ent.nil _ _ | exact Ent.func _ | exact Ent.refl _ | exact Ent.of_eq rfl | refine Ent.cells ?_)
    · (try simp only [Bool.and_eq_true, Bool.or_eq_true, Bool.and_eq_false_iff, Bool.or_eq_false_iff, decide_eq_true_eq, decide_eq_false_iff_not, Bool.not_eq_true', Bool.not_eq_false', List.length_map, ne_eq, Decidable.not_not, Int.not_lt, Int.not_le] at h11)
      have h2 : (¬ (d.size > 1000 ∨ e.base + (e.sent.length : Int) ≥ 1000000000)) := by omega
      refine tr_seq ?_
      refine tr_region (fun N5 hN => ?_)
      refine lx (op_fieldAddr rfl fl41_3 sz38) rfl ?_
      refine lx (op_bload_one (m := 2) rfl rfl ag38 rfl) rfl ?_
      first | refine lx (op_len rfl el38) rfl ?_ | refine lx (op_len_row rfl el38) rfl ?_ | refine lx (op_len_mv rfl el38) rfl ?_ | refine lx (op_len_nil rfl el38) rfl ?_
      refine lx (op_fieldAddr rfl fl41_0 sz3) rfl ?_
      refine lx (op_bload_one (m := 2) rfl rfl ag3 rfl) rfl ?_
      refine lx (op_eql rfl rfl) rfl ?_
      refine lx (op_assign rfl) rfl ?_
      refine lx_end ⟨by kernel_rfl, ?_⟩
      refine pe_then_normal ?_
      refine tr_sub hC (.cons (t := 1) rfl (.cons (t := 2) rfl (.cons (t := 4) rfl (.cons (t := 25) rfl .nil)))) (.cons (t := 2) rfl (.cons (t := 4) rfl .nil)) rfl ?_
      refine tr_cond rfl (fun h25 => ?_) (fun h25 => ?_)
      · (try simp only [Bool.and_eq_true, Bool.or_eq_true, Bool.and_eq_false_iff, Bool.or_eq_false_iff, decide_eq_true_eq, decide_eq_false_iff_not, Bool.not_eq_true', Bool.not_eq_false', List.length_map, ne_eq, Decidable.not_not, Int.not_lt, Int.not_le] at h25)
        have h := rsend_3 hv h2 (by omega)
        refine tr_seq ?_
        refine tr_region (fun N6 hN => ?_)
        refine lx (op_build (qs := [_, _, _, _, _]) (parts := []) ze41 rfl rfl fs41 .nil rfl rfl) rfl ?_
        refine lxr (op_store_all (m := 4) rfl rfl rfl (.agg rfl) sz41 rfl) rfl ?_
        refine lx (op_assign rfl) rfl ?_
        refine lx_end ⟨by kernel_rfl, ?_⟩
        refine pe_then_normal ?_
        refine tr_sub hC (.cons (t := 4) rfl (.cons (t := 5) rfl .nil)) (.cons (t := 4) rfl .nil) rfl ?_
        refine tr_ret ?_
        refine pe_block_ret ?_
        refine pe_then_ret ?_
        refine pe_retN (rs := [.cell 4 41, .tmp 5]) rfl rfl hO rfl (.cell (m := 4) rfl rfl ag41 sz41 (.tmp rfl .nil)) ?_
        rw [h]
        repeat (first | exact Ents.nil | refine Ents.cons ?_ ?_ | refine Ent.tup ?_ | refine Ent.agg ?_ | exact Ent.row _ _ _ _ | exact Ent.nil _ _ | exact Ent.func _ | exact Ent.refl _ | exact Ent.of_eq rfl | refine Ent.cells ?_)
      · (try simp only [Bool.and_eq_true, Bool.or_eq_true, Bool.and_eq_false_iff, Bool.or_eq_false_iff, decide_eq_true_eq, decide_eq_false_iff_not, Bool.not_eq_true', Bool.not_eq_false', List.length_map, ne_eq, Decidable.not_not, Int.not_lt, Int.not_le] at h25)
        have h := rsend_4 hv h2 (by omega)
        refine tr_skip ?_
        refine pe_block_normal ?_
        refine pe_then_normal ?_
        refine tr_sub hC (.cons (t := 1) rfl (.cons (t := 2) rfl (.cons (t := 4) rfl .nil))) (.cons (t := 2) rfl (.cons (t := 4) rfl .nil)) rfl ?_
        refine tr_seq ?_
        refine tr_region (fun N7 hN => ?_)
        refine lxn (op_buildEmpty (m' := 33) (kk := 33) (f := stP) el38 sz9 (by first | exact hC.low _ (by decide) | rfl)) rfl ?_
        refine lx (op_fieldAddr rfl fl41_3 sz38) rfl ?_
        refine lx (op_bload_one (m := 2) rfl rfl ag38 rfl) rfl ?_
        refine lxr (op_append (m := 33) (m' := 36) (kk := 36) rfl rfl rfl (.inr (by first | exact hC.low _ (by decide) | rfl)) el38 ze9 sz9 by9 rfl stP_len (by simp; omega) (by simp; omega)) rfl ?_
        refine lx (op_move rfl) rfl ?_
        refine lx (op_buildSlice (f := stP) (xs := [d]) (l := [(0, (Go.Operand.tmp 37))]) ze9 rfl rfl (by decide) el38 sz9 stP_len (.cons rfl (.one (by (first | exact One.eq rfl | exact One.mv _ _ _ _ _ | exact One.cl _ _ _ | exact One.map _ | exact One.sl _ _ _ | exact One.row _ _ _ _ | exact One.msl _ _ _ _ | exact One.ptr _ _ | exact One.b _ | exact One.cells _))) .nil) rfl (by decide)) rfl ?_
        refine lxr (op_append (m := 36) (m' := 39) (kk := 39) rfl rfl rfl (.inr (by first | exact hC.low _ (by decide) | rfl)) el38 ze9 sz9 by9 rfl stP_len (by simp; omega) (by simp; omega)) rfl ?_
        refine lx (op_fieldAddr rfl fl41_3 sz38) rfl ?_
        refine lxr (op_store (m := 2) (rs := [_, _, _, _, _]) rfl rfl rfl (.one (by (first | exact One.eq rfl | exact One.mv _ _ _ _ _ | exact One.cl _ _ _ | exact One.map _ | exact One.sl _ _ _ | exact One.row _ _ _ _ | exact One.msl _ _ _ _ | exact One.ptr _ _ | exact One.b _ | exact One.cells _))) sz38 rfl rfl rfl) rfl ?_
        refine lx_end ⟨by kernel_rfl, ?_⟩
        refine pe_then_normal ?_
        refine tr_sub hC (.cons (t := 2) rfl (.cons (t := 4) rfl .nil)) (.cons (t := 2) rfl (.cons (t := 4) rfl .nil)) rfl ?_
        refine tr_seq ?_
        refine tr_region (fun N8 hN => ?_)
        refine lx (op_bload (m := 2) rfl rfl ag41 sz41) rfl ?_
        refine lxr (op_store_all (m := 4) rfl rfl rfl (.agg rfl) sz41 rfl) rfl ?_
        refine lx (op_assign rfl) rfl ?_
        refine lx_end ⟨by kernel_rfl, ?_⟩
        refine pe_then_normal ?_
        refine tr_sub hC (.cons (t := 4) rfl (.cons (t := 5) rfl .nil)) (.cons (t := 4) rfl .nil) rfl ?_
        refine tr_ret ?_
        refine pe_retN (rs := [.cell 4 41, .tmp 5]) rfl rfl hO rfl (.cell (m := 4) rfl rfl ag41 sz41 (.tmp rfl .nil)) ?_
        rw [h]
        repeat (first | exact Ents.nil | refine Ents.cons ?_ ?_ | refine Ent.tup ?_ | refine Ent.agg ?_ | exact Ent.row _ _ _ _ | exact Ent.nil _ _ | exact Ent.func _ | exact Ent.refl _ | exact Ent.of_eq rfl | refine Ent.cells ?_)
theorem Frames_ok (e : WE) : FnP Try.prog 24 [aggP e.ps] (slP byS 1 (framesF e)) := by
  refine fn_pure' Try.func24 rfl Try.ntmps24 rfl ?_
  intro σ0 M ex Rf R hC hO
  simp only [frameOf, tokOf]
  refine tr_seq ?_
  refine tr_region (fun N0 hN => ?_)
  refine lxn (op_box (m := 1) (k := 1) rfl (.agg rfl) (by first | exact hC.low _ (by decide) | rfl)) rfl ?_
  refine lx (op_assign rfl) rfl ?_
  refine lx_end ⟨by kernel_rfl, ?_⟩
  refine pe_then_normal ?_
  refine tr_sub hC (.cons (t := 1) rfl .nil) (.cons (t := 1) rfl .nil) rfl ?_
  refine tr_seq ?_
  refine tr_seq ?_
  refine tr_region (fun N1 hN => ?_)
  refine lx (op_bload (m := 1) rfl rfl ag46 sz46) rfl ?_
  first | refine lx (op_call (l := [(Go.Operand.tmp 9)]) (Valid_ok e) (.cons rfl .nil) fn22) rfl ?_ | refine lx (op_call (l := [(Go.Operand.tmp 9)]) (Valid_ok e) (.ent rfl (by repeat (first | exact Ents.nil | refine Ents.cons ?_ ?_ | refine Ent.tup ?_ | refine Ent.agg ?_ | exact Ent.row _ _ _ _ | exact Ent.nil _ _ | exact Ent.func _ | exact Ent.refl _ | exact Ent.of_eq rfl | refine Ent.cells ?_)) .nil) fn22) rfl ?_
  first | refine lx (op_not rfl) rfl ?_ | refine lx (op_not_b rfl) rfl ?_
  refine lx_end ⟨by kernel_rfl, ?_⟩
  refine pe_then_normal ?_
  refine tr_sub hC (.cons (t := 1) rfl (.cons (t := 11) rfl .nil)) (.cons (t := 1) rfl .nil) rfl ?_
  refine tr_cond rfl (fun h11 => ?_) (fun h11 => ?_)
  · have hv : validF e = false := by simpa using h11
    have h := frames_1 hv
    refine tr_seq ?_
    refine tr_region (fun N2 hN => ?_)
    refine lx (op_assign rfl) rfl ?_
    refine lx_end ⟨by kernel_rfl, ?_⟩
    refine pe_then_normal ?_
    refine tr_sub hC (.cons (t := 2) rfl .nil) .nil rfl ?_
    refine tr_ret ?_
    refine pe_then_ret ?_
    refine pe_ret1 rfl hO rfl (.tmp rfl .nil) ?_
    rw [h]
    repeat (first | exact Ents.nil | refine Ents.cons ?_ ?_ | refine Ent.tup ?_ | refine Ent.agg ?_ | exact Ent.row _ _ _ _ | exact Ent.nil _ _ | exact Ent.func _ | exact Ent.refl _ | exact Ent.of_eq rfl | refine Ent.cells ?_)
  · have hv : validF e = true := by simpa using h11
    have hh := valid_head hv
    unfold headOK at hh
    refine tr_skip ?_
    refine pe_then_normal ?_
    refine tr_sub hC (.cons (t := 1) rfl .nil) (.cons (t := 1) rfl .nil) rfl ?_
    refine tr_seq ?_
    refine tr_seq ?_
    refine tr_region (fun N3 hN => ?_)
    refine lx (op_fieldAddr rfl fl46_2 sz43) rfl ?_
    refine lx (op_bload_one (m := 1) rfl rfl ag43 rfl) rfl ?_
    first | refine lx (op_len rfl el43) rfl ?_ | refine lx (op_len_row rfl el43) rfl ?_ | refine lx (op_len_mv rfl el43) rfl ?_ | refine lx (op_len_nil rfl el43) rfl ?_
    refine lx (op_eql rfl rfl) rfl ?_
    refine lx_end ⟨by kernel_rfl, ?_⟩
    refine pe_then_normal ?_
    refine tr_sub hC (.cons (t := 1) rfl (.cons (t := 15) rfl .nil)) (.cons (t := 1) rfl .nil) rfl ?_
    refine tr_cond rfl (fun h15 => ?_) (fun h15 => ?_)
    · (try simp only [Bool.and_eq_true, Bool.or_eq_true, Bool.and_eq_false_iff, Bool.or_eq_false_iff, decide_eq_true_eq, decide_eq_false_iff_not, Bool.not_eq_true', Bool.not_eq_false', List.length_map, ne_eq, Decidable.not_not, Int.not_lt, Int.not_le] at h15)
      have h := frames_2 hv (by omega)
      refine tr_seq ?_
      refine tr_region (fun N4 hN => ?_)
      refine lx (op_fieldAddr rfl fl46_3 sz3) rfl ?_
      refine lx (op_bload_one (m := 1) rfl rfl ag3 rfl) rfl ?_
      refine lx (op_build (qs := [_, _, _]) (parts := [(1, (Go.Operand.tmp 18))]) ze27 rfl rfl fs27 (.cons rfl (.one (by (first | exact One.eq rfl | exact One.mv _ _ _ _ _ | exact One.cl _ _ _ | exact One.map _ | exact One.sl _ _ _ | exact One.row _ _ _ _ | exact One.msl _ _ _ _ | exact One.ptr _ _ | exact One.b _ | exact One.cells _))) fl27_1 sz3 rfl .nil) rfl rfl) rfl ?_
      first | refine lx (op_call (l := [(Go.Operand.tmp 19)]) (Encode_ok ⟨0, e.got, []⟩) (.cons rfl .nil) fn10) rfl ?_ | refine lx (op_call (l := [(Go.Operand.tmp 19)]) (Encode_ok ⟨0, e.got, []⟩) (.ent rfl (by repeat (first | exact Ents.nil | refine Ents.cons ?_ ?_ | refine Ent.tup ?_ | refine Ent.agg ?_ | exact Ent.row _ _ _ _ | exact Ent.nil _ _ | exact Ent.func _ | exact Ent.refl _ | exact Ent.of_eq rfl | refine Ent.cells ?_)) .nil) fn10) rfl ?_
      refine lx (op_move rfl) rfl ?_
      refine lx (op_extract rfl rfl) rfl ?_
      refine lx (op_extract rfl rfl) rfl ?_
      refine lx (op_assign rfl) rfl ?_
      refine lx (op_assign rfl) rfl ?_
      refine lx_end ⟨by kernel_rfl, ?_⟩
      refine pe_then_normal ?_
      refine tr_sub hC (.cons (t := 3) rfl .nil) .nil rfl ?_
      refine tr_seq ?_
      refine tr_region (fun N5 hN => ?_)
      refine lx (op_move rfl) rfl ?_
      refine lx (op_buildSlice (f := byS) (xs := [(encodeF ⟨0, e.got, []⟩).1]) (l := [(0, (Go.Operand.tmp 23))]) ze25 rfl rfl (by decide) el43 sz25 byS_len (.cons rfl (.one (by (first | exact One.eq rfl | exact One.mv _ _ _ _ _ | exact One.cl _ _ _ | exact One.map _ | exact One.sl _ _ _ | exact One.row _ _ _ _ | exact One.msl _ _ _ _ | exact One.ptr _ _ | exact One.b _ | exact One.cells _))) .nil) rfl (by decide)) rfl ?_
      refine lx (op_assign rfl) rfl ?_
      refine lx_end ⟨by kernel_rfl, ?_⟩
      refine pe_then_normal ?_
      refine tr_sub hC (.cons (t := 2) rfl .nil) .nil rfl ?_
      refine tr_ret ?_
      refine pe_then_ret ?_
      refine pe_ret1 rfl hO rfl (.tmp rfl .nil) ?_
      rw [h]
      repeat (first | exact Ents.nil | refine Ents.cons ?_ ?_ | refine Ent.tup ?_ | refine Ent.agg ?_ | exact Ent.row _ _ _ _ | exact Ent.nil _ _ | exact Ent.func _ | exact Ent.refl _ | exact Ent.of_eq rfl | refine Ent.cells ?_)
    · (try simp only [Bool.and_eq_true, Bool.or_eq_true, Bool.and_eq_false_iff, Bool.or_eq_false_iff, decide_eq_true_eq, decide_eq_false_iff_not, Bool.not_eq_true', Bool.not_eq_false', List.length_map, ne_eq, Decidable.not_not, Int.not_lt, Int.not_le] at h15)
      have h := frames_3 hv (by omega)
      refine tr_skip ?_
      refine pe_then_normal ?_
      refine tr_sub hC (.cons (t := 1) rfl .nil) (.cons (t := 1) rfl .nil) rfl ?_
      refine tr_seq ?_
      refine tr_region (fun N6 hN => ?_)
      refine lx (op_assign rfl) rfl ?_
      refine lx_end ⟨by kernel_rfl, ?_⟩
      refine pe_then_normal ?_
      refine tr_sub hC (.cons (t := 1) rfl (.cons (t := 5) rfl .nil)) (.cons (t := 1) rfl .nil) rfl ?_
      refine tr_seq ?_
      refine tr_seq ?_
      refine tr_region (fun N7 hN => ?_)
      refine lx (op_fieldAddr rfl fl46_2 sz43) rfl ?_
      refine lx (op_bload_one (m := 1) rfl rfl ag43 rfl) rfl ?_
      first | refine lx (op_len rfl el43) rfl ?_ | refine lx (op_len_row rfl el43) rfl ?_ | refine lx (op_len_mv rfl el43) rfl ?_ | refine lx (op_len_nil rfl el43) rfl ?_
      refine lx (op_move rfl) rfl ?_
      refine lx_end ⟨by kernel_rfl, ?_⟩
      refine pe_then_normal ?_
      refine tr_sub hC (.cons (t := 1) rfl (.cons (t := 5) rfl (.cons (t := 27) rfl (.cons (t := 28) rfl .nil)))) (.cons (t := 1) rfl .nil) rfl ?_
      refine tr_block ?_
      refine tr_nilrow byS 1 25 5 600 rfl (by first | exact hC.low _ (by decide) | rfl) (fun idN => ?_)
      refine tr_loopK (α := {zz : Nat × (List (List Int)) × AL.Id // zz.1 ≤ e.sent.length ∧ zz.2.1 = (e.sent.mapIdx (fr1 e)).take zz.1}) (⟨(0, [], idN), Nat.zero_le _, rfl⟩) (fun zz => [(28, eqP (.int .i64 (zz.1.1 : Int))), (5, rowP zz.1.2.2 byS 1 zz.1.2.1)]) (fun zz => [(600, some (zz.1.2.2, tail 25 1 (zz.1.2.1.length * 1)))]) (fun zz => e.sent.length - zz.1.1) hC (.cons (t := 1) rfl (.cons (t := 27) rfl .nil)) (.cons (t := 1) rfl .nil) rfl ?_ ?_ (fun zz => ?_)
      · try dsimp only [List.cons_append, List.nil_append]
        first | refine SubF.cons rfl ?_ | (refine SubF.ent rfl ?_ ?_; · repeat (first | exact Ents.nil | refine Ents.cons ?_ ?_ | refine Ent.tup ?_ | refine Ent.agg ?_ | exact Ent.row _ _ _ _ | exact Ent.nil _ _ | exact Ent.func _ | exact Ent.refl _ | exact Ent.of_eq rfl | refine Ent.cells ?_))
        first | refine SubF.cons rfl ?_ | (refine SubF.ent rfl ?_ ?_; · repeat (first | exact Ents.nil | refine Ents.cons ?_ ?_ | refine Ent.tup ?_ | refine Ent.agg ?_ | exact Ent.row _ _ _ _ | exact Ent.nil _ _ | exact Ent.func _ | exact Ent.refl _ | exact Ent.of_eq rfl | refine Ent.cells ?_))
        exact SubF.nil
      · try dsimp only [List.cons_append, List.nil_append]
        repeat (first | exact SubL.nil | refine SubL.cons rfl ?_)
      · obtain ⟨⟨k, xs, i⟩, hk1, hxs⟩ := zz
        try dsimp only at hk1
        try dsimp only at hxs
        dsimp only [List.cons_append, List.nil_append]
        refine tr_seq ?_
        refine tr_region (fun N8 hN => ?_)
        refine lx (op_lss rfl rfl) rfl ?_
        refine lx_end ⟨by kernel_rfl, ?_⟩
        refine pe_then_normal ?_
        refine tr_sub hC (.cons (t := 1) rfl (.cons (t := 5) rfl (.cons (t := 27) rfl (.cons (t := 28) rfl (.cons (t := 29) rfl .nil))))) (.cons (t := 600) rfl (.cons (t := 1) rfl .nil)) rfl ?_
        refine tr_seq ?_
        refine tr_cond rfl (fun h29 => ?_) (fun h29 => ?_)
        · (try simp only [Bool.and_eq_true, Bool.or_eq_true, Bool.and_eq_false_iff, Bool.or_eq_false_iff, decide_eq_true_eq, decide_eq_false_iff_not, Bool.not_eq_true', Bool.not_eq_false', List.length_map, ne_eq, Decidable.not_not, Int.not_lt, Int.not_le] at h29)
          have hxl : xs.length ≤ k := by rw [hxs, List.length_take]; omega
          refine tr_skip ?_
          refine pe_then_normal ?_
          refine tr_sub hC (.cons (t := 1) rfl (.cons (t := 5) rfl (.cons (t := 27) rfl (.cons (t := 28) rfl .nil)))) (.cons (t := 600) rfl (.cons (t := 1) rfl .nil)) rfl ?_
          refine tr_seq ?_
          refine tr_block ?_
          refine tr_seq ?_
          refine tr_region (fun N9 hN => ?_)
          refine lx (op_move rfl) rfl ?_
          refine lx (op_assign rfl) rfl ?_
          refine lx_end ⟨by kernel_rfl, ?_⟩
          refine pe_then_normal ?_
          refine tr_sub hC (.cons (t := 1) rfl (.cons (t := 5) rfl (.cons (t := 6) rfl (.cons (t := 27) rfl (.cons (t := 28) rfl .nil))))) (.cons (t := 600) rfl (.cons (t := 1) rfl .nil)) rfl ?_
          refine tr_seq ?_
          refine tr_drawn mixed (fun N10 hN => ?_)
          refine lx (op_fieldAddr rfl fl46_1 sz3) rfl ?_
          refine lx (op_bload_one (m := 1) rfl rfl ag3 rfl) rfl ?_
          refine lx (op_add rfl rfl (by omega)) rfl ?_
          refine lx (op_move rfl) rfl ?_
          refine lx (op_add rfl rfl (by omega)) rfl ?_
          refine lx (op_fieldAddr rfl fl46_3 sz3) rfl ?_
          refine lx (op_bload_one (m := 1) rfl rfl ag3 rfl) rfl ?_
          refine lx (op_fieldAddr rfl fl46_2 sz43) rfl ?_
          refine lx (op_bload_one (m := 1) rfl rfl ag43 rfl) rfl ?_
          refine lx (op_move rfl) rfl ?_
          refine lx (op_index rfl rfl el43 sz25 rfl (List.getElem?_eq_getElem (by omega : k < e.sent.length))) rfl ?_
          first | refine lx (op_load_one rfl ag25 rfl) rfl ?_ | refine lx (op_bload_one (m := 600) rfl rfl ag25 rfl) rfl ?_ | refine lx (op_bload_one (m := 1) rfl rfl ag25 rfl) rfl ?_
          refine lx (op_build (qs := [_, _, _]) (parts := [(0, (Go.Operand.tmp 36)), (1, (Go.Operand.tmp 38)), (2, (Go.Operand.tmp 43))]) ze27 rfl rfl fs27 (.cons rfl (.one (by (first | exact One.eq rfl | exact One.mv _ _ _ _ _ | exact One.cl _ _ _ | exact One.map _ | exact One.sl _ _ _ | exact One.row _ _ _ _ | exact One.msl _ _ _ _ | exact One.ptr _ _ | exact One.b _ | exact One.cells _))) fl27_0 sz3 rfl (.cons rfl (.one (by (first | exact One.eq rfl | exact One.mv _ _ _ _ _ | exact One.cl _ _ _ | exact One.map _ | exact One.sl _ _ _ | exact One.row _ _ _ _ | exact One.msl _ _ _ _ | exact One.ptr _ _ | exact One.b _ | exact One.cells _))) fl27_1 sz3 rfl (.cons rfl (.one (by (first | exact One.eq rfl | exact One.mv _ _ _ _ _ | exact One.cl _ _ _ | exact One.map _ | exact One.sl _ _ _ | exact One.row _ _ _ _ | exact One.msl _ _ _ _ | exact One.ptr _ _ | exact One.b _ | exact One.cells _))) fl27_2 sz25 rfl .nil))) rfl rfl) rfl ?_
          first | refine lx (op_call (l := [(Go.Operand.tmp 44)]) (Encode_ok ⟨e.base + 1 + (k : Int), e.got, e.sent[k]'(by omega)⟩) (.cons rfl .nil) fn10) rfl ?_ | refine lx (op_call (l := [(Go.Operand.tmp 44)]) (Encode_ok ⟨e.base + 1 + (k : Int), e.got, e.sent[k]'(by omega)⟩) (.ent rfl (by repeat (first | exact Ents.nil | refine Ents.cons ?_ ?_ | refine Ent.tup ?_ | refine Ent.agg ?_ | exact Ent.row _ _ _ _ | exact Ent.nil _ _ | exact Ent.func _ | exact Ent.refl _ | exact Ent.of_eq rfl | refine Ent.cells ?_)) .nil) fn10) rfl ?_
          refine lx (op_move rfl) rfl ?_
          refine lx (op_extract rfl rfl) rfl ?_
          refine lx (op_extract rfl rfl) rfl ?_
          refine lx (op_assign rfl) rfl ?_
          refine lx (op_assign rfl) rfl ?_
          refine lx_end ⟨by kernel_rfl, ?_⟩
          refine pe_then_normal ?_
          refine tr_sub hC (.cons (t := 1) rfl (.cons (t := 5) rfl (.cons (t := 7) rfl (.cons (t := 27) rfl (.cons (t := 28) rfl .nil))))) (.cons (t := 600) rfl (.cons (t := 1) rfl .nil)) rfl ?_
          refine tr_region (fun N11 hN => ?_)
          refine lx (op_move rfl) rfl ?_
          refine lx (op_move rfl) rfl ?_
          refine lx (op_buildSlice (f := byS) (xs := [(encodeF ⟨e.base + 1 + (k : Int), e.got, e.sent[k]'(by omega)⟩).1]) (l := [(0, (Go.Operand.tmp 49))]) ze25 rfl rfl (by decide) el43 sz25 byS_len (.cons rfl (.one (by (first | exact One.eq rfl | exact One.mv _ _ _ _ _ | exact One.cl _ _ _ | exact One.map _ | exact One.sl _ _ _ | exact One.row _ _ _ _ | exact One.msl _ _ _ _ | exact One.ptr _ _ | exact One.b _ | exact One.cells _))) .nil) rfl (by decide)) rfl ?_
          refine lxr (op_append (m := 600) (m' := 600) (kk := 51) rfl rfl rfl (.inl rfl) el43 ze25 sz25 by25 rfl byS_len (by rw [List.length_singleton]; omega) (by rw [List.length_singleton]; omega)) rfl ?_
          refine lx (op_assign rfl) rfl ?_
          refine lx_end ⟨by kernel_rfl, ?_⟩
          refine pe_block_normal ?_
          refine pe_then_normal ?_
          refine tr_sub hC (.cons (t := 1) rfl (.cons (t := 5) rfl (.cons (t := 27) rfl (.cons (t := 28) rfl .nil)))) (.cons (t := 1) rfl (.cons (t := 600) rfl .nil)) rfl ?_
          refine tr_region (fun N12 hN => ?_)
          refine lx (op_add rfl rfl (by omega)) rfl ?_
          refine lx (op_move rfl) rfl ?_
          refine lx_end ⟨by kernel_rfl, ?_⟩
          refine pe_round (⟨(k + 1, xs ++ [(encodeF ⟨e.base + 1 + (k : Int), e.got, e.sent[k]'(by omega)⟩).1], (N11, 51)), by dsimp only; omega, by dsimp only; rw [hxs, mapIdx_at (by omega), fr1]⟩) (by dsimp only; omega) (pe_st hC ?_ ?_ rfl)
          · try dsimp only [List.cons_append, List.nil_append]
            first | refine SubF.cons rfl ?_ | (refine SubF.ent rfl ?_ ?_; · repeat (first | exact Ents.nil | refine Ents.cons ?_ ?_ | refine Ent.tup ?_ | refine Ent.agg ?_ | exact Ent.row _ _ _ _ | exact Ent.nil _ _ | exact Ent.func _ | exact Ent.refl _ | exact Ent.of_eq rfl | refine Ent.cells ?_))
            first | refine SubF.cons rfl ?_ | (refine SubF.ent rfl ?_ ?_; · repeat (first | exact Ents.nil | refine Ents.cons ?_ ?_ | refine Ent.tup ?_ | refine Ent.agg ?_ | exact Ent.row _ _ _ _ | exact Ent.nil _ _ | exact Ent.func _ | exact Ent.refl _ | exact Ent.of_eq rfl | refine Ent.cells ?_))
            first | refine SubF.cons rfl ?_ | (refine SubF.ent rfl ?_ ?_; · repeat (first | exact Ents.nil | refine Ents.cons ?_ ?_ | refine Ent.tup ?_ | refine Ent.agg ?_ | exact Ent.row _ _ _ _ | exact Ent.nil _ _ | exact Ent.func _ | exact Ent.refl _ | exact Ent.of_eq rfl | refine Ent.cells ?_))
            first | refine SubF.cons rfl ?_ | (refine SubF.ent rfl ?_ ?_; · repeat (first | exact Ents.nil | refine Ents.cons ?_ ?_ | refine Ent.tup ?_ | refine Ent.agg ?_ | exact Ent.row _ _ _ _ | exact Ent.nil _ _ | exact Ent.func _ | exact Ent.refl _ | exact Ent.of_eq rfl | refine Ent.cells ?_))
            exact SubF.nil
          · try dsimp only [List.cons_append, List.nil_append]
            repeat (first | exact SubL.nil | refine SubL.cons rfl ?_)
        · (try simp only [Bool.and_eq_true, Bool.or_eq_true, Bool.and_eq_false_iff, Bool.or_eq_false_iff, decide_eq_true_eq, decide_eq_false_iff_not, Bool.not_eq_true', Bool.not_eq_false', List.length_map, ne_eq, Decidable.not_not, Int.not_lt, Int.not_le] at h29)
          have hfin : xs = framesF e := by rw [hxs, mapIdx_end (by omega), h]
          refine tr_exit ?_
          refine pe_then_exit ?_
          refine pe_then_exit ?_
          refine pe_block_eq ?_
          refine pe_then_normal ?_
          refine tr_sub hC (.cons (t := 5) rfl .nil) (.cons (t := 600) rfl .nil) rfl ?_
          refine tr_seq ?_
          refine tr_region (fun N13 hN => ?_)
          refine lx (op_move rfl) rfl ?_
          refine lx (op_assign rfl) rfl ?_
          refine lx_end ⟨by kernel_rfl, ?_⟩
          refine pe_then_normal ?_
          refine tr_sub hC (.cons (t := 2) rfl .nil) (.cons (t := 600) rfl .nil) rfl ?_
          refine tr_ret ?_
          refine pe_ret1 rfl hO rfl (.tmp rfl .nil) ?_
          rw [← hfin]
          repeat (first | exact Ents.nil | refine Ents.cons ?_ ?_ | refine Ent.tup ?_ | refine Ent.agg ?_ | exact Ent.row _ _ _ _ | exact Ent.nil _ _ | exact Ent.func _ | exact Ent.refl _ | exact Ent.of_eq rfl | refine Ent.cells ?_)
theorem rFrames_ok (e : RE) : FnP Try.prog 25 [aggP e.ps] (slP byS 1 (framesF e.to)) := by
  have e1 : e.to.window = e.window := rfl
  have e2 : e.to.base = e.base := rfl
  have e3 : e.to.got = e.got := rfl
  have e4 : e.to.sent.length = e.sent.length := e.to_sent
  refine fn_pure' Try.func25 rfl Try.ntmps25 rfl ?_
  intro σ0 M ex Rf R hC hO
  simp only [frameOf, tokOf]
  refine tr_seq ?_
  refine tr_region (fun N0 hN => ?_)
  refine lxn (op_box (m := 1) (k := 1) rfl (.agg rfl) (by first | exact hC.low _ (by decide) | rfl)) rfl ?_
  refine lx (op_assign rfl) rfl ?_
  refine lx_end ⟨by kernel_rfl, ?_⟩
  refine pe_then_normal ?_
  refine tr_sub hC (.cons (t := 1) rfl .nil) (.cons (t := 1) rfl .nil) rfl ?_
  refine tr_seq ?_
  refine tr_region (fun N1 hN => ?_)
  refine lx (op_assign rfl) rfl ?_
  refine lx_end ⟨by kernel_rfl, ?_⟩
  refine pe_then_normal ?_
  refine tr_sub hC (.cons (t := 1) rfl (.cons (t := 3) rfl .nil)) (.cons (t := 1) rfl .nil) rfl ?_
  refine tr_seq ?_
  refine tr_seq ?_
  refine tr_region (fun N2 hN => ?_)
  refine lx (op_bload (m := 1) rfl rfl ag41 sz41) rfl ?_
  first | refine lx (op_call (l := [(Go.Operand.tmp 9)]) (rValid_ok e) (.cons rfl .nil) fn23) rfl ?_ | refine lx (op_call (l := [(Go.Operand.tmp 9)]) (rValid_ok e) (.ent rfl (by repeat (first | exact Ents.nil | refine Ents.cons ?_ ?_ | refine Ent.tup ?_ | refine Ent.agg ?_ | exact Ent.row _ _ _ _ | exact Ent.nil _ _ | exact Ent.func _ | exact Ent.refl _ | exact Ent.of_eq rfl | refine Ent.cells ?_)) .nil) fn23) rfl ?_
  first | refine lx (op_not rfl) rfl ?_ | refine lx (op_not_b rfl) rfl ?_
  refine lx_end ⟨by kernel_rfl, ?_⟩
  refine pe_then_normal ?_
  refine tr_sub hC (.cons (t := 1) rfl (.cons (t := 3) rfl (.cons (t := 11) rfl .nil))) (.cons (t := 1) rfl .nil) rfl ?_
  refine tr_cond rfl (fun h11 => ?_) (fun h11 => ?_)
  · have hv : validF e.to = false := by simpa using h11
    have h := frames_1 hv
    refine tr_seq ?_
    refine tr_region (fun N3 hN => ?_)
    refine lx (op_assign rfl) rfl ?_
    refine lx_end ⟨by kernel_rfl, ?_⟩
    refine pe_then_normal ?_
    refine tr_sub hC (.cons (t := 2) rfl .nil) .nil rfl ?_
    refine tr_ret ?_
    refine pe_then_ret ?_
    refine pe_ret1 rfl hO rfl (.tmp rfl .nil) ?_
    rw [h]
    repeat (first | exact Ents.nil | refine Ents.cons ?_ ?_ | refine Ent.tup ?_ | refine Ent.agg ?_ | exact Ent.row _ _ _ _ | exact Ent.nil _ _ | exact Ent.func _ | exact Ent.refl _ | exact Ent.of_eq rfl | refine Ent.cells ?_)
  · have hv : validF e.to = true := by simpa using h11
    have hh := valid_head hv
    unfold headOK at hh
    rw [e1, e2, e3, e4] at hh
    refine tr_skip ?_
    refine pe_then_normal ?_
    refine tr_sub hC (.cons (t := 1) rfl (.cons (t := 3) rfl .nil)) (.cons (t := 1) rfl .nil) rfl ?_
    refine tr_seq ?_
    refine tr_seq ?_
    refine tr_region (fun N4 hN => ?_)
    refine lx (op_assign rfl) rfl ?_
    refine lx_end ⟨by kernel_rfl, ?_⟩
    refine pe_then_normal ?_
    refine tr_sub hC (.cons (t := 1) rfl (.cons (t := 3) rfl (.cons (t := 4) rfl .nil))) (.cons (t := 1) rfl .nil) rfl ?_
    refine tr_block ?_
    refine tr_nilrow byS 1 25 3 600 rfl (by first | exact hC.low _ (by decide) | rfl) (fun idN => ?_)
    refine tr_loopK (α := {zz : Nat × (List (List Int)) × AL.Id // zz.1 ≤ e.sent.length ∧ zz.2.1 = (e.to.sent.mapIdx (fr1 e.to)).take zz.1}) (⟨(0, [], idN), Nat.zero_le _, rfl⟩) (fun zz => [(4, eqP (.int .i64 (zz.1.1 : Int))), (3, rowP zz.1.2.2 byS 1 zz.1.2.1)]) (fun zz => [(600, some (zz.1.2.2, tail 25 1 (zz.1.2.1.length * 1)))]) (fun zz => e.sent.length - zz.1.1) hC (.cons (t := 1) rfl .nil) (.cons (t := 1) rfl .nil) rfl ?_ ?_ (fun zz => ?_)
    · try dsimp only [List.cons_append, List.nil_append]
      first | refine SubF.cons rfl ?_ | (refine SubF.ent rfl ?_ ?_; · repeat (first | exact Ents.nil | refine Ents.cons ?_ ?_ | refine Ent.tup ?_ | refine Ent.agg ?_ | exact Ent.row _ _ _ _ | exact Ent.nil _ _ | exact Ent.func _ | exact Ent.refl _ | exact Ent.of_eq rfl | refine Ent.cells ?_))
      first | refine SubF.cons rfl ?_ | (refine SubF.ent rfl ?_ ?_; · repeat (first | exact Ents.nil | refine Ents.cons ?_ ?_ | refine Ent.tup ?_ | refine Ent.agg ?_ | exact Ent.row _ _ _ _ | exact Ent.nil _ _ | exact Ent.func _ | exact Ent.refl _ | exact Ent.of_eq rfl | refine Ent.cells ?_))
      exact SubF.nil
    · try dsimp only [List.cons_append, List.nil_append]
      repeat (first | exact SubL.nil | refine SubL.cons rfl ?_)
    · obtain ⟨⟨k, xs, i⟩, hk1, hxs⟩ := zz
      try dsimp only at hk1
      try dsimp only at hxs
      dsimp only [List.cons_append, List.nil_append]
      refine tr_seq ?_
      refine tr_seq ?_
      refine tr_region (fun N5 hN => ?_)
      refine lx (op_move rfl) rfl ?_
      refine lx (op_fieldAddr rfl fl41_3 sz38) rfl ?_
      refine lx (op_bload_one (m := 1) rfl rfl ag38 rfl) rfl ?_
      first | refine lx (op_len rfl el38) rfl ?_ | refine lx (op_len_row rfl el38) rfl ?_ | refine lx (op_len_mv rfl el38) rfl ?_ | refine lx (op_len_nil rfl el38) rfl ?_
      refine lx (op_lss rfl rfl) rfl ?_
      refine lx_end ⟨by kernel_rfl, ?_⟩
      refine pe_then_normal ?_
      refine tr_sub hC (.cons (t := 1) rfl (.cons (t := 3) rfl (.cons (t := 4) rfl (.cons (t := 16) rfl .nil)))) (.cons (t := 600) rfl (.cons (t := 1) rfl .nil)) rfl ?_
      refine tr_cond rfl (fun h16 => ?_) (fun h16 => ?_)
      · (try simp only [Bool.and_eq_true, Bool.or_eq_true, Bool.and_eq_false_iff, Bool.or_eq_false_iff, decide_eq_true_eq, decide_eq_false_iff_not, Bool.not_eq_true', Bool.not_eq_false', List.length_map, ne_eq, Decidable.not_not, Int.not_lt, Int.not_le] at h16)
        have hxl : xs.length ≤ k := by rw [hxs, List.length_take]; omega
        refine tr_skip ?_
        refine pe_then_normal ?_
        refine tr_sub hC (.cons (t := 1) rfl (.cons (t := 3) rfl (.cons (t := 4) rfl .nil))) (.cons (t := 600) rfl (.cons (t := 1) rfl .nil)) rfl ?_
        refine tr_seq ?_
        refine tr_block ?_
        refine tr_seq ?_
        refine tr_drawn mixed (fun N7 hN => ?_)
        refine lx (op_fieldAddr rfl fl41_1 sz3) rfl ?_
        refine lx (op_bload_one (m := 1) rfl rfl ag3 rfl) rfl ?_
        refine lx (op_add rfl rfl (by omega)) rfl ?_
        refine lx (op_move rfl) rfl ?_
        refine lx (op_add rfl rfl (by omega)) rfl ?_
        refine lx (op_fieldAddr rfl fl41_2 sz3) rfl ?_
        refine lx (op_bload_one (m := 1) rfl rfl ag3 rfl) rfl ?_
        refine lx (op_fieldAddr rfl fl41_3 sz38) rfl ?_
        refine lx (op_bload_one (m := 1) rfl rfl ag38 rfl) rfl ?_
        refine lx (op_move rfl) rfl ?_
        refine lx (op_index rfl rfl el38 sz9 rfl (List.getElem?_eq_getElem (by omega : k < e.sent.length))) rfl ?_
        first | refine lx (op_load_one rfl ag9 rfl) rfl ?_ | refine lx (op_bload_one (m := 600) rfl rfl ag9 rfl) rfl ?_ | refine lx (op_bload_one (m := 1) rfl rfl ag9 rfl) rfl ?_
        refine lx (op_build (qs := [_, _, _]) (parts := [(0, (Go.Operand.tmp 24)), (1, (Go.Operand.tmp 26)), (2, (Go.Operand.tmp 31))]) ze23 rfl rfl fs23 (.cons rfl (.one (by (first | exact One.eq rfl | exact One.mv _ _ _ _ _ | exact One.cl _ _ _ | exact One.map _ | exact One.sl _ _ _ | exact One.row _ _ _ _ | exact One.msl _ _ _ _ | exact One.ptr _ _ | exact One.b _ | exact One.cells _))) fl23_0 sz3 rfl (.cons rfl (.one (by (first | exact One.eq rfl | exact One.mv _ _ _ _ _ | exact One.cl _ _ _ | exact One.map _ | exact One.sl _ _ _ | exact One.row _ _ _ _ | exact One.msl _ _ _ _ | exact One.ptr _ _ | exact One.b _ | exact One.cells _))) fl23_1 sz3 rfl (.cons rfl (.one (by (first | exact One.eq rfl | exact One.mv _ _ _ _ _ | exact One.cl _ _ _ | exact One.map _ | exact One.sl _ _ _ | exact One.row _ _ _ _ | exact One.msl _ _ _ _ | exact One.ptr _ _ | exact One.b _ | exact One.cells _))) fl23_2 sz9 rfl .nil))) rfl rfl) rfl ?_
        first | refine lx (op_call (l := [(Go.Operand.tmp 32)]) (rEncode_ok ⟨e.base + 1 + (k : Int), e.got, e.sent[k]'(by omega)⟩) (.cons rfl .nil) fn11) rfl ?_ | refine lx (op_call (l := [(Go.Operand.tmp 32)]) (rEncode_ok ⟨e.base + 1 + (k : Int), e.got, e.sent[k]'(by omega)⟩) (.ent rfl (by repeat (first | exact Ents.nil | refine Ents.cons ?_ ?_ | refine Ent.tup ?_ | refine Ent.agg ?_ | exact Ent.row _ _ _ _ | exact Ent.nil _ _ | exact Ent.func _ | exact Ent.refl _ | exact Ent.of_eq rfl | refine Ent.cells ?_)) .nil) fn11) rfl ?_
        refine lx (op_move rfl) rfl ?_
        refine lx (op_extract rfl rfl) rfl ?_
        refine lx (op_extract rfl rfl) rfl ?_
        refine lx (op_assign rfl) rfl ?_
        refine lx (op_assign rfl) rfl ?_
        refine lx_end ⟨by kernel_rfl, ?_⟩
        refine pe_then_normal ?_
        refine tr_sub hC (.cons (t := 1) rfl (.cons (t := 3) rfl (.cons (t := 4) rfl (.cons (t := 5) rfl .nil)))) (.cons (t := 600) rfl (.cons (t := 1) rfl .nil)) rfl ?_
        refine tr_region (fun N8 hN => ?_)
        refine lx (op_move rfl) rfl ?_
        refine lx (op_move rfl) rfl ?_
        refine lx (op_buildSlice (f := byS) (xs := [(encodeF (RF.to ⟨e.base + 1 + (k : Int), e.got, e.sent[k]'(by omega)⟩)).1]) (l := [(0, (Go.Operand.tmp 37))]) ze25 rfl rfl (by decide) el43 sz25 byS_len (.cons rfl (.one (by (first | exact One.eq rfl | exact One.mv _ _ _ _ _ | exact One.cl _ _ _ | exact One.map _ | exact One.sl _ _ _ | exact One.row _ _ _ _ | exact One.msl _ _ _ _ | exact One.ptr _ _ | exact One.b _ | exact One.cells _))) .nil) rfl (by decide)) rfl ?_
        refine lxr (op_append (m := 600) (m' := 600) (kk := 39) rfl rfl rfl (.inl rfl) el43 ze25 sz25 by25 rfl byS_len (by rw [List.length_singleton]; omega) (by rw [List.length_singleton]; omega)) rfl ?_
        refine lx (op_assign rfl) rfl ?_
        refine lx_end ⟨by kernel_rfl, ?_⟩
        refine pe_block_normal ?_
        refine pe_then_normal ?_
        refine tr_sub hC (.cons (t := 1) rfl (.cons (t := 3) rfl (.cons (t := 4) rfl .nil))) (.cons (t := 1) rfl (.cons (t := 600) rfl .nil)) rfl ?_
        refine tr_region (fun N6 hN => ?_)
        refine lx (op_move rfl) rfl ?_
        refine lx (op_add rfl rfl (by omega)) rfl ?_
        refine lx (op_assign rfl) rfl ?_
        refine lx_end ⟨by kernel_rfl, ?_⟩
        refine pe_round (⟨(k + 1, xs ++ [(encodeF (RF.to ⟨e.base + 1 + (k : Int), e.got, e.sent[k]'(by omega)⟩)).1], (N8, 39)), by dsimp only; omega, by dsimp only; rw [hxs, mapIdx_at (by omega)]; simp only [RE.to, List.getElem_map, fr1, RF.to]⟩) (by dsimp only; omega) (pe_st hC ?_ ?_ rfl)
        · try dsimp only [List.cons_append, List.nil_append]
          first | refine SubF.cons rfl ?_ | (refine SubF.ent rfl ?_ ?_; · repeat (first | exact Ents.nil | refine Ents.cons ?_ ?_ | refine Ent.tup ?_ | refine Ent.agg ?_ | exact Ent.row _ _ _ _ | exact Ent.nil _ _ | exact Ent.func _ | exact Ent.refl _ | exact Ent.of_eq rfl | refine Ent.cells ?_))
          first | refine SubF.cons rfl ?_ | (refine SubF.ent rfl ?_ ?_; · repeat (first | exact Ents.nil | refine Ents.cons ?_ ?_ | refine Ent.tup ?_ | refine Ent.agg ?_ | exact Ent.row _ _ _ _ | exact Ent.nil _ _ | exact Ent.func _ | exact Ent.refl _ | exact Ent.of_eq rfl | refine Ent.cells ?_))
          first | refine SubF.cons rfl ?_ | (refine SubF.ent rfl ?_ ?_; · repeat (first | exact Ents.nil | refine Ents.cons ?_ ?_ | refine Ent.tup ?_ | refine Ent.agg ?_ | exact Ent.row _ _ _ _ | exact Ent.nil _ _ | exact Ent.func _ | exact Ent.refl _ | exact Ent.of_eq rfl | refine Ent.cells ?_))
          exact SubF.nil
        · try dsimp only [List.cons_append, List.nil_append]
          repeat (first | exact SubL.nil | refine SubL.cons rfl ?_)
      · (try simp only [Bool.and_eq_true, Bool.or_eq_true, Bool.and_eq_false_iff, Bool.or_eq_false_iff, decide_eq_true_eq, decide_eq_false_iff_not, Bool.not_eq_true', Bool.not_eq_false', List.length_map, ne_eq, Decidable.not_not, Int.not_lt, Int.not_le] at h16)
        have hfull : xs = (e.to.sent.mapIdx (fr1 e.to)) := by rw [hxs, mapIdx_end (by omega)]
        have hflen : xs.length = e.sent.length := by rw [hfull, List.length_mapIdx, e4]
        refine tr_exit ?_
        refine pe_then_exit ?_
        refine pe_then_exit ?_
        refine pe_block_eq ?_
        refine pe_then_normal ?_
        refine tr_sub hC (.cons (t := 1) rfl (.cons (t := 3) rfl .nil)) (.cons (t := 600) rfl (.cons (t := 1) rfl .nil)) rfl ?_
        refine tr_seq ?_
        refine tr_seq ?_
        refine tr_region (fun N9 hN => ?_)
        refine lx (op_move rfl) rfl ?_
        first | refine lx (op_len rfl el43) rfl ?_ | refine lx (op_len_row rfl el43) rfl ?_ | refine lx (op_len_mv rfl el43) rfl ?_ | refine lx (op_len_nil rfl el43) rfl ?_
        refine lx (op_eql rfl rfl) rfl ?_
        refine lx_end ⟨by kernel_rfl, ?_⟩
        refine pe_then_normal ?_
        refine tr_sub hC (.cons (t := 1) rfl (.cons (t := 3) rfl (.cons (t := 42) rfl .nil))) (.cons (t := 600) rfl (.cons (t := 1) rfl .nil)) rfl ?_
        refine tr_cond rfl (fun h42 => ?_) (fun h42 => ?_)
        · (try simp only [Bool.and_eq_true, Bool.or_eq_true, Bool.and_eq_false_iff, Bool.or_eq_false_iff, decide_eq_true_eq, decide_eq_false_iff_not, Bool.not_eq_true', Bool.not_eq_false', List.length_map, ne_eq, Decidable.not_not, Int.not_lt, Int.not_le] at h42)
          have hx0 : xs = [] := List.eq_nil_of_length_eq_zero (by omega)
          have h : framesF e.to = xs ++ [(encodeF (RF.to ⟨0, e.got, ByteArray.mk #[]⟩)).1] := by rw [frames_2 hv (by omega), hx0]; rfl
          refine tr_seq ?_
          refine tr_region (fun N10 hN => ?_)
          refine lx (op_fieldAddr rfl fl41_2 sz3) rfl ?_
          refine lx (op_bload_one (m := 1) rfl rfl ag3 rfl) rfl ?_
          refine lx (op_build (qs := [_, _, _]) (parts := [(1, (Go.Operand.tmp 45))]) ze23 rfl rfl fs23 (.cons rfl (.one (by (first | exact One.eq rfl | exact One.mv _ _ _ _ _ | exact One.cl _ _ _ | exact One.map _ | exact One.sl _ _ _ | exact One.row _ _ _ _ | exact One.msl _ _ _ _ | exact One.ptr _ _ | exact One.b _ | exact One.cells _))) fl23_1 sz3 rfl .nil) rfl rfl) rfl ?_
          first | refine lx (op_call (l := [(Go.Operand.tmp 46)]) (rEncode_ok ⟨0, e.got, ByteArray.mk #[]⟩) (.cons rfl .nil) fn11) rfl ?_ | refine lx (op_call (l := [(Go.Operand.tmp 46)]) (rEncode_ok ⟨0, e.got, ByteArray.mk #[]⟩) (.ent rfl (by repeat (first | exact Ents.nil | refine Ents.cons ?_ ?_ | refine Ent.tup ?_ | refine Ent.agg ?_ | exact Ent.row _ _ _ _ | exact Ent.nil _ _ | exact Ent.func _ | exact Ent.refl _ | exact Ent.of_eq rfl | refine Ent.cells ?_)) .nil) fn11) rfl ?_
          refine lx (op_move rfl) rfl ?_
          refine lx (op_extract rfl rfl) rfl ?_
          refine lx (op_extract rfl rfl) rfl ?_
          refine lx (op_assign rfl) rfl ?_
          refine lx (op_assign rfl) rfl ?_
          refine lx_end ⟨by kernel_rfl, ?_⟩
          refine pe_then_normal ?_
          refine tr_sub hC (.cons (t := 3) rfl (.cons (t := 7) rfl .nil)) (.cons (t := 600) rfl .nil) rfl ?_
          refine tr_region (fun N11 hN => ?_)
          refine lx (op_move rfl) rfl ?_
          refine lx (op_move rfl) rfl ?_
          refine lx (op_buildSlice (f := byS) (xs := [(encodeF (RF.to ⟨0, e.got, ByteArray.mk #[]⟩)).1]) (l := [(0, (Go.Operand.tmp 51))]) ze25 rfl rfl (by decide) el43 sz25 byS_len (.cons rfl (.one (by (first | exact One.eq rfl | exact One.mv _ _ _ _ _ | exact One.cl _ _ _ | exact One.map _ | exact One.sl _ _ _ | exact One.row _ _ _ _ | exact One.msl _ _ _ _ | exact One.ptr _ _ | exact One.b _ | exact One.cells _))) .nil) rfl (by decide)) rfl ?_
          refine lxr (op_append (m := 600) (m' := 600) (kk := 53) rfl rfl rfl (.inl rfl) el43 ze25 sz25 by25 rfl byS_len (by rw [List.length_singleton]; omega) (by rw [List.length_singleton]; omega)) rfl ?_
          refine lx (op_assign rfl) rfl ?_
          refine lx_end ⟨by kernel_rfl, ?_⟩
          refine pe_then_normal ?_
          refine tr_sub hC (.cons (t := 3) rfl .nil) (.cons (t := 600) rfl .nil) rfl ?_
          refine tr_seq ?_
          refine tr_region (fun N12 hN => ?_)
          refine lx (op_move rfl) rfl ?_
          refine lx (op_assign rfl) rfl ?_
          refine lx_end ⟨by kernel_rfl, ?_⟩
          refine pe_then_normal ?_
          refine tr_sub hC (.cons (t := 2) rfl .nil) (.cons (t := 600) rfl .nil) rfl ?_
          refine tr_ret ?_
          refine pe_ret1 rfl hO rfl (.tmp rfl .nil) ?_
          rw [h]
          repeat (first | exact Ents.nil | refine Ents.cons ?_ ?_ | refine Ent.tup ?_ | refine Ent.agg ?_ | exact Ent.row _ _ _ _ | exact Ent.nil _ _ | exact Ent.func _ | exact Ent.refl _ | exact Ent.of_eq rfl | refine Ent.cells ?_)
        · (try simp only [Bool.and_eq_true, Bool.or_eq_true, Bool.and_eq_false_iff, Bool.or_eq_false_iff, decide_eq_true_eq, decide_eq_false_iff_not, Bool.not_eq_true', Bool.not_eq_false', List.length_map, ne_eq, Decidable.not_not, Int.not_lt, Int.not_le] at h42)
          have h : framesF e.to = xs := by rw [frames_3 hv (by omega), hfull]
          refine tr_skip ?_
          refine pe_then_normal ?_
          refine tr_sub hC (.cons (t := 3) rfl .nil) (.cons (t := 600) rfl .nil) rfl ?_
          refine tr_seq ?_
          refine tr_region (fun N12 hN => ?_)
          refine lx (op_move rfl) rfl ?_
          refine lx (op_assign rfl) rfl ?_
          refine lx_end ⟨by kernel_rfl, ?_⟩
          refine pe_then_normal ?_
          refine tr_sub hC (.cons (t := 2) rfl .nil) (.cons (t := 600) rfl .nil) rfl ?_
          refine tr_ret ?_
          refine pe_ret1 rfl hO rfl (.tmp rfl .nil) ?_
          rw [h]
          repeat (first | exact Ents.nil | refine Ents.cons ?_ ?_ | refine Ent.tup ?_ | refine Ent.agg ?_ | exact Ent.row _ _ _ _ | exact Ent.nil _ _ | exact Ent.func _ | exact Ent.refl _ | exact Ent.of_eq rfl | refine Ent.cells ?_)
end Go.Proofs.Ytgdhogmghffbaaa
