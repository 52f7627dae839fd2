/- Walks of the statements about layer 21 -/
import Derived.Test.YtoibihhocjbilaaDpWalk8
import Derived.Test.YtoibihhocjbilaaDpPlain3
set_option linter.unusedVariables false
set_option linter.unusedSimpArgs false
namespace Go.Proofs.Ytoibihhocjbilaa
open Go.AL Go.Dp Go.RowKit
theorem bo4 : Try.prog.underlying 4 = some .bool := by kernel_rfl
theorem fn10 : fnB Try.prog 10 = true := by kernel_rfl
theorem fn11 : fnB Try.prog 11 = true := by kernel_rfl
theorem fn14 : fnB Try.prog 14 = true := by kernel_rfl
theorem fn15 : fnB Try.prog 15 = true := by kernel_rfl
theorem fn16 : fnB Try.prog 16 = true := by kernel_rfl
theorem fn17 : fnB Try.prog 17 = true := by kernel_rfl
theorem fn18 : fnB Try.prog 18 = true := by kernel_rfl
theorem fn19 : fnB Try.prog 19 = true := by kernel_rfl
theorem fn20 : fnB Try.prog 20 = true := by kernel_rfl
theorem fn21 : fnB Try.prog 21 = true := by kernel_rfl
theorem fn22 : fnB Try.prog 22 = true := by kernel_rfl
theorem fn23 : fnB Try.prog 23 = true := by kernel_rfl
theorem fs29 : sizesB Try.prog 29 = true := by kernel_rfl
theorem awake_ok  : FnP Try.prog 10 [] (eqP (.bool true)) := by
  refine fn_pure' Try.func10 rfl Try.ntmps10 rfl ?_
  intro σ0 M ex Rf R hC hO
  simp only [frameOf, tokOf]
  refine tr_seq ?_
  refine tr_region (fun N0 hN => ?_)
  refine lx (op_assign rfl) rfl ?_
  refine lx_end ⟨by kernel_rfl, ?_⟩
  refine pe_then_normal ?_
  refine tr_sub hC .nil .nil rfl ?_
  refine tr_seq ?_
  refine tr_region (fun N1 hN => ?_)
  refine lx (op_build (parts := []) ze25 rfl rfl fs25 .nil rfl rfl) rfl ?_
  refine lx (op_build (parts := [(0, (Go.Operand.const (Go.Value.int Go.IntKind.i64 0))), (1, (Go.Operand.const (Go.Value.int Go.IntKind.i64 3)))]) ze29 rfl rfl fs29 (.cons rfl (.one (by (first | exact One.eq rfl | exact One.mv _ _ _ _ _ | exact One.cl _ _ _ | exact One.map _ | exact One.sl _ _ _ | exact One.row _ _ _ _ | exact One.msl _ _ _ _ | exact One.ptr _ _ | exact One.b _ | exact One.cells _))) fl29_0 sz3 rfl (.cons rfl (.one (by (first | exact One.eq rfl | exact One.mv _ _ _ _ _ | exact One.cl _ _ _ | exact One.map _ | exact One.sl _ _ _ | exact One.row _ _ _ _ | exact One.msl _ _ _ _ | exact One.ptr _ _ | exact One.b _ | exact One.cells _))) fl29_1 sz3 rfl .nil)) rfl rfl) rfl ?_
  refine lx (op_build (parts := [(0, (Go.Operand.const (Go.Value.int Go.IntKind.i64 2))), (1, (Go.Operand.const (Go.Value.int Go.IntKind.i64 1)))]) ze29 rfl rfl fs29 (.cons rfl (.one (by (first | exact One.eq rfl | exact One.mv _ _ _ _ _ | exact One.cl _ _ _ | exact One.map _ | exact One.sl _ _ _ | exact One.row _ _ _ _ | exact One.msl _ _ _ _ | exact One.ptr _ _ | exact One.b _ | exact One.cells _))) fl29_0 sz3 rfl (.cons rfl (.one (by (first | exact One.eq rfl | exact One.mv _ _ _ _ _ | exact One.cl _ _ _ | exact One.map _ | exact One.sl _ _ _ | exact One.row _ _ _ _ | exact One.msl _ _ _ _ | exact One.ptr _ _ | exact One.b _ | exact One.cells _))) fl29_1 sz3 rfl .nil)) rfl rfl) rfl ?_
  refine lx (op_buildSlice (f := sp) (xs := [⟨0, 3⟩, ⟨2, 1⟩]) (l := [(0, (Go.Operand.tmp 11)), (1, (Go.Operand.tmp 12))]) ze29 rfl rfl (by decide) el22 sz29 sp_len (.cons rfl (.agg rfl) (.cons rfl (.agg rfl) .nil)) rfl (by decide)) rfl ?_
  first | refine lx (op_call (l := [(Go.Operand.tmp 10), (Go.Operand.tmp 13)]) (Put_ok Dep.zero (by decide) (by decide) [⟨0, 3⟩, ⟨2, 1⟩] (by decide)) (.cons rfl (.cons rfl .nil)) fn17) rfl ?_ | refine lx (op_call (l := [(Go.Operand.tmp 10), (Go.Operand.tmp 13)]) (Put_ok Dep.zero (by decide) (by decide) [⟨0, 3⟩, ⟨2, 1⟩] (by decide)) (.ent rfl (by repeat (first | exact Ent.refl _ | exact Ents.nil | exact Ent.nil _ _ | exact Ent.row _ _ _ _ | exact Ent.func _ | refine Ents.cons ?_ ?_ | refine Ent.tup ?_ | refine Ent.agg ?_ | refine Ent.cells ?_ | exact Ent.of_eq rfl)) (.ent rfl (by repeat (first | exact Ent.refl _ | exact Ents.nil | exact Ent.nil _ _ | exact Ent.row _ _ _ _ | exact Ent.func _ | refine Ents.cons ?_ ?_ | refine Ent.tup ?_ | refine Ent.agg ?_ | refine Ent.cells ?_ | exact Ent.of_eq rfl)) .nil)) fn17) rfl ?_
  refine lx (op_move rfl) rfl ?_
  refine lx (op_extract rfl rfl) rfl ?_
  refine lx (op_extract rfl rfl) rfl ?_
  refine lxn (op_alloc (m := 1) (k := 1) (ps := [eqP (.slice none 0 0), eqP (.slice none 0 0)]) ze25 rfl rfl (by first | exact hC.low _ (by decide) | rfl)) rfl ?_
  first | refine lxr (op_store_all (m := 1) rfl rfl rfl (.agg rfl) sz25 rfl) rfl ?_ | refine lxr (op_store (m := 1) rfl rfl rfl (.agg rfl) sz25 rfl rfl rfl) rfl ?_
  refine lx (op_assign rfl) rfl ?_
  refine lx_end ⟨by kernel_rfl, ?_⟩
  refine pe_then_normal ?_
  refine tr_sub hC (.cons (t := 1) rfl (.cons (t := 2) rfl .nil)) (.cons (t := 1) rfl .nil) rfl ?_
  refine tr_seq ?_
  refine tr_region (fun N2 hN => ?_)
  first | refine lx (op_bload (m := 1) rfl rfl ag25 sz25) rfl ?_ | refine lx (op_bload_part (m := 1) rfl rfl ag25 sz25 rfl rfl) rfl ?_
  refine lx (op_build (parts := [(0, (Go.Operand.const (Go.Value.int Go.IntKind.i64 0))), (1, (Go.Operand.const (Go.Value.int Go.IntKind.i64 3)))]) ze29 rfl rfl fs29 (.cons rfl (.one (by (first | exact One.eq rfl | exact One.mv _ _ _ _ _ | exact One.cl _ _ _ | exact One.map _ | exact One.sl _ _ _ | exact One.row _ _ _ _ | exact One.msl _ _ _ _ | exact One.ptr _ _ | exact One.b _ | exact One.cells _))) fl29_0 sz3 rfl (.cons rfl (.one (by (first | exact One.eq rfl | exact One.mv _ _ _ _ _ | exact One.cl _ _ _ | exact One.map _ | exact One.sl _ _ _ | exact One.row _ _ _ _ | exact One.msl _ _ _ _ | exact One.ptr _ _ | exact One.b _ | exact One.cells _))) fl29_1 sz3 rfl .nil)) rfl rfl) rfl ?_
  refine lx (op_build (parts := [(0, (Go.Operand.const (Go.Value.int Go.IntKind.i64 2))), (1, (Go.Operand.const (Go.Value.int Go.IntKind.i64 7)))]) ze29 rfl rfl fs29 (.cons rfl (.one (by (first | exact One.eq rfl | exact One.mv _ _ _ _ _ | exact One.cl _ _ _ | exact One.map _ | exact One.sl _ _ _ | exact One.row _ _ _ _ | exact One.msl _ _ _ _ | exact One.ptr _ _ | exact One.b _ | exact One.cells _))) fl29_0 sz3 rfl (.cons rfl (.one (by (first | exact One.eq rfl | exact One.mv _ _ _ _ _ | exact One.cl _ _ _ | exact One.map _ | exact One.sl _ _ _ | exact One.row _ _ _ _ | exact One.msl _ _ _ _ | exact One.ptr _ _ | exact One.b _ | exact One.cells _))) fl29_1 sz3 rfl .nil)) rfl rfl) rfl ?_
  refine lx (op_buildSlice (f := sp) (xs := [⟨0, 3⟩, ⟨2, 7⟩]) (l := [(0, (Go.Operand.tmp 19)), (1, (Go.Operand.tmp 20))]) ze29 rfl rfl (by decide) el22 sz29 sp_len (.cons rfl (.agg rfl) (.cons rfl (.agg rfl) .nil)) rfl (by decide)) rfl ?_
  first | refine lx (op_call (l := [(Go.Operand.tmp 18), (Go.Operand.tmp 21)]) (Put_ok (putF Dep.zero [⟨0, 3⟩, ⟨2, 1⟩]).1 (by decide) (by decide) [⟨0, 3⟩, ⟨2, 7⟩] (by decide)) (.cons rfl (.cons rfl .nil)) fn17) rfl ?_ | refine lx (op_call (l := [(Go.Operand.tmp 18), (Go.Operand.tmp 21)]) (Put_ok (putF Dep.zero [⟨0, 3⟩, ⟨2, 1⟩]).1 (by decide) (by decide) [⟨0, 3⟩, ⟨2, 7⟩] (by decide)) (.ent rfl (by repeat (first | exact Ent.refl _ | exact Ents.nil | exact Ent.nil _ _ | exact Ent.row _ _ _ _ | exact Ent.func _ | refine Ents.cons ?_ ?_ | refine Ent.tup ?_ | refine Ent.agg ?_ | refine Ent.cells ?_ | exact Ent.of_eq rfl)) (.ent rfl (by repeat (first | exact Ent.refl _ | exact Ents.nil | exact Ent.nil _ _ | exact Ent.row _ _ _ _ | exact Ent.func _ | refine Ents.cons ?_ ?_ | refine Ent.tup ?_ | refine Ent.agg ?_ | refine Ent.cells ?_ | exact Ent.of_eq rfl)) .nil)) fn17) rfl ?_
  refine lx (op_move rfl) rfl ?_
  refine lx (op_extract rfl rfl) rfl ?_
  refine lx (op_extract rfl rfl) rfl ?_
  refine lxn (op_alloc (m := 3) (k := 3) (ps := [eqP (.slice none 0 0), eqP (.slice none 0 0)]) ze25 rfl rfl (by first | exact hC.low _ (by decide) | rfl)) rfl ?_
  first | refine lxr (op_store_all (m := 3) rfl rfl rfl (.agg rfl) sz25 rfl) rfl ?_ | refine lxr (op_store (m := 3) rfl rfl rfl (.agg rfl) sz25 rfl rfl rfl) rfl ?_
  refine lx (op_assign rfl) rfl ?_
  refine lx_end ⟨by kernel_rfl, ?_⟩
  refine pe_then_normal ?_
  refine tr_sub hC (.cons (t := 1) rfl (.cons (t := 2) rfl (.cons (t := 3) rfl (.cons (t := 4) rfl .nil)))) (.cons (t := 1) rfl (.cons (t := 3) rfl .nil)) rfl ?_
  refine tr_seq ?_
  refine tr_region (fun N3 hN => ?_)
  first | refine lx (op_bload (m := 3) rfl rfl ag25 sz25) rfl ?_ | refine lx (op_bload_part (m := 3) rfl rfl ag25 sz25 rfl rfl) rfl ?_
  first | refine lx (op_call (l := [(Go.Operand.tmp 26), (Go.Operand.const (Go.Value.int Go.IntKind.i64 2))]) (Stack_ok (putF (putF Dep.zero [⟨0, 3⟩, ⟨2, 1⟩]).1 [⟨0, 3⟩, ⟨2, 7⟩]).1 (by decide) 2) (.cons rfl (.cons rfl .nil)) fn19) rfl ?_ | refine lx (op_call (l := [(Go.Operand.tmp 26), (Go.Operand.const (Go.Value.int Go.IntKind.i64 2))]) (Stack_ok (putF (putF Dep.zero [⟨0, 3⟩, ⟨2, 1⟩]).1 [⟨0, 3⟩, ⟨2, 7⟩]).1 (by decide) 2) (.ent rfl (by repeat (first | exact Ent.refl _ | exact Ents.nil | exact Ent.nil _ _ | exact Ent.row _ _ _ _ | exact Ent.func _ | refine Ents.cons ?_ ?_ | refine Ent.tup ?_ | refine Ent.agg ?_ | refine Ent.cells ?_ | exact Ent.of_eq rfl)) (.ent rfl (by repeat (first | exact Ent.refl _ | exact Ents.nil | exact Ent.nil _ _ | exact Ent.row _ _ _ _ | exact Ent.func _ | refine Ents.cons ?_ ?_ | refine Ent.tup ?_ | refine Ent.agg ?_ | refine Ent.cells ?_ | exact Ent.of_eq rfl)) .nil)) fn19) rfl ?_
  refine lx (op_move rfl) rfl ?_
  refine lx (op_extract rfl rfl) rfl ?_
  refine lx (op_extract rfl rfl) rfl ?_
  refine lx (op_assign rfl) rfl ?_
  refine lx (op_assign rfl) rfl ?_
  refine lx_end ⟨by kernel_rfl, ?_⟩
  refine pe_then_normal ?_
  refine tr_sub hC (.cons (t := 1) rfl (.cons (t := 2) rfl (.cons (t := 3) rfl (.cons (t := 4) rfl (.cons (t := 5) rfl (.cons (t := 6) rfl .nil)))))) (.cons (t := 1) rfl (.cons (t := 3) rfl .nil)) rfl ?_
  refine tr_seq ?_
  refine tr_region (fun N4 hN => ?_)
  first | refine lx (op_bload (m := 3) rfl rfl ag25 sz25) rfl ?_ | refine lx (op_bload_part (m := 3) rfl rfl ag25 sz25 rfl rfl) rfl ?_
  refine lx (op_build (parts := [(0, (Go.Operand.const (Go.Value.int Go.IntKind.i64 1))), (1, (Go.Operand.const (Go.Value.int Go.IntKind.i64 1)))]) ze29 rfl rfl fs29 (.cons rfl (.one (by (first | exact One.eq rfl | exact One.mv _ _ _ _ _ | exact One.cl _ _ _ | exact One.map _ | exact One.sl _ _ _ | exact One.row _ _ _ _ | exact One.msl _ _ _ _ | exact One.ptr _ _ | exact One.b _ | exact One.cells _))) fl29_0 sz3 rfl (.cons rfl (.one (by (first | exact One.eq rfl | exact One.mv _ _ _ _ _ | exact One.cl _ _ _ | exact One.map _ | exact One.sl _ _ _ | exact One.row _ _ _ _ | exact One.msl _ _ _ _ | exact One.ptr _ _ | exact One.b _ | exact One.cells _))) fl29_1 sz3 rfl .nil)) rfl rfl) rfl ?_
  first | refine lx (op_call (l := [(Go.Operand.tmp 31), (Go.Operand.const (Go.Value.int Go.IntKind.i64 5)), (Go.Operand.tmp 32)]) (Push_ok (putF (putF Dep.zero [⟨0, 3⟩, ⟨2, 1⟩]).1 [⟨0, 3⟩, ⟨2, 7⟩]).1 (by decide) (by decide) 5 ⟨1, 1⟩) (.cons rfl (.cons rfl (.cons rfl .nil))) fn14) rfl ?_ | refine lx (op_call (l := [(Go.Operand.tmp 31), (Go.Operand.const (Go.Value.int Go.IntKind.i64 5)), (Go.Operand.tmp 32)]) (Push_ok (putF (putF Dep.zero [⟨0, 3⟩, ⟨2, 1⟩]).1 [⟨0, 3⟩, ⟨2, 7⟩]).1 (by decide) (by decide) 5 ⟨1, 1⟩) (.ent rfl (by repeat (first | exact Ent.refl _ | exact Ents.nil | exact Ent.nil _ _ | exact Ent.row _ _ _ _ | exact Ent.func _ | refine Ents.cons ?_ ?_ | refine Ent.tup ?_ | refine Ent.agg ?_ | refine Ent.cells ?_ | exact Ent.of_eq rfl)) (.ent rfl (by repeat (first | exact Ent.refl _ | exact Ents.nil | exact Ent.nil _ _ | exact Ent.row _ _ _ _ | exact Ent.func _ | refine Ents.cons ?_ ?_ | refine Ent.tup ?_ | refine Ent.agg ?_ | refine Ent.cells ?_ | exact Ent.of_eq rfl)) (.ent rfl (by repeat (first | exact Ent.refl _ | exact Ents.nil | exact Ent.nil _ _ | exact Ent.row _ _ _ _ | exact Ent.func _ | refine Ents.cons ?_ ?_ | refine Ent.tup ?_ | refine Ent.agg ?_ | refine Ent.cells ?_ | exact Ent.of_eq rfl)) .nil))) fn14) rfl ?_
  refine lx (op_move rfl) rfl ?_
  refine lx (op_extract rfl rfl) rfl ?_
  refine lx (op_extract rfl rfl) rfl ?_
  refine lxn (op_alloc (m := 7) (k := 7) (ps := [eqP (.slice none 0 0), eqP (.slice none 0 0)]) ze25 rfl rfl (by first | exact hC.low _ (by decide) | rfl)) rfl ?_
  first | refine lxr (op_store_all (m := 7) rfl rfl rfl (.agg rfl) sz25 rfl) rfl ?_ | refine lxr (op_store (m := 7) rfl rfl rfl (.agg rfl) sz25 rfl rfl rfl) rfl ?_
  refine lx (op_assign rfl) rfl ?_
  refine lx_end ⟨by kernel_rfl, ?_⟩
  refine pe_then_normal ?_
  refine tr_sub hC (.cons (t := 1) rfl (.cons (t := 2) rfl (.cons (t := 3) rfl (.cons (t := 4) rfl (.cons (t := 5) rfl (.cons (t := 6) rfl (.cons (t := 8) rfl .nil))))))) (.cons (t := 1) rfl (.cons (t := 3) rfl .nil)) rfl ?_
  refine tr_seq ?_
  refine tr_region (fun N5 hN => ?_)
  refine lx (op_fieldAddr rfl fl25_0 sz22) rfl ?_
  refine lx (op_bload_one (m := 1) rfl rfl ag22 rfl) rfl ?_
  first | refine lx (op_len rfl el22) rfl ?_ | refine lx (op_len_row rfl el22) rfl ?_ | refine lx (op_len_mv rfl el22) rfl ?_
  refine lx (op_eql rfl rfl) rfl ?_
  refine lx (op_move rfl) rfl ?_
  refine lxs rfl rfl rfl guard_eq (.cons (t := 2) rfl (fun _ => Ent.refl _) .nil) (op_move rfl) rfl ?_
  refine lxs rfl rfl rfl guard_eq (.cons (t := 41) rfl (fun h => entW h) .nil) (op_eql rfl rfl) rfl ?_
  refine lx (op_pick_and rfl rfl) rfl ?_
  refine lx (op_move rfl) rfl ?_
  refine lxs rfl rfl rfl guard_eq (.cons (t := 3) rfl (fun _ => Ent.refl _) .nil) (op_fieldAddr rfl fl25_0 sz22) rfl ?_
  refine lxs rfl rfl rfl guard_eq (.cons (t := 45) rfl (fun h => entW h) .nil) (op_bload_one (m := 3) rfl rfl ag22 rfl) rfl ?_
  first | refine lxs rfl rfl rfl guard_eq (.cons (t := 46) rfl (fun h => entW h) .nil) (op_len rfl el22) rfl ?_ | refine lxs rfl rfl rfl guard_eq (.cons (t := 46) rfl (fun h => entW h) .nil) (op_len_row rfl el22) rfl ?_ | refine lxs rfl rfl rfl guard_eq (.cons (t := 46) rfl (fun h => entW h) .nil) (op_len_mv rfl el22) rfl ?_
  refine lxs rfl rfl rfl guard_eq (.cons (t := 47) rfl (fun h => entW h) .nil) (op_eql rfl rfl) rfl ?_
  refine lx (op_pick_and rfl rfl) rfl ?_
  refine lx (op_move rfl) rfl ?_
  refine lxs rfl rfl rfl guard_eq (.cons (t := 4) rfl (fun _ => Ent.refl _) .nil) (op_move rfl) rfl ?_
  refine lxs rfl rfl rfl guard_eq (.cons (t := 51) rfl (fun h => entW h) .nil) (op_eql rfl rfl) rfl ?_
  refine lx (op_pick_and rfl rfl) rfl ?_
  refine lx (op_move rfl) rfl ?_
  refine lxs rfl rfl rfl guard_eq (.cons (t := 6) rfl (fun _ => Ent.refl _) .nil) (op_move rfl) rfl ?_
  refine lx (op_pick_and rfl rfl) rfl ?_
  refine lx (op_move rfl) rfl ?_
  refine lxs rfl rfl rfl guard_eq (.cons (t := 5) rfl (fun _ => Ent.refl _) .nil) (op_move rfl) rfl ?_
  refine lxs rfl rfl rfl guard_eq .nil (op_build (parts := [(0, (Go.Operand.const (Go.Value.int Go.IntKind.i64 0))), (1, (Go.Operand.const (Go.Value.int Go.IntKind.i64 3)))]) ze29 rfl rfl fs29 (.cons rfl (.one (by (first | exact One.eq rfl | exact One.mv _ _ _ _ _ | exact One.cl _ _ _ | exact One.map _ | exact One.sl _ _ _ | exact One.row _ _ _ _ | exact One.msl _ _ _ _ | exact One.ptr _ _ | exact One.b _ | exact One.cells _))) fl29_0 sz3 rfl (.cons rfl (.one (by (first | exact One.eq rfl | exact One.mv _ _ _ _ _ | exact One.cl _ _ _ | exact One.map _ | exact One.sl _ _ _ | exact One.row _ _ _ _ | exact One.msl _ _ _ _ | exact One.ptr _ _ | exact One.b _ | exact One.cells _))) fl29_1 sz3 rfl .nil)) rfl rfl) rfl ?_
  refine lxs rfl rfl rfl guard_eq .nil (op_build (parts := [(0, (Go.Operand.const (Go.Value.int Go.IntKind.i64 2))), (1, (Go.Operand.const (Go.Value.int Go.IntKind.i64 7)))]) ze29 rfl rfl fs29 (.cons rfl (.one (by (first | exact One.eq rfl | exact One.mv _ _ _ _ _ | exact One.cl _ _ _ | exact One.map _ | exact One.sl _ _ _ | exact One.row _ _ _ _ | exact One.msl _ _ _ _ | exact One.ptr _ _ | exact One.b _ | exact One.cells _))) fl29_0 sz3 rfl (.cons rfl (.one (by (first | exact One.eq rfl | exact One.mv _ _ _ _ _ | exact One.cl _ _ _ | exact One.map _ | exact One.sl _ _ _ | exact One.row _ _ _ _ | exact One.msl _ _ _ _ | exact One.ptr _ _ | exact One.b _ | exact One.cells _))) fl29_1 sz3 rfl .nil)) rfl rfl) rfl ?_
  refine lxs rfl rfl rfl guard_eq (.cons (t := 59) rfl (fun h => entW h) (.cons (t := 60) rfl (fun h => entW h) .nil)) (op_buildSlice (f := sp) (xs := [⟨0, 3⟩, ⟨2, 7⟩]) (l := [(0, (Go.Operand.tmp 59)), (1, (Go.Operand.tmp 60))]) ze29 rfl rfl (by decide) el22 sz29 sp_len (.cons rfl (.agg rfl) (.cons rfl (.agg rfl) .nil)) rfl (by decide)) rfl ?_
  first | refine lxs rfl rfl rfl guard_eq (.cons (t := 58) rfl (fun h => entW h) (.cons (t := 61) rfl (fun h => entW h) .nil)) (op_call (l := [(Go.Operand.tmp 58), (Go.Operand.tmp 61)]) (same_ok _ [⟨0, 3⟩, ⟨2, 7⟩] (by decide)) (.cons rfl (.cons rfl .nil)) fn21) rfl ?_ | refine lxs rfl rfl rfl guard_eq (.cons (t := 58) rfl (fun h => entW h) (.cons (t := 61) rfl (fun h => entW h) .nil)) (op_call (l := [(Go.Operand.tmp 58), (Go.Operand.tmp 61)]) (same_ok _ [⟨0, 3⟩, ⟨2, 7⟩] (by decide)) (.ent rfl (by repeat (first | exact Ent.refl _ | exact Ents.nil | exact Ent.nil _ _ | exact Ent.row _ _ _ _ | exact Ent.func _ | refine Ents.cons ?_ ?_ | refine Ent.tup ?_ | refine Ent.agg ?_ | refine Ent.cells ?_ | exact Ent.of_eq rfl)) (.ent rfl (by repeat (first | exact Ent.refl _ | exact Ents.nil | exact Ent.nil _ _ | exact Ent.row _ _ _ _ | exact Ent.func _ | refine Ents.cons ?_ ?_ | refine Ent.tup ?_ | refine Ent.agg ?_ | refine Ent.cells ?_ | exact Ent.of_eq rfl)) .nil)) fn21) rfl ?_
  refine lx (op_pick_and rfl rfl) rfl ?_
  refine lx (op_move rfl) rfl ?_
  refine lxs rfl rfl rfl guard_eq (.cons (t := 8) rfl (fun _ => Ent.refl _) .nil) (op_move rfl) rfl ?_
  refine lxs rfl rfl rfl guard_eq (.cons (t := 65) rfl (fun h => entW h) .nil) (op_eql rfl rfl) rfl ?_
  refine lx (op_pick_and rfl rfl) rfl ?_
  refine lx (op_assign rfl) rfl ?_
  refine lx_end ⟨by kernel_rfl, ?_⟩
  refine pe_then_normal ?_
  refine tr_sub hC (.cons (t := 0) rfl .nil) .nil rfl ?_
  refine tr_ret ?_
  refine pe_ret1 rfl hO rfl (.tmp rfl .nil) ?_
  exact entB (by decide)

theorem law_valid (d : Dep) : FnP Try.prog 3 [aggP d.ps] (eqP (.bool true)) := by
  refine fn_pure' Try.func3 rfl Try.ntmps3 rfl ?_
  intro σ0 M ex Rf R hC hO
  simp only [frameOf, tokOf]
  refine tr_seq ?_
  refine tr_region (fun N0 hN => ?_)
  refine lxn (op_box (m := 1) (k := 1) rfl (.agg rfl) (by first | exact hC.low _ (by decide) | rfl)) rfl ?_
  refine lx (op_assign rfl) rfl ?_
  refine lx_end ⟨by kernel_rfl, ?_⟩
  refine pe_then_normal ?_
  refine tr_sub hC (.cons (t := 1) rfl .nil) (.cons (t := 1) rfl .nil) rfl ?_
  refine tr_seq ?_
  refine tr_seq ?_
  refine tr_region (fun N1 hN => ?_)
  first | refine lx (op_call (l := []) (awake_ok) .nil fn10) rfl ?_ | refine lx (op_call (l := []) (awake_ok) .nil fn10) rfl ?_
  first | refine lx (op_not rfl) rfl ?_ | refine lx (op_not_b rfl) rfl ?_
  refine lx_end ⟨by kernel_rfl, ?_⟩
  refine pe_then_normal ?_
  refine tr_sub hC (.cons (t := 1) rfl (.cons (t := 4) rfl .nil)) (.cons (t := 1) rfl .nil) rfl ?_
  refine tr_cond rfl (fun h4 => ?_) (fun h4 => ?_)
  · exact absurd h4 (by decide)
  · (try simp only [Bool.and_eq_true, Bool.or_eq_true, Bool.and_eq_false_iff, Bool.or_eq_false_iff, decide_eq_true_eq, decide_eq_false_iff_not, Bool.not_eq_true', Bool.not_eq_false', List.length_map, ne_eq, Decidable.not_not, Int.not_lt, Int.not_le] at h4)
    refine tr_skip ?_
    refine pe_then_normal ?_
    refine tr_sub hC (.cons (t := 1) rfl .nil) (.cons (t := 1) rfl .nil) rfl ?_
    refine tr_seq ?_
    refine tr_seq ?_
    refine tr_region (fun N3 hN => ?_)
    first | refine lx (op_bload (m := 1) rfl rfl ag25 sz25) rfl ?_ | refine lx (op_bload_part (m := 1) rfl rfl ag25 sz25 rfl rfl) rfl ?_
    first | refine lx (op_call (l := [(Go.Operand.tmp 5)]) (large_ok _) (.cons rfl .nil) fn11) rfl ?_ | refine lx (op_call (l := [(Go.Operand.tmp 5)]) (large_ok _) (.ent rfl (by repeat (first | exact Ent.refl _ | exact Ents.nil | exact Ent.nil _ _ | exact Ent.row _ _ _ _ | exact Ent.func _ | refine Ents.cons ?_ ?_ | refine Ent.tup ?_ | refine Ent.agg ?_ | refine Ent.cells ?_ | exact Ent.of_eq rfl)) .nil) fn11) rfl ?_
    refine lx_end ⟨by kernel_rfl, ?_⟩
    refine pe_then_normal ?_
    refine tr_sub hC (.cons (t := 1) rfl (.cons (t := 6) rfl .nil)) (.cons (t := 1) rfl .nil) rfl ?_
    refine tr_cond rfl (fun h6 => ?_) (fun h6 => ?_)
    · (try simp only [Bool.and_eq_true, Bool.or_eq_true, Bool.and_eq_false_iff, Bool.or_eq_false_iff, decide_eq_true_eq, decide_eq_false_iff_not, Bool.not_eq_true', Bool.not_eq_false', List.length_map, ne_eq, Decidable.not_not, Int.not_lt, Int.not_le] at h6)
      refine tr_seq ?_
      refine tr_region (fun N4 hN => ?_)
      refine lx (op_assign rfl) rfl ?_
      refine lx_end ⟨by kernel_rfl, ?_⟩
      refine pe_then_normal ?_
      refine tr_sub hC (.cons (t := 2) rfl .nil) .nil rfl ?_
      refine tr_ret ?_
      refine pe_then_ret ?_
      refine pe_ret1 rfl hO rfl (.tmp rfl .nil) ?_
      repeat (first | exact Ent.refl _ | exact Ents.nil | exact Ent.nil _ _ | exact Ent.row _ _ _ _ | exact Ent.func _ | refine Ents.cons ?_ ?_ | refine Ent.tup ?_ | refine Ent.agg ?_ | refine Ent.cells ?_ | exact Ent.of_eq rfl)
    · (try simp only [Bool.and_eq_true, Bool.or_eq_true, Bool.and_eq_false_iff, Bool.or_eq_false_iff, decide_eq_true_eq, decide_eq_false_iff_not, Bool.not_eq_true', Bool.not_eq_false', List.length_map, ne_eq, Decidable.not_not, Int.not_lt, Int.not_le] at h6)
      have hx : d.sites.length ≤ 60 ∧ d.parents.length ≤ 60 := by omega
      refine tr_skip ?_
      refine pe_then_normal ?_
      refine tr_sub hC (.cons (t := 1) rfl .nil) (.cons (t := 1) rfl .nil) rfl ?_
      refine tr_seq ?_
      refine tr_drawn mixed (fun N5 hN => ?_)
      first | refine lx (op_bload (m := 1) rfl rfl ag25 sz25) rfl ?_ | refine lx (op_bload_part (m := 1) rfl rfl ag25 sz25 rfl rfl) rfl ?_
      first | refine lx (op_call (l := [(Go.Operand.tmp 7)]) (valid_ok _ (by omega)) (.cons rfl .nil) fn12) rfl ?_ | refine lx (op_call (l := [(Go.Operand.tmp 7)]) (valid_ok _ (by omega)) (.ent rfl (by repeat (first | exact Ent.refl _ | exact Ents.nil | exact Ent.nil _ _ | exact Ent.row _ _ _ _ | exact Ent.func _ | refine Ents.cons ?_ ?_ | refine Ent.tup ?_ | refine Ent.agg ?_ | refine Ent.cells ?_ | exact Ent.of_eq rfl)) .nil) fn12) rfl ?_
      first | refine lx (op_bload (m := 1) rfl rfl ag25 sz25) rfl ?_ | refine lx (op_bload_part (m := 1) rfl rfl ag25 sz25 rfl rfl) rfl ?_
      first | refine lx (op_call (l := [(Go.Operand.tmp 9)]) (rvalid_ok _ (by omega)) (.cons rfl .nil) fn13) rfl ?_ | refine lx (op_call (l := [(Go.Operand.tmp 9)]) (rvalid_ok _ (by omega)) (.ent rfl (by repeat (first | exact Ent.refl _ | exact Ents.nil | exact Ent.nil _ _ | exact Ent.row _ _ _ _ | exact Ent.func _ | refine Ents.cons ?_ ?_ | refine Ent.tup ?_ | refine Ent.agg ?_ | refine Ent.cells ?_ | exact Ent.of_eq rfl)) .nil) fn13) rfl ?_
      refine lx (op_eql_bool bo4 rfl rfl) rfl ?_
      refine lx (op_assign rfl) rfl ?_
      refine lx_end ⟨by kernel_rfl, ?_⟩
      refine pe_then_normal ?_
      refine tr_sub hC (.cons (t := 2) rfl .nil) .nil rfl ?_
      refine tr_ret ?_
      refine pe_ret1 rfl hO rfl (.tmp rfl .nil) ?_
      exact entB (by simp)

theorem law_push (d : Dep) (p : Int) (s : Site) : FnP Try.prog 4 [aggP d.ps, eqP (.int .i64 p), aggP (sp s)] (eqP (.bool true)) := by
  refine fn_pure' Try.func4 rfl Try.ntmps4 rfl ?_
  intro σ0 M ex Rf R hC hO
  simp only [frameOf, tokOf]
  refine tr_seq ?_
  refine tr_region (fun N0 hN => ?_)
  refine lxn (op_box (m := 3) (k := 3) rfl (.agg rfl) (by first | exact hC.low _ (by decide) | rfl)) rfl ?_
  refine lxn (op_box (m := 5) (k := 5) rfl (.agg rfl) (by first | exact hC.low _ (by decide) | rfl)) rfl ?_
  refine lx (op_assign rfl) rfl ?_
  refine lx_end ⟨by kernel_rfl, ?_⟩
  refine pe_then_normal ?_
  refine tr_sub hC (.cons (t := 1) rfl (.cons (t := 3) rfl (.cons (t := 5) rfl .nil))) (.cons (t := 3) rfl (.cons (t := 5) rfl .nil)) rfl ?_
  refine tr_seq ?_
  refine tr_seq ?_
  refine tr_region (fun N1 hN => ?_)
  first | refine lx (op_call (l := []) (awake_ok) .nil fn10) rfl ?_ | refine lx (op_call (l := []) (awake_ok) .nil fn10) rfl ?_
  first | refine lx (op_not rfl) rfl ?_ | refine lx (op_not_b rfl) rfl ?_
  refine lx_end ⟨by kernel_rfl, ?_⟩
  refine pe_then_normal ?_
  refine tr_sub hC (.cons (t := 1) rfl (.cons (t := 3) rfl (.cons (t := 5) rfl (.cons (t := 12) rfl .nil)))) (.cons (t := 3) rfl (.cons (t := 5) rfl .nil)) rfl ?_
  refine tr_cond rfl (fun h12 => ?_) (fun h12 => ?_)
  · exact absurd h12 (by decide)
  · (try simp only [Bool.and_eq_true, Bool.or_eq_true, Bool.and_eq_false_iff, Bool.or_eq_false_iff, decide_eq_true_eq, decide_eq_false_iff_not, Bool.not_eq_true', Bool.not_eq_false', List.length_map, ne_eq, Decidable.not_not, Int.not_lt, Int.not_le] at h12)
    refine tr_skip ?_
    refine pe_then_normal ?_
    refine tr_sub hC (.cons (t := 1) rfl (.cons (t := 3) rfl (.cons (t := 5) rfl .nil))) (.cons (t := 3) rfl (.cons (t := 5) rfl .nil)) rfl ?_
    refine tr_seq ?_
    refine tr_seq ?_
    refine tr_region (fun N3 hN => ?_)
    first | refine lx (op_bload (m := 3) rfl rfl ag25 sz25) rfl ?_ | refine lx (op_bload_part (m := 3) rfl rfl ag25 sz25 rfl rfl) rfl ?_
    first | refine lx (op_call (l := [(Go.Operand.tmp 13)]) (large_ok _) (.cons rfl .nil) fn11) rfl ?_ | refine lx (op_call (l := [(Go.Operand.tmp 13)]) (large_ok _) (.ent rfl (by repeat (first | exact Ent.refl _ | exact Ents.nil | exact Ent.nil _ _ | exact Ent.row _ _ _ _ | exact Ent.func _ | refine Ents.cons ?_ ?_ | refine Ent.tup ?_ | refine Ent.agg ?_ | refine Ent.cells ?_ | exact Ent.of_eq rfl)) .nil) fn11) rfl ?_
    refine lx_end ⟨by kernel_rfl, ?_⟩
    refine pe_then_normal ?_
    refine tr_sub hC (.cons (t := 1) rfl (.cons (t := 3) rfl (.cons (t := 5) rfl (.cons (t := 14) rfl .nil)))) (.cons (t := 3) rfl (.cons (t := 5) rfl .nil)) rfl ?_
    refine tr_cond rfl (fun h14 => ?_) (fun h14 => ?_)
    · (try simp only [Bool.and_eq_true, Bool.or_eq_true, Bool.and_eq_false_iff, Bool.or_eq_false_iff, decide_eq_true_eq, decide_eq_false_iff_not, Bool.not_eq_true', Bool.not_eq_false', List.length_map, ne_eq, Decidable.not_not, Int.not_lt, Int.not_le] at h14)
      refine tr_seq ?_
      refine tr_region (fun N4 hN => ?_)
      refine lx (op_assign rfl) rfl ?_
      refine lx_end ⟨by kernel_rfl, ?_⟩
      refine pe_then_normal ?_
      refine tr_sub hC (.cons (t := 6) rfl .nil) .nil rfl ?_
      refine tr_ret ?_
      refine pe_then_ret ?_
      refine pe_ret1 rfl hO rfl (.tmp rfl .nil) ?_
      repeat (first | exact Ent.refl _ | exact Ents.nil | exact Ent.nil _ _ | exact Ent.row _ _ _ _ | exact Ent.func _ | refine Ents.cons ?_ ?_ | refine Ent.tup ?_ | refine Ent.agg ?_ | refine Ent.cells ?_ | exact Ent.of_eq rfl)
    · (try simp only [Bool.and_eq_true, Bool.or_eq_true, Bool.and_eq_false_iff, Bool.or_eq_false_iff, decide_eq_true_eq, decide_eq_false_iff_not, Bool.not_eq_true', Bool.not_eq_false', List.length_map, ne_eq, Decidable.not_not, Int.not_lt, Int.not_le] at h14)
      have hx : d.sites.length ≤ 60 ∧ d.parents.length ≤ 60 := by omega
      have hpl := pushF_len' (d := d) (p := p) (s := s) (n := 61) (by omega)
      refine tr_skip ?_
      refine pe_then_normal ?_
      refine tr_sub hC (.cons (t := 1) rfl (.cons (t := 3) rfl (.cons (t := 5) rfl .nil))) (.cons (t := 3) rfl (.cons (t := 5) rfl .nil)) rfl ?_
      refine tr_seq ?_
      refine tr_region (fun N5 hN => ?_)
      first | refine lx (op_bload (m := 3) rfl rfl ag25 sz25) rfl ?_ | refine lx (op_bload_part (m := 3) rfl rfl ag25 sz25 rfl rfl) rfl ?_
      refine lx (op_move rfl) rfl ?_
      first | refine lx (op_bload (m := 5) rfl rfl ag29 sz29) rfl ?_ | refine lx (op_bload_part (m := 5) rfl rfl ag29 sz29 rfl rfl) rfl ?_
      first | refine lx (op_call (l := [(Go.Operand.tmp 16), (Go.Operand.tmp 17), (Go.Operand.tmp 18)]) (Push_ok d (by omega) (by omega) p s) (.cons rfl (.cons rfl (.cons rfl .nil))) fn14) rfl ?_ | refine lx (op_call (l := [(Go.Operand.tmp 16), (Go.Operand.tmp 17), (Go.Operand.tmp 18)]) (Push_ok d (by omega) (by omega) p s) (.ent rfl (by repeat (first | exact Ent.refl _ | exact Ents.nil | exact Ent.nil _ _ | exact Ent.row _ _ _ _ | exact Ent.func _ | refine Ents.cons ?_ ?_ | refine Ent.tup ?_ | refine Ent.agg ?_ | refine Ent.cells ?_ | exact Ent.of_eq rfl)) (.ent rfl (by repeat (first | exact Ent.refl _ | exact Ents.nil | exact Ent.nil _ _ | exact Ent.row _ _ _ _ | exact Ent.func _ | refine Ents.cons ?_ ?_ | refine Ent.tup ?_ | refine Ent.agg ?_ | refine Ent.cells ?_ | exact Ent.of_eq rfl)) (.ent rfl (by repeat (first | exact Ent.refl _ | exact Ents.nil | exact Ent.nil _ _ | exact Ent.row _ _ _ _ | exact Ent.func _ | refine Ents.cons ?_ ?_ | refine Ent.tup ?_ | refine Ent.agg ?_ | refine Ent.cells ?_ | exact Ent.of_eq rfl)) .nil))) fn14) rfl ?_
      refine lx (op_move rfl) rfl ?_
      refine lx (op_extract rfl rfl) rfl ?_
      refine lx (op_extract rfl rfl) rfl ?_
      refine lxn (op_alloc (m := 7) (k := 7) (ps := [eqP (.slice none 0 0), eqP (.slice none 0 0)]) ze25 rfl rfl (by first | exact hC.low _ (by decide) | rfl)) rfl ?_
      first | refine lxr (op_store_all (m := 7) rfl rfl rfl (.agg rfl) sz25 rfl) rfl ?_ | refine lxr (op_store (m := 7) rfl rfl rfl (.agg rfl) sz25 rfl rfl rfl) rfl ?_
      refine lx (op_assign rfl) rfl ?_
      refine lx_end ⟨by kernel_rfl, ?_⟩
      refine pe_then_normal ?_
      refine tr_sub hC (.cons (t := 1) rfl (.cons (t := 3) rfl (.cons (t := 5) rfl (.cons (t := 7) rfl (.cons (t := 8) rfl .nil))))) (.cons (t := 3) rfl (.cons (t := 5) rfl (.cons (t := 7) rfl .nil))) rfl ?_
      refine tr_seq ?_
      refine tr_region (fun N6 hN => ?_)
      first | refine lx (op_bload (m := 3) rfl rfl ag25 sz25) rfl ?_ | refine lx (op_bload_part (m := 3) rfl rfl ag25 sz25 rfl rfl) rfl ?_
      refine lx (op_move rfl) rfl ?_
      first | refine lx (op_bload (m := 5) rfl rfl ag29 sz29) rfl ?_ | refine lx (op_bload_part (m := 5) rfl rfl ag29 sz29 rfl rfl) rfl ?_
      first | refine lx (op_call (l := [(Go.Operand.tmp 23), (Go.Operand.tmp 24), (Go.Operand.tmp 25)]) (rPush_ok d (by omega) (by omega) p s) (.cons rfl (.cons rfl (.cons rfl .nil))) fn15) rfl ?_ | refine lx (op_call (l := [(Go.Operand.tmp 23), (Go.Operand.tmp 24), (Go.Operand.tmp 25)]) (rPush_ok d (by omega) (by omega) p s) (.ent rfl (by repeat (first | exact Ent.refl _ | exact Ents.nil | exact Ent.nil _ _ | exact Ent.row _ _ _ _ | exact Ent.func _ | refine Ents.cons ?_ ?_ | refine Ent.tup ?_ | refine Ent.agg ?_ | refine Ent.cells ?_ | exact Ent.of_eq rfl)) (.ent rfl (by repeat (first | exact Ent.refl _ | exact Ents.nil | exact Ent.nil _ _ | exact Ent.row _ _ _ _ | exact Ent.func _ | refine Ents.cons ?_ ?_ | refine Ent.tup ?_ | refine Ent.agg ?_ | refine Ent.cells ?_ | exact Ent.of_eq rfl)) (.ent rfl (by repeat (first | exact Ent.refl _ | exact Ents.nil | exact Ent.nil _ _ | exact Ent.row _ _ _ _ | exact Ent.func _ | refine Ents.cons ?_ ?_ | refine Ent.tup ?_ | refine Ent.agg ?_ | refine Ent.cells ?_ | exact Ent.of_eq rfl)) .nil))) fn15) rfl ?_
      refine lx (op_move rfl) rfl ?_
      refine lx (op_extract rfl rfl) rfl ?_
      refine lx (op_extract rfl rfl) rfl ?_
      refine lxn (op_alloc (m := 9) (k := 9) (ps := [eqP (.slice none 0 0), eqP (.slice none 0 0)]) ze25 rfl rfl (by first | exact hC.low _ (by decide) | rfl)) rfl ?_
      first | refine lxr (op_store_all (m := 9) rfl rfl rfl (.agg rfl) sz25 rfl) rfl ?_ | refine lxr (op_store (m := 9) rfl rfl rfl (.agg rfl) sz25 rfl rfl rfl) rfl ?_
      refine lx (op_assign rfl) rfl ?_
      refine lx_end ⟨by kernel_rfl, ?_⟩
      refine pe_then_normal ?_
      refine tr_sub hC (.cons (t := 7) rfl (.cons (t := 8) rfl (.cons (t := 9) rfl (.cons (t := 10) rfl .nil)))) (.cons (t := 7) rfl (.cons (t := 9) rfl .nil)) rfl ?_
      refine tr_seq ?_
      refine tr_region (fun N7 hN => ?_)
      refine lx (op_move rfl) rfl ?_
      refine lx (op_move rfl) rfl ?_
      refine lx (op_eql rfl rfl) rfl ?_
      refine lx (op_move rfl) rfl ?_
      first | refine lxs rfl rfl rfl guard_eq (.cons (t := 7) rfl (fun _ => Ent.refl _) .nil) (op_bload (m := 7) rfl rfl ag25 sz25) rfl ?_ | refine lxs rfl rfl rfl guard_eq (.cons (t := 7) rfl (fun _ => Ent.refl _) .nil) (op_bload_part (m := 7) rfl rfl ag25 sz25 rfl rfl) rfl ?_
      first | refine lxs rfl rfl rfl guard_eq (.cons (t := 9) rfl (fun _ => Ent.refl _) .nil) (op_bload (m := 9) rfl rfl ag25 sz25) rfl ?_ | refine lxs rfl rfl rfl guard_eq (.cons (t := 9) rfl (fun _ => Ent.refl _) .nil) (op_bload_part (m := 9) rfl rfl ag25 sz25 rfl rfl) rfl ?_
      first | refine lxs rfl rfl rfl guard_eq (.cons (t := 33) rfl (fun h => entW h) (.cons (t := 34) rfl (fun h => entW h) .nil)) (op_call (l := [(Go.Operand.tmp 33), (Go.Operand.tmp 34)]) (Same_ok _ _ (by omega) (by omega)) (.cons rfl (.cons rfl .nil)) fn16) rfl ?_ | refine lxs rfl rfl rfl guard_eq (.cons (t := 33) rfl (fun h => entW h) (.cons (t := 34) rfl (fun h => entW h) .nil)) (op_call (l := [(Go.Operand.tmp 33), (Go.Operand.tmp 34)]) (Same_ok _ _ (by omega) (by omega)) (.ent rfl (by repeat (first | exact Ent.refl _ | exact Ents.nil | exact Ent.nil _ _ | exact Ent.row _ _ _ _ | exact Ent.func _ | refine Ents.cons ?_ ?_ | refine Ent.tup ?_ | refine Ent.agg ?_ | refine Ent.cells ?_ | exact Ent.of_eq rfl)) (.ent rfl (by repeat (first | exact Ent.refl _ | exact Ents.nil | exact Ent.nil _ _ | exact Ent.row _ _ _ _ | exact Ent.func _ | refine Ents.cons ?_ ?_ | refine Ent.tup ?_ | refine Ent.agg ?_ | refine Ent.cells ?_ | exact Ent.of_eq rfl)) .nil)) fn16) rfl ?_
      refine lx (op_pick_and rfl rfl) rfl ?_
      refine lx (op_assign rfl) rfl ?_
      refine lx_end ⟨by kernel_rfl, ?_⟩
      refine pe_then_normal ?_
      refine tr_sub hC (.cons (t := 6) rfl .nil) .nil rfl ?_
      refine tr_ret ?_
      refine pe_ret1 rfl hO rfl (.tmp rfl .nil) ?_
      exact entB (by simp)

theorem law_put (d : Dep) (ss : List Site) : FnP Try.prog 5 [aggP d.ps, slP sp 2 ss] (eqP (.bool true)) := by
  refine fn_pure' Try.func5 rfl Try.ntmps5 rfl ?_
  intro σ0 M ex Rf R hC hO
  simp only [frameOf, tokOf]
  refine tr_seq ?_
  refine tr_region (fun N0 hN => ?_)
  refine lxn (op_box (m := 2) (k := 2) rfl (.agg rfl) (by first | exact hC.low _ (by decide) | rfl)) rfl ?_
  refine lx (op_assign rfl) rfl ?_
  refine lx_end ⟨by kernel_rfl, ?_⟩
  refine pe_then_normal ?_
  refine tr_sub hC (.cons (t := 1) rfl (.cons (t := 2) rfl .nil)) (.cons (t := 2) rfl .nil) rfl ?_
  refine tr_seq ?_
  refine tr_seq ?_
  refine tr_region (fun N1 hN => ?_)
  first | refine lx (op_call (l := []) (awake_ok) .nil fn10) rfl ?_ | refine lx (op_call (l := []) (awake_ok) .nil fn10) rfl ?_
  first | refine lx (op_not rfl) rfl ?_ | refine lx (op_not_b rfl) rfl ?_
  refine lx_end ⟨by kernel_rfl, ?_⟩
  refine pe_then_normal ?_
  refine tr_sub hC (.cons (t := 1) rfl (.cons (t := 2) rfl (.cons (t := 10) rfl .nil))) (.cons (t := 2) rfl .nil) rfl ?_
  refine tr_cond rfl (fun h10 => ?_) (fun h10 => ?_)
  · exact absurd h10 (by decide)
  · (try simp only [Bool.and_eq_true, Bool.or_eq_true, Bool.and_eq_false_iff, Bool.or_eq_false_iff, decide_eq_true_eq, decide_eq_false_iff_not, Bool.not_eq_true', Bool.not_eq_false', List.length_map, ne_eq, Decidable.not_not, Int.not_lt, Int.not_le] at h10)
    refine tr_skip ?_
    refine pe_then_normal ?_
    refine tr_sub hC (.cons (t := 1) rfl (.cons (t := 2) rfl .nil)) (.cons (t := 2) rfl .nil) rfl ?_
    refine tr_seq ?_
    refine tr_seq ?_
    refine tr_region (fun N3 hN => ?_)
    first | refine lx (op_bload (m := 2) rfl rfl ag25 sz25) rfl ?_ | refine lx (op_bload_part (m := 2) rfl rfl ag25 sz25 rfl rfl) rfl ?_
    first | refine lx (op_call (l := [(Go.Operand.tmp 11)]) (large_ok _) (.cons rfl .nil) fn11) rfl ?_ | refine lx (op_call (l := [(Go.Operand.tmp 11)]) (large_ok _) (.ent rfl (by repeat (first | exact Ent.refl _ | exact Ents.nil | exact Ent.nil _ _ | exact Ent.row _ _ _ _ | exact Ent.func _ | refine Ents.cons ?_ ?_ | refine Ent.tup ?_ | refine Ent.agg ?_ | refine Ent.cells ?_ | exact Ent.of_eq rfl)) .nil) fn11) rfl ?_
    refine lx (op_move rfl) rfl ?_
    refine lxs rfl rfl rfl guard_eq (.cons (t := 1) rfl (fun _ => Ent.refl _) .nil) (op_move rfl) rfl ?_
    first | refine lxs rfl rfl rfl guard_eq (.cons (t := 14) rfl (fun h => entW h) .nil) (op_len rfl el22) rfl ?_ | refine lxs rfl rfl rfl guard_eq (.cons (t := 14) rfl (fun h => entW h) .nil) (op_len_row rfl el22) rfl ?_ | refine lxs rfl rfl rfl guard_eq (.cons (t := 14) rfl (fun h => entW h) .nil) (op_len_mv rfl el22) rfl ?_
    refine lxs rfl rfl rfl guard_eq (.cons (t := 15) rfl (fun h => entW h) .nil) (op_gtr rfl rfl) rfl ?_
    refine lx (op_pick_or rfl rfl) rfl ?_
    refine lx_end ⟨by kernel_rfl, ?_⟩
    refine pe_then_normal ?_
    refine tr_sub hC (.cons (t := 1) rfl (.cons (t := 2) rfl (.cons (t := 17) rfl .nil))) (.cons (t := 2) rfl .nil) rfl ?_
    refine tr_cond rfl (fun h17 => ?_) (fun h17 => ?_)
    · (try simp only [Bool.and_eq_true, Bool.or_eq_true, Bool.and_eq_false_iff, Bool.or_eq_false_iff, decide_eq_true_eq, decide_eq_false_iff_not, Bool.not_eq_true', Bool.not_eq_false', List.length_map, ne_eq, Decidable.not_not, Int.not_lt, Int.not_le] at h17)
      refine tr_seq ?_
      refine tr_region (fun N4 hN => ?_)
      refine lx (op_assign rfl) rfl ?_
      refine lx_end ⟨by kernel_rfl, ?_⟩
      refine pe_then_normal ?_
      refine tr_sub hC (.cons (t := 4) rfl .nil) .nil rfl ?_
      refine tr_ret ?_
      refine pe_then_ret ?_
      refine pe_ret1 rfl hO rfl (.tmp rfl .nil) ?_
      repeat (first | exact Ent.refl _ | exact Ents.nil | exact Ent.nil _ _ | exact Ent.row _ _ _ _ | exact Ent.func _ | refine Ents.cons ?_ ?_ | refine Ent.tup ?_ | refine Ent.agg ?_ | refine Ent.cells ?_ | exact Ent.of_eq rfl)
    · (try simp only [Bool.and_eq_true, Bool.or_eq_true, Bool.and_eq_false_iff, Bool.or_eq_false_iff, decide_eq_true_eq, decide_eq_false_iff_not, Bool.not_eq_true', Bool.not_eq_false', List.length_map, ne_eq, Decidable.not_not, Int.not_lt, Int.not_le] at h17)
      have hx : (d.sites.length ≤ 60 ∧ d.parents.length ≤ 60) ∧ ss.length ≤ 40 := by omega
      have hpl := putF_len' (d := d) (ss := ss) (n := 100) (by omega)
      refine tr_skip ?_
      refine pe_then_normal ?_
      refine tr_sub hC (.cons (t := 1) rfl (.cons (t := 2) rfl .nil)) (.cons (t := 2) rfl .nil) rfl ?_
      refine tr_seq ?_
      refine tr_region (fun N5 hN => ?_)
      first | refine lx (op_bload (m := 2) rfl rfl ag25 sz25) rfl ?_ | refine lx (op_bload_part (m := 2) rfl rfl ag25 sz25 rfl rfl) rfl ?_
      refine lx (op_move rfl) rfl ?_
      first | refine lx (op_call (l := [(Go.Operand.tmp 19), (Go.Operand.tmp 20)]) (Put_ok d (by omega) (by omega) ss (by omega)) (.cons rfl (.cons rfl .nil)) fn17) rfl ?_ | refine lx (op_call (l := [(Go.Operand.tmp 19), (Go.Operand.tmp 20)]) (Put_ok d (by omega) (by omega) ss (by omega)) (.ent rfl (by repeat (first | exact Ent.refl _ | exact Ents.nil | exact Ent.nil _ _ | exact Ent.row _ _ _ _ | exact Ent.func _ | refine Ents.cons ?_ ?_ | refine Ent.tup ?_ | refine Ent.agg ?_ | refine Ent.cells ?_ | exact Ent.of_eq rfl)) (.ent rfl (by repeat (first | exact Ent.refl _ | exact Ents.nil | exact Ent.nil _ _ | exact Ent.row _ _ _ _ | exact Ent.func _ | refine Ents.cons ?_ ?_ | refine Ent.tup ?_ | refine Ent.agg ?_ | refine Ent.cells ?_ | exact Ent.of_eq rfl)) .nil)) fn17) rfl ?_
      refine lx (op_move rfl) rfl ?_
      refine lx (op_extract rfl rfl) rfl ?_
      refine lx (op_extract rfl rfl) rfl ?_
      refine lxn (op_alloc (m := 5) (k := 5) (ps := [eqP (.slice none 0 0), eqP (.slice none 0 0)]) ze25 rfl rfl (by first | exact hC.low _ (by decide) | rfl)) rfl ?_
      first | refine lxr (op_store_all (m := 5) rfl rfl rfl (.agg rfl) sz25 rfl) rfl ?_ | refine lxr (op_store (m := 5) rfl rfl rfl (.agg rfl) sz25 rfl rfl rfl) rfl ?_
      refine lx (op_assign rfl) rfl ?_
      refine lx_end ⟨by kernel_rfl, ?_⟩
      refine pe_then_normal ?_
      refine tr_sub hC (.cons (t := 1) rfl (.cons (t := 2) rfl (.cons (t := 5) rfl (.cons (t := 6) rfl .nil)))) (.cons (t := 2) rfl (.cons (t := 5) rfl .nil)) rfl ?_
      refine tr_seq ?_
      refine tr_region (fun N6 hN => ?_)
      first | refine lx (op_bload (m := 2) rfl rfl ag25 sz25) rfl ?_ | refine lx (op_bload_part (m := 2) rfl rfl ag25 sz25 rfl rfl) rfl ?_
      refine lx (op_move rfl) rfl ?_
      first | refine lx (op_call (l := [(Go.Operand.tmp 25), (Go.Operand.tmp 26)]) (rPut_ok d (by omega) (by omega) ss (by omega)) (.cons rfl (.cons rfl .nil)) fn18) rfl ?_ | refine lx (op_call (l := [(Go.Operand.tmp 25), (Go.Operand.tmp 26)]) (rPut_ok d (by omega) (by omega) ss (by omega)) (.ent rfl (by repeat (first | exact Ent.refl _ | exact Ents.nil | exact Ent.nil _ _ | exact Ent.row _ _ _ _ | exact Ent.func _ | refine Ents.cons ?_ ?_ | refine Ent.tup ?_ | refine Ent.agg ?_ | refine Ent.cells ?_ | exact Ent.of_eq rfl)) (.ent rfl (by repeat (first | exact Ent.refl _ | exact Ents.nil | exact Ent.nil _ _ | exact Ent.row _ _ _ _ | exact Ent.func _ | refine Ents.cons ?_ ?_ | refine Ent.tup ?_ | refine Ent.agg ?_ | refine Ent.cells ?_ | exact Ent.of_eq rfl)) .nil)) fn18) rfl ?_
      refine lx (op_move rfl) rfl ?_
      refine lx (op_extract rfl rfl) rfl ?_
      refine lx (op_extract rfl rfl) rfl ?_
      refine lxn (op_alloc (m := 7) (k := 7) (ps := [eqP (.slice none 0 0), eqP (.slice none 0 0)]) ze25 rfl rfl (by first | exact hC.low _ (by decide) | rfl)) rfl ?_
      first | refine lxr (op_store_all (m := 7) rfl rfl rfl (.agg rfl) sz25 rfl) rfl ?_ | refine lxr (op_store (m := 7) rfl rfl rfl (.agg rfl) sz25 rfl rfl rfl) rfl ?_
      refine lx (op_assign rfl) rfl ?_
      refine lx_end ⟨by kernel_rfl, ?_⟩
      refine pe_then_normal ?_
      refine tr_sub hC (.cons (t := 5) rfl (.cons (t := 6) rfl (.cons (t := 7) rfl (.cons (t := 8) rfl .nil)))) (.cons (t := 5) rfl (.cons (t := 7) rfl .nil)) rfl ?_
      refine tr_seq ?_
      refine tr_region (fun N7 hN => ?_)
      refine lx (op_move rfl) rfl ?_
      refine lx (op_move rfl) rfl ?_
      refine lx (op_eql rfl rfl) rfl ?_
      refine lx (op_move rfl) rfl ?_
      first | refine lxs rfl rfl rfl guard_eq (.cons (t := 5) rfl (fun _ => Ent.refl _) .nil) (op_bload (m := 5) rfl rfl ag25 sz25) rfl ?_ | refine lxs rfl rfl rfl guard_eq (.cons (t := 5) rfl (fun _ => Ent.refl _) .nil) (op_bload_part (m := 5) rfl rfl ag25 sz25 rfl rfl) rfl ?_
      first | refine lxs rfl rfl rfl guard_eq (.cons (t := 7) rfl (fun _ => Ent.refl _) .nil) (op_bload (m := 7) rfl rfl ag25 sz25) rfl ?_ | refine lxs rfl rfl rfl guard_eq (.cons (t := 7) rfl (fun _ => Ent.refl _) .nil) (op_bload_part (m := 7) rfl rfl ag25 sz25 rfl rfl) rfl ?_
      first | refine lxs rfl rfl rfl guard_eq (.cons (t := 34) rfl (fun h => entW h) (.cons (t := 35) rfl (fun h => entW h) .nil)) (op_call (l := [(Go.Operand.tmp 34), (Go.Operand.tmp 35)]) (Same_ok _ _ (by omega) (by omega)) (.cons rfl (.cons rfl .nil)) fn16) rfl ?_ | refine lxs rfl rfl rfl guard_eq (.cons (t := 34) rfl (fun h => entW h) (.cons (t := 35) rfl (fun h => entW h) .nil)) (op_call (l := [(Go.Operand.tmp 34), (Go.Operand.tmp 35)]) (Same_ok _ _ (by omega) (by omega)) (.ent rfl (by repeat (first | exact Ent.refl _ | exact Ents.nil | exact Ent.nil _ _ | exact Ent.row _ _ _ _ | exact Ent.func _ | refine Ents.cons ?_ ?_ | refine Ent.tup ?_ | refine Ent.agg ?_ | refine Ent.cells ?_ | exact Ent.of_eq rfl)) (.ent rfl (by repeat (first | exact Ent.refl _ | exact Ents.nil | exact Ent.nil _ _ | exact Ent.row _ _ _ _ | exact Ent.func _ | refine Ents.cons ?_ ?_ | refine Ent.tup ?_ | refine Ent.agg ?_ | refine Ent.cells ?_ | exact Ent.of_eq rfl)) .nil)) fn16) rfl ?_
      refine lx (op_pick_and rfl rfl) rfl ?_
      refine lx (op_assign rfl) rfl ?_
      refine lx_end ⟨by kernel_rfl, ?_⟩
      refine pe_then_normal ?_
      refine tr_sub hC (.cons (t := 4) rfl .nil) .nil rfl ?_
      refine tr_ret ?_
      refine pe_ret1 rfl hO rfl (.tmp rfl .nil) ?_
      exact entB (by simp)

theorem law_stack (d : Dep) (n : Int) : FnP Try.prog 6 [aggP d.ps, eqP (.int .i64 n)] (eqP (.bool true)) := by
  refine fn_pure' Try.func6 rfl Try.ntmps6 rfl ?_
  intro σ0 M ex Rf R hC hO
  simp only [frameOf, tokOf]
  refine tr_seq ?_
  refine tr_region (fun N0 hN => ?_)
  refine lxn (op_box (m := 2) (k := 2) rfl (.agg rfl) (by first | exact hC.low _ (by decide) | rfl)) rfl ?_
  refine lx (op_assign rfl) rfl ?_
  refine lx_end ⟨by kernel_rfl, ?_⟩
  refine pe_then_normal ?_
  refine tr_sub hC (.cons (t := 1) rfl (.cons (t := 2) rfl .nil)) (.cons (t := 2) rfl .nil) rfl ?_
  refine tr_seq ?_
  refine tr_seq ?_
  refine tr_region (fun N1 hN => ?_)
  first | refine lx (op_call (l := []) (awake_ok) .nil fn10) rfl ?_ | refine lx (op_call (l := []) (awake_ok) .nil fn10) rfl ?_
  first | refine lx (op_not rfl) rfl ?_ | refine lx (op_not_b rfl) rfl ?_
  refine lx_end ⟨by kernel_rfl, ?_⟩
  refine pe_then_normal ?_
  refine tr_sub hC (.cons (t := 1) rfl (.cons (t := 2) rfl (.cons (t := 10) rfl .nil))) (.cons (t := 2) rfl .nil) rfl ?_
  refine tr_cond rfl (fun h10 => ?_) (fun h10 => ?_)
  · exact absurd h10 (by decide)
  · (try simp only [Bool.and_eq_true, Bool.or_eq_true, Bool.and_eq_false_iff, Bool.or_eq_false_iff, decide_eq_true_eq, decide_eq_false_iff_not, Bool.not_eq_true', Bool.not_eq_false', List.length_map, ne_eq, Decidable.not_not, Int.not_lt, Int.not_le] at h10)
    refine tr_skip ?_
    refine pe_then_normal ?_
    refine tr_sub hC (.cons (t := 1) rfl (.cons (t := 2) rfl .nil)) (.cons (t := 2) rfl .nil) rfl ?_
    refine tr_seq ?_
    refine tr_seq ?_
    refine tr_region (fun N3 hN => ?_)
    first | refine lx (op_bload (m := 2) rfl rfl ag25 sz25) rfl ?_ | refine lx (op_bload_part (m := 2) rfl rfl ag25 sz25 rfl rfl) rfl ?_
    first | refine lx (op_call (l := [(Go.Operand.tmp 11)]) (large_ok _) (.cons rfl .nil) fn11) rfl ?_ | refine lx (op_call (l := [(Go.Operand.tmp 11)]) (large_ok _) (.ent rfl (by repeat (first | exact Ent.refl _ | exact Ents.nil | exact Ent.nil _ _ | exact Ent.row _ _ _ _ | exact Ent.func _ | refine Ents.cons ?_ ?_ | refine Ent.tup ?_ | refine Ent.agg ?_ | refine Ent.cells ?_ | exact Ent.of_eq rfl)) .nil) fn11) rfl ?_
    refine lx_end ⟨by kernel_rfl, ?_⟩
    refine pe_then_normal ?_
    refine tr_sub hC (.cons (t := 1) rfl (.cons (t := 2) rfl (.cons (t := 12) rfl .nil))) (.cons (t := 2) rfl .nil) rfl ?_
    refine tr_cond rfl (fun h12 => ?_) (fun h12 => ?_)
    · (try simp only [Bool.and_eq_true, Bool.or_eq_true, Bool.and_eq_false_iff, Bool.or_eq_false_iff, decide_eq_true_eq, decide_eq_false_iff_not, Bool.not_eq_true', Bool.not_eq_false', List.length_map, ne_eq, Decidable.not_not, Int.not_lt, Int.not_le] at h12)
      refine tr_seq ?_
      refine tr_region (fun N4 hN => ?_)
      refine lx (op_assign rfl) rfl ?_
      refine lx_end ⟨by kernel_rfl, ?_⟩
      refine pe_then_normal ?_
      refine tr_sub hC (.cons (t := 4) rfl .nil) .nil rfl ?_
      refine tr_ret ?_
      refine pe_then_ret ?_
      refine pe_ret1 rfl hO rfl (.tmp rfl .nil) ?_
      repeat (first | exact Ent.refl _ | exact Ents.nil | exact Ent.nil _ _ | exact Ent.row _ _ _ _ | exact Ent.func _ | refine Ents.cons ?_ ?_ | refine Ent.tup ?_ | refine Ent.agg ?_ | refine Ent.cells ?_ | exact Ent.of_eq rfl)
    · (try simp only [Bool.and_eq_true, Bool.or_eq_true, Bool.and_eq_false_iff, Bool.or_eq_false_iff, decide_eq_true_eq, decide_eq_false_iff_not, Bool.not_eq_true', Bool.not_eq_false', List.length_map, ne_eq, Decidable.not_not, Int.not_lt, Int.not_le] at h12)
      have hx : d.sites.length ≤ 60 ∧ d.parents.length ≤ 60 := by omega
      have hsl := stackF_len d n
      refine tr_skip ?_
      refine pe_then_normal ?_
      refine tr_sub hC (.cons (t := 1) rfl (.cons (t := 2) rfl .nil)) (.cons (t := 2) rfl .nil) rfl ?_
      refine tr_seq ?_
      refine tr_region (fun N5 hN => ?_)
      first | refine lx (op_bload (m := 2) rfl rfl ag25 sz25) rfl ?_ | refine lx (op_bload_part (m := 2) rfl rfl ag25 sz25 rfl rfl) rfl ?_
      refine lx (op_move rfl) rfl ?_
      first | refine lx (op_call (l := [(Go.Operand.tmp 14), (Go.Operand.tmp 15)]) (Stack_ok d (by omega) n) (.cons rfl (.cons rfl .nil)) fn19) rfl ?_ | refine lx (op_call (l := [(Go.Operand.tmp 14), (Go.Operand.tmp 15)]) (Stack_ok d (by omega) n) (.ent rfl (by repeat (first | exact Ent.refl _ | exact Ents.nil | exact Ent.nil _ _ | exact Ent.row _ _ _ _ | exact Ent.func _ | refine Ents.cons ?_ ?_ | refine Ent.tup ?_ | refine Ent.agg ?_ | refine Ent.cells ?_ | exact Ent.of_eq rfl)) (.ent rfl (by repeat (first | exact Ent.refl _ | exact Ents.nil | exact Ent.nil _ _ | exact Ent.row _ _ _ _ | exact Ent.func _ | refine Ents.cons ?_ ?_ | refine Ent.tup ?_ | refine Ent.agg ?_ | refine Ent.cells ?_ | exact Ent.of_eq rfl)) .nil)) fn19) rfl ?_
      refine lx (op_move rfl) rfl ?_
      refine lx (op_extract rfl rfl) rfl ?_
      refine lx (op_extract rfl rfl) rfl ?_
      refine lx (op_assign rfl) rfl ?_
      refine lx (op_assign rfl) rfl ?_
      refine lx_end ⟨by kernel_rfl, ?_⟩
      refine pe_then_normal ?_
      refine tr_sub hC (.cons (t := 1) rfl (.cons (t := 2) rfl (.cons (t := 5) rfl (.cons (t := 6) rfl .nil)))) (.cons (t := 2) rfl .nil) rfl ?_
      refine tr_seq ?_
      refine tr_region (fun N6 hN => ?_)
      first | refine lx (op_bload (m := 2) rfl rfl ag25 sz25) rfl ?_ | refine lx (op_bload_part (m := 2) rfl rfl ag25 sz25 rfl rfl) rfl ?_
      refine lx (op_move rfl) rfl ?_
      first | refine lx (op_call (l := [(Go.Operand.tmp 20), (Go.Operand.tmp 21)]) (rStack_ok d (by omega) n) (.cons rfl (.cons rfl .nil)) fn20) rfl ?_ | refine lx (op_call (l := [(Go.Operand.tmp 20), (Go.Operand.tmp 21)]) (rStack_ok d (by omega) n) (.ent rfl (by repeat (first | exact Ent.refl _ | exact Ents.nil | exact Ent.nil _ _ | exact Ent.row _ _ _ _ | exact Ent.func _ | refine Ents.cons ?_ ?_ | refine Ent.tup ?_ | refine Ent.agg ?_ | refine Ent.cells ?_ | exact Ent.of_eq rfl)) (.ent rfl (by repeat (first | exact Ent.refl _ | exact Ents.nil | exact Ent.nil _ _ | exact Ent.row _ _ _ _ | exact Ent.func _ | refine Ents.cons ?_ ?_ | refine Ent.tup ?_ | refine Ent.agg ?_ | refine Ent.cells ?_ | exact Ent.of_eq rfl)) .nil)) fn20) rfl ?_
      refine lx (op_move rfl) rfl ?_
      refine lx (op_extract rfl rfl) rfl ?_
      refine lx (op_extract rfl rfl) rfl ?_
      refine lx (op_assign rfl) rfl ?_
      refine lx (op_assign rfl) rfl ?_
      refine lx_end ⟨by kernel_rfl, ?_⟩
      refine pe_then_normal ?_
      refine tr_sub hC (.cons (t := 5) rfl (.cons (t := 6) rfl (.cons (t := 7) rfl (.cons (t := 8) rfl .nil)))) .nil rfl ?_
      refine tr_seq ?_
      refine tr_region (fun N7 hN => ?_)
      refine lx (op_move rfl) rfl ?_
      refine lx (op_move rfl) rfl ?_
      refine lx (op_eql_bool bo4 rfl rfl) rfl ?_
      refine lx (op_move rfl) rfl ?_
      refine lxs rfl rfl rfl guard_eq (.cons (t := 5) rfl (fun _ => Ent.refl _) .nil) (op_move rfl) rfl ?_
      refine lxs rfl rfl rfl guard_eq (.cons (t := 7) rfl (fun _ => Ent.refl _) .nil) (op_move rfl) rfl ?_
      first | refine lxs rfl rfl rfl guard_eq (.cons (t := 29) rfl (fun h => entW h) (.cons (t := 30) rfl (fun h => entW h) .nil)) (op_call (l := [(Go.Operand.tmp 29), (Go.Operand.tmp 30)]) (same_ok _ _ (by omega)) (.cons rfl (.cons rfl .nil)) fn21) rfl ?_ | refine lxs rfl rfl rfl guard_eq (.cons (t := 29) rfl (fun h => entW h) (.cons (t := 30) rfl (fun h => entW h) .nil)) (op_call (l := [(Go.Operand.tmp 29), (Go.Operand.tmp 30)]) (same_ok _ _ (by omega)) (.ent rfl (by repeat (first | exact Ent.refl _ | exact Ents.nil | exact Ent.nil _ _ | exact Ent.row _ _ _ _ | exact Ent.func _ | refine Ents.cons ?_ ?_ | refine Ent.tup ?_ | refine Ent.agg ?_ | refine Ent.cells ?_ | exact Ent.of_eq rfl)) (.ent rfl (by repeat (first | exact Ent.refl _ | exact Ents.nil | exact Ent.nil _ _ | exact Ent.row _ _ _ _ | exact Ent.func _ | refine Ents.cons ?_ ?_ | refine Ent.tup ?_ | refine Ent.agg ?_ | refine Ent.cells ?_ | exact Ent.of_eq rfl)) .nil)) fn21) rfl ?_
      refine lx (op_pick_and rfl rfl) rfl ?_
      refine lx (op_assign rfl) rfl ?_
      refine lx_end ⟨by kernel_rfl, ?_⟩
      refine pe_then_normal ?_
      refine tr_sub hC (.cons (t := 4) rfl .nil) .nil rfl ?_
      refine tr_ret ?_
      refine pe_ret1 rfl hO rfl (.tmp rfl .nil) ?_
      exact entB (by simp)

theorem law_merge (d b : Dep) : FnP Try.prog 8 [aggP d.ps, aggP b.ps] (eqP (.bool true)) := by
  refine fn_pure' Try.func8 rfl Try.ntmps8 rfl ?_
  intro σ0 M ex Rf R hC hO
  simp only [frameOf, tokOf]
  refine tr_seq ?_
  refine tr_region (fun N0 hN => ?_)
  refine lxn (op_box (m := 2) (k := 2) rfl (.agg rfl) (by first | exact hC.low _ (by decide) | rfl)) rfl ?_
  refine lxn (op_box (m := 3) (k := 3) rfl (.agg rfl) (by first | exact hC.low _ (by decide) | rfl)) rfl ?_
  refine lx (op_assign rfl) rfl ?_
  refine lx_end ⟨by kernel_rfl, ?_⟩
  refine pe_then_normal ?_
  refine tr_sub hC (.cons (t := 2) rfl (.cons (t := 3) rfl .nil)) (.cons (t := 2) rfl (.cons (t := 3) rfl .nil)) rfl ?_
  refine tr_seq ?_
  refine tr_seq ?_
  refine tr_region (fun N1 hN => ?_)
  first | refine lx (op_call (l := []) (awake_ok) .nil fn10) rfl ?_ | refine lx (op_call (l := []) (awake_ok) .nil fn10) rfl ?_
  first | refine lx (op_not rfl) rfl ?_ | refine lx (op_not_b rfl) rfl ?_
  refine lx_end ⟨by kernel_rfl, ?_⟩
  refine pe_then_normal ?_
  refine tr_sub hC (.cons (t := 2) rfl (.cons (t := 3) rfl (.cons (t := 11) rfl .nil))) (.cons (t := 2) rfl (.cons (t := 3) rfl .nil)) rfl ?_
  refine tr_cond rfl (fun h11 => ?_) (fun h11 => ?_)
  · exact absurd h11 (by decide)
  · (try simp only [Bool.and_eq_true, Bool.or_eq_true, Bool.and_eq_false_iff, Bool.or_eq_false_iff, decide_eq_true_eq, decide_eq_false_iff_not, Bool.not_eq_true', Bool.not_eq_false', List.length_map, ne_eq, Decidable.not_not, Int.not_lt, Int.not_le] at h11)
    refine tr_skip ?_
    refine pe_then_normal ?_
    refine tr_sub hC (.cons (t := 2) rfl (.cons (t := 3) rfl .nil)) (.cons (t := 2) rfl (.cons (t := 3) rfl .nil)) rfl ?_
    refine tr_seq ?_
    refine tr_seq ?_
    refine tr_region (fun N3 hN => ?_)
    first | refine lx (op_bload (m := 2) rfl rfl ag25 sz25) rfl ?_ | refine lx (op_bload_part (m := 2) rfl rfl ag25 sz25 rfl rfl) rfl ?_
    first | refine lx (op_call (l := [(Go.Operand.tmp 12)]) (large_ok _) (.cons rfl .nil) fn11) rfl ?_ | refine lx (op_call (l := [(Go.Operand.tmp 12)]) (large_ok _) (.ent rfl (by repeat (first | exact Ent.refl _ | exact Ents.nil | exact Ent.nil _ _ | exact Ent.row _ _ _ _ | exact Ent.func _ | refine Ents.cons ?_ ?_ | refine Ent.tup ?_ | refine Ent.agg ?_ | refine Ent.cells ?_ | exact Ent.of_eq rfl)) .nil) fn11) rfl ?_
    refine lx (op_move rfl) rfl ?_
    first | refine lxs rfl rfl rfl guard_eq (.cons (t := 3) rfl (fun _ => Ent.refl _) .nil) (op_bload (m := 3) rfl rfl ag25 sz25) rfl ?_ | refine lxs rfl rfl rfl guard_eq (.cons (t := 3) rfl (fun _ => Ent.refl _) .nil) (op_bload_part (m := 3) rfl rfl ag25 sz25 rfl rfl) rfl ?_
    first | refine lxs rfl rfl rfl guard_eq (.cons (t := 15) rfl (fun h => entW h) .nil) (op_call (l := [(Go.Operand.tmp 15)]) (large_ok _) (.cons rfl .nil) fn11) rfl ?_ | refine lxs rfl rfl rfl guard_eq (.cons (t := 15) rfl (fun h => entW h) .nil) (op_call (l := [(Go.Operand.tmp 15)]) (large_ok _) (.ent rfl (by repeat (first | exact Ent.refl _ | exact Ents.nil | exact Ent.nil _ _ | exact Ent.row _ _ _ _ | exact Ent.func _ | refine Ents.cons ?_ ?_ | refine Ent.tup ?_ | refine Ent.agg ?_ | refine Ent.cells ?_ | exact Ent.of_eq rfl)) .nil) fn11) rfl ?_
    refine lx (op_pick_or rfl rfl) rfl ?_
    refine lx_end ⟨by kernel_rfl, ?_⟩
    refine pe_then_normal ?_
    refine tr_sub hC (.cons (t := 2) rfl (.cons (t := 3) rfl (.cons (t := 17) rfl .nil))) (.cons (t := 2) rfl (.cons (t := 3) rfl .nil)) rfl ?_
    refine tr_cond rfl (fun h17 => ?_) (fun h17 => ?_)
    · (try simp only [Bool.and_eq_true, Bool.or_eq_true, Bool.and_eq_false_iff, Bool.or_eq_false_iff, decide_eq_true_eq, decide_eq_false_iff_not, Bool.not_eq_true', Bool.not_eq_false', List.length_map, ne_eq, Decidable.not_not, Int.not_lt, Int.not_le] at h17)
      refine tr_seq ?_
      refine tr_region (fun N4 hN => ?_)
      refine lx (op_assign rfl) rfl ?_
      refine lx_end ⟨by kernel_rfl, ?_⟩
      refine pe_then_normal ?_
      refine tr_sub hC (.cons (t := 4) rfl .nil) .nil rfl ?_
      refine tr_ret ?_
      refine pe_then_ret ?_
      refine pe_ret1 rfl hO rfl (.tmp rfl .nil) ?_
      repeat (first | exact Ent.refl _ | exact Ents.nil | exact Ent.nil _ _ | exact Ent.row _ _ _ _ | exact Ent.func _ | refine Ents.cons ?_ ?_ | refine Ent.tup ?_ | refine Ent.agg ?_ | refine Ent.cells ?_ | exact Ent.of_eq rfl)
    · (try simp only [Bool.and_eq_true, Bool.or_eq_true, Bool.and_eq_false_iff, Bool.or_eq_false_iff, decide_eq_true_eq, decide_eq_false_iff_not, Bool.not_eq_true', Bool.not_eq_false', List.length_map, ne_eq, Decidable.not_not, Int.not_lt, Int.not_le] at h17)
      have hx : (d.sites.length ≤ 60 ∧ d.parents.length ≤ 60) ∧ b.sites.length ≤ 60 ∧ b.parents.length ≤ 60 := by omega
      have hml := mergeF_len' (a := d) (b := b) (n := 120) (by omega)
      refine tr_skip ?_
      refine pe_then_normal ?_
      refine tr_sub hC (.cons (t := 2) rfl (.cons (t := 3) rfl .nil)) (.cons (t := 2) rfl (.cons (t := 3) rfl .nil)) rfl ?_
      refine tr_seq ?_
      refine tr_region (fun N5 hN => ?_)
      first | refine lx (op_bload (m := 2) rfl rfl ag25 sz25) rfl ?_ | refine lx (op_bload_part (m := 2) rfl rfl ag25 sz25 rfl rfl) rfl ?_
      first | refine lx (op_bload (m := 3) rfl rfl ag25 sz25) rfl ?_ | refine lx (op_bload_part (m := 3) rfl rfl ag25 sz25 rfl rfl) rfl ?_
      first | refine lx (op_call (l := [(Go.Operand.tmp 19), (Go.Operand.tmp 20)]) (Merge_ok d (by omega) (by omega) b (by omega) (by omega)) (.cons rfl (.cons rfl .nil)) fn22) rfl ?_ | refine lx (op_call (l := [(Go.Operand.tmp 19), (Go.Operand.tmp 20)]) (Merge_ok d (by omega) (by omega) b (by omega) (by omega)) (.ent rfl (by repeat (first | exact Ent.refl _ | exact Ents.nil | exact Ent.nil _ _ | exact Ent.row _ _ _ _ | exact Ent.func _ | refine Ents.cons ?_ ?_ | refine Ent.tup ?_ | refine Ent.agg ?_ | refine Ent.cells ?_ | exact Ent.of_eq rfl)) (.ent rfl (by repeat (first | exact Ent.refl _ | exact Ents.nil | exact Ent.nil _ _ | exact Ent.row _ _ _ _ | exact Ent.func _ | refine Ents.cons ?_ ?_ | refine Ent.tup ?_ | refine Ent.agg ?_ | refine Ent.cells ?_ | exact Ent.of_eq rfl)) .nil)) fn22) rfl ?_
      refine lx (op_move rfl) rfl ?_
      refine lx (op_extract rfl rfl) rfl ?_
      refine lx (op_extract rfl rfl) rfl ?_
      refine lxn (op_alloc (m := 5) (k := 5) (ps := [eqP (.slice none 0 0), eqP (.slice none 0 0)]) ze25 rfl rfl (by first | exact hC.low _ (by decide) | rfl)) rfl ?_
      first | refine lxr (op_store_all (m := 5) rfl rfl rfl (.agg rfl) sz25 rfl) rfl ?_ | refine lxr (op_store (m := 5) rfl rfl rfl (.agg rfl) sz25 rfl rfl rfl) rfl ?_
      refine lx (op_assign rfl) rfl ?_
      refine lx_end ⟨by kernel_rfl, ?_⟩
      refine pe_then_normal ?_
      refine tr_sub hC (.cons (t := 2) rfl (.cons (t := 3) rfl (.cons (t := 5) rfl (.cons (t := 6) rfl .nil)))) (.cons (t := 2) rfl (.cons (t := 3) rfl (.cons (t := 5) rfl .nil))) rfl ?_
      refine tr_seq ?_
      refine tr_region (fun N6 hN => ?_)
      first | refine lx (op_bload (m := 2) rfl rfl ag25 sz25) rfl ?_ | refine lx (op_bload_part (m := 2) rfl rfl ag25 sz25 rfl rfl) rfl ?_
      first | refine lx (op_bload (m := 3) rfl rfl ag25 sz25) rfl ?_ | refine lx (op_bload_part (m := 3) rfl rfl ag25 sz25 rfl rfl) rfl ?_
      first | refine lx (op_call (l := [(Go.Operand.tmp 25), (Go.Operand.tmp 26)]) (rMerge_ok d (by omega) b (by omega) (by omega)) (.cons rfl (.cons rfl .nil)) fn23) rfl ?_ | refine lx (op_call (l := [(Go.Operand.tmp 25), (Go.Operand.tmp 26)]) (rMerge_ok d (by omega) b (by omega) (by omega)) (.ent rfl (by repeat (first | exact Ent.refl _ | exact Ents.nil | exact Ent.nil _ _ | exact Ent.row _ _ _ _ | exact Ent.func _ | refine Ents.cons ?_ ?_ | refine Ent.tup ?_ | refine Ent.agg ?_ | refine Ent.cells ?_ | exact Ent.of_eq rfl)) (.ent rfl (by repeat (first | exact Ent.refl _ | exact Ents.nil | exact Ent.nil _ _ | exact Ent.row _ _ _ _ | exact Ent.func _ | refine Ents.cons ?_ ?_ | refine Ent.tup ?_ | refine Ent.agg ?_ | refine Ent.cells ?_ | exact Ent.of_eq rfl)) .nil)) fn23) rfl ?_
      refine lx (op_move rfl) rfl ?_
      refine lx (op_extract rfl rfl) rfl ?_
      refine lx (op_extract rfl rfl) rfl ?_
      refine lxn (op_alloc (m := 7) (k := 7) (ps := [eqP (.slice none 0 0), eqP (.slice none 0 0)]) ze25 rfl rfl (by first | exact hC.low _ (by decide) | rfl)) rfl ?_
      first | refine lxr (op_store_all (m := 7) rfl rfl rfl (.agg rfl) sz25 rfl) rfl ?_ | refine lxr (op_store (m := 7) rfl rfl rfl (.agg rfl) sz25 rfl rfl rfl) rfl ?_
      refine lx (op_assign rfl) rfl ?_
      refine lx_end ⟨by kernel_rfl, ?_⟩
      refine pe_then_normal ?_
      refine tr_sub hC (.cons (t := 5) rfl (.cons (t := 6) rfl (.cons (t := 7) rfl (.cons (t := 8) rfl .nil)))) (.cons (t := 5) rfl (.cons (t := 7) rfl .nil)) rfl ?_
      refine tr_seq ?_
      refine tr_seq ?_
      refine tr_region (fun N7 hN => ?_)
      first | refine lx (op_bload (m := 5) rfl rfl ag25 sz25) rfl ?_ | refine lx (op_bload_part (m := 5) rfl rfl ag25 sz25 rfl rfl) rfl ?_
      first | refine lx (op_bload (m := 7) rfl rfl ag25 sz25) rfl ?_ | refine lx (op_bload_part (m := 7) rfl rfl ag25 sz25 rfl rfl) rfl ?_
      first | refine lx (op_call (l := [(Go.Operand.tmp 30), (Go.Operand.tmp 31)]) (Same_ok _ _ (by omega) (by omega)) (.cons rfl (.cons rfl .nil)) fn16) rfl ?_ | refine lx (op_call (l := [(Go.Operand.tmp 30), (Go.Operand.tmp 31)]) (Same_ok _ _ (by omega) (by omega)) (.ent rfl (by repeat (first | exact Ent.refl _ | exact Ents.nil | exact Ent.nil _ _ | exact Ent.row _ _ _ _ | exact Ent.func _ | refine Ents.cons ?_ ?_ | refine Ent.tup ?_ | refine Ent.agg ?_ | refine Ent.cells ?_ | exact Ent.of_eq rfl)) (.ent rfl (by repeat (first | exact Ent.refl _ | exact Ents.nil | exact Ent.nil _ _ | exact Ent.row _ _ _ _ | exact Ent.func _ | refine Ents.cons ?_ ?_ | refine Ent.tup ?_ | refine Ent.agg ?_ | refine Ent.cells ?_ | exact Ent.of_eq rfl)) .nil)) fn16) rfl ?_
      first | refine lx (op_not rfl) rfl ?_ | refine lx (op_not_b rfl) rfl ?_
      refine lx (op_move rfl) rfl ?_
      refine lxs rfl rfl rfl guard_eq (.cons (t := 6) rfl (fun _ => Ent.refl _) .nil) (op_move rfl) rfl ?_
      first | refine lxs rfl rfl rfl guard_eq (.cons (t := 35) rfl (fun h => entW h) .nil) (op_len rfl el23) rfl ?_ | refine lxs rfl rfl rfl guard_eq (.cons (t := 35) rfl (fun h => entW h) .nil) (op_len_row rfl el23) rfl ?_ | refine lxs rfl rfl rfl guard_eq (.cons (t := 35) rfl (fun h => entW h) .nil) (op_len_mv rfl el23) rfl ?_
      refine lxs rfl rfl rfl guard_eq (.cons (t := 8) rfl (fun _ => Ent.refl _) .nil) (op_move rfl) rfl ?_
      first | refine lxs rfl rfl rfl guard_eq (.cons (t := 37) rfl (fun h => entW h) .nil) (op_len rfl el23) rfl ?_ | refine lxs rfl rfl rfl guard_eq (.cons (t := 37) rfl (fun h => entW h) .nil) (op_len_row rfl el23) rfl ?_ | refine lxs rfl rfl rfl guard_eq (.cons (t := 37) rfl (fun h => entW h) .nil) (op_len_mv rfl el23) rfl ?_
      refine lxs rfl rfl rfl guard_eq (.cons (t := 36) rfl (fun h => entW h) (.cons (t := 38) rfl (fun h => entW h) .nil)) (op_neq rfl rfl) rfl ?_
      refine lx (op_pick_or rfl rfl) rfl ?_
      refine lx_end ⟨by kernel_rfl, ?_⟩
      refine pe_then_normal ?_
      refine tr_sub hC (.cons (t := 6) rfl (.cons (t := 8) rfl (.cons (t := 40) rfl .nil))) .nil rfl ?_
      refine tr_cond rfl (fun h40 => ?_) (fun h40 => ?_)
      · (try simp only [Bool.and_eq_true, Bool.or_eq_true, Bool.and_eq_false_iff, Bool.or_eq_false_iff, decide_eq_true_eq, decide_eq_false_iff_not, Bool.not_eq_true', Bool.not_eq_false', List.length_map, ne_eq, Decidable.not_not, Int.not_lt, Int.not_le] at h40)
        exact absurd h40 (by simp)
      · (try simp only [Bool.and_eq_true, Bool.or_eq_true, Bool.and_eq_false_iff, Bool.or_eq_false_iff, decide_eq_true_eq, decide_eq_false_iff_not, Bool.not_eq_true', Bool.not_eq_false', List.length_map, ne_eq, Decidable.not_not, Int.not_lt, Int.not_le] at h40)
        refine tr_skip ?_
        refine pe_then_normal ?_
        refine tr_sub hC (.cons (t := 6) rfl (.cons (t := 8) rfl .nil)) .nil rfl ?_
        refine tr_seq ?_
        refine tr_seq ?_
        refine tr_region (fun N9 hN => ?_)
        refine lx (op_move rfl) rfl ?_
        first | refine lx (op_len rfl el23) rfl ?_ | refine lx (op_len_row rfl el23) rfl ?_ | refine lx (op_len_mv rfl el23) rfl ?_
        refine lx (op_move rfl) rfl ?_
        refine lx_end ⟨by kernel_rfl, ?_⟩
        refine pe_then_normal ?_
        refine tr_sub hC (.cons (t := 6) rfl (.cons (t := 8) rfl (.cons (t := 42) rfl (.cons (t := 43) rfl .nil)))) .nil rfl ?_
        refine tr_block ?_
        refine tr_loopK (α := {zz : Nat // zz ≤ (mergeF d b).2.length}) (⟨(0), Nat.zero_le _⟩) (fun zz => [(43, eqP (.int .i64 (zz.1 : Int)))]) (fun zz => []) (fun zz => (mergeF d b).2.length - zz.1) hC (.cons (t := 6) rfl (.cons (t := 8) rfl (.cons (t := 42) rfl .nil))) .nil rfl ?_ ?_ (fun zz => ?_)
        · try dsimp only [List.cons_append, List.nil_append]
          first | refine SubF.cons rfl ?_ | (refine SubF.ent rfl ?_ ?_; · repeat (first | exact Ent.refl _ | exact Ents.nil | exact Ent.nil _ _ | exact Ent.row _ _ _ _ | exact Ent.func _ | refine Ents.cons ?_ ?_ | refine Ent.tup ?_ | refine Ent.agg ?_ | refine Ent.cells ?_ | exact Ent.of_eq rfl))
          exact SubF.nil
        · try dsimp only [List.cons_append, List.nil_append]
          repeat (first | exact SubL.nil | refine SubL.cons rfl ?_)
        · obtain ⟨k, hk1⟩ := zz
          dsimp only [List.cons_append, List.nil_append]
          refine tr_seq ?_
          refine tr_region (fun N10 hN => ?_)
          refine lx (op_lss rfl rfl) rfl ?_
          refine lx_end ⟨by kernel_rfl, ?_⟩
          refine pe_then_normal ?_
          refine tr_sub hC (.cons (t := 6) rfl (.cons (t := 8) rfl (.cons (t := 42) rfl (.cons (t := 43) rfl (.cons (t := 44) rfl .nil))))) .nil rfl ?_
          refine tr_seq ?_
          refine tr_cond rfl (fun h44 => ?_) (fun h44 => ?_)
          · (try simp only [Bool.and_eq_true, Bool.or_eq_true, Bool.and_eq_false_iff, Bool.or_eq_false_iff, decide_eq_true_eq, decide_eq_false_iff_not, Bool.not_eq_true', Bool.not_eq_false', List.length_map, ne_eq, Decidable.not_not, Int.not_lt, Int.not_le] at h44)
            refine tr_skip ?_
            refine pe_then_normal ?_
            refine tr_sub hC (.cons (t := 6) rfl (.cons (t := 8) rfl (.cons (t := 42) rfl (.cons (t := 43) rfl .nil)))) .nil rfl ?_
            refine tr_seq ?_
            refine tr_block ?_
            refine tr_seq ?_
            refine tr_region (fun N11 hN => ?_)
            refine lx (op_move rfl) rfl ?_
            refine lx (op_assign rfl) rfl ?_
            refine lx_end ⟨by kernel_rfl, ?_⟩
            refine pe_then_normal ?_
            refine tr_sub hC (.cons (t := 6) rfl (.cons (t := 8) rfl (.cons (t := 9) rfl (.cons (t := 42) rfl (.cons (t := 43) rfl .nil))))) .nil rfl ?_
            refine tr_seq ?_
            refine tr_drawn mixed (fun N12 hN => ?_)
            refine lx (op_move rfl) rfl ?_
            refine lx (op_move rfl) rfl ?_
            refine lx (op_index rfl rfl el23 sz3 rfl (List.getElem?_eq_getElem (by omega : k < (mergeF d b).2.length))) rfl ?_
            refine lx (op_load_one rfl ag3 rfl) rfl ?_
            refine lx (op_move rfl) rfl ?_
            refine lx (op_move rfl) rfl ?_
            refine lx (op_index rfl rfl el23 sz3 rfl (List.getElem?_eq_getElem (by omega : k < (mergeF d b).2.length))) rfl ?_
            refine lx (op_load_one rfl ag3 rfl) rfl ?_
            refine lx (op_neq rfl rfl) rfl ?_
            refine lx_end ⟨by kernel_rfl, ?_⟩
            refine pe_then_normal ?_
            refine tr_sub hC (.cons (t := 6) rfl (.cons (t := 8) rfl (.cons (t := 42) rfl (.cons (t := 43) rfl (.cons (t := 54) rfl .nil))))) .nil rfl ?_
            refine tr_cond rfl (fun h54 => ?_) (fun h54 => ?_)
            · (try simp only [Bool.and_eq_true, Bool.or_eq_true, Bool.and_eq_false_iff, Bool.or_eq_false_iff, decide_eq_true_eq, decide_eq_false_iff_not, Bool.not_eq_true', Bool.not_eq_false', List.length_map, ne_eq, Decidable.not_not, Int.not_lt, Int.not_le] at h54)
              exact absurd h54 (by simp)
            · (try simp only [Bool.and_eq_true, Bool.or_eq_true, Bool.and_eq_false_iff, Bool.or_eq_false_iff, decide_eq_true_eq, decide_eq_false_iff_not, Bool.not_eq_true', Bool.not_eq_false', List.length_map, ne_eq, Decidable.not_not, Int.not_lt, Int.not_le] at h54)
              refine tr_skip ?_
              refine pe_block_normal ?_
              refine pe_then_normal ?_
              refine tr_sub hC (.cons (t := 6) rfl (.cons (t := 8) rfl (.cons (t := 42) rfl (.cons (t := 43) rfl .nil)))) .nil rfl ?_
              refine tr_region (fun N14 hN => ?_)
              refine lx (op_add rfl rfl (by omega)) rfl ?_
              refine lx (op_move rfl) rfl ?_
              refine lx_end ⟨by kernel_rfl, ?_⟩
              refine pe_round (⟨(k + 1), by omega⟩) (by dsimp only; omega) (pe_st hC ?_ ?_ rfl)
              · try dsimp only [List.cons_append, List.nil_append]
                first | refine SubF.cons rfl ?_ | (refine SubF.ent rfl ?_ ?_; · repeat (first | exact Ent.refl _ | exact Ents.nil | exact Ent.nil _ _ | exact Ent.row _ _ _ _ | exact Ent.func _ | refine Ents.cons ?_ ?_ | refine Ent.tup ?_ | refine Ent.agg ?_ | refine Ent.cells ?_ | exact Ent.of_eq rfl))
                first | refine SubF.cons rfl ?_ | (refine SubF.ent rfl ?_ ?_; · repeat (first | exact Ent.refl _ | exact Ents.nil | exact Ent.nil _ _ | exact Ent.row _ _ _ _ | exact Ent.func _ | refine Ents.cons ?_ ?_ | refine Ent.tup ?_ | refine Ent.agg ?_ | refine Ent.cells ?_ | exact Ent.of_eq rfl))
                first | refine SubF.cons rfl ?_ | (refine SubF.ent rfl ?_ ?_; · repeat (first | exact Ent.refl _ | exact Ents.nil | exact Ent.nil _ _ | exact Ent.row _ _ _ _ | exact Ent.func _ | refine Ents.cons ?_ ?_ | refine Ent.tup ?_ | refine Ent.agg ?_ | refine Ent.cells ?_ | exact Ent.of_eq rfl))
                first | refine SubF.cons rfl ?_ | (refine SubF.ent rfl ?_ ?_; · repeat (first | exact Ent.refl _ | exact Ents.nil | exact Ent.nil _ _ | exact Ent.row _ _ _ _ | exact Ent.func _ | refine Ents.cons ?_ ?_ | refine Ent.tup ?_ | refine Ent.agg ?_ | refine Ent.cells ?_ | exact Ent.of_eq rfl))
                exact SubF.nil
              · try dsimp only [List.cons_append, List.nil_append]
                repeat (first | exact SubL.nil | refine SubL.cons rfl ?_)
          · (try simp only [Bool.and_eq_true, Bool.or_eq_true, Bool.and_eq_false_iff, Bool.or_eq_false_iff, decide_eq_true_eq, decide_eq_false_iff_not, Bool.not_eq_true', Bool.not_eq_false', List.length_map, ne_eq, Decidable.not_not, Int.not_lt, Int.not_le] at h44)
            refine tr_exit ?_
            refine pe_then_exit ?_
            refine pe_then_exit ?_
            refine pe_block_eq ?_
            refine pe_then_normal ?_
            refine tr_sub hC .nil .nil rfl ?_
            refine tr_seq ?_
            refine tr_region (fun N15 hN => ?_)
            refine lx (op_assign rfl) rfl ?_
            refine lx_end ⟨by kernel_rfl, ?_⟩
            refine pe_then_normal ?_
            refine tr_sub hC (.cons (t := 4) rfl .nil) .nil rfl ?_
            refine tr_ret ?_
            refine pe_ret1 rfl hO rfl (.tmp rfl .nil) ?_
            repeat (first | exact Ent.refl _ | exact Ents.nil | exact Ent.nil _ _ | exact Ent.row _ _ _ _ | exact Ent.func _ | refine Ents.cons ?_ ?_ | refine Ent.tup ?_ | refine Ent.agg ?_ | refine Ent.cells ?_ | exact Ent.of_eq rfl)

theorem law_finds (d : Dep) (ss : List Site) (o : Int) : FnP Try.prog 7 [aggP d.ps, slP sp 2 ss, eqP (.int .i64 o)] (eqP (.bool true)) := by
  refine fn_pure' Try.func7 rfl Try.ntmps7 rfl ?_
  intro σ0 M ex Rf R hC hO
  simp only [frameOf, tokOf]
  refine tr_seq ?_
  refine tr_region (fun N0 hN => ?_)
  refine lxn (op_box (m := 3) (k := 3) rfl (.agg rfl) (by first | exact hC.low _ (by decide) | rfl)) rfl ?_
  refine lx (op_assign rfl) rfl ?_
  refine lx_end ⟨by kernel_rfl, ?_⟩
  refine pe_then_normal ?_
  refine tr_sub hC (.cons (t := 1) rfl (.cons (t := 2) rfl (.cons (t := 3) rfl .nil))) (.cons (t := 3) rfl .nil) rfl ?_
  refine tr_seq ?_
  refine tr_seq ?_
  refine tr_region (fun N1 hN => ?_)
  first | refine lx (op_call (l := []) (awake_ok) .nil fn10) rfl ?_ | refine lx (op_call (l := []) (awake_ok) .nil fn10) rfl ?_
  first | refine lx (op_not rfl) rfl ?_ | refine lx (op_not_b rfl) rfl ?_
  refine lx_end ⟨by kernel_rfl, ?_⟩
  refine pe_then_normal ?_
  refine tr_sub hC (.cons (t := 1) rfl (.cons (t := 2) rfl (.cons (t := 3) rfl (.cons (t := 18) rfl .nil)))) (.cons (t := 3) rfl .nil) rfl ?_
  refine tr_cond rfl (fun h18 => ?_) (fun h18 => ?_)
  · exact absurd h18 (by decide)
  · (try simp only [Bool.and_eq_true, Bool.or_eq_true, Bool.and_eq_false_iff, Bool.or_eq_false_iff, decide_eq_true_eq, decide_eq_false_iff_not, Bool.not_eq_true', Bool.not_eq_false', List.length_map, ne_eq, Decidable.not_not, Int.not_lt, Int.not_le] at h18)
    refine tr_skip ?_
    refine pe_then_normal ?_
    refine tr_sub hC (.cons (t := 1) rfl (.cons (t := 2) rfl (.cons (t := 3) rfl .nil))) (.cons (t := 3) rfl .nil) rfl ?_
    refine tr_seq ?_
    refine tr_seq ?_
    refine tr_region (fun N3 hN => ?_)
    first | refine lx (op_bload (m := 3) rfl rfl ag25 sz25) rfl ?_ | refine lx (op_bload_part (m := 3) rfl rfl ag25 sz25 rfl rfl) rfl ?_
    first | refine lx (op_call (l := [(Go.Operand.tmp 19)]) (large_ok _) (.cons rfl .nil) fn11) rfl ?_ | refine lx (op_call (l := [(Go.Operand.tmp 19)]) (large_ok _) (.ent rfl (by repeat (first | exact Ent.refl _ | exact Ents.nil | exact Ent.nil _ _ | exact Ent.row _ _ _ _ | exact Ent.func _ | refine Ents.cons ?_ ?_ | refine Ent.tup ?_ | refine Ent.agg ?_ | refine Ent.cells ?_ | exact Ent.of_eq rfl)) .nil) fn11) rfl ?_
    refine lx (op_move rfl) rfl ?_
    refine lxs rfl rfl rfl guard_eq (.cons (t := 1) rfl (fun _ => Ent.refl _) .nil) (op_move rfl) rfl ?_
    first | refine lxs rfl rfl rfl guard_eq (.cons (t := 22) rfl (fun h => entW h) .nil) (op_len rfl el22) rfl ?_ | refine lxs rfl rfl rfl guard_eq (.cons (t := 22) rfl (fun h => entW h) .nil) (op_len_row rfl el22) rfl ?_ | refine lxs rfl rfl rfl guard_eq (.cons (t := 22) rfl (fun h => entW h) .nil) (op_len_mv rfl el22) rfl ?_
    refine lxs rfl rfl rfl guard_eq (.cons (t := 23) rfl (fun h => entW h) .nil) (op_gtr rfl rfl) rfl ?_
    refine lx (op_pick_or rfl rfl) rfl ?_
    refine lx_end ⟨by kernel_rfl, ?_⟩
    refine pe_then_normal ?_
    refine tr_sub hC (.cons (t := 1) rfl (.cons (t := 2) rfl (.cons (t := 3) rfl (.cons (t := 25) rfl .nil)))) (.cons (t := 3) rfl .nil) rfl ?_
    refine tr_cond rfl (fun h25 => ?_) (fun h25 => ?_)
    · (try simp only [Bool.and_eq_true, Bool.or_eq_true, Bool.and_eq_false_iff, Bool.or_eq_false_iff, decide_eq_true_eq, decide_eq_false_iff_not, Bool.not_eq_true', Bool.not_eq_false', List.length_map, ne_eq, Decidable.not_not, Int.not_lt, Int.not_le] at h25)
      refine tr_seq ?_
      refine tr_region (fun N4 hN => ?_)
      refine lx (op_assign rfl) rfl ?_
      refine lx_end ⟨by kernel_rfl, ?_⟩
      refine pe_then_normal ?_
      refine tr_sub hC (.cons (t := 6) rfl .nil) .nil rfl ?_
      refine tr_ret ?_
      refine pe_then_ret ?_
      refine pe_ret1 rfl hO rfl (.tmp rfl .nil) ?_
      repeat (first | exact Ent.refl _ | exact Ents.nil | exact Ent.nil _ _ | exact Ent.row _ _ _ _ | exact Ent.func _ | refine Ents.cons ?_ ?_ | refine Ent.tup ?_ | refine Ent.agg ?_ | refine Ent.cells ?_ | exact Ent.of_eq rfl)
    · (try simp only [Bool.and_eq_true, Bool.or_eq_true, Bool.and_eq_false_iff, Bool.or_eq_false_iff, decide_eq_true_eq, decide_eq_false_iff_not, Bool.not_eq_true', Bool.not_eq_false', List.length_map, ne_eq, Decidable.not_not, Int.not_lt, Int.not_le] at h25)
      have hx : (d.sites.length ≤ 60 ∧ d.parents.length ≤ 60) ∧ ss.length ≤ 40 := by omega
      have hpl := putF_len' (d := d) (ss := ss) (n := 100) (by omega)
      refine tr_skip ?_
      refine pe_then_normal ?_
      refine tr_sub hC (.cons (t := 1) rfl (.cons (t := 2) rfl (.cons (t := 3) rfl .nil))) (.cons (t := 3) rfl .nil) rfl ?_
      refine tr_seq ?_
      refine tr_region (fun N5 hN => ?_)
      first | refine lx (op_bload (m := 3) rfl rfl ag25 sz25) rfl ?_ | refine lx (op_bload_part (m := 3) rfl rfl ag25 sz25 rfl rfl) rfl ?_
      refine lx (op_move rfl) rfl ?_
      first | refine lx (op_call (l := [(Go.Operand.tmp 27), (Go.Operand.tmp 28)]) (Put_ok d (by omega) (by omega) ss (by omega)) (.cons rfl (.cons rfl .nil)) fn17) rfl ?_ | refine lx (op_call (l := [(Go.Operand.tmp 27), (Go.Operand.tmp 28)]) (Put_ok d (by omega) (by omega) ss (by omega)) (.ent rfl (by repeat (first | exact Ent.refl _ | exact Ents.nil | exact Ent.nil _ _ | exact Ent.row _ _ _ _ | exact Ent.func _ | refine Ents.cons ?_ ?_ | refine Ent.tup ?_ | refine Ent.agg ?_ | refine Ent.cells ?_ | exact Ent.of_eq rfl)) (.ent rfl (by repeat (first | exact Ent.refl _ | exact Ents.nil | exact Ent.nil _ _ | exact Ent.row _ _ _ _ | exact Ent.func _ | refine Ents.cons ?_ ?_ | refine Ent.tup ?_ | refine Ent.agg ?_ | refine Ent.cells ?_ | exact Ent.of_eq rfl)) .nil)) fn17) rfl ?_
      refine lx (op_move rfl) rfl ?_
      refine lx (op_extract rfl rfl) rfl ?_
      refine lx (op_extract rfl rfl) rfl ?_
      refine lxn (op_alloc (m := 7) (k := 7) (ps := [eqP (.slice none 0 0), eqP (.slice none 0 0)]) ze25 rfl rfl (by first | exact hC.low _ (by decide) | rfl)) rfl ?_
      first | refine lxr (op_store_all (m := 7) rfl rfl rfl (.agg rfl) sz25 rfl) rfl ?_ | refine lxr (op_store (m := 7) rfl rfl rfl (.agg rfl) sz25 rfl rfl rfl) rfl ?_
      refine lx (op_assign rfl) rfl ?_
      refine lx_end ⟨by kernel_rfl, ?_⟩
      refine pe_then_normal ?_
      refine tr_sub hC (.cons (t := 1) rfl (.cons (t := 2) rfl (.cons (t := 3) rfl (.cons (t := 7) rfl (.cons (t := 8) rfl .nil))))) (.cons (t := 3) rfl (.cons (t := 7) rfl .nil)) rfl ?_
      refine tr_seq ?_
      refine tr_seq ?_
      refine tr_region (fun N6 hN => ?_)
      refine lx (op_move rfl) rfl ?_
      refine lx (op_lss rfl rfl) rfl ?_
      refine lx_end ⟨by kernel_rfl, ?_⟩
      refine pe_then_normal ?_
      refine tr_sub hC (.cons (t := 1) rfl (.cons (t := 2) rfl (.cons (t := 3) rfl (.cons (t := 7) rfl (.cons (t := 8) rfl (.cons (t := 33) rfl .nil)))))) (.cons (t := 3) rfl (.cons (t := 7) rfl .nil)) rfl ?_
      refine tr_cond rfl (fun h33 => ?_) (fun h33 => ?_)
      · (try simp only [Bool.and_eq_true, Bool.or_eq_true, Bool.and_eq_false_iff, Bool.or_eq_false_iff, decide_eq_true_eq, decide_eq_false_iff_not, Bool.not_eq_true', Bool.not_eq_false', List.length_map, ne_eq, Decidable.not_not, Int.not_lt, Int.not_le] at h33)
        have hneg := finds_neg h33
        refine tr_seq ?_
        refine tr_region (fun N7 hN => ?_)
        refine lx (op_move rfl) rfl ?_
        refine lx (op_eql rfl rfl) rfl ?_
        refine lx (op_move rfl) rfl ?_
        refine lxs rfl rfl rfl guard_eq (.cons (t := 1) rfl (fun _ => Ent.refl _) .nil) (op_move rfl) rfl ?_
        first | refine lxs rfl rfl rfl guard_eq (.cons (t := 37) rfl (fun h => entW h) .nil) (op_len rfl el22) rfl ?_ | refine lxs rfl rfl rfl guard_eq (.cons (t := 37) rfl (fun h => entW h) .nil) (op_len_row rfl el22) rfl ?_ | refine lxs rfl rfl rfl guard_eq (.cons (t := 37) rfl (fun h => entW h) .nil) (op_len_mv rfl el22) rfl ?_
        refine lxs rfl rfl rfl guard_eq (.cons (t := 38) rfl (fun h => entW h) .nil) (op_eql rfl rfl) rfl ?_
        refine lxs rfl rfl rfl guard_eq (.cons (t := 39) rfl (fun h => entW h) .nil) (op_move rfl) rfl ?_
        first | refine lxs rfl rfl rfl guard_w (.cons (t := 7) rfl (fun _ => Ent.refl _) .nil) (op_bload (m := 7) rfl rfl ag25 sz25) rfl ?_ | refine lxs rfl rfl rfl guard_w (.cons (t := 7) rfl (fun _ => Ent.refl _) .nil) (op_bload_part (m := 7) rfl rfl ag25 sz25 rfl rfl) rfl ?_
        first | refine lxs rfl rfl rfl guard_w (.cons (t := 41) rfl (fun h => entW h) .nil) (op_call (l := [(Go.Operand.tmp 41)]) (valid_ok _ (by omega)) (.cons rfl .nil) fn12) rfl ?_ | refine lxs rfl rfl rfl guard_w (.cons (t := 41) rfl (fun h => entW h) .nil) (op_call (l := [(Go.Operand.tmp 41)]) (valid_ok _ (by omega)) (.ent rfl (by repeat (first | exact Ent.refl _ | exact Ents.nil | exact Ent.nil _ _ | exact Ent.row _ _ _ _ | exact Ent.func _ | refine Ents.cons ?_ ?_ | refine Ent.tup ?_ | refine Ent.agg ?_ | refine Ent.cells ?_ | exact Ent.of_eq rfl)) .nil) fn12) rfl ?_
        first | refine lxs rfl rfl rfl guard_w (.cons (t := 42) rfl (fun h => entW h) .nil) (op_not rfl) rfl ?_ | refine lxs rfl rfl rfl guard_w (.cons (t := 42) rfl (fun h => entW h) .nil) (op_not_b rfl) rfl ?_
        refine lxs rfl rfl rfl guard_eq (.cons (t := 40) rfl (fun h => entW h) (.cons (t := 43) rfl (fun h => entS h) .nil)) (op_pick_or rfl rfl) rfl ?_
        refine lxs rfl rfl rfl guard_eq (.cons (t := 44) rfl (fun h => entW h) .nil) (op_move rfl) rfl ?_
        refine lxs rfl rfl rfl guard_w (.cons (t := 7) rfl (fun _ => Ent.refl _) .nil) (op_fieldAddr rfl fl25_0 sz22) rfl ?_
        refine lxs rfl rfl rfl guard_w (.cons (t := 46) rfl (fun h => entW h) .nil) (op_bload_one (m := 7) rfl rfl ag22 rfl) rfl ?_
        first | refine lxs rfl rfl rfl guard_w (.cons (t := 47) rfl (fun h => entW h) .nil) (op_len rfl el22) rfl ?_ | refine lxs rfl rfl rfl guard_w (.cons (t := 47) rfl (fun h => entW h) .nil) (op_len_row rfl el22) rfl ?_ | refine lxs rfl rfl rfl guard_w (.cons (t := 47) rfl (fun h => entW h) .nil) (op_len_mv rfl el22) rfl ?_
        refine lxs rfl rfl rfl guard_w (.cons (t := 48) rfl (fun h => entW h) .nil) (op_eql rfl rfl) rfl ?_
        refine lxs rfl rfl rfl guard_eq (.cons (t := 45) rfl (fun h => entW h) (.cons (t := 49) rfl (fun h => entS h) .nil)) (op_pick_or rfl rfl) rfl ?_
        refine lx (op_pick_and rfl rfl) rfl ?_
        refine lx (op_assign rfl) rfl ?_
        refine lx_end ⟨by kernel_rfl, ?_⟩
        refine pe_then_normal ?_
        refine tr_sub hC (.cons (t := 6) rfl .nil) .nil rfl ?_
        refine tr_ret ?_
        refine pe_then_ret ?_
        refine pe_ret1 rfl hO rfl (.tmp rfl .nil) ?_
        exact entB (by rcases hneg with ⟨h1, h2 | h2⟩ <;> simp [h1, h2])
      · (try simp only [Bool.and_eq_true, Bool.or_eq_true, Bool.and_eq_false_iff, Bool.or_eq_false_iff, decide_eq_true_eq, decide_eq_false_iff_not, Bool.not_eq_true', Bool.not_eq_false', List.length_map, ne_eq, Decidable.not_not, Int.not_lt, Int.not_le] at h33)
        have hpos := finds_pos (d := d) (ss := ss) (by omega)
        have hsl := stackF_len (putF d ss).1 (putF d ss).2
        have hpl2 := putF_len' (d := (putF d ss).1) (ss := ss) (n := 140) (by omega)
        refine tr_skip ?_
        refine pe_then_normal ?_
        refine tr_sub hC (.cons (t := 1) rfl (.cons (t := 2) rfl (.cons (t := 3) rfl (.cons (t := 7) rfl (.cons (t := 8) rfl .nil))))) (.cons (t := 3) rfl (.cons (t := 7) rfl .nil)) rfl ?_
        refine tr_seq ?_
        refine tr_region (fun N8 hN => ?_)
        first | refine lx (op_bload (m := 7) rfl rfl ag25 sz25) rfl ?_ | refine lx (op_bload_part (m := 7) rfl rfl ag25 sz25 rfl rfl) rfl ?_
        refine lx (op_move rfl) rfl ?_
        first | refine lx (op_call (l := [(Go.Operand.tmp 53), (Go.Operand.tmp 54)]) (Stack_ok _ (by omega) _) (.cons rfl (.cons rfl .nil)) fn19) rfl ?_ | refine lx (op_call (l := [(Go.Operand.tmp 53), (Go.Operand.tmp 54)]) (Stack_ok _ (by omega) _) (.ent rfl (by repeat (first | exact Ent.refl _ | exact Ents.nil | exact Ent.nil _ _ | exact Ent.row _ _ _ _ | exact Ent.func _ | refine Ents.cons ?_ ?_ | refine Ent.tup ?_ | refine Ent.agg ?_ | refine Ent.cells ?_ | exact Ent.of_eq rfl)) (.ent rfl (by repeat (first | exact Ent.refl _ | exact Ents.nil | exact Ent.nil _ _ | exact Ent.row _ _ _ _ | exact Ent.func _ | refine Ents.cons ?_ ?_ | refine Ent.tup ?_ | refine Ent.agg ?_ | refine Ent.cells ?_ | exact Ent.of_eq rfl)) .nil)) fn19) rfl ?_
        refine lx (op_move rfl) rfl ?_
        refine lx (op_extract rfl rfl) rfl ?_
        refine lx (op_extract rfl rfl) rfl ?_
        refine lx (op_assign rfl) rfl ?_
        refine lx (op_assign rfl) rfl ?_
        refine lx_end ⟨by kernel_rfl, ?_⟩
        refine pe_then_normal ?_
        refine tr_sub hC (.cons (t := 1) rfl (.cons (t := 2) rfl (.cons (t := 3) rfl (.cons (t := 7) rfl (.cons (t := 8) rfl (.cons (t := 9) rfl (.cons (t := 10) rfl .nil))))))) (.cons (t := 3) rfl (.cons (t := 7) rfl .nil)) rfl ?_
        refine tr_seq ?_
        refine tr_region (fun N9 hN => ?_)
        first | refine lx (op_bload (m := 7) rfl rfl ag25 sz25) rfl ?_ | refine lx (op_bload_part (m := 7) rfl rfl ag25 sz25 rfl rfl) rfl ?_
        refine lx (op_move rfl) rfl ?_
        first | refine lx (op_call (l := [(Go.Operand.tmp 59), (Go.Operand.tmp 60)]) (Put_ok _ (by omega) (by omega) ss (by omega)) (.cons rfl (.cons rfl .nil)) fn17) rfl ?_ | refine lx (op_call (l := [(Go.Operand.tmp 59), (Go.Operand.tmp 60)]) (Put_ok _ (by omega) (by omega) ss (by omega)) (.ent rfl (by repeat (first | exact Ent.refl _ | exact Ents.nil | exact Ent.nil _ _ | exact Ent.row _ _ _ _ | exact Ent.func _ | refine Ents.cons ?_ ?_ | refine Ent.tup ?_ | refine Ent.agg ?_ | refine Ent.cells ?_ | exact Ent.of_eq rfl)) (.ent rfl (by repeat (first | exact Ent.refl _ | exact Ents.nil | exact Ent.nil _ _ | exact Ent.row _ _ _ _ | exact Ent.func _ | refine Ents.cons ?_ ?_ | refine Ent.tup ?_ | refine Ent.agg ?_ | refine Ent.cells ?_ | exact Ent.of_eq rfl)) .nil)) fn17) rfl ?_
        refine lx (op_move rfl) rfl ?_
        refine lx (op_extract rfl rfl) rfl ?_
        refine lx (op_extract rfl rfl) rfl ?_
        refine lxn (op_alloc (m := 11) (k := 11) (ps := [eqP (.slice none 0 0), eqP (.slice none 0 0)]) ze25 rfl rfl (by first | exact hC.low _ (by decide) | rfl)) rfl ?_
        first | refine lxr (op_store_all (m := 11) rfl rfl rfl (.agg rfl) sz25 rfl) rfl ?_ | refine lxr (op_store (m := 11) rfl rfl rfl (.agg rfl) sz25 rfl rfl rfl) rfl ?_
        refine lx (op_assign rfl) rfl ?_
        refine lx_end ⟨by kernel_rfl, ?_⟩
        refine pe_then_normal ?_
        refine tr_sub hC (.cons (t := 1) rfl (.cons (t := 2) rfl (.cons (t := 3) rfl (.cons (t := 7) rfl (.cons (t := 8) rfl (.cons (t := 9) rfl (.cons (t := 10) rfl (.cons (t := 11) rfl (.cons (t := 12) rfl .nil))))))))) (.cons (t := 3) rfl (.cons (t := 7) rfl (.cons (t := 11) rfl .nil))) rfl ?_
        refine tr_seq ?_
        refine tr_seq ?_
        refine tr_region (fun N10 hN => ?_)
        refine lx (op_move rfl) rfl ?_
        first | refine lx (op_not rfl) rfl ?_ | refine lx (op_not_b rfl) rfl ?_
        refine lx (op_move rfl) rfl ?_
        refine lxs rfl rfl rfl guard_eq (.cons (t := 9) rfl (fun _ => Ent.refl _) .nil) (op_move rfl) rfl ?_
        refine lxs rfl rfl rfl guard_eq (.cons (t := 1) rfl (fun _ => Ent.refl _) .nil) (op_move rfl) rfl ?_
        first | refine lxs rfl rfl rfl guard_eq (.cons (t := 67) rfl (fun h => entW h) (.cons (t := 68) rfl (fun h => entW h) .nil)) (op_call (l := [(Go.Operand.tmp 67), (Go.Operand.tmp 68)]) (same_ok _ _ (by omega)) (.cons rfl (.cons rfl .nil)) fn21) rfl ?_ | refine lxs rfl rfl rfl guard_eq (.cons (t := 67) rfl (fun h => entW h) (.cons (t := 68) rfl (fun h => entW h) .nil)) (op_call (l := [(Go.Operand.tmp 67), (Go.Operand.tmp 68)]) (same_ok _ _ (by omega)) (.ent rfl (by repeat (first | exact Ent.refl _ | exact Ents.nil | exact Ent.nil _ _ | exact Ent.row _ _ _ _ | exact Ent.func _ | refine Ents.cons ?_ ?_ | refine Ent.tup ?_ | refine Ent.agg ?_ | refine Ent.cells ?_ | exact Ent.of_eq rfl)) (.ent rfl (by repeat (first | exact Ent.refl _ | exact Ents.nil | exact Ent.nil _ _ | exact Ent.row _ _ _ _ | exact Ent.func _ | refine Ents.cons ?_ ?_ | refine Ent.tup ?_ | refine Ent.agg ?_ | refine Ent.cells ?_ | exact Ent.of_eq rfl)) .nil)) fn21) rfl ?_
        first | refine lxs rfl rfl rfl guard_eq (.cons (t := 69) rfl (fun h => entW h) .nil) (op_not rfl) rfl ?_ | refine lxs rfl rfl rfl guard_eq (.cons (t := 69) rfl (fun h => entW h) .nil) (op_not_b rfl) rfl ?_
        refine lx (op_pick_or rfl rfl) rfl ?_
        refine lx (op_move rfl) rfl ?_
        refine lxs rfl rfl rfl guard_eq (.cons (t := 12) rfl (fun _ => Ent.refl _) .nil) (op_move rfl) rfl ?_
        refine lxs rfl rfl rfl guard_eq (.cons (t := 8) rfl (fun _ => Ent.refl _) .nil) (op_move rfl) rfl ?_
        refine lxs rfl rfl rfl guard_eq (.cons (t := 73) rfl (fun h => entW h) (.cons (t := 74) rfl (fun h => entW h) .nil)) (op_neq rfl rfl) rfl ?_
        refine lx (op_pick_or rfl rfl) rfl ?_
        refine lx (op_move rfl) rfl ?_
        first | refine lxs rfl rfl rfl guard_eq (.cons (t := 7) rfl (fun _ => Ent.refl _) .nil) (op_bload (m := 7) rfl rfl ag25 sz25) rfl ?_ | refine lxs rfl rfl rfl guard_eq (.cons (t := 7) rfl (fun _ => Ent.refl _) .nil) (op_bload_part (m := 7) rfl rfl ag25 sz25 rfl rfl) rfl ?_
        first | refine lxs rfl rfl rfl guard_eq (.cons (t := 11) rfl (fun _ => Ent.refl _) .nil) (op_bload (m := 11) rfl rfl ag25 sz25) rfl ?_ | refine lxs rfl rfl rfl guard_eq (.cons (t := 11) rfl (fun _ => Ent.refl _) .nil) (op_bload_part (m := 11) rfl rfl ag25 sz25 rfl rfl) rfl ?_
        first | refine lxs rfl rfl rfl guard_eq (.cons (t := 78) rfl (fun h => entW h) (.cons (t := 79) rfl (fun h => entW h) .nil)) (op_call (l := [(Go.Operand.tmp 78), (Go.Operand.tmp 79)]) (Same_ok _ _ (by omega) (by omega)) (.cons rfl (.cons rfl .nil)) fn16) rfl ?_ | refine lxs rfl rfl rfl guard_eq (.cons (t := 78) rfl (fun h => entW h) (.cons (t := 79) rfl (fun h => entW h) .nil)) (op_call (l := [(Go.Operand.tmp 78), (Go.Operand.tmp 79)]) (Same_ok _ _ (by omega) (by omega)) (.ent rfl (by repeat (first | exact Ent.refl _ | exact Ents.nil | exact Ent.nil _ _ | exact Ent.row _ _ _ _ | exact Ent.func _ | refine Ents.cons ?_ ?_ | refine Ent.tup ?_ | refine Ent.agg ?_ | refine Ent.cells ?_ | exact Ent.of_eq rfl)) (.ent rfl (by repeat (first | exact Ent.refl _ | exact Ents.nil | exact Ent.nil _ _ | exact Ent.row _ _ _ _ | exact Ent.func _ | refine Ents.cons ?_ ?_ | refine Ent.tup ?_ | refine Ent.agg ?_ | refine Ent.cells ?_ | exact Ent.of_eq rfl)) .nil)) fn16) rfl ?_
        first | refine lxs rfl rfl rfl guard_eq (.cons (t := 80) rfl (fun h => entW h) .nil) (op_not rfl) rfl ?_ | refine lxs rfl rfl rfl guard_eq (.cons (t := 80) rfl (fun h => entW h) .nil) (op_not_b rfl) rfl ?_
        refine lx (op_pick_or rfl rfl) rfl ?_
        refine lx (op_move rfl) rfl ?_
        first | refine lxs rfl rfl rfl guard_eq (.cons (t := 7) rfl (fun _ => Ent.refl _) .nil) (op_bload (m := 7) rfl rfl ag25 sz25) rfl ?_ | refine lxs rfl rfl rfl guard_eq (.cons (t := 7) rfl (fun _ => Ent.refl _) .nil) (op_bload_part (m := 7) rfl rfl ag25 sz25 rfl rfl) rfl ?_
        first | refine lxs rfl rfl rfl guard_eq (.cons (t := 84) rfl (fun h => entW h) .nil) (op_call (l := [(Go.Operand.tmp 84)]) (valid_ok _ (by omega)) (.cons rfl .nil) fn12) rfl ?_ | refine lxs rfl rfl rfl guard_eq (.cons (t := 84) rfl (fun h => entW h) .nil) (op_call (l := [(Go.Operand.tmp 84)]) (valid_ok _ (by omega)) (.ent rfl (by repeat (first | exact Ent.refl _ | exact Ents.nil | exact Ent.nil _ _ | exact Ent.row _ _ _ _ | exact Ent.func _ | refine Ents.cons ?_ ?_ | refine Ent.tup ?_ | refine Ent.agg ?_ | refine Ent.cells ?_ | exact Ent.of_eq rfl)) .nil) fn12) rfl ?_
        first | refine lxs rfl rfl rfl guard_eq (.cons (t := 85) rfl (fun h => entW h) .nil) (op_not rfl) rfl ?_ | refine lxs rfl rfl rfl guard_eq (.cons (t := 85) rfl (fun h => entW h) .nil) (op_not_b rfl) rfl ?_
        refine lx (op_pick_or rfl rfl) rfl ?_
        refine lx_end ⟨by kernel_rfl, ?_⟩
        refine pe_then_normal ?_
        refine tr_sub hC (.cons (t := 2) rfl (.cons (t := 3) rfl (.cons (t := 7) rfl (.cons (t := 87) rfl .nil)))) (.cons (t := 3) rfl (.cons (t := 7) rfl .nil)) rfl ?_
        refine tr_cond rfl (fun h87 => ?_) (fun h87 => ?_)
        · (try simp only [Bool.and_eq_true, Bool.or_eq_true, Bool.and_eq_false_iff, Bool.or_eq_false_iff, decide_eq_true_eq, decide_eq_false_iff_not, Bool.not_eq_true', Bool.not_eq_false', List.length_map, ne_eq, Decidable.not_not, Int.not_lt, Int.not_le] at h87)
          exact absurd h87 (by rw [hpos.1, hpos.2.1, hpos.2.2.1]; simp)
        · (try simp only [Bool.and_eq_true, Bool.or_eq_true, Bool.and_eq_false_iff, Bool.or_eq_false_iff, decide_eq_true_eq, decide_eq_false_iff_not, Bool.not_eq_true', Bool.not_eq_false', List.length_map, ne_eq, Decidable.not_not, Int.not_lt, Int.not_le] at h87)
          have hsl2 := stackF_len d o
          have hsl3 := stackF_len (putF d ss).1 o
          refine tr_skip ?_
          refine pe_then_normal ?_
          refine tr_sub hC (.cons (t := 2) rfl (.cons (t := 3) rfl (.cons (t := 7) rfl .nil))) (.cons (t := 3) rfl (.cons (t := 7) rfl .nil)) rfl ?_
          refine tr_seq ?_
          refine tr_region (fun N12 hN => ?_)
          first | refine lx (op_bload (m := 3) rfl rfl ag25 sz25) rfl ?_ | refine lx (op_bload_part (m := 3) rfl rfl ag25 sz25 rfl rfl) rfl ?_
          refine lx (op_move rfl) rfl ?_
          first | refine lx (op_call (l := [(Go.Operand.tmp 89), (Go.Operand.tmp 90)]) (Stack_ok d (by omega) o) (.cons rfl (.cons rfl .nil)) fn19) rfl ?_ | refine lx (op_call (l := [(Go.Operand.tmp 89), (Go.Operand.tmp 90)]) (Stack_ok d (by omega) o) (.ent rfl (by repeat (first | exact Ent.refl _ | exact Ents.nil | exact Ent.nil _ _ | exact Ent.row _ _ _ _ | exact Ent.func _ | refine Ents.cons ?_ ?_ | refine Ent.tup ?_ | refine Ent.agg ?_ | refine Ent.cells ?_ | exact Ent.of_eq rfl)) (.ent rfl (by repeat (first | exact Ent.refl _ | exact Ents.nil | exact Ent.nil _ _ | exact Ent.row _ _ _ _ | exact Ent.func _ | refine Ents.cons ?_ ?_ | refine Ent.tup ?_ | refine Ent.agg ?_ | refine Ent.cells ?_ | exact Ent.of_eq rfl)) .nil)) fn19) rfl ?_
          refine lx (op_move rfl) rfl ?_
          refine lx (op_extract rfl rfl) rfl ?_
          refine lx (op_extract rfl rfl) rfl ?_
          refine lx (op_assign rfl) rfl ?_
          refine lx (op_assign rfl) rfl ?_
          refine lx_end ⟨by kernel_rfl, ?_⟩
          refine pe_then_normal ?_
          refine tr_sub hC (.cons (t := 2) rfl (.cons (t := 7) rfl (.cons (t := 13) rfl (.cons (t := 14) rfl .nil)))) (.cons (t := 7) rfl .nil) rfl ?_
          refine tr_seq ?_
          refine tr_region (fun N13 hN => ?_)
          first | refine lx (op_bload (m := 7) rfl rfl ag25 sz25) rfl ?_ | refine lx (op_bload_part (m := 7) rfl rfl ag25 sz25 rfl rfl) rfl ?_
          refine lx (op_move rfl) rfl ?_
          first | refine lx (op_call (l := [(Go.Operand.tmp 95), (Go.Operand.tmp 96)]) (Stack_ok _ (by omega) o) (.cons rfl (.cons rfl .nil)) fn19) rfl ?_ | refine lx (op_call (l := [(Go.Operand.tmp 95), (Go.Operand.tmp 96)]) (Stack_ok _ (by omega) o) (.ent rfl (by repeat (first | exact Ent.refl _ | exact Ents.nil | exact Ent.nil _ _ | exact Ent.row _ _ _ _ | exact Ent.func _ | refine Ents.cons ?_ ?_ | refine Ent.tup ?_ | refine Ent.agg ?_ | refine Ent.cells ?_ | exact Ent.of_eq rfl)) (.ent rfl (by repeat (first | exact Ent.refl _ | exact Ents.nil | exact Ent.nil _ _ | exact Ent.row _ _ _ _ | exact Ent.func _ | refine Ents.cons ?_ ?_ | refine Ent.tup ?_ | refine Ent.agg ?_ | refine Ent.cells ?_ | exact Ent.of_eq rfl)) .nil)) fn19) rfl ?_
          refine lx (op_move rfl) rfl ?_
          refine lx (op_extract rfl rfl) rfl ?_
          refine lx (op_extract rfl rfl) rfl ?_
          refine lx (op_assign rfl) rfl ?_
          refine lx (op_assign rfl) rfl ?_
          refine lx_end ⟨by kernel_rfl, ?_⟩
          refine pe_then_normal ?_
          refine tr_sub hC (.cons (t := 13) rfl (.cons (t := 14) rfl (.cons (t := 15) rfl (.cons (t := 16) rfl .nil)))) .nil rfl ?_
          refine tr_seq ?_
          refine tr_region (fun N14 hN => ?_)
          refine lx (op_move rfl) rfl ?_
          first | refine lx (op_not rfl) rfl ?_ | refine lx (op_not_b rfl) rfl ?_
          refine lx (op_move rfl) rfl ?_
          refine lxs rfl rfl rfl guard_eq (.cons (t := 16) rfl (fun _ => Ent.refl _) .nil) (op_move rfl) rfl ?_
          refine lxs rfl rfl rfl guard_eq (.cons (t := 103) rfl (fun h => entW h) .nil) (op_move rfl) rfl ?_
          refine lxs rfl rfl rfl guard_w (.cons (t := 13) rfl (fun _ => Ent.refl _) .nil) (op_move rfl) rfl ?_
          refine lxs rfl rfl rfl guard_w (.cons (t := 15) rfl (fun _ => Ent.refl _) .nil) (op_move rfl) rfl ?_
          first | refine lxs rfl rfl rfl guard_w (.cons (t := 105) rfl (fun h => entW h) (.cons (t := 106) rfl (fun h => entW h) .nil)) (op_call (l := [(Go.Operand.tmp 105), (Go.Operand.tmp 106)]) (same_ok _ _ (by omega)) (.cons rfl (.cons rfl .nil)) fn21) rfl ?_ | refine lxs rfl rfl rfl guard_w (.cons (t := 105) rfl (fun h => entW h) (.cons (t := 106) rfl (fun h => entW h) .nil)) (op_call (l := [(Go.Operand.tmp 105), (Go.Operand.tmp 106)]) (same_ok _ _ (by omega)) (.ent rfl (by repeat (first | exact Ent.refl _ | exact Ents.nil | exact Ent.nil _ _ | exact Ent.row _ _ _ _ | exact Ent.func _ | refine Ents.cons ?_ ?_ | refine Ent.tup ?_ | refine Ent.agg ?_ | refine Ent.cells ?_ | exact Ent.of_eq rfl)) (.ent rfl (by repeat (first | exact Ent.refl _ | exact Ents.nil | exact Ent.nil _ _ | exact Ent.row _ _ _ _ | exact Ent.func _ | refine Ents.cons ?_ ?_ | refine Ent.tup ?_ | refine Ent.agg ?_ | refine Ent.cells ?_ | exact Ent.of_eq rfl)) .nil)) fn21) rfl ?_
          refine lxs rfl rfl rfl guard_eq (.cons (t := 104) rfl (fun h => entW h) (.cons (t := 107) rfl (fun h => entS h) .nil)) (op_pick_and rfl rfl) rfl ?_
          refine lx (op_pick_or rfl rfl) rfl ?_
          refine lx (op_assign rfl) rfl ?_
          refine lx_end ⟨by kernel_rfl, ?_⟩
          refine pe_then_normal ?_
          refine tr_sub hC (.cons (t := 6) rfl .nil) .nil rfl ?_
          refine tr_ret ?_
          refine pe_ret1 rfl hO rfl (.tmp rfl .nil) ?_
          refine entB ?_
          have h4 := hpos.2.2.2 o
          cases hw : (stackF d o).2 with
          | false => rfl
          | true => rw [h4 hw]; simp [hw]

theorem law_keeps (d b : Dep) (n : Int) : FnP Try.prog 9 [aggP d.ps, aggP b.ps, eqP (.int .i64 n)] (eqP (.bool true)) := by
  refine fn_pure' Try.func9 rfl Try.ntmps9 rfl ?_
  intro σ0 M ex Rf R hC hO
  simp only [frameOf, tokOf]
  refine tr_seq ?_
  refine tr_region (fun N0 hN => ?_)
  refine lxn (op_box (m := 3) (k := 3) rfl (.agg rfl) (by first | exact hC.low _ (by decide) | rfl)) rfl ?_
  refine lxn (op_box (m := 4) (k := 4) rfl (.agg rfl) (by first | exact hC.low _ (by decide) | rfl)) rfl ?_
  refine lx (op_assign rfl) rfl ?_
  refine lx_end ⟨by kernel_rfl, ?_⟩
  refine pe_then_normal ?_
  refine tr_sub hC (.cons (t := 2) rfl (.cons (t := 3) rfl (.cons (t := 4) rfl .nil))) (.cons (t := 3) rfl (.cons (t := 4) rfl .nil)) rfl ?_
  refine tr_seq ?_
  refine tr_seq ?_
  refine tr_region (fun N1 hN => ?_)
  first | refine lx (op_call (l := []) (awake_ok) .nil fn10) rfl ?_ | refine lx (op_call (l := []) (awake_ok) .nil fn10) rfl ?_
  first | refine lx (op_not rfl) rfl ?_ | refine lx (op_not_b rfl) rfl ?_
  refine lx_end ⟨by kernel_rfl, ?_⟩
  refine pe_then_normal ?_
  refine tr_sub hC (.cons (t := 2) rfl (.cons (t := 3) rfl (.cons (t := 4) rfl (.cons (t := 16) rfl .nil)))) (.cons (t := 3) rfl (.cons (t := 4) rfl .nil)) rfl ?_
  refine tr_cond rfl (fun h16 => ?_) (fun h16 => ?_)
  · exact absurd h16 (by decide)
  · (try simp only [Bool.and_eq_true, Bool.or_eq_true, Bool.and_eq_false_iff, Bool.or_eq_false_iff, decide_eq_true_eq, decide_eq_false_iff_not, Bool.not_eq_true', Bool.not_eq_false', List.length_map, ne_eq, Decidable.not_not, Int.not_lt, Int.not_le] at h16)
    refine tr_skip ?_
    refine pe_then_normal ?_
    refine tr_sub hC (.cons (t := 2) rfl (.cons (t := 3) rfl (.cons (t := 4) rfl .nil))) (.cons (t := 3) rfl (.cons (t := 4) rfl .nil)) rfl ?_
    refine tr_seq ?_
    refine tr_seq ?_
    refine tr_region (fun N3 hN => ?_)
    first | refine lx (op_bload (m := 3) rfl rfl ag25 sz25) rfl ?_ | refine lx (op_bload_part (m := 3) rfl rfl ag25 sz25 rfl rfl) rfl ?_
    first | refine lx (op_call (l := [(Go.Operand.tmp 17)]) (large_ok _) (.cons rfl .nil) fn11) rfl ?_ | refine lx (op_call (l := [(Go.Operand.tmp 17)]) (large_ok _) (.ent rfl (by repeat (first | exact Ent.refl _ | exact Ents.nil | exact Ent.nil _ _ | exact Ent.row _ _ _ _ | exact Ent.func _ | refine Ents.cons ?_ ?_ | refine Ent.tup ?_ | refine Ent.agg ?_ | refine Ent.cells ?_ | exact Ent.of_eq rfl)) .nil) fn11) rfl ?_
    refine lx (op_move rfl) rfl ?_
    first | refine lxs rfl rfl rfl guard_eq (.cons (t := 4) rfl (fun _ => Ent.refl _) .nil) (op_bload (m := 4) rfl rfl ag25 sz25) rfl ?_ | refine lxs rfl rfl rfl guard_eq (.cons (t := 4) rfl (fun _ => Ent.refl _) .nil) (op_bload_part (m := 4) rfl rfl ag25 sz25 rfl rfl) rfl ?_
    first | refine lxs rfl rfl rfl guard_eq (.cons (t := 20) rfl (fun h => entW h) .nil) (op_call (l := [(Go.Operand.tmp 20)]) (large_ok _) (.cons rfl .nil) fn11) rfl ?_ | refine lxs rfl rfl rfl guard_eq (.cons (t := 20) rfl (fun h => entW h) .nil) (op_call (l := [(Go.Operand.tmp 20)]) (large_ok _) (.ent rfl (by repeat (first | exact Ent.refl _ | exact Ents.nil | exact Ent.nil _ _ | exact Ent.row _ _ _ _ | exact Ent.func _ | refine Ents.cons ?_ ?_ | refine Ent.tup ?_ | refine Ent.agg ?_ | refine Ent.cells ?_ | exact Ent.of_eq rfl)) .nil) fn11) rfl ?_
    refine lx (op_pick_or rfl rfl) rfl ?_
    refine lx (op_move rfl) rfl ?_
    first | refine lxs rfl rfl rfl guard_eq (.cons (t := 3) rfl (fun _ => Ent.refl _) .nil) (op_bload (m := 3) rfl rfl ag25 sz25) rfl ?_ | refine lxs rfl rfl rfl guard_eq (.cons (t := 3) rfl (fun _ => Ent.refl _) .nil) (op_bload_part (m := 3) rfl rfl ag25 sz25 rfl rfl) rfl ?_
    refine lxsc (rd := [(24, aggP d.ps)]) (φ := eqP (.bool (validF d))) rfl rfl rfl guard_eq (.cons (t := 24) rfl (fun h => entW h) .nil) (fun hgd => ?_) rfl rfl ?_
    · have hb : d.sites.length ≤ 60 := by simp at hgd; omega
      first | exact op_call (l := [(Go.Operand.tmp 24)]) (rvalid_ok _ (by omega)) (.cons rfl .nil) fn13 | exact op_call (l := [(Go.Operand.tmp 24)]) (rvalid_ok _ (by omega)) (.ent rfl (by repeat (first | exact Ent.refl _ | exact Ents.nil | exact Ent.nil _ _ | exact Ent.row _ _ _ _ | exact Ent.func _ | refine Ents.cons ?_ ?_ | refine Ent.tup ?_ | refine Ent.agg ?_ | refine Ent.cells ?_ | exact Ent.of_eq rfl)) .nil) fn13
    first | refine lxs rfl rfl rfl guard_eq (.cons (t := 25) rfl (fun h => entW h) .nil) (op_not rfl) rfl ?_ | refine lxs rfl rfl rfl guard_eq (.cons (t := 25) rfl (fun h => entW h) .nil) (op_not_b rfl) rfl ?_
    refine lx (op_pick_or rfl rfl) rfl ?_
    refine lx (op_move rfl) rfl ?_
    first | refine lxs rfl rfl rfl guard_eq (.cons (t := 4) rfl (fun _ => Ent.refl _) .nil) (op_bload (m := 4) rfl rfl ag25 sz25) rfl ?_ | refine lxs rfl rfl rfl guard_eq (.cons (t := 4) rfl (fun _ => Ent.refl _) .nil) (op_bload_part (m := 4) rfl rfl ag25 sz25 rfl rfl) rfl ?_
    refine lxsc (rd := [(29, aggP b.ps)]) (φ := eqP (.bool (validF b))) rfl rfl rfl guard_eq (.cons (t := 29) rfl (fun h => entW h) .nil) (fun hgd => ?_) rfl rfl ?_
    · have hb : b.sites.length ≤ 60 := by simp at hgd; omega
      first | exact op_call (l := [(Go.Operand.tmp 29)]) (rvalid_ok _ (by omega)) (.cons rfl .nil) fn13 | exact op_call (l := [(Go.Operand.tmp 29)]) (rvalid_ok _ (by omega)) (.ent rfl (by repeat (first | exact Ent.refl _ | exact Ents.nil | exact Ent.nil _ _ | exact Ent.row _ _ _ _ | exact Ent.func _ | refine Ents.cons ?_ ?_ | refine Ent.tup ?_ | refine Ent.agg ?_ | refine Ent.cells ?_ | exact Ent.of_eq rfl)) .nil) fn13
    first | refine lxs rfl rfl rfl guard_eq (.cons (t := 30) rfl (fun h => entW h) .nil) (op_not rfl) rfl ?_ | refine lxs rfl rfl rfl guard_eq (.cons (t := 30) rfl (fun h => entW h) .nil) (op_not_b rfl) rfl ?_
    refine lx (op_pick_or rfl rfl) rfl ?_
    refine lx_end ⟨by kernel_rfl, ?_⟩
    refine pe_then_normal ?_
    refine tr_sub hC (.cons (t := 2) rfl (.cons (t := 3) rfl (.cons (t := 4) rfl (.cons (t := 32) rfl .nil)))) (.cons (t := 3) rfl (.cons (t := 4) rfl .nil)) rfl ?_
    refine tr_cond rfl (fun h32 => ?_) (fun h32 => ?_)
    · (try simp only [Bool.and_eq_true, Bool.or_eq_true, Bool.and_eq_false_iff, Bool.or_eq_false_iff, decide_eq_true_eq, decide_eq_false_iff_not, Bool.not_eq_true', Bool.not_eq_false', List.length_map, ne_eq, Decidable.not_not, Int.not_lt, Int.not_le] at h32)
      refine tr_seq ?_
      refine tr_region (fun N4 hN => ?_)
      refine lx (op_assign rfl) rfl ?_
      refine lx_end ⟨by kernel_rfl, ?_⟩
      refine pe_then_normal ?_
      refine tr_sub hC (.cons (t := 6) rfl .nil) .nil rfl ?_
      refine tr_ret ?_
      refine pe_then_ret ?_
      refine pe_ret1 rfl hO rfl (.tmp rfl .nil) ?_
      repeat (first | exact Ent.refl _ | exact Ents.nil | exact Ent.nil _ _ | exact Ent.row _ _ _ _ | exact Ent.func _ | refine Ents.cons ?_ ?_ | refine Ent.tup ?_ | refine Ent.agg ?_ | refine Ent.cells ?_ | exact Ent.of_eq rfl)
    · (try simp only [Bool.and_eq_true, Bool.or_eq_true, Bool.and_eq_false_iff, Bool.or_eq_false_iff, decide_eq_true_eq, decide_eq_false_iff_not, Bool.not_eq_true', Bool.not_eq_false', List.length_map, ne_eq, Decidable.not_not, Int.not_lt, Int.not_le] at h32)
      have hx : (d.sites.length ≤ 60 ∧ d.parents.length ≤ 60) ∧ b.sites.length ≤ 60 ∧ b.parents.length ≤ 60 := by omega
      have hml := mergeF_len' (a := d) (b := b) (n := 120) (by omega)
      obtain ⟨m1, m2, m3, m4, m5⟩ := merge_keeps (a := d) (b := b) h32.1.2 h32.2
      have hml2 := mergeF_len' (a := (mergeF d b).1) (b := b) (n := 180) (by omega)
      refine tr_skip ?_
      refine pe_then_normal ?_
      refine tr_sub hC (.cons (t := 2) rfl (.cons (t := 3) rfl (.cons (t := 4) rfl .nil))) (.cons (t := 3) rfl (.cons (t := 4) rfl .nil)) rfl ?_
      refine tr_seq ?_
      refine tr_region (fun N5 hN => ?_)
      first | refine lx (op_bload (m := 3) rfl rfl ag25 sz25) rfl ?_ | refine lx (op_bload_part (m := 3) rfl rfl ag25 sz25 rfl rfl) rfl ?_
      first | refine lx (op_bload (m := 4) rfl rfl ag25 sz25) rfl ?_ | refine lx (op_bload_part (m := 4) rfl rfl ag25 sz25 rfl rfl) rfl ?_
      first | refine lx (op_call (l := [(Go.Operand.tmp 34), (Go.Operand.tmp 35)]) (Merge_ok d (by omega) (by omega) b (by omega) (by omega)) (.cons rfl (.cons rfl .nil)) fn22) rfl ?_ | refine lx (op_call (l := [(Go.Operand.tmp 34), (Go.Operand.tmp 35)]) (Merge_ok d (by omega) (by omega) b (by omega) (by omega)) (.ent rfl (by repeat (first | exact Ent.refl _ | exact Ents.nil | exact Ent.nil _ _ | exact Ent.row _ _ _ _ | exact Ent.func _ | refine Ents.cons ?_ ?_ | refine Ent.tup ?_ | refine Ent.agg ?_ | refine Ent.cells ?_ | exact Ent.of_eq rfl)) (.ent rfl (by repeat (first | exact Ent.refl _ | exact Ents.nil | exact Ent.nil _ _ | exact Ent.row _ _ _ _ | exact Ent.func _ | refine Ents.cons ?_ ?_ | refine Ent.tup ?_ | refine Ent.agg ?_ | refine Ent.cells ?_ | exact Ent.of_eq rfl)) .nil)) fn22) rfl ?_
      refine lx (op_move rfl) rfl ?_
      refine lx (op_extract rfl rfl) rfl ?_
      refine lx (op_extract rfl rfl) rfl ?_
      refine lxn (op_alloc (m := 7) (k := 7) (ps := [eqP (.slice none 0 0), eqP (.slice none 0 0)]) ze25 rfl rfl (by first | exact hC.low _ (by decide) | rfl)) rfl ?_
      first | refine lxr (op_store_all (m := 7) rfl rfl rfl (.agg rfl) sz25 rfl) rfl ?_ | refine lxr (op_store (m := 7) rfl rfl rfl (.agg rfl) sz25 rfl rfl rfl) rfl ?_
      refine lx (op_assign rfl) rfl ?_
      refine lx_end ⟨by kernel_rfl, ?_⟩
      refine pe_then_normal ?_
      refine tr_sub hC (.cons (t := 2) rfl (.cons (t := 3) rfl (.cons (t := 4) rfl (.cons (t := 7) rfl (.cons (t := 8) rfl .nil))))) (.cons (t := 3) rfl (.cons (t := 4) rfl (.cons (t := 7) rfl .nil))) rfl ?_
      refine tr_seq ?_
      refine tr_region (fun N6 hN => ?_)
      first | refine lx (op_bload (m := 7) rfl rfl ag25 sz25) rfl ?_ | refine lx (op_bload_part (m := 7) rfl rfl ag25 sz25 rfl rfl) rfl ?_
      first | refine lx (op_bload (m := 4) rfl rfl ag25 sz25) rfl ?_ | refine lx (op_bload_part (m := 4) rfl rfl ag25 sz25 rfl rfl) rfl ?_
      first | refine lx (op_call (l := [(Go.Operand.tmp 40), (Go.Operand.tmp 41)]) (Merge_ok _ (by omega) (by omega) b (by omega) (by omega)) (.cons rfl (.cons rfl .nil)) fn22) rfl ?_ | refine lx (op_call (l := [(Go.Operand.tmp 40), (Go.Operand.tmp 41)]) (Merge_ok _ (by omega) (by omega) b (by omega) (by omega)) (.ent rfl (by repeat (first | exact Ent.refl _ | exact Ents.nil | exact Ent.nil _ _ | exact Ent.row _ _ _ _ | exact Ent.func _ | refine Ents.cons ?_ ?_ | refine Ent.tup ?_ | refine Ent.agg ?_ | refine Ent.cells ?_ | exact Ent.of_eq rfl)) (.ent rfl (by repeat (first | exact Ent.refl _ | exact Ents.nil | exact Ent.nil _ _ | exact Ent.row _ _ _ _ | exact Ent.func _ | refine Ents.cons ?_ ?_ | refine Ent.tup ?_ | refine Ent.agg ?_ | refine Ent.cells ?_ | exact Ent.of_eq rfl)) .nil)) fn22) rfl ?_
      refine lx (op_move rfl) rfl ?_
      refine lx (op_extract rfl rfl) rfl ?_
      refine lx (op_extract rfl rfl) rfl ?_
      refine lxn (op_alloc (m := 9) (k := 9) (ps := [eqP (.slice none 0 0), eqP (.slice none 0 0)]) ze25 rfl rfl (by first | exact hC.low _ (by decide) | rfl)) rfl ?_
      first | refine lxr (op_store_all (m := 9) rfl rfl rfl (.agg rfl) sz25 rfl) rfl ?_ | refine lxr (op_store (m := 9) rfl rfl rfl (.agg rfl) sz25 rfl rfl rfl) rfl ?_
      refine lx (op_assign rfl) rfl ?_
      refine lx_end ⟨by kernel_rfl, ?_⟩
      refine pe_then_normal ?_
      refine tr_sub hC (.cons (t := 2) rfl (.cons (t := 3) rfl (.cons (t := 4) rfl (.cons (t := 7) rfl (.cons (t := 8) rfl (.cons (t := 9) rfl .nil)))))) (.cons (t := 3) rfl (.cons (t := 4) rfl (.cons (t := 7) rfl (.cons (t := 9) rfl .nil)))) rfl ?_
      refine tr_seq ?_
      refine tr_seq ?_
      refine tr_region (fun N7 hN => ?_)
      refine lx (op_move rfl) rfl ?_
      first | refine lx (op_len rfl el23) rfl ?_ | refine lx (op_len_row rfl el23) rfl ?_ | refine lx (op_len_mv rfl el23) rfl ?_
      refine lx (op_fieldAddr rfl fl25_0 sz22) rfl ?_
      refine lx (op_bload_one (m := 4) rfl rfl ag22 rfl) rfl ?_
      first | refine lx (op_len rfl el22) rfl ?_ | refine lx (op_len_row rfl el22) rfl ?_ | refine lx (op_len_mv rfl el22) rfl ?_
      refine lx (op_neq rfl rfl) rfl ?_
      refine lx (op_move rfl) rfl ?_
      first | refine lxs rfl rfl rfl guard_eq (.cons (t := 7) rfl (fun _ => Ent.refl _) .nil) (op_bload (m := 7) rfl rfl ag25 sz25) rfl ?_ | refine lxs rfl rfl rfl guard_eq (.cons (t := 7) rfl (fun _ => Ent.refl _) .nil) (op_bload_part (m := 7) rfl rfl ag25 sz25 rfl rfl) rfl ?_
      first | refine lxs rfl rfl rfl guard_eq (.cons (t := 9) rfl (fun _ => Ent.refl _) .nil) (op_bload (m := 9) rfl rfl ag25 sz25) rfl ?_ | refine lxs rfl rfl rfl guard_eq (.cons (t := 9) rfl (fun _ => Ent.refl _) .nil) (op_bload_part (m := 9) rfl rfl ag25 sz25 rfl rfl) rfl ?_
      first | refine lxs rfl rfl rfl guard_eq (.cons (t := 52) rfl (fun h => entW h) (.cons (t := 53) rfl (fun h => entW h) .nil)) (op_call (l := [(Go.Operand.tmp 52), (Go.Operand.tmp 53)]) (Same_ok _ _ (by omega) (by omega)) (.cons rfl (.cons rfl .nil)) fn16) rfl ?_ | refine lxs rfl rfl rfl guard_eq (.cons (t := 52) rfl (fun h => entW h) (.cons (t := 53) rfl (fun h => entW h) .nil)) (op_call (l := [(Go.Operand.tmp 52), (Go.Operand.tmp 53)]) (Same_ok _ _ (by omega) (by omega)) (.ent rfl (by repeat (first | exact Ent.refl _ | exact Ents.nil | exact Ent.nil _ _ | exact Ent.row _ _ _ _ | exact Ent.func _ | refine Ents.cons ?_ ?_ | refine Ent.tup ?_ | refine Ent.agg ?_ | refine Ent.cells ?_ | exact Ent.of_eq rfl)) (.ent rfl (by repeat (first | exact Ent.refl _ | exact Ents.nil | exact Ent.nil _ _ | exact Ent.row _ _ _ _ | exact Ent.func _ | refine Ents.cons ?_ ?_ | refine Ent.tup ?_ | refine Ent.agg ?_ | refine Ent.cells ?_ | exact Ent.of_eq rfl)) .nil)) fn16) rfl ?_
      first | refine lxs rfl rfl rfl guard_eq (.cons (t := 54) rfl (fun h => entW h) .nil) (op_not rfl) rfl ?_ | refine lxs rfl rfl rfl guard_eq (.cons (t := 54) rfl (fun h => entW h) .nil) (op_not_b rfl) rfl ?_
      refine lx (op_pick_or rfl rfl) rfl ?_
      refine lx (op_move rfl) rfl ?_
      first | refine lxs rfl rfl rfl guard_eq (.cons (t := 7) rfl (fun _ => Ent.refl _) .nil) (op_bload (m := 7) rfl rfl ag25 sz25) rfl ?_ | refine lxs rfl rfl rfl guard_eq (.cons (t := 7) rfl (fun _ => Ent.refl _) .nil) (op_bload_part (m := 7) rfl rfl ag25 sz25 rfl rfl) rfl ?_
      first | refine lxs rfl rfl rfl guard_eq (.cons (t := 58) rfl (fun h => entW h) .nil) (op_call (l := [(Go.Operand.tmp 58)]) (valid_ok _ (by omega)) (.cons rfl .nil) fn12) rfl ?_ | refine lxs rfl rfl rfl guard_eq (.cons (t := 58) rfl (fun h => entW h) .nil) (op_call (l := [(Go.Operand.tmp 58)]) (valid_ok _ (by omega)) (.ent rfl (by repeat (first | exact Ent.refl _ | exact Ents.nil | exact Ent.nil _ _ | exact Ent.row _ _ _ _ | exact Ent.func _ | refine Ents.cons ?_ ?_ | refine Ent.tup ?_ | refine Ent.agg ?_ | refine Ent.cells ?_ | exact Ent.of_eq rfl)) .nil) fn12) rfl ?_
      first | refine lxs rfl rfl rfl guard_eq (.cons (t := 59) rfl (fun h => entW h) .nil) (op_not rfl) rfl ?_ | refine lxs rfl rfl rfl guard_eq (.cons (t := 59) rfl (fun h => entW h) .nil) (op_not_b rfl) rfl ?_
      refine lx (op_pick_or rfl rfl) rfl ?_
      refine lx_end ⟨by kernel_rfl, ?_⟩
      refine pe_then_normal ?_
      refine tr_sub hC (.cons (t := 2) rfl (.cons (t := 3) rfl (.cons (t := 4) rfl (.cons (t := 7) rfl (.cons (t := 8) rfl (.cons (t := 61) rfl .nil)))))) (.cons (t := 3) rfl (.cons (t := 4) rfl (.cons (t := 7) rfl .nil))) rfl ?_
      refine tr_cond rfl (fun h61 => ?_) (fun h61 => ?_)
      · (try simp only [Bool.and_eq_true, Bool.or_eq_true, Bool.and_eq_false_iff, Bool.or_eq_false_iff, decide_eq_true_eq, decide_eq_false_iff_not, Bool.not_eq_true', Bool.not_eq_false', List.length_map, ne_eq, Decidable.not_not, Int.not_lt, Int.not_le] at h61)
        exact absurd h61 (by rw [m1, m2, m3]; simp)
      · (try simp only [Bool.and_eq_true, Bool.or_eq_true, Bool.and_eq_false_iff, Bool.or_eq_false_iff, decide_eq_true_eq, decide_eq_false_iff_not, Bool.not_eq_true', Bool.not_eq_false', List.length_map, ne_eq, Decidable.not_not, Int.not_lt, Int.not_le] at h61)
        have hsl1 := stackF_len d n
        have hsl2 := stackF_len (mergeF d b).1 n
        refine tr_skip ?_
        refine pe_then_normal ?_
        refine tr_sub hC (.cons (t := 2) rfl (.cons (t := 3) rfl (.cons (t := 4) rfl (.cons (t := 7) rfl (.cons (t := 8) rfl .nil))))) (.cons (t := 3) rfl (.cons (t := 4) rfl (.cons (t := 7) rfl .nil))) rfl ?_
        refine tr_seq ?_
        refine tr_region (fun N9 hN => ?_)
        first | refine lx (op_bload (m := 3) rfl rfl ag25 sz25) rfl ?_ | refine lx (op_bload_part (m := 3) rfl rfl ag25 sz25 rfl rfl) rfl ?_
        refine lx (op_move rfl) rfl ?_
        first | refine lx (op_call (l := [(Go.Operand.tmp 63), (Go.Operand.tmp 64)]) (Stack_ok d (by omega) n) (.cons rfl (.cons rfl .nil)) fn19) rfl ?_ | refine lx (op_call (l := [(Go.Operand.tmp 63), (Go.Operand.tmp 64)]) (Stack_ok d (by omega) n) (.ent rfl (by repeat (first | exact Ent.refl _ | exact Ents.nil | exact Ent.nil _ _ | exact Ent.row _ _ _ _ | exact Ent.func _ | refine Ents.cons ?_ ?_ | refine Ent.tup ?_ | refine Ent.agg ?_ | refine Ent.cells ?_ | exact Ent.of_eq rfl)) (.ent rfl (by repeat (first | exact Ent.refl _ | exact Ents.nil | exact Ent.nil _ _ | exact Ent.row _ _ _ _ | exact Ent.func _ | refine Ents.cons ?_ ?_ | refine Ent.tup ?_ | refine Ent.agg ?_ | refine Ent.cells ?_ | exact Ent.of_eq rfl)) .nil)) fn19) rfl ?_
        refine lx (op_move rfl) rfl ?_
        refine lx (op_extract rfl rfl) rfl ?_
        refine lx (op_extract rfl rfl) rfl ?_
        refine lx (op_assign rfl) rfl ?_
        refine lx (op_assign rfl) rfl ?_
        refine lx_end ⟨by kernel_rfl, ?_⟩
        refine pe_then_normal ?_
        refine tr_sub hC (.cons (t := 2) rfl (.cons (t := 4) rfl (.cons (t := 7) rfl (.cons (t := 8) rfl (.cons (t := 11) rfl (.cons (t := 12) rfl .nil)))))) (.cons (t := 4) rfl (.cons (t := 7) rfl .nil)) rfl ?_
        refine tr_seq ?_
        refine tr_region (fun N10 hN => ?_)
        first | refine lx (op_bload (m := 7) rfl rfl ag25 sz25) rfl ?_ | refine lx (op_bload_part (m := 7) rfl rfl ag25 sz25 rfl rfl) rfl ?_
        refine lx (op_move rfl) rfl ?_
        first | refine lx (op_call (l := [(Go.Operand.tmp 69), (Go.Operand.tmp 70)]) (Stack_ok _ (by omega) n) (.cons rfl (.cons rfl .nil)) fn19) rfl ?_ | refine lx (op_call (l := [(Go.Operand.tmp 69), (Go.Operand.tmp 70)]) (Stack_ok _ (by omega) n) (.ent rfl (by repeat (first | exact Ent.refl _ | exact Ents.nil | exact Ent.nil _ _ | exact Ent.row _ _ _ _ | exact Ent.func _ | refine Ents.cons ?_ ?_ | refine Ent.tup ?_ | refine Ent.agg ?_ | refine Ent.cells ?_ | exact Ent.of_eq rfl)) (.ent rfl (by repeat (first | exact Ent.refl _ | exact Ents.nil | exact Ent.nil _ _ | exact Ent.row _ _ _ _ | exact Ent.func _ | refine Ents.cons ?_ ?_ | refine Ent.tup ?_ | refine Ent.agg ?_ | refine Ent.cells ?_ | exact Ent.of_eq rfl)) .nil)) fn19) rfl ?_
        refine lx (op_move rfl) rfl ?_
        refine lx (op_extract rfl rfl) rfl ?_
        refine lx (op_extract rfl rfl) rfl ?_
        refine lx (op_assign rfl) rfl ?_
        refine lx (op_assign rfl) rfl ?_
        refine lx_end ⟨by kernel_rfl, ?_⟩
        refine pe_then_normal ?_
        refine tr_sub hC (.cons (t := 2) rfl (.cons (t := 4) rfl (.cons (t := 7) rfl (.cons (t := 8) rfl (.cons (t := 11) rfl (.cons (t := 12) rfl (.cons (t := 13) rfl (.cons (t := 14) rfl .nil)))))))) (.cons (t := 4) rfl (.cons (t := 7) rfl .nil)) rfl ?_
        refine tr_seq ?_
        refine tr_seq ?_
        refine tr_region (fun N11 hN => ?_)
        refine lx (op_move rfl) rfl ?_
        refine lx (op_move rfl) rfl ?_
        refine lxs rfl rfl rfl guard_eq (.cons (t := 14) rfl (fun _ => Ent.refl _) .nil) (op_move rfl) rfl ?_
        first | refine lxs rfl rfl rfl guard_eq (.cons (t := 76) rfl (fun h => entW h) .nil) (op_not rfl) rfl ?_ | refine lxs rfl rfl rfl guard_eq (.cons (t := 76) rfl (fun h => entW h) .nil) (op_not_b rfl) rfl ?_
        refine lxs rfl rfl rfl guard_eq (.cons (t := 77) rfl (fun h => entW h) .nil) (op_move rfl) rfl ?_
        refine lxs rfl rfl rfl guard_w (.cons (t := 11) rfl (fun _ => Ent.refl _) .nil) (op_move rfl) rfl ?_
        refine lxs rfl rfl rfl guard_w (.cons (t := 13) rfl (fun _ => Ent.refl _) .nil) (op_move rfl) rfl ?_
        first | refine lxs rfl rfl rfl guard_w (.cons (t := 79) rfl (fun h => entW h) (.cons (t := 80) rfl (fun h => entW h) .nil)) (op_call (l := [(Go.Operand.tmp 79), (Go.Operand.tmp 80)]) (same_ok _ _ (by omega)) (.cons rfl (.cons rfl .nil)) fn21) rfl ?_ | refine lxs rfl rfl rfl guard_w (.cons (t := 79) rfl (fun h => entW h) (.cons (t := 80) rfl (fun h => entW h) .nil)) (op_call (l := [(Go.Operand.tmp 79), (Go.Operand.tmp 80)]) (same_ok _ _ (by omega)) (.ent rfl (by repeat (first | exact Ent.refl _ | exact Ents.nil | exact Ent.nil _ _ | exact Ent.row _ _ _ _ | exact Ent.func _ | refine Ents.cons ?_ ?_ | refine Ent.tup ?_ | refine Ent.agg ?_ | refine Ent.cells ?_ | exact Ent.of_eq rfl)) (.ent rfl (by repeat (first | exact Ent.refl _ | exact Ents.nil | exact Ent.nil _ _ | exact Ent.row _ _ _ _ | exact Ent.func _ | refine Ents.cons ?_ ?_ | refine Ent.tup ?_ | refine Ent.agg ?_ | refine Ent.cells ?_ | exact Ent.of_eq rfl)) .nil)) fn21) rfl ?_
        first | refine lxs rfl rfl rfl guard_w (.cons (t := 81) rfl (fun h => entW h) .nil) (op_not rfl) rfl ?_ | refine lxs rfl rfl rfl guard_w (.cons (t := 81) rfl (fun h => entW h) .nil) (op_not_b rfl) rfl ?_
        refine lxs rfl rfl rfl guard_eq (.cons (t := 78) rfl (fun h => entW h) (.cons (t := 82) rfl (fun h => entS h) .nil)) (op_pick_or rfl rfl) rfl ?_
        refine lx (op_pick_and rfl rfl) rfl ?_
        refine lx_end ⟨by kernel_rfl, ?_⟩
        refine pe_then_normal ?_
        refine tr_sub hC (.cons (t := 2) rfl (.cons (t := 4) rfl (.cons (t := 7) rfl (.cons (t := 8) rfl (.cons (t := 84) rfl .nil))))) (.cons (t := 4) rfl (.cons (t := 7) rfl .nil)) rfl ?_
        refine tr_cond rfl (fun h84 => ?_) (fun h84 => ?_)
        · have h4 := m4 n
          cases hw : (stackF d n).2 with
          | false => rw [hw] at h84; exact absurd h84 (by simp)
          | true => rw [h4 hw] at h84; exact absurd h84 (by simp [hw])
        · (try simp only [Bool.and_eq_true, Bool.or_eq_true, Bool.and_eq_false_iff, Bool.or_eq_false_iff, decide_eq_true_eq, decide_eq_false_iff_not, Bool.not_eq_true', Bool.not_eq_false', List.length_map, ne_eq, Decidable.not_not, Int.not_lt, Int.not_le] at h84)
          refine tr_skip ?_
          refine pe_then_normal ?_
          refine tr_sub hC (.cons (t := 2) rfl (.cons (t := 4) rfl (.cons (t := 7) rfl (.cons (t := 8) rfl .nil)))) (.cons (t := 4) rfl (.cons (t := 7) rfl .nil)) rfl ?_
          refine tr_seq ?_
          refine tr_seq ?_
          refine tr_region (fun N13 hN => ?_)
          refine lx (op_move rfl) rfl ?_
          refine lx (op_lss rfl rfl) rfl ?_
          refine lx (op_move rfl) rfl ?_
          refine lxs rfl rfl rfl guard_eq (.cons (t := 2) rfl (fun _ => Ent.refl _) .nil) (op_move rfl) rfl ?_
          refine lxs rfl rfl rfl guard_eq (.cons (t := 8) rfl (fun _ => Ent.refl _) .nil) (op_move rfl) rfl ?_
          first | refine lxs rfl rfl rfl guard_eq (.cons (t := 89) rfl (fun h => entW h) .nil) (op_len rfl el23) rfl ?_ | refine lxs rfl rfl rfl guard_eq (.cons (t := 89) rfl (fun h => entW h) .nil) (op_len_row rfl el23) rfl ?_ | refine lxs rfl rfl rfl guard_eq (.cons (t := 89) rfl (fun h => entW h) .nil) (op_len_mv rfl el23) rfl ?_
          refine lxs rfl rfl rfl guard_eq (.cons (t := 88) rfl (fun h => entW h) (.cons (t := 90) rfl (fun h => entW h) .nil)) (op_geq rfl rfl) rfl ?_
          refine lx (op_pick_or rfl rfl) rfl ?_
          refine lx_end ⟨by kernel_rfl, ?_⟩
          refine pe_then_normal ?_
          refine tr_sub hC (.cons (t := 2) rfl (.cons (t := 4) rfl (.cons (t := 7) rfl (.cons (t := 8) rfl (.cons (t := 92) rfl .nil))))) (.cons (t := 4) rfl (.cons (t := 7) rfl .nil)) rfl ?_
          refine tr_cond rfl (fun h92 => ?_) (fun h92 => ?_)
          · (try simp only [Bool.and_eq_true, Bool.or_eq_true, Bool.and_eq_false_iff, Bool.or_eq_false_iff, decide_eq_true_eq, decide_eq_false_iff_not, Bool.not_eq_true', Bool.not_eq_false', List.length_map, ne_eq, Decidable.not_not, Int.not_lt, Int.not_le] at h92)
            refine tr_seq ?_
            refine tr_region (fun N14 hN => ?_)
            refine lx (op_assign rfl) rfl ?_
            refine lx_end ⟨by kernel_rfl, ?_⟩
            refine pe_then_normal ?_
            refine tr_sub hC (.cons (t := 6) rfl .nil) .nil rfl ?_
            refine tr_ret ?_
            refine pe_then_ret ?_
            refine pe_ret1 rfl hO rfl (.tmp rfl .nil) ?_
            repeat (first | exact Ent.refl _ | exact Ents.nil | exact Ent.nil _ _ | exact Ent.row _ _ _ _ | exact Ent.func _ | refine Ents.cons ?_ ?_ | refine Ent.tup ?_ | refine Ent.agg ?_ | refine Ent.cells ?_ | exact Ent.of_eq rfl)
          · (try simp only [Bool.and_eq_true, Bool.or_eq_true, Bool.and_eq_false_iff, Bool.or_eq_false_iff, decide_eq_true_eq, decide_eq_false_iff_not, Bool.not_eq_true', Bool.not_eq_false', List.length_map, ne_eq, Decidable.not_not, Int.not_lt, Int.not_le] at h92)
            have hn := (List.getElem?_eq_getElem (by omega : n.toNat < (mergeF d b).2.length))
            have h5 := m5 n _ (by omega) hn
            have hsl3 := stackF_len b n
            have hsl4 := stackF_len (mergeF d b).1 ((mergeF d b).2[n.toNat]'(by omega))
            refine tr_skip ?_
            refine pe_then_normal ?_
            refine tr_sub hC (.cons (t := 2) rfl (.cons (t := 4) rfl (.cons (t := 7) rfl (.cons (t := 8) rfl .nil)))) (.cons (t := 4) rfl (.cons (t := 7) rfl .nil)) rfl ?_
            refine tr_seq ?_
            refine tr_region (fun N15 hN => ?_)
            first | refine lx (op_bload (m := 4) rfl rfl ag25 sz25) rfl ?_ | refine lx (op_bload_part (m := 4) rfl rfl ag25 sz25 rfl rfl) rfl ?_
            refine lx (op_move rfl) rfl ?_
            first | refine lx (op_call (l := [(Go.Operand.tmp 94), (Go.Operand.tmp 95)]) (Stack_ok b (by omega) n) (.cons rfl (.cons rfl .nil)) fn19) rfl ?_ | refine lx (op_call (l := [(Go.Operand.tmp 94), (Go.Operand.tmp 95)]) (Stack_ok b (by omega) n) (.ent rfl (by repeat (first | exact Ent.refl _ | exact Ents.nil | exact Ent.nil _ _ | exact Ent.row _ _ _ _ | exact Ent.func _ | refine Ents.cons ?_ ?_ | refine Ent.tup ?_ | refine Ent.agg ?_ | refine Ent.cells ?_ | exact Ent.of_eq rfl)) (.ent rfl (by repeat (first | exact Ent.refl _ | exact Ents.nil | exact Ent.nil _ _ | exact Ent.row _ _ _ _ | exact Ent.func _ | refine Ents.cons ?_ ?_ | refine Ent.tup ?_ | refine Ent.agg ?_ | refine Ent.cells ?_ | exact Ent.of_eq rfl)) .nil)) fn19) rfl ?_
            refine lx (op_move rfl) rfl ?_
            refine lx (op_extract rfl rfl) rfl ?_
            refine lx (op_extract rfl rfl) rfl ?_
            refine lx (op_assign rfl) rfl ?_
            refine lx (op_assign rfl) rfl ?_
            refine lx_end ⟨by kernel_rfl, ?_⟩
            refine pe_then_normal ?_
            refine tr_sub hC (.cons (t := 2) rfl (.cons (t := 7) rfl (.cons (t := 8) rfl (.cons (t := 11) rfl (.cons (t := 12) rfl .nil))))) (.cons (t := 7) rfl .nil) rfl ?_
            refine tr_seq ?_
            refine tr_drawn mixed (fun N16 hN => ?_)
            first | refine lx (op_bload (m := 7) rfl rfl ag25 sz25) rfl ?_ | refine lx (op_bload_part (m := 7) rfl rfl ag25 sz25 rfl rfl) rfl ?_
            refine lx (op_move rfl) rfl ?_
            refine lx (op_move rfl) rfl ?_
            refine lx (op_index rfl rfl el23 sz3 (by omega : n = ((n.toNat : Nat) : Int)) hn) rfl ?_
            first | refine lx (op_load_one rfl ag3 rfl) rfl ?_ | refine lx (op_bload_one (m := 7) rfl rfl ag3 rfl) rfl ?_
            first | refine lx (op_call (l := [(Go.Operand.tmp 100), (Go.Operand.tmp 104)]) (Stack_ok _ (by omega) _) (.cons rfl (.cons rfl .nil)) fn19) rfl ?_ | refine lx (op_call (l := [(Go.Operand.tmp 100), (Go.Operand.tmp 104)]) (Stack_ok _ (by omega) _) (.ent rfl (by repeat (first | exact Ent.refl _ | exact Ents.nil | exact Ent.nil _ _ | exact Ent.row _ _ _ _ | exact Ent.func _ | refine Ents.cons ?_ ?_ | refine Ent.tup ?_ | refine Ent.agg ?_ | refine Ent.cells ?_ | exact Ent.of_eq rfl)) (.ent rfl (by repeat (first | exact Ent.refl _ | exact Ents.nil | exact Ent.nil _ _ | exact Ent.row _ _ _ _ | exact Ent.func _ | refine Ents.cons ?_ ?_ | refine Ent.tup ?_ | refine Ent.agg ?_ | refine Ent.cells ?_ | exact Ent.of_eq rfl)) .nil)) fn19) rfl ?_
            refine lx (op_move rfl) rfl ?_
            refine lx (op_extract rfl rfl) rfl ?_
            refine lx (op_extract rfl rfl) rfl ?_
            refine lx (op_assign rfl) rfl ?_
            refine lx (op_assign rfl) rfl ?_
            refine lx_end ⟨by kernel_rfl, ?_⟩
            refine pe_then_normal ?_
            refine tr_sub hC (.cons (t := 11) rfl (.cons (t := 12) rfl (.cons (t := 13) rfl (.cons (t := 14) rfl .nil)))) .nil rfl ?_
            refine tr_seq ?_
            refine tr_region (fun N17 hN => ?_)
            refine lx (op_move rfl) rfl ?_
            refine lx (op_move rfl) rfl ?_
            refine lxs rfl rfl rfl guard_eq (.cons (t := 14) rfl (fun _ => Ent.refl _) .nil) (op_move rfl) rfl ?_
            refine lx (op_pick_and rfl rfl) rfl ?_
            refine lx (op_move rfl) rfl ?_
            refine lxs rfl rfl rfl guard_eq (.cons (t := 11) rfl (fun _ => Ent.refl _) .nil) (op_move rfl) rfl ?_
            refine lxs rfl rfl rfl guard_eq (.cons (t := 13) rfl (fun _ => Ent.refl _) .nil) (op_move rfl) rfl ?_
            first | refine lxs rfl rfl rfl guard_eq (.cons (t := 113) rfl (fun h => entW h) (.cons (t := 114) rfl (fun h => entW h) .nil)) (op_call (l := [(Go.Operand.tmp 113), (Go.Operand.tmp 114)]) (same_ok _ _ (by omega)) (.cons rfl (.cons rfl .nil)) fn21) rfl ?_ | refine lxs rfl rfl rfl guard_eq (.cons (t := 113) rfl (fun h => entW h) (.cons (t := 114) rfl (fun h => entW h) .nil)) (op_call (l := [(Go.Operand.tmp 113), (Go.Operand.tmp 114)]) (same_ok _ _ (by omega)) (.ent rfl (by repeat (first | exact Ent.refl _ | exact Ents.nil | exact Ent.nil _ _ | exact Ent.row _ _ _ _ | exact Ent.func _ | refine Ents.cons ?_ ?_ | refine Ent.tup ?_ | refine Ent.agg ?_ | refine Ent.cells ?_ | exact Ent.of_eq rfl)) (.ent rfl (by repeat (first | exact Ent.refl _ | exact Ents.nil | exact Ent.nil _ _ | exact Ent.row _ _ _ _ | exact Ent.func _ | refine Ents.cons ?_ ?_ | refine Ent.tup ?_ | refine Ent.agg ?_ | refine Ent.cells ?_ | exact Ent.of_eq rfl)) .nil)) fn21) rfl ?_
            refine lx (op_pick_and rfl rfl) rfl ?_
            refine lx (op_assign rfl) rfl ?_
            refine lx_end ⟨by kernel_rfl, ?_⟩
            refine pe_then_normal ?_
            refine tr_sub hC (.cons (t := 6) rfl .nil) .nil rfl ?_
            refine tr_ret ?_
            refine pe_ret1 rfl hO rfl (.tmp rfl .nil) ?_
            exact entB (by rw [h5.2, h5.1]; simp)

end Go.Proofs.Ytoibihhocjbilaa
