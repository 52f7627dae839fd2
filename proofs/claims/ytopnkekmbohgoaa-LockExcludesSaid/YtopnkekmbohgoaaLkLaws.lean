/- Walks of the functions of layer 18 and of the statements about it. -/
import Derived.Test.YtopnkekmbohgoaaLkWalk
set_option linter.unusedVariables false
set_option linter.unusedSimpArgs false
namespace Go.Proofs.Ytopnkekmbohgoaa
open Go.AL Go.Lk Go.RowKit
theorem bo4 : Try.prog.underlying 4 = some .bool := by kernel_rfl
theorem fl26_0 : fldB Try.prog 26 0 = some (0, 3) := by kernel_rfl
theorem fl26_1 : fldB Try.prog 26 1 = some (1, 3) := by kernel_rfl
theorem fl26_2 : fldB Try.prog 26 2 = some (2, 3) := by kernel_rfl
theorem fn9 : fnB Try.prog 9 = true := by kernel_rfl
theorem fn10 : fnB Try.prog 10 = true := by kernel_rfl
theorem fn11 : fnB Try.prog 11 = true := by kernel_rfl
theorem fn12 : fnB Try.prog 12 = true := by kernel_rfl
theorem fn13 : fnB Try.prog 13 = true := by kernel_rfl
theorem fn20 : fnB Try.prog 20 = true := by kernel_rfl
theorem fn21 : fnB Try.prog 21 = true := by kernel_rfl
theorem fn22 : fnB Try.prog 22 = true := by kernel_rfl
theorem fn23 : fnB Try.prog 23 = true := by kernel_rfl
theorem fn24 : fnB Try.prog 24 = true := by kernel_rfl
theorem fn25 : fnB Try.prog 25 = true := by kernel_rfl
theorem fn26 : fnB Try.prog 26 = true := by kernel_rfl
theorem fn27 : fnB Try.prog 27 = true := by kernel_rfl
theorem ik3 : Try.prog.underlying 3 = some (.int .i64) := by kernel_rfl
theorem us5 : (Try.prog.underlying 5).isSome = true := by kernel_rfl
theorem awake_ok  : FnP Try.prog 9 [] (eqP (.bool true)) := by
  refine fn_pure' Try.func9 rfl Try.ntmps9 rfl ?_
  intro σ0 M ex Rf R hC hO
  simp only [frameOf, tokOf]
  refine tr_seq ?_
  refine tr_region (fun N0 hN => ?_)
  refine lx (op_assign rfl) rfl ?_
  refine lx_end ⟨by kernel_rfl, ?_⟩
  refine pe_then_normal ?_
  refine tr_sub hC .nil .nil rfl ?_
  refine tr_seq ?_
  refine tr_region (fun N1 hN => ?_)
  first | refine lx (op_call (l := [(Go.Operand.const (Go.Value.int Go.IntKind.i64 2)), (Go.Operand.const (Go.Value.int Go.IntKind.i64 0)), (Go.Operand.const (Go.Value.int Go.IntKind.i64 3))]) (new_ok _ _ _) (.cons rfl (.cons rfl (.cons rfl .nil))) fn11) rfl ?_ | refine lx (op_call (l := [(Go.Operand.const (Go.Value.int Go.IntKind.i64 2)), (Go.Operand.const (Go.Value.int Go.IntKind.i64 0)), (Go.Operand.const (Go.Value.int Go.IntKind.i64 3))]) (new_ok _ _ _) (.ent rfl (by repeat (first | exact Ent.refl _ | exact Ents.nil | exact Ent.nil _ _ | exact Ent.row _ _ _ _ | exact Ent.func _ | refine Ents.cons ?_ ?_ | refine Ent.tup ?_ | refine Ent.agg ?_ | refine Ent.cells ?_ | exact Ent.of_eq rfl)) (.ent rfl (by repeat (first | exact Ent.refl _ | exact Ents.nil | exact Ent.nil _ _ | exact Ent.row _ _ _ _ | exact Ent.func _ | refine Ents.cons ?_ ?_ | refine Ent.tup ?_ | refine Ent.agg ?_ | refine Ent.cells ?_ | exact Ent.of_eq rfl)) (.ent rfl (by repeat (first | exact Ent.refl _ | exact Ents.nil | exact Ent.nil _ _ | exact Ent.row _ _ _ _ | exact Ent.func _ | refine Ents.cons ?_ ?_ | refine Ent.tup ?_ | refine Ent.agg ?_ | refine Ent.cells ?_ | exact Ent.of_eq rfl)) .nil))) fn11) rfl ?_
  refine lx (op_move rfl) rfl ?_
  refine lx (op_extract rfl rfl) rfl ?_
  refine lx (op_extract rfl rfl) rfl ?_
  refine lxn (op_alloc (m := 1) (k := 1) (ps := zps) ze24 rfl rfl (by first | exact hC.low _ (by decide) | rfl)) rfl ?_
  first | refine lxr (op_store_all (m := 1) rfl rfl rfl (.agg rfl) sz24 rfl) rfl ?_ | refine lxr (op_store (m := 1) rfl rfl rfl (.agg rfl) sz24 rfl rfl rfl) rfl ?_
  refine lx (op_assign rfl) rfl ?_
  refine lx_end ⟨by kernel_rfl, ?_⟩
  refine pe_then_normal ?_
  refine tr_sub hC (.cons (t := 1) rfl (.cons (t := 2) rfl .nil)) (.cons (t := 1) rfl .nil) rfl ?_
  refine tr_seq ?_
  refine tr_region (fun N2 hN => ?_)
  first | refine lx (op_bload (m := 1) rfl rfl ag24 sz24) rfl ?_ | refine lx (op_bload_part (m := 1) rfl rfl ag24 sz24 rfl rfl) rfl ?_
  first | refine lx (op_call (l := [(Go.Operand.tmp 20), (Go.Operand.const (Go.Value.int Go.IntKind.i64 1))]) (rlock_ok (newF 2 0 3).1 1 (by decide)) (.cons rfl (.cons rfl .nil)) fn21) rfl ?_ | refine lx (op_call (l := [(Go.Operand.tmp 20), (Go.Operand.const (Go.Value.int Go.IntKind.i64 1))]) (rlock_ok (newF 2 0 3).1 1 (by decide)) (.ent rfl (by repeat (first | exact Ent.refl _ | exact Ents.nil | exact Ent.nil _ _ | exact Ent.row _ _ _ _ | exact Ent.func _ | refine Ents.cons ?_ ?_ | refine Ent.tup ?_ | refine Ent.agg ?_ | refine Ent.cells ?_ | exact Ent.of_eq rfl)) (.ent rfl (by repeat (first | exact Ent.refl _ | exact Ents.nil | exact Ent.nil _ _ | exact Ent.row _ _ _ _ | exact Ent.func _ | refine Ents.cons ?_ ?_ | refine Ent.tup ?_ | refine Ent.agg ?_ | refine Ent.cells ?_ | exact Ent.of_eq rfl)) .nil)) fn21) rfl ?_
  refine lx (op_move rfl) rfl ?_
  refine lx (op_extract rfl rfl) rfl ?_
  refine lx (op_extract rfl rfl) rfl ?_
  refine lxn (op_alloc (m := 3) (k := 3) (ps := zps) ze24 rfl rfl (by first | exact hC.low _ (by decide) | rfl)) rfl ?_
  first | refine lxr (op_store_all (m := 3) rfl rfl rfl (.agg rfl) sz24 rfl) rfl ?_ | refine lxr (op_store (m := 3) rfl rfl rfl (.agg rfl) sz24 rfl rfl rfl) rfl ?_
  refine lx (op_assign rfl) rfl ?_
  refine lx_end ⟨by kernel_rfl, ?_⟩
  refine pe_then_normal ?_
  refine tr_sub hC (.cons (t := 2) rfl (.cons (t := 3) rfl (.cons (t := 4) rfl .nil))) (.cons (t := 3) rfl .nil) rfl ?_
  refine tr_seq ?_
  refine tr_region (fun N3 hN => ?_)
  first | refine lx (op_bload (m := 3) rfl rfl ag24 sz24) rfl ?_ | refine lx (op_bload_part (m := 3) rfl rfl ag24 sz24 rfl rfl) rfl ?_
  first | refine lx (op_call (l := [(Go.Operand.tmp 25), (Go.Operand.const (Go.Value.int Go.IntKind.i64 2))]) (rlock_ok ((rlockF (newF 2 0 3).1 1).1) 2 (by decide)) (.cons rfl (.cons rfl .nil)) fn21) rfl ?_ | refine lx (op_call (l := [(Go.Operand.tmp 25), (Go.Operand.const (Go.Value.int Go.IntKind.i64 2))]) (rlock_ok ((rlockF (newF 2 0 3).1 1).1) 2 (by decide)) (.ent rfl (by repeat (first | exact Ent.refl _ | exact Ents.nil | exact Ent.nil _ _ | exact Ent.row _ _ _ _ | exact Ent.func _ | refine Ents.cons ?_ ?_ | refine Ent.tup ?_ | refine Ent.agg ?_ | refine Ent.cells ?_ | exact Ent.of_eq rfl)) (.ent rfl (by repeat (first | exact Ent.refl _ | exact Ents.nil | exact Ent.nil _ _ | exact Ent.row _ _ _ _ | exact Ent.func _ | refine Ents.cons ?_ ?_ | refine Ent.tup ?_ | refine Ent.agg ?_ | refine Ent.cells ?_ | exact Ent.of_eq rfl)) .nil)) fn21) rfl ?_
  refine lx (op_move rfl) rfl ?_
  refine lx (op_extract rfl rfl) rfl ?_
  refine lx (op_extract rfl rfl) rfl ?_
  refine lxn (op_alloc (m := 5) (k := 5) (ps := zps) ze24 rfl rfl (by first | exact hC.low _ (by decide) | rfl)) rfl ?_
  first | refine lxr (op_store_all (m := 5) rfl rfl rfl (.agg rfl) sz24 rfl) rfl ?_ | refine lxr (op_store (m := 5) rfl rfl rfl (.agg rfl) sz24 rfl rfl rfl) rfl ?_
  refine lx (op_assign rfl) rfl ?_
  refine lx_end ⟨by kernel_rfl, ?_⟩
  refine pe_then_normal ?_
  refine tr_sub hC (.cons (t := 2) rfl (.cons (t := 4) rfl (.cons (t := 5) rfl (.cons (t := 6) rfl .nil)))) (.cons (t := 5) rfl .nil) rfl ?_
  refine tr_seq ?_
  refine tr_region (fun N4 hN => ?_)
  first | refine lx (op_bload (m := 5) rfl rfl ag24 sz24) rfl ?_ | refine lx (op_bload_part (m := 5) rfl rfl ag24 sz24 rfl rfl) rfl ?_
  first | refine lx (op_call (l := [(Go.Operand.tmp 30), (Go.Operand.const (Go.Value.int Go.IntKind.i64 0))]) (lock_ok ((rlockF (rlockF (newF 2 0 3).1 1).1 2).1) 0 (by decide)) (.cons rfl (.cons rfl .nil)) fn20) rfl ?_ | refine lx (op_call (l := [(Go.Operand.tmp 30), (Go.Operand.const (Go.Value.int Go.IntKind.i64 0))]) (lock_ok ((rlockF (rlockF (newF 2 0 3).1 1).1 2).1) 0 (by decide)) (.ent rfl (by repeat (first | exact Ent.refl _ | exact Ents.nil | exact Ent.nil _ _ | exact Ent.row _ _ _ _ | exact Ent.func _ | refine Ents.cons ?_ ?_ | refine Ent.tup ?_ | refine Ent.agg ?_ | refine Ent.cells ?_ | exact Ent.of_eq rfl)) (.ent rfl (by repeat (first | exact Ent.refl _ | exact Ents.nil | exact Ent.nil _ _ | exact Ent.row _ _ _ _ | exact Ent.func _ | refine Ents.cons ?_ ?_ | refine Ent.tup ?_ | refine Ent.agg ?_ | refine Ent.cells ?_ | exact Ent.of_eq rfl)) .nil)) fn20) rfl ?_
  refine lx (op_move rfl) rfl ?_
  refine lx (op_extract rfl rfl) rfl ?_
  refine lx (op_extract rfl rfl) rfl ?_
  refine lxn (op_alloc (m := 7) (k := 7) (ps := zps) ze24 rfl rfl (by first | exact hC.low _ (by decide) | rfl)) rfl ?_
  first | refine lxr (op_store_all (m := 7) rfl rfl rfl (.agg rfl) sz24 rfl) rfl ?_ | refine lxr (op_store (m := 7) rfl rfl rfl (.agg rfl) sz24 rfl rfl rfl) rfl ?_
  refine lx (op_assign rfl) rfl ?_
  refine lx_end ⟨by kernel_rfl, ?_⟩
  refine pe_then_normal ?_
  refine tr_sub hC (.cons (t := 2) rfl (.cons (t := 4) rfl (.cons (t := 5) rfl (.cons (t := 6) rfl (.cons (t := 8) rfl .nil))))) (.cons (t := 5) rfl .nil) rfl ?_
  refine tr_seq ?_
  refine tr_region (fun N5 hN => ?_)
  first | refine lx (op_bload (m := 5) rfl rfl ag24 sz24) rfl ?_ | refine lx (op_bload_part (m := 5) rfl rfl ag24 sz24 rfl rfl) rfl ?_
  first | refine lx (op_call (l := [(Go.Operand.tmp 35), (Go.Operand.const (Go.Value.int Go.IntKind.i64 1))]) (runlock_ok ((rlockF (rlockF (newF 2 0 3).1 1).1 2).1) 1 (by decide)) (.cons rfl (.cons rfl .nil)) fn22) rfl ?_ | refine lx (op_call (l := [(Go.Operand.tmp 35), (Go.Operand.const (Go.Value.int Go.IntKind.i64 1))]) (runlock_ok ((rlockF (rlockF (newF 2 0 3).1 1).1 2).1) 1 (by decide)) (.ent rfl (by repeat (first | exact Ent.refl _ | exact Ents.nil | exact Ent.nil _ _ | exact Ent.row _ _ _ _ | exact Ent.func _ | refine Ents.cons ?_ ?_ | refine Ent.tup ?_ | refine Ent.agg ?_ | refine Ent.cells ?_ | exact Ent.of_eq rfl)) (.ent rfl (by repeat (first | exact Ent.refl _ | exact Ents.nil | exact Ent.nil _ _ | exact Ent.row _ _ _ _ | exact Ent.func _ | refine Ents.cons ?_ ?_ | refine Ent.tup ?_ | refine Ent.agg ?_ | refine Ent.cells ?_ | exact Ent.of_eq rfl)) .nil)) fn22) rfl ?_
  refine lx (op_move rfl) rfl ?_
  refine lx (op_extract rfl rfl) rfl ?_
  refine lx (op_extract rfl rfl) rfl ?_
  refine lxn (op_alloc (m := 9) (k := 9) (ps := zps) ze24 rfl rfl (by first | exact hC.low _ (by decide) | rfl)) rfl ?_
  first | refine lxr (op_store_all (m := 9) rfl rfl rfl (.agg rfl) sz24 rfl) rfl ?_ | refine lxr (op_store (m := 9) rfl rfl rfl (.agg rfl) sz24 rfl rfl rfl) rfl ?_
  refine lx (op_assign rfl) rfl ?_
  refine lx_end ⟨by kernel_rfl, ?_⟩
  refine pe_then_normal ?_
  refine tr_sub hC (.cons (t := 2) rfl (.cons (t := 4) rfl (.cons (t := 6) rfl (.cons (t := 8) rfl (.cons (t := 9) rfl (.cons (t := 10) rfl .nil)))))) (.cons (t := 9) rfl .nil) rfl ?_
  refine tr_seq ?_
  refine tr_region (fun N6 hN => ?_)
  first | refine lx (op_bload (m := 9) rfl rfl ag24 sz24) rfl ?_ | refine lx (op_bload_part (m := 9) rfl rfl ag24 sz24 rfl rfl) rfl ?_
  first | refine lx (op_call (l := [(Go.Operand.tmp 40), (Go.Operand.const (Go.Value.int Go.IntKind.i64 5))]) (runlock_ok ((runlockF (rlockF (rlockF (newF 2 0 3).1 1).1 2).1 1).1) 5 (by decide)) (.cons rfl (.cons rfl .nil)) fn22) rfl ?_ | refine lx (op_call (l := [(Go.Operand.tmp 40), (Go.Operand.const (Go.Value.int Go.IntKind.i64 5))]) (runlock_ok ((runlockF (rlockF (rlockF (newF 2 0 3).1 1).1 2).1 1).1) 5 (by decide)) (.ent rfl (by repeat (first | exact Ent.refl _ | exact Ents.nil | exact Ent.nil _ _ | exact Ent.row _ _ _ _ | exact Ent.func _ | refine Ents.cons ?_ ?_ | refine Ent.tup ?_ | refine Ent.agg ?_ | refine Ent.cells ?_ | exact Ent.of_eq rfl)) (.ent rfl (by repeat (first | exact Ent.refl _ | exact Ents.nil | exact Ent.nil _ _ | exact Ent.row _ _ _ _ | exact Ent.func _ | refine Ents.cons ?_ ?_ | refine Ent.tup ?_ | refine Ent.agg ?_ | refine Ent.cells ?_ | exact Ent.of_eq rfl)) .nil)) fn22) rfl ?_
  refine lx (op_move rfl) rfl ?_
  refine lx (op_extract rfl rfl) rfl ?_
  refine lx (op_extract rfl rfl) rfl ?_
  refine lxn (op_alloc (m := 11) (k := 11) (ps := zps) ze24 rfl rfl (by first | exact hC.low _ (by decide) | rfl)) rfl ?_
  first | refine lxr (op_store_all (m := 11) rfl rfl rfl (.agg rfl) sz24 rfl) rfl ?_ | refine lxr (op_store (m := 11) rfl rfl rfl (.agg rfl) sz24 rfl rfl rfl) rfl ?_
  refine lx (op_assign rfl) rfl ?_
  refine lx_end ⟨by kernel_rfl, ?_⟩
  refine pe_then_normal ?_
  refine tr_sub hC (.cons (t := 2) rfl (.cons (t := 4) rfl (.cons (t := 6) rfl (.cons (t := 8) rfl (.cons (t := 9) rfl (.cons (t := 10) rfl (.cons (t := 11) rfl (.cons (t := 12) rfl .nil)))))))) (.cons (t := 9) rfl (.cons (t := 11) rfl .nil)) rfl ?_
  refine tr_seq ?_
  refine tr_region (fun N7 hN => ?_)
  first | refine lx (op_bload (m := 11) rfl rfl ag24 sz24) rfl ?_ | refine lx (op_bload_part (m := 11) rfl rfl ag24 sz24 rfl rfl) rfl ?_
  first | refine lx (op_call (l := [(Go.Operand.tmp 45), (Go.Operand.const (Go.Value.int Go.IntKind.i64 0))]) (lock_ok ((runlockF (runlockF (rlockF (rlockF (newF 2 0 3).1 1).1 2).1 1).1 5).1) 0 (by decide)) (.cons rfl (.cons rfl .nil)) fn20) rfl ?_ | refine lx (op_call (l := [(Go.Operand.tmp 45), (Go.Operand.const (Go.Value.int Go.IntKind.i64 0))]) (lock_ok ((runlockF (runlockF (rlockF (rlockF (newF 2 0 3).1 1).1 2).1 1).1 5).1) 0 (by decide)) (.ent rfl (by repeat (first | exact Ent.refl _ | exact Ents.nil | exact Ent.nil _ _ | exact Ent.row _ _ _ _ | exact Ent.func _ | refine Ents.cons ?_ ?_ | refine Ent.tup ?_ | refine Ent.agg ?_ | refine Ent.cells ?_ | exact Ent.of_eq rfl)) (.ent rfl (by repeat (first | exact Ent.refl _ | exact Ents.nil | exact Ent.nil _ _ | exact Ent.row _ _ _ _ | exact Ent.func _ | refine Ents.cons ?_ ?_ | refine Ent.tup ?_ | refine Ent.agg ?_ | refine Ent.cells ?_ | exact Ent.of_eq rfl)) .nil)) fn20) rfl ?_
  refine lx (op_move rfl) rfl ?_
  refine lx (op_extract rfl rfl) rfl ?_
  refine lx (op_extract rfl rfl) rfl ?_
  refine lxn (op_alloc (m := 13) (k := 13) (ps := zps) ze24 rfl rfl (by first | exact hC.low _ (by decide) | rfl)) rfl ?_
  first | refine lxr (op_store_all (m := 13) rfl rfl rfl (.agg rfl) sz24 rfl) rfl ?_ | refine lxr (op_store (m := 13) rfl rfl rfl (.agg rfl) sz24 rfl rfl rfl) rfl ?_
  refine lx (op_assign rfl) rfl ?_
  refine lx_end ⟨by kernel_rfl, ?_⟩
  refine pe_then_normal ?_
  refine tr_sub hC (.cons (t := 2) rfl (.cons (t := 4) rfl (.cons (t := 6) rfl (.cons (t := 8) rfl (.cons (t := 9) rfl (.cons (t := 10) rfl (.cons (t := 12) rfl (.cons (t := 13) rfl (.cons (t := 14) rfl .nil))))))))) (.cons (t := 9) rfl (.cons (t := 13) rfl .nil)) rfl ?_
  refine tr_seq ?_
  refine tr_region (fun N8 hN => ?_)
  refine lx (op_move rfl) rfl ?_
  refine lx (op_eql rfl rfl) rfl ?_
  refine lx (op_move rfl) rfl ?_
  refine lxs rfl rfl rfl guard_eq (.cons (t := 4) rfl (fun _ => Ent.refl _) .nil) (op_move rfl) rfl ?_
  refine lxs rfl rfl rfl guard_eq (.cons (t := 52) rfl (fun h => entW h) .nil) (op_eql rfl rfl) rfl ?_
  refine lx (op_pick_and rfl rfl) rfl ?_
  refine lx (op_move rfl) rfl ?_
  refine lxs rfl rfl rfl guard_eq (.cons (t := 6) rfl (fun _ => Ent.refl _) .nil) (op_move rfl) rfl ?_
  refine lxs rfl rfl rfl guard_eq (.cons (t := 56) rfl (fun h => entW h) .nil) (op_eql rfl rfl) rfl ?_
  refine lx (op_pick_and rfl rfl) rfl ?_
  refine lx (op_move rfl) rfl ?_
  refine lxs rfl rfl rfl guard_eq (.cons (t := 8) rfl (fun _ => Ent.refl _) .nil) (op_move rfl) rfl ?_
  refine lxs rfl rfl rfl guard_eq (.cons (t := 60) rfl (fun h => entW h) .nil) (op_eql rfl rfl) rfl ?_
  refine lx (op_pick_and rfl rfl) rfl ?_
  refine lx (op_move rfl) rfl ?_
  refine lxs rfl rfl rfl guard_eq (.cons (t := 10) rfl (fun _ => Ent.refl _) .nil) (op_move rfl) rfl ?_
  refine lxs rfl rfl rfl guard_eq (.cons (t := 64) rfl (fun h => entW h) .nil) (op_eql rfl rfl) rfl ?_
  refine lx (op_pick_and rfl rfl) rfl ?_
  refine lx (op_move rfl) rfl ?_
  refine lxs rfl rfl rfl guard_eq (.cons (t := 9) rfl (fun _ => Ent.refl _) .nil) (op_fieldAddr rfl fl24_4 sz22) rfl ?_
  refine lxs rfl rfl rfl guard_eq (.cons (t := 68) rfl (fun h => entW h) .nil) (op_bload_one (m := 9) rfl rfl ag22 rfl) rfl ?_
  first | refine lxs rfl rfl rfl guard_eq (.cons (t := 69) rfl (fun h => entW h) .nil) (op_len rfl el22) rfl ?_ | refine lxs rfl rfl rfl guard_eq (.cons (t := 69) rfl (fun h => entW h) .nil) (op_len_row rfl el22) rfl ?_ | refine lxs rfl rfl rfl guard_eq (.cons (t := 69) rfl (fun h => entW h) .nil) (op_len_mv rfl el22) rfl ?_
  refine lxs rfl rfl rfl guard_eq (.cons (t := 70) rfl (fun h => entW h) .nil) (op_eql rfl rfl) rfl ?_
  refine lx (op_pick_and rfl rfl) rfl ?_
  refine lx (op_move rfl) rfl ?_
  refine lxs rfl rfl rfl guard_eq (.cons (t := 9) rfl (fun _ => Ent.refl _) .nil) (op_fieldAddr rfl fl24_4 sz22) rfl ?_
  refine lxs rfl rfl rfl guard_eq (.cons (t := 74) rfl (fun h => entW h) .nil) (op_bload_one (m := 9) rfl rfl ag22 rfl) rfl ?_
  refine lxs rfl rfl rfl guard_eq (.cons (t := 75) rfl (fun h => entW h) .nil) (op_index rfl rfl el22 sz3 rfl rfl) rfl ?_
  first | refine lxs rfl rfl rfl guard_eq (.cons (t := 76) rfl (fun h => entW h) .nil) (op_load_one rfl ag3 rfl) rfl ?_ | refine lxs rfl rfl rfl guard_eq (.cons (t := 76) rfl (fun h => entW h) .nil) (op_bload_one (m := 9) rfl rfl ag3 rfl) rfl ?_ | refine lxs rfl rfl rfl guard_eq (.cons (t := 76) rfl (fun h => entW h) .nil) (op_bload_one (m := 13) rfl rfl ag3 rfl) rfl ?_
  refine lxs rfl rfl rfl guard_eq (.cons (t := 77) rfl (fun h => entW h) .nil) (op_eql rfl rfl) rfl ?_
  refine lx (op_pick_and rfl rfl) rfl ?_
  refine lx (op_move rfl) rfl ?_
  refine lxs rfl rfl rfl guard_eq (.cons (t := 12) rfl (fun _ => Ent.refl _) .nil) (op_move rfl) rfl ?_
  refine lxs rfl rfl rfl guard_eq (.cons (t := 81) rfl (fun h => entW h) .nil) (op_eql rfl rfl) rfl ?_
  refine lx (op_pick_and rfl rfl) rfl ?_
  refine lx (op_move rfl) rfl ?_
  refine lxs rfl rfl rfl guard_eq (.cons (t := 14) rfl (fun _ => Ent.refl _) .nil) (op_move rfl) rfl ?_
  refine lxs rfl rfl rfl guard_eq (.cons (t := 85) rfl (fun h => entW h) .nil) (op_eql rfl rfl) rfl ?_
  refine lx (op_pick_and rfl rfl) rfl ?_
  refine lx (op_move rfl) rfl ?_
  refine lxs rfl rfl rfl guard_eq (.cons (t := 13) rfl (fun _ => Ent.refl _) .nil) (op_fieldAddr rfl fl24_3 sz3) rfl ?_
  refine lxs rfl rfl rfl guard_eq (.cons (t := 89) rfl (fun h => entW h) .nil) (op_bload_one (m := 13) rfl rfl ag3 rfl) rfl ?_
  refine lxs rfl rfl rfl guard_eq (.cons (t := 90) rfl (fun h => entW h) .nil) (op_eql rfl rfl) rfl ?_
  refine lx (op_pick_and rfl rfl) rfl ?_
  refine lx (op_assign rfl) rfl ?_
  refine lx_end ⟨by kernel_rfl, ?_⟩
  refine pe_then_normal ?_
  refine tr_sub hC (.cons (t := 0) rfl .nil) .nil rfl ?_
  refine tr_ret ?_
  refine pe_ret1 rfl hO rfl (.tmp rfl .nil) ?_
  repeat (first | exact Ent.refl _ | exact Ents.nil | exact Ent.nil _ _ | exact Ent.row _ _ _ _ | exact Ent.func _ | refine Ents.cons ?_ ?_ | refine Ent.tup ?_ | refine Ent.agg ?_ | refine Ent.cells ?_ | exact Ent.of_eq rfl)

theorem law_new (s : Sy) (kind obj off : Int) : FnP Try.prog 3 [aggP s.ps, aggP [eqP (.int .i64 kind), eqP (.int .i64 obj), eqP (.int .i64 off)]] (eqP (.bool true)) := by
  refine fn_pure' Try.func3 rfl Try.ntmps3 rfl ?_
  intro σ0 M ex Rf R hC hO
  simp only [frameOf, tokOf]
  refine tr_seq ?_
  refine tr_region (fun N0 hN => ?_)
  refine lxn (op_box (m := 2) (k := 2) rfl (.agg rfl) (by first | exact hC.low _ (by decide) | rfl)) rfl ?_
  refine lxn (op_box (m := 3) (k := 3) rfl (.agg rfl) (by first | exact hC.low _ (by decide) | rfl)) rfl ?_
  refine lx (op_assign rfl) rfl ?_
  refine lx_end ⟨by kernel_rfl, ?_⟩
  refine pe_then_normal ?_
  refine tr_sub hC (.cons (t := 2) rfl (.cons (t := 3) rfl .nil)) (.cons (t := 2) rfl (.cons (t := 3) rfl .nil)) rfl ?_
  refine tr_seq ?_
  refine tr_seq ?_
  refine tr_region (fun N1 hN => ?_)
  first | refine lx (op_call (l := []) (awake_ok) .nil fn9) rfl ?_ | refine lx (op_call (l := []) (awake_ok) .nil fn9) rfl ?_
  first | refine lx (op_not rfl) rfl ?_ | refine lx (op_not_b rfl) rfl ?_
  refine lx_end ⟨by kernel_rfl, ?_⟩
  refine pe_then_normal ?_
  refine tr_sub hC (.cons (t := 2) rfl (.cons (t := 3) rfl (.cons (t := 10) rfl .nil))) (.cons (t := 2) rfl (.cons (t := 3) rfl .nil)) rfl ?_
  refine tr_cond rfl (fun h10 => ?_) (fun h10 => ?_)
  · exact absurd h10 (by decide)
  · (try simp only [Bool.and_eq_true, Bool.or_eq_true, Bool.and_eq_false_iff, Bool.or_eq_false_iff, decide_eq_true_eq, decide_eq_false_iff_not, Bool.not_eq_true', Bool.not_eq_false', ne_eq, Decidable.not_not, Int.not_lt, Int.not_le] at h10)
    refine tr_skip ?_
    refine pe_then_normal ?_
    refine tr_sub hC (.cons (t := 2) rfl (.cons (t := 3) rfl .nil)) (.cons (t := 2) rfl (.cons (t := 3) rfl .nil)) rfl ?_
    refine tr_seq ?_
    refine tr_seq ?_
    refine tr_region (fun N3 hN => ?_)
    first | refine lx (op_bload (m := 2) rfl rfl ag24 sz24) rfl ?_ | refine lx (op_bload_part (m := 2) rfl rfl ag24 sz24 rfl rfl) rfl ?_
    first | refine lx (op_call (l := [(Go.Operand.tmp 11)]) (few_ok s) (.cons rfl .nil) fn10) rfl ?_ | refine lx (op_call (l := [(Go.Operand.tmp 11)]) (few_ok s) (.ent rfl (by repeat (first | exact Ent.refl _ | exact Ents.nil | exact Ent.nil _ _ | exact Ent.row _ _ _ _ | exact Ent.func _ | refine Ents.cons ?_ ?_ | refine Ent.tup ?_ | refine Ent.agg ?_ | refine Ent.cells ?_ | exact Ent.of_eq rfl)) .nil) fn10) rfl ?_
    first | refine lx (op_not rfl) rfl ?_ | refine lx (op_not_b rfl) rfl ?_
    refine lx_end ⟨by kernel_rfl, ?_⟩
    refine pe_then_normal ?_
    refine tr_sub hC (.cons (t := 2) rfl (.cons (t := 3) rfl (.cons (t := 13) rfl .nil))) (.cons (t := 2) rfl (.cons (t := 3) rfl .nil)) rfl ?_
    refine tr_cond rfl (fun h13 => ?_) (fun h13 => ?_)
    · (try simp only [Bool.and_eq_true, Bool.or_eq_true, Bool.and_eq_false_iff, Bool.or_eq_false_iff, decide_eq_true_eq, decide_eq_false_iff_not, Bool.not_eq_true', Bool.not_eq_false', ne_eq, Decidable.not_not, Int.not_lt, Int.not_le] at h13)
      refine tr_seq ?_
      refine tr_region (fun N4 hN => ?_)
      refine lx (op_assign rfl) rfl ?_
      refine lx_end ⟨by kernel_rfl, ?_⟩
      refine pe_then_normal ?_
      refine tr_sub hC (.cons (t := 4) rfl .nil) .nil rfl ?_
      refine tr_ret ?_
      refine pe_then_ret ?_
      refine pe_ret1 rfl hO rfl (.tmp rfl .nil) ?_
      repeat (first | exact Ent.refl _ | exact Ents.nil | exact Ent.nil _ _ | exact Ent.row _ _ _ _ | exact Ent.func _ | refine Ents.cons ?_ ?_ | refine Ent.tup ?_ | refine Ent.agg ?_ | refine Ent.cells ?_ | exact Ent.of_eq rfl)
    · (try simp only [Bool.and_eq_true, Bool.or_eq_true, Bool.and_eq_false_iff, Bool.or_eq_false_iff, decide_eq_true_eq, decide_eq_false_iff_not, Bool.not_eq_true', Bool.not_eq_false', ne_eq, Decidable.not_not, Int.not_lt, Int.not_le] at h13)
      have hx : s.readers.length ≤ 1000000 := by omega
      refine tr_skip ?_
      refine pe_then_normal ?_
      refine tr_sub hC (.cons (t := 2) rfl (.cons (t := 3) rfl .nil)) (.cons (t := 2) rfl (.cons (t := 3) rfl .nil)) rfl ?_
      refine tr_seq ?_
      refine tr_region (fun N5 hN => ?_)
      refine lx (op_fieldAddr rfl fl26_0 sz3) rfl ?_
      refine lx (op_bload_one (m := 3) rfl rfl ag3 rfl) rfl ?_
      refine lx (op_fieldAddr rfl fl26_1 sz3) rfl ?_
      refine lx (op_bload_one (m := 3) rfl rfl ag3 rfl) rfl ?_
      refine lx (op_fieldAddr rfl fl26_2 sz3) rfl ?_
      refine lx (op_bload_one (m := 3) rfl rfl ag3 rfl) rfl ?_
      first | refine lx (op_call (l := [(Go.Operand.tmp 16), (Go.Operand.tmp 18), (Go.Operand.tmp 20)]) (new_ok kind obj off) (.cons rfl (.cons rfl (.cons rfl .nil))) fn11) rfl ?_ | refine lx (op_call (l := [(Go.Operand.tmp 16), (Go.Operand.tmp 18), (Go.Operand.tmp 20)]) (new_ok kind obj off) (.ent rfl (by repeat (first | exact Ent.refl _ | exact Ents.nil | exact Ent.nil _ _ | exact Ent.row _ _ _ _ | exact Ent.func _ | refine Ents.cons ?_ ?_ | refine Ent.tup ?_ | refine Ent.agg ?_ | refine Ent.cells ?_ | exact Ent.of_eq rfl)) (.ent rfl (by repeat (first | exact Ent.refl _ | exact Ents.nil | exact Ent.nil _ _ | exact Ent.row _ _ _ _ | exact Ent.func _ | refine Ents.cons ?_ ?_ | refine Ent.tup ?_ | refine Ent.agg ?_ | refine Ent.cells ?_ | exact Ent.of_eq rfl)) (.ent rfl (by repeat (first | exact Ent.refl _ | exact Ents.nil | exact Ent.nil _ _ | exact Ent.row _ _ _ _ | exact Ent.func _ | refine Ents.cons ?_ ?_ | refine Ent.tup ?_ | refine Ent.agg ?_ | refine Ent.cells ?_ | exact Ent.of_eq rfl)) .nil))) fn11) rfl ?_
      refine lx (op_move rfl) rfl ?_
      refine lx (op_extract rfl rfl) rfl ?_
      refine lx (op_extract rfl rfl) rfl ?_
      refine lxn (op_alloc (m := 5) (k := 5) (ps := zps) ze24 rfl rfl (by first | exact hC.low _ (by decide) | rfl)) rfl ?_
      first | refine lxr (op_store_all (m := 5) rfl rfl rfl (.agg rfl) sz24 rfl) rfl ?_ | refine lxr (op_store (m := 5) rfl rfl rfl (.agg rfl) sz24 rfl rfl rfl) rfl ?_
      refine lx (op_assign rfl) rfl ?_
      refine lx_end ⟨by kernel_rfl, ?_⟩
      refine pe_then_normal ?_
      refine tr_sub hC (.cons (t := 2) rfl (.cons (t := 3) rfl (.cons (t := 5) rfl (.cons (t := 6) rfl .nil)))) (.cons (t := 2) rfl (.cons (t := 3) rfl (.cons (t := 5) rfl .nil))) rfl ?_
      refine tr_seq ?_
      refine tr_region (fun N6 hN => ?_)
      refine lx (op_fieldAddr rfl fl26_0 sz3) rfl ?_
      refine lx (op_bload_one (m := 3) rfl rfl ag3 rfl) rfl ?_
      refine lx (op_fieldAddr rfl fl26_1 sz3) rfl ?_
      refine lx (op_bload_one (m := 3) rfl rfl ag3 rfl) rfl ?_
      refine lx (op_fieldAddr rfl fl26_2 sz3) rfl ?_
      refine lx (op_bload_one (m := 3) rfl rfl ag3 rfl) rfl ?_
      first | refine lx (op_call (l := [(Go.Operand.tmp 26), (Go.Operand.tmp 28), (Go.Operand.tmp 30)]) (rnew_ok kind obj off) (.cons rfl (.cons rfl (.cons rfl .nil))) fn12) rfl ?_ | refine lx (op_call (l := [(Go.Operand.tmp 26), (Go.Operand.tmp 28), (Go.Operand.tmp 30)]) (rnew_ok kind obj off) (.ent rfl (by repeat (first | exact Ent.refl _ | exact Ents.nil | exact Ent.nil _ _ | exact Ent.row _ _ _ _ | exact Ent.func _ | refine Ents.cons ?_ ?_ | refine Ent.tup ?_ | refine Ent.agg ?_ | refine Ent.cells ?_ | exact Ent.of_eq rfl)) (.ent rfl (by repeat (first | exact Ent.refl _ | exact Ents.nil | exact Ent.nil _ _ | exact Ent.row _ _ _ _ | exact Ent.func _ | refine Ents.cons ?_ ?_ | refine Ent.tup ?_ | refine Ent.agg ?_ | refine Ent.cells ?_ | exact Ent.of_eq rfl)) (.ent rfl (by repeat (first | exact Ent.refl _ | exact Ents.nil | exact Ent.nil _ _ | exact Ent.row _ _ _ _ | exact Ent.func _ | refine Ents.cons ?_ ?_ | refine Ent.tup ?_ | refine Ent.agg ?_ | refine Ent.cells ?_ | exact Ent.of_eq rfl)) .nil))) fn12) rfl ?_
      refine lx (op_move rfl) rfl ?_
      refine lx (op_extract rfl rfl) rfl ?_
      refine lx (op_extract rfl rfl) rfl ?_
      refine lxn (op_alloc (m := 7) (k := 7) (ps := zps) ze24 rfl rfl (by first | exact hC.low _ (by decide) | rfl)) rfl ?_
      first | refine lxr (op_store_all (m := 7) rfl rfl rfl (.agg rfl) sz24 rfl) rfl ?_ | refine lxr (op_store (m := 7) rfl rfl rfl (.agg rfl) sz24 rfl rfl rfl) rfl ?_
      refine lx (op_assign rfl) rfl ?_
      refine lx_end ⟨by kernel_rfl, ?_⟩
      refine pe_then_normal ?_
      refine tr_sub hC (.cons (t := 2) rfl (.cons (t := 5) rfl (.cons (t := 6) rfl (.cons (t := 7) rfl (.cons (t := 8) rfl .nil))))) (.cons (t := 2) rfl (.cons (t := 5) rfl (.cons (t := 7) rfl .nil))) rfl ?_
      refine tr_seq ?_
      refine tr_drawn mixed (fun N7 hN => ?_)
      refine lx (op_move rfl) rfl ?_
      refine lx (op_move rfl) rfl ?_
      refine lx (op_eql rfl rfl) rfl ?_
      refine lx (op_move rfl) rfl ?_
      first | refine lxs rfl rfl rfl guard_eq (.cons (t := 5) rfl (fun _ => Ent.refl _) .nil) (op_bload (m := 5) rfl rfl ag24 sz24) rfl ?_ | refine lxs rfl rfl rfl guard_eq (.cons (t := 5) rfl (fun _ => Ent.refl _) .nil) (op_bload_part (m := 5) rfl rfl ag24 sz24 rfl rfl) rfl ?_
      first | refine lxs rfl rfl rfl guard_eq (.cons (t := 7) rfl (fun _ => Ent.refl _) .nil) (op_bload (m := 7) rfl rfl ag24 sz24) rfl ?_ | refine lxs rfl rfl rfl guard_eq (.cons (t := 7) rfl (fun _ => Ent.refl _) .nil) (op_bload_part (m := 7) rfl rfl ag24 sz24 rfl rfl) rfl ?_
      first | refine lxs rfl rfl rfl guard_eq (.cons (t := 38) rfl (fun h => entW h) (.cons (t := 39) rfl (fun h => entW h) .nil)) (op_call (l := [(Go.Operand.tmp 38), (Go.Operand.tmp 39)]) (same_ok _ _ newF_len) (.cons rfl (.cons rfl .nil)) fn13) rfl ?_ | refine lxs rfl rfl rfl guard_eq (.cons (t := 38) rfl (fun h => entW h) (.cons (t := 39) rfl (fun h => entW h) .nil)) (op_call (l := [(Go.Operand.tmp 38), (Go.Operand.tmp 39)]) (same_ok _ _ newF_len) (.ent rfl (by repeat (first | exact Ent.refl _ | exact Ents.nil | exact Ent.nil _ _ | exact Ent.row _ _ _ _ | exact Ent.func _ | refine Ents.cons ?_ ?_ | refine Ent.tup ?_ | refine Ent.agg ?_ | refine Ent.cells ?_ | exact Ent.of_eq rfl)) (.ent rfl (by repeat (first | exact Ent.refl _ | exact Ents.nil | exact Ent.nil _ _ | exact Ent.row _ _ _ _ | exact Ent.func _ | refine Ents.cons ?_ ?_ | refine Ent.tup ?_ | refine Ent.agg ?_ | refine Ent.cells ?_ | exact Ent.of_eq rfl)) .nil)) fn13) rfl ?_
      refine lx (op_pick_and rfl rfl) rfl ?_
      refine lx (op_move rfl) rfl ?_
      first | refine lxs rfl rfl rfl guard_eq (.cons (t := 2) rfl (fun _ => Ent.refl _) .nil) (op_bload (m := 2) rfl rfl ag24 sz24) rfl ?_ | refine lxs rfl rfl rfl guard_eq (.cons (t := 2) rfl (fun _ => Ent.refl _) .nil) (op_bload_part (m := 2) rfl rfl ag24 sz24 rfl rfl) rfl ?_
      first | refine lxs rfl rfl rfl guard_eq (.cons (t := 43) rfl (fun h => entW h) .nil) (op_call (l := [(Go.Operand.tmp 43)]) (valid_ok s hx) (.cons rfl .nil) fn14) rfl ?_ | refine lxs rfl rfl rfl guard_eq (.cons (t := 43) rfl (fun h => entW h) .nil) (op_call (l := [(Go.Operand.tmp 43)]) (valid_ok s hx) (.ent rfl (by repeat (first | exact Ent.refl _ | exact Ents.nil | exact Ent.nil _ _ | exact Ent.row _ _ _ _ | exact Ent.func _ | refine Ents.cons ?_ ?_ | refine Ent.tup ?_ | refine Ent.agg ?_ | refine Ent.cells ?_ | exact Ent.of_eq rfl)) .nil) fn14) rfl ?_
      first | refine lxs rfl rfl rfl guard_eq (.cons (t := 2) rfl (fun _ => Ent.refl _) .nil) (op_bload (m := 2) rfl rfl ag24 sz24) rfl ?_ | refine lxs rfl rfl rfl guard_eq (.cons (t := 2) rfl (fun _ => Ent.refl _) .nil) (op_bload_part (m := 2) rfl rfl ag24 sz24 rfl rfl) rfl ?_
      first | refine lxs rfl rfl rfl guard_eq (.cons (t := 45) rfl (fun h => entW h) .nil) (op_call (l := [(Go.Operand.tmp 45)]) (rvalid_ok s hx) (.cons rfl .nil) fn15) rfl ?_ | refine lxs rfl rfl rfl guard_eq (.cons (t := 45) rfl (fun h => entW h) .nil) (op_call (l := [(Go.Operand.tmp 45)]) (rvalid_ok s hx) (.ent rfl (by repeat (first | exact Ent.refl _ | exact Ents.nil | exact Ent.nil _ _ | exact Ent.row _ _ _ _ | exact Ent.func _ | refine Ents.cons ?_ ?_ | refine Ent.tup ?_ | refine Ent.agg ?_ | refine Ent.cells ?_ | exact Ent.of_eq rfl)) .nil) fn15) rfl ?_
      refine lxs rfl rfl rfl guard_eq (.cons (t := 44) rfl (fun h => entW h) (.cons (t := 46) rfl (fun h => entW h) .nil)) (op_eql_bool bo4 rfl rfl) rfl ?_
      refine lx (op_pick_and rfl rfl) rfl ?_
      refine lx (op_move rfl) rfl ?_
      refine lxs rfl rfl rfl guard_eq (.cons (t := 6) rfl (fun _ => Ent.refl _) .nil) (op_move rfl) rfl ?_
      refine lxs rfl rfl rfl guard_eq (.cons (t := 50) rfl (fun h => entW h) .nil) (op_neq rfl rfl) rfl ?_
      refine lxs rfl rfl rfl guard_eq (.cons (t := 51) rfl (fun h => entW h) .nil) (op_move rfl) rfl ?_
      first | refine lxs rfl rfl rfl guard_w (.cons (t := 5) rfl (fun _ => Ent.refl _) .nil) (op_bload (m := 5) rfl rfl ag24 sz24) rfl ?_ | refine lxs rfl rfl rfl guard_w (.cons (t := 5) rfl (fun _ => Ent.refl _) .nil) (op_bload_part (m := 5) rfl rfl ag24 sz24 rfl rfl) rfl ?_
      first | refine lxs rfl rfl rfl guard_w (.cons (t := 53) rfl (fun h => entW h) .nil) (op_call (l := [(Go.Operand.tmp 53)]) (valid_ok _ newF_len) (.cons rfl .nil) fn14) rfl ?_ | refine lxs rfl rfl rfl guard_w (.cons (t := 53) rfl (fun h => entW h) .nil) (op_call (l := [(Go.Operand.tmp 53)]) (valid_ok _ newF_len) (.ent rfl (by repeat (first | exact Ent.refl _ | exact Ents.nil | exact Ent.nil _ _ | exact Ent.row _ _ _ _ | exact Ent.func _ | refine Ents.cons ?_ ?_ | refine Ent.tup ?_ | refine Ent.agg ?_ | refine Ent.cells ?_ | exact Ent.of_eq rfl)) .nil) fn14) rfl ?_
      refine lxs rfl rfl rfl guard_eq (.cons (t := 52) rfl (fun h => entW h) (.cons (t := 54) rfl (fun h => entS h) .nil)) (op_pick_or rfl rfl) rfl ?_
      refine lx (op_pick_and rfl rfl) rfl ?_
      refine lx (op_assign rfl) rfl ?_
      refine lx_end ⟨by kernel_rfl, ?_⟩
      refine pe_then_normal ?_
      refine tr_sub hC (.cons (t := 4) rfl .nil) .nil rfl ?_
      refine tr_ret ?_
      refine pe_ret1 rfl hO rfl (.tmp rfl .nil) ?_
      exact entB (by have h := @newF_valid kind obj off; by_cases h0 : (newF kind obj off).2 = 0 <;> simp [h0, h])

theorem law_ref (s : Sy) (g : Int) : FnP Try.prog 6 [aggP s.ps, eqP (.int .i64 g)] (eqP (.bool true)) := by
  refine fn_pure' Try.func6 rfl Try.ntmps6 rfl ?_
  intro σ0 M ex Rf R hC hO
  simp only [frameOf, tokOf]
  refine tr_seq ?_
  refine tr_region (fun N0 hN => ?_)
  refine lxn (op_box (m := 2) (k := 2) rfl (.agg rfl) (by first | exact hC.low _ (by decide) | rfl)) rfl ?_
  refine lx (op_assign rfl) rfl ?_
  refine lx_end ⟨by kernel_rfl, ?_⟩
  refine pe_then_normal ?_
  refine tr_sub hC (.cons (t := 1) rfl (.cons (t := 2) rfl .nil)) (.cons (t := 2) rfl .nil) rfl ?_
  refine tr_seq ?_
  refine tr_seq ?_
  refine tr_region (fun N1 hN => ?_)
  first | refine lx (op_call (l := []) (awake_ok) .nil fn9) rfl ?_ | refine lx (op_call (l := []) (awake_ok) .nil fn9) rfl ?_
  first | refine lx (op_not rfl) rfl ?_ | refine lx (op_not_b rfl) rfl ?_
  refine lx_end ⟨by kernel_rfl, ?_⟩
  refine pe_then_normal ?_
  refine tr_sub hC (.cons (t := 1) rfl (.cons (t := 2) rfl (.cons (t := 14) rfl .nil))) (.cons (t := 2) rfl .nil) rfl ?_
  refine tr_cond rfl (fun h14 => ?_) (fun h14 => ?_)
  · exact absurd h14 (by decide)
  · (try simp only [Bool.and_eq_true, Bool.or_eq_true, Bool.and_eq_false_iff, Bool.or_eq_false_iff, decide_eq_true_eq, decide_eq_false_iff_not, Bool.not_eq_true', Bool.not_eq_false', ne_eq, Decidable.not_not, Int.not_lt, Int.not_le] at h14)
    refine tr_skip ?_
    refine pe_then_normal ?_
    refine tr_sub hC (.cons (t := 1) rfl (.cons (t := 2) rfl .nil)) (.cons (t := 2) rfl .nil) rfl ?_
    refine tr_seq ?_
    refine tr_seq ?_
    refine tr_region (fun N3 hN => ?_)
    first | refine lx (op_bload (m := 2) rfl rfl ag24 sz24) rfl ?_ | refine lx (op_bload_part (m := 2) rfl rfl ag24 sz24 rfl rfl) rfl ?_
    first | refine lx (op_call (l := [(Go.Operand.tmp 15)]) (few_ok s) (.cons rfl .nil) fn10) rfl ?_ | refine lx (op_call (l := [(Go.Operand.tmp 15)]) (few_ok s) (.ent rfl (by repeat (first | exact Ent.refl _ | exact Ents.nil | exact Ent.nil _ _ | exact Ent.row _ _ _ _ | exact Ent.func _ | refine Ents.cons ?_ ?_ | refine Ent.tup ?_ | refine Ent.agg ?_ | refine Ent.cells ?_ | exact Ent.of_eq rfl)) .nil) fn10) rfl ?_
    first | refine lx (op_not rfl) rfl ?_ | refine lx (op_not_b rfl) rfl ?_
    refine lx_end ⟨by kernel_rfl, ?_⟩
    refine pe_then_normal ?_
    refine tr_sub hC (.cons (t := 1) rfl (.cons (t := 2) rfl (.cons (t := 17) rfl .nil))) (.cons (t := 2) rfl .nil) rfl ?_
    refine tr_cond rfl (fun h17 => ?_) (fun h17 => ?_)
    · (try simp only [Bool.and_eq_true, Bool.or_eq_true, Bool.and_eq_false_iff, Bool.or_eq_false_iff, decide_eq_true_eq, decide_eq_false_iff_not, Bool.not_eq_true', Bool.not_eq_false', ne_eq, Decidable.not_not, Int.not_lt, Int.not_le] at h17)
      refine tr_seq ?_
      refine tr_region (fun N4 hN => ?_)
      refine lx (op_assign rfl) rfl ?_
      refine lx_end ⟨by kernel_rfl, ?_⟩
      refine pe_then_normal ?_
      refine tr_sub hC (.cons (t := 4) rfl .nil) .nil rfl ?_
      refine tr_ret ?_
      refine pe_then_ret ?_
      refine pe_ret1 rfl hO rfl (.tmp rfl .nil) ?_
      repeat (first | exact Ent.refl _ | exact Ents.nil | exact Ent.nil _ _ | exact Ent.row _ _ _ _ | exact Ent.func _ | refine Ents.cons ?_ ?_ | refine Ent.tup ?_ | refine Ent.agg ?_ | refine Ent.cells ?_ | exact Ent.of_eq rfl)
    · (try simp only [Bool.and_eq_true, Bool.or_eq_true, Bool.and_eq_false_iff, Bool.or_eq_false_iff, decide_eq_true_eq, decide_eq_false_iff_not, Bool.not_eq_true', Bool.not_eq_false', ne_eq, Decidable.not_not, Int.not_lt, Int.not_le] at h17)
      have hx : s.readers.length ≤ 1000000 := by omega
      refine tr_skip ?_
      refine pe_then_normal ?_
      refine tr_sub hC (.cons (t := 1) rfl (.cons (t := 2) rfl .nil)) (.cons (t := 2) rfl .nil) rfl ?_
      refine tr_seq ?_
      refine tr_region (fun N5 hN => ?_)
      first | refine lx (op_bload (m := 2) rfl rfl ag24 sz24) rfl ?_ | refine lx (op_bload_part (m := 2) rfl rfl ag24 sz24 rfl rfl) rfl ?_
      refine lx (op_move rfl) rfl ?_
      first | refine lx (op_call (l := [(Go.Operand.tmp 19), (Go.Operand.tmp 20)]) (lock_ok s g hx) (.cons rfl (.cons rfl .nil)) fn20) rfl ?_ | refine lx (op_call (l := [(Go.Operand.tmp 19), (Go.Operand.tmp 20)]) (lock_ok s g hx) (.ent rfl (by repeat (first | exact Ent.refl _ | exact Ents.nil | exact Ent.nil _ _ | exact Ent.row _ _ _ _ | exact Ent.func _ | refine Ents.cons ?_ ?_ | refine Ent.tup ?_ | refine Ent.agg ?_ | refine Ent.cells ?_ | exact Ent.of_eq rfl)) (.ent rfl (by repeat (first | exact Ent.refl _ | exact Ents.nil | exact Ent.nil _ _ | exact Ent.row _ _ _ _ | exact Ent.func _ | refine Ents.cons ?_ ?_ | refine Ent.tup ?_ | refine Ent.agg ?_ | refine Ent.cells ?_ | exact Ent.of_eq rfl)) .nil)) fn20) rfl ?_
      refine lx (op_move rfl) rfl ?_
      refine lx (op_extract rfl rfl) rfl ?_
      refine lx (op_extract rfl rfl) rfl ?_
      refine lxn (op_alloc (m := 5) (k := 5) (ps := zps) ze24 rfl rfl (by first | exact hC.low _ (by decide) | rfl)) rfl ?_
      first | refine lxr (op_store_all (m := 5) rfl rfl rfl (.agg rfl) sz24 rfl) rfl ?_ | refine lxr (op_store (m := 5) rfl rfl rfl (.agg rfl) sz24 rfl rfl rfl) rfl ?_
      refine lx (op_assign rfl) rfl ?_
      refine lx_end ⟨by kernel_rfl, ?_⟩
      refine pe_then_normal ?_
      refine tr_sub hC (.cons (t := 1) rfl (.cons (t := 2) rfl (.cons (t := 5) rfl (.cons (t := 6) rfl .nil)))) (.cons (t := 2) rfl (.cons (t := 5) rfl .nil)) rfl ?_
      refine tr_seq ?_
      refine tr_region (fun N6 hN => ?_)
      first | refine lx (op_bload (m := 2) rfl rfl ag24 sz24) rfl ?_ | refine lx (op_bload_part (m := 2) rfl rfl ag24 sz24 rfl rfl) rfl ?_
      refine lx (op_move rfl) rfl ?_
      first | refine lx (op_call (l := [(Go.Operand.tmp 25), (Go.Operand.tmp 26)]) (rlock0_ok s g hx) (.cons rfl (.cons rfl .nil)) fn23) rfl ?_ | refine lx (op_call (l := [(Go.Operand.tmp 25), (Go.Operand.tmp 26)]) (rlock0_ok s g hx) (.ent rfl (by repeat (first | exact Ent.refl _ | exact Ents.nil | exact Ent.nil _ _ | exact Ent.row _ _ _ _ | exact Ent.func _ | refine Ents.cons ?_ ?_ | refine Ent.tup ?_ | refine Ent.agg ?_ | refine Ent.cells ?_ | exact Ent.of_eq rfl)) (.ent rfl (by repeat (first | exact Ent.refl _ | exact Ents.nil | exact Ent.nil _ _ | exact Ent.row _ _ _ _ | exact Ent.func _ | refine Ents.cons ?_ ?_ | refine Ent.tup ?_ | refine Ent.agg ?_ | refine Ent.cells ?_ | exact Ent.of_eq rfl)) .nil)) fn23) rfl ?_
      refine lx (op_move rfl) rfl ?_
      refine lx (op_extract rfl rfl) rfl ?_
      refine lx (op_extract rfl rfl) rfl ?_
      refine lxn (op_alloc (m := 7) (k := 7) (ps := zps) ze24 rfl rfl (by first | exact hC.low _ (by decide) | rfl)) rfl ?_
      first | refine lxr (op_store_all (m := 7) rfl rfl rfl (.agg rfl) sz24 rfl) rfl ?_ | refine lxr (op_store (m := 7) rfl rfl rfl (.agg rfl) sz24 rfl rfl rfl) rfl ?_
      refine lx (op_assign rfl) rfl ?_
      refine lx_end ⟨by kernel_rfl, ?_⟩
      refine pe_then_normal ?_
      refine tr_sub hC (.cons (t := 1) rfl (.cons (t := 2) rfl (.cons (t := 5) rfl (.cons (t := 6) rfl (.cons (t := 7) rfl (.cons (t := 8) rfl .nil)))))) (.cons (t := 2) rfl (.cons (t := 5) rfl (.cons (t := 7) rfl .nil))) rfl ?_
      refine tr_seq ?_
      refine tr_region (fun N7 hN => ?_)
      first | refine lx (op_bload (m := 2) rfl rfl ag24 sz24) rfl ?_ | refine lx (op_bload_part (m := 2) rfl rfl ag24 sz24 rfl rfl) rfl ?_
      refine lx (op_move rfl) rfl ?_
      first | refine lx (op_call (l := [(Go.Operand.tmp 31), (Go.Operand.tmp 32)]) (rlock_ok s g hx) (.cons rfl (.cons rfl .nil)) fn21) rfl ?_ | refine lx (op_call (l := [(Go.Operand.tmp 31), (Go.Operand.tmp 32)]) (rlock_ok s g hx) (.ent rfl (by repeat (first | exact Ent.refl _ | exact Ents.nil | exact Ent.nil _ _ | exact Ent.row _ _ _ _ | exact Ent.func _ | refine Ents.cons ?_ ?_ | refine Ent.tup ?_ | refine Ent.agg ?_ | refine Ent.cells ?_ | exact Ent.of_eq rfl)) (.ent rfl (by repeat (first | exact Ent.refl _ | exact Ents.nil | exact Ent.nil _ _ | exact Ent.row _ _ _ _ | exact Ent.func _ | refine Ents.cons ?_ ?_ | refine Ent.tup ?_ | refine Ent.agg ?_ | refine Ent.cells ?_ | exact Ent.of_eq rfl)) .nil)) fn21) rfl ?_
      refine lx (op_move rfl) rfl ?_
      refine lx (op_extract rfl rfl) rfl ?_
      refine lx (op_extract rfl rfl) rfl ?_
      refine lxn (op_alloc (m := 9) (k := 9) (ps := zps) ze24 rfl rfl (by first | exact hC.low _ (by decide) | rfl)) rfl ?_
      first | refine lxr (op_store_all (m := 9) rfl rfl rfl (.agg rfl) sz24 rfl) rfl ?_ | refine lxr (op_store (m := 9) rfl rfl rfl (.agg rfl) sz24 rfl rfl rfl) rfl ?_
      refine lx (op_assign rfl) rfl ?_
      refine lx_end ⟨by kernel_rfl, ?_⟩
      refine pe_then_normal ?_
      refine tr_sub hC (.cons (t := 1) rfl (.cons (t := 2) rfl (.cons (t := 5) rfl (.cons (t := 6) rfl (.cons (t := 7) rfl (.cons (t := 8) rfl (.cons (t := 9) rfl (.cons (t := 10) rfl .nil)))))))) (.cons (t := 2) rfl (.cons (t := 5) rfl (.cons (t := 7) rfl (.cons (t := 9) rfl .nil)))) rfl ?_
      refine tr_seq ?_
      refine tr_region (fun N8 hN => ?_)
      first | refine lx (op_bload (m := 2) rfl rfl ag24 sz24) rfl ?_ | refine lx (op_bload_part (m := 2) rfl rfl ag24 sz24 rfl rfl) rfl ?_
      refine lx (op_move rfl) rfl ?_
      first | refine lx (op_call (l := [(Go.Operand.tmp 37), (Go.Operand.tmp 38)]) (rrlock_ok s g hx) (.cons rfl (.cons rfl .nil)) fn24) rfl ?_ | refine lx (op_call (l := [(Go.Operand.tmp 37), (Go.Operand.tmp 38)]) (rrlock_ok s g hx) (.ent rfl (by repeat (first | exact Ent.refl _ | exact Ents.nil | exact Ent.nil _ _ | exact Ent.row _ _ _ _ | exact Ent.func _ | refine Ents.cons ?_ ?_ | refine Ent.tup ?_ | refine Ent.agg ?_ | refine Ent.cells ?_ | exact Ent.of_eq rfl)) (.ent rfl (by repeat (first | exact Ent.refl _ | exact Ents.nil | exact Ent.nil _ _ | exact Ent.row _ _ _ _ | exact Ent.func _ | refine Ents.cons ?_ ?_ | refine Ent.tup ?_ | refine Ent.agg ?_ | refine Ent.cells ?_ | exact Ent.of_eq rfl)) .nil)) fn24) rfl ?_
      refine lx (op_move rfl) rfl ?_
      refine lx (op_extract rfl rfl) rfl ?_
      refine lx (op_extract rfl rfl) rfl ?_
      refine lxn (op_alloc (m := 11) (k := 11) (ps := zps) ze24 rfl rfl (by first | exact hC.low _ (by decide) | rfl)) rfl ?_
      first | refine lxr (op_store_all (m := 11) rfl rfl rfl (.agg rfl) sz24 rfl) rfl ?_ | refine lxr (op_store (m := 11) rfl rfl rfl (.agg rfl) sz24 rfl rfl rfl) rfl ?_
      refine lx (op_assign rfl) rfl ?_
      refine lx_end ⟨by kernel_rfl, ?_⟩
      refine pe_then_normal ?_
      refine tr_sub hC (.cons (t := 1) rfl (.cons (t := 2) rfl (.cons (t := 5) rfl (.cons (t := 6) rfl (.cons (t := 7) rfl (.cons (t := 8) rfl (.cons (t := 9) rfl (.cons (t := 10) rfl (.cons (t := 11) rfl (.cons (t := 12) rfl .nil)))))))))) (.cons (t := 2) rfl (.cons (t := 5) rfl (.cons (t := 7) rfl (.cons (t := 9) rfl (.cons (t := 11) rfl .nil))))) rfl ?_
      refine tr_seq ?_
      refine tr_seq ?_
      refine tr_region (fun N9 hN => ?_)
      refine lx (op_move rfl) rfl ?_
      refine lx (op_move rfl) rfl ?_
      refine lx (op_neq rfl rfl) rfl ?_
      refine lx (op_move rfl) rfl ?_
      refine lxs rfl rfl rfl guard_eq (.cons (t := 10) rfl (fun _ => Ent.refl _) .nil) (op_move rfl) rfl ?_
      refine lxs rfl rfl rfl guard_eq (.cons (t := 12) rfl (fun _ => Ent.refl _) .nil) (op_move rfl) rfl ?_
      refine lxs rfl rfl rfl guard_eq (.cons (t := 46) rfl (fun h => entW h) (.cons (t := 47) rfl (fun h => entW h) .nil)) (op_neq rfl rfl) rfl ?_
      refine lx (op_pick_or rfl rfl) rfl ?_
      refine lx (op_move rfl) rfl ?_
      first | refine lxs rfl rfl rfl guard_eq (.cons (t := 5) rfl (fun _ => Ent.refl _) .nil) (op_bload (m := 5) rfl rfl ag24 sz24) rfl ?_ | refine lxs rfl rfl rfl guard_eq (.cons (t := 5) rfl (fun _ => Ent.refl _) .nil) (op_bload_part (m := 5) rfl rfl ag24 sz24 rfl rfl) rfl ?_
      first | refine lxs rfl rfl rfl guard_eq (.cons (t := 7) rfl (fun _ => Ent.refl _) .nil) (op_bload (m := 7) rfl rfl ag24 sz24) rfl ?_ | refine lxs rfl rfl rfl guard_eq (.cons (t := 7) rfl (fun _ => Ent.refl _) .nil) (op_bload_part (m := 7) rfl rfl ag24 sz24 rfl rfl) rfl ?_
      first | refine lxs rfl rfl rfl guard_eq (.cons (t := 51) rfl (fun h => entW h) (.cons (t := 52) rfl (fun h => entW h) .nil)) (op_call (l := [(Go.Operand.tmp 51), (Go.Operand.tmp 52)]) (same_ok _ _ lockF_len) (.cons rfl (.cons rfl .nil)) fn13) rfl ?_ | refine lxs rfl rfl rfl guard_eq (.cons (t := 51) rfl (fun h => entW h) (.cons (t := 52) rfl (fun h => entW h) .nil)) (op_call (l := [(Go.Operand.tmp 51), (Go.Operand.tmp 52)]) (same_ok _ _ lockF_len) (.ent rfl (by repeat (first | exact Ent.refl _ | exact Ents.nil | exact Ent.nil _ _ | exact Ent.row _ _ _ _ | exact Ent.func _ | refine Ents.cons ?_ ?_ | refine Ent.tup ?_ | refine Ent.agg ?_ | refine Ent.cells ?_ | exact Ent.of_eq rfl)) (.ent rfl (by repeat (first | exact Ent.refl _ | exact Ents.nil | exact Ent.nil _ _ | exact Ent.row _ _ _ _ | exact Ent.func _ | refine Ents.cons ?_ ?_ | refine Ent.tup ?_ | refine Ent.agg ?_ | refine Ent.cells ?_ | exact Ent.of_eq rfl)) .nil)) fn13) rfl ?_
      first | refine lxs rfl rfl rfl guard_eq (.cons (t := 53) rfl (fun h => entW h) .nil) (op_not rfl) rfl ?_ | refine lxs rfl rfl rfl guard_eq (.cons (t := 53) rfl (fun h => entW h) .nil) (op_not_b rfl) rfl ?_
      refine lx (op_pick_or rfl rfl) rfl ?_
      refine lx (op_move rfl) rfl ?_
      first | refine lxs rfl rfl rfl guard_eq (.cons (t := 9) rfl (fun _ => Ent.refl _) .nil) (op_bload (m := 9) rfl rfl ag24 sz24) rfl ?_ | refine lxs rfl rfl rfl guard_eq (.cons (t := 9) rfl (fun _ => Ent.refl _) .nil) (op_bload_part (m := 9) rfl rfl ag24 sz24 rfl rfl) rfl ?_
      first | refine lxs rfl rfl rfl guard_eq (.cons (t := 11) rfl (fun _ => Ent.refl _) .nil) (op_bload (m := 11) rfl rfl ag24 sz24) rfl ?_ | refine lxs rfl rfl rfl guard_eq (.cons (t := 11) rfl (fun _ => Ent.refl _) .nil) (op_bload_part (m := 11) rfl rfl ag24 sz24 rfl rfl) rfl ?_
      first | refine lxs rfl rfl rfl guard_eq (.cons (t := 57) rfl (fun h => entW h) (.cons (t := 58) rfl (fun h => entW h) .nil)) (op_call (l := [(Go.Operand.tmp 57), (Go.Operand.tmp 58)]) (same_ok _ _ (Nat.le_trans (rlockF_len (n := 40) (by omega)) (by decide))) (.cons rfl (.cons rfl .nil)) fn13) rfl ?_ | refine lxs rfl rfl rfl guard_eq (.cons (t := 57) rfl (fun h => entW h) (.cons (t := 58) rfl (fun h => entW h) .nil)) (op_call (l := [(Go.Operand.tmp 57), (Go.Operand.tmp 58)]) (same_ok _ _ (Nat.le_trans (rlockF_len (n := 40) (by omega)) (by decide))) (.ent rfl (by repeat (first | exact Ent.refl _ | exact Ents.nil | exact Ent.nil _ _ | exact Ent.row _ _ _ _ | exact Ent.func _ | refine Ents.cons ?_ ?_ | refine Ent.tup ?_ | refine Ent.agg ?_ | refine Ent.cells ?_ | exact Ent.of_eq rfl)) (.ent rfl (by repeat (first | exact Ent.refl _ | exact Ents.nil | exact Ent.nil _ _ | exact Ent.row _ _ _ _ | exact Ent.func _ | refine Ents.cons ?_ ?_ | refine Ent.tup ?_ | refine Ent.agg ?_ | refine Ent.cells ?_ | exact Ent.of_eq rfl)) .nil)) fn13) rfl ?_
      first | refine lxs rfl rfl rfl guard_eq (.cons (t := 59) rfl (fun h => entW h) .nil) (op_not rfl) rfl ?_ | refine lxs rfl rfl rfl guard_eq (.cons (t := 59) rfl (fun h => entW h) .nil) (op_not_b rfl) rfl ?_
      refine lx (op_pick_or rfl rfl) rfl ?_
      refine lx_end ⟨by kernel_rfl, ?_⟩
      refine pe_then_normal ?_
      refine tr_sub hC (.cons (t := 1) rfl (.cons (t := 2) rfl (.cons (t := 5) rfl (.cons (t := 7) rfl (.cons (t := 9) rfl (.cons (t := 11) rfl (.cons (t := 61) rfl .nil))))))) (.cons (t := 2) rfl (.cons (t := 5) rfl (.cons (t := 7) rfl (.cons (t := 9) rfl (.cons (t := 11) rfl .nil))))) rfl ?_
      refine tr_cond rfl (fun h61 => ?_) (fun h61 => ?_)
      · exact absurd h61 (by simp)
      · (try simp only [Bool.and_eq_true, Bool.or_eq_true, Bool.and_eq_false_iff, Bool.or_eq_false_iff, decide_eq_true_eq, decide_eq_false_iff_not, Bool.not_eq_true', Bool.not_eq_false', ne_eq, Decidable.not_not, Int.not_lt, Int.not_le] at h61)
        refine tr_skip ?_
        refine pe_then_normal ?_
        refine tr_sub hC (.cons (t := 1) rfl (.cons (t := 2) rfl (.cons (t := 5) rfl (.cons (t := 7) rfl (.cons (t := 9) rfl (.cons (t := 11) rfl .nil)))))) (.cons (t := 2) rfl (.cons (t := 5) rfl (.cons (t := 7) rfl (.cons (t := 9) rfl (.cons (t := 11) rfl .nil))))) rfl ?_
        refine tr_seq ?_
        refine tr_region (fun N11 hN => ?_)
        first | refine lx (op_bload (m := 2) rfl rfl ag24 sz24) rfl ?_ | refine lx (op_bload_part (m := 2) rfl rfl ag24 sz24 rfl rfl) rfl ?_
        first | refine lx (op_call (l := [(Go.Operand.tmp 63)]) (unlock_ok s hx) (.cons rfl .nil) fn25) rfl ?_ | refine lx (op_call (l := [(Go.Operand.tmp 63)]) (unlock_ok s hx) (.ent rfl (by repeat (first | exact Ent.refl _ | exact Ents.nil | exact Ent.nil _ _ | exact Ent.row _ _ _ _ | exact Ent.func _ | refine Ents.cons ?_ ?_ | refine Ent.tup ?_ | refine Ent.agg ?_ | refine Ent.cells ?_ | exact Ent.of_eq rfl)) .nil) fn25) rfl ?_
        refine lx (op_move rfl) rfl ?_
        refine lx (op_extract rfl rfl) rfl ?_
        refine lx (op_extract rfl rfl) rfl ?_
        first | refine lxr (op_store_all (m := 5) rfl rfl rfl (.agg rfl) sz24 rfl) rfl ?_ | refine lxr (op_store (m := 5) rfl rfl rfl (.agg rfl) sz24 rfl rfl rfl) rfl ?_
        refine lx (op_assign rfl) rfl ?_
        refine lx_end ⟨by kernel_rfl, ?_⟩
        refine pe_then_normal ?_
        refine tr_sub hC (.cons (t := 1) rfl (.cons (t := 2) rfl (.cons (t := 5) rfl (.cons (t := 6) rfl (.cons (t := 7) rfl (.cons (t := 9) rfl (.cons (t := 11) rfl .nil))))))) (.cons (t := 2) rfl (.cons (t := 5) rfl (.cons (t := 7) rfl (.cons (t := 9) rfl (.cons (t := 11) rfl .nil))))) rfl ?_
        refine tr_seq ?_
        refine tr_region (fun N12 hN => ?_)
        first | refine lx (op_bload (m := 2) rfl rfl ag24 sz24) rfl ?_ | refine lx (op_bload_part (m := 2) rfl rfl ag24 sz24 rfl rfl) rfl ?_
        first | refine lx (op_call (l := [(Go.Operand.tmp 68)]) (runlock0_ok s hx) (.cons rfl .nil) fn26) rfl ?_ | refine lx (op_call (l := [(Go.Operand.tmp 68)]) (runlock0_ok s hx) (.ent rfl (by repeat (first | exact Ent.refl _ | exact Ents.nil | exact Ent.nil _ _ | exact Ent.row _ _ _ _ | exact Ent.func _ | refine Ents.cons ?_ ?_ | refine Ent.tup ?_ | refine Ent.agg ?_ | refine Ent.cells ?_ | exact Ent.of_eq rfl)) .nil) fn26) rfl ?_
        refine lx (op_move rfl) rfl ?_
        refine lx (op_extract rfl rfl) rfl ?_
        refine lx (op_extract rfl rfl) rfl ?_
        first | refine lxr (op_store_all (m := 7) rfl rfl rfl (.agg rfl) sz24 rfl) rfl ?_ | refine lxr (op_store (m := 7) rfl rfl rfl (.agg rfl) sz24 rfl rfl rfl) rfl ?_
        refine lx (op_assign rfl) rfl ?_
        refine lx_end ⟨by kernel_rfl, ?_⟩
        refine pe_then_normal ?_
        refine tr_sub hC (.cons (t := 1) rfl (.cons (t := 2) rfl (.cons (t := 5) rfl (.cons (t := 6) rfl (.cons (t := 7) rfl (.cons (t := 8) rfl (.cons (t := 9) rfl (.cons (t := 11) rfl .nil)))))))) (.cons (t := 2) rfl (.cons (t := 5) rfl (.cons (t := 7) rfl (.cons (t := 9) rfl (.cons (t := 11) rfl .nil))))) rfl ?_
        refine tr_seq ?_
        refine tr_region (fun N13 hN => ?_)
        first | refine lx (op_bload (m := 2) rfl rfl ag24 sz24) rfl ?_ | refine lx (op_bload_part (m := 2) rfl rfl ag24 sz24 rfl rfl) rfl ?_
        refine lx (op_move rfl) rfl ?_
        first | refine lx (op_call (l := [(Go.Operand.tmp 73), (Go.Operand.tmp 74)]) (runlock_ok s g hx) (.cons rfl (.cons rfl .nil)) fn22) rfl ?_ | refine lx (op_call (l := [(Go.Operand.tmp 73), (Go.Operand.tmp 74)]) (runlock_ok s g hx) (.ent rfl (by repeat (first | exact Ent.refl _ | exact Ents.nil | exact Ent.nil _ _ | exact Ent.row _ _ _ _ | exact Ent.func _ | refine Ents.cons ?_ ?_ | refine Ent.tup ?_ | refine Ent.agg ?_ | refine Ent.cells ?_ | exact Ent.of_eq rfl)) (.ent rfl (by repeat (first | exact Ent.refl _ | exact Ents.nil | exact Ent.nil _ _ | exact Ent.row _ _ _ _ | exact Ent.func _ | refine Ents.cons ?_ ?_ | refine Ent.tup ?_ | refine Ent.agg ?_ | refine Ent.cells ?_ | exact Ent.of_eq rfl)) .nil)) fn22) rfl ?_
        refine lx (op_move rfl) rfl ?_
        refine lx (op_extract rfl rfl) rfl ?_
        refine lx (op_extract rfl rfl) rfl ?_
        first | refine lxr (op_store_all (m := 9) rfl rfl rfl (.agg rfl) sz24 rfl) rfl ?_ | refine lxr (op_store (m := 9) rfl rfl rfl (.agg rfl) sz24 rfl rfl rfl) rfl ?_
        refine lx (op_assign rfl) rfl ?_
        refine lx_end ⟨by kernel_rfl, ?_⟩
        refine pe_then_normal ?_
        refine tr_sub hC (.cons (t := 1) rfl (.cons (t := 2) rfl (.cons (t := 5) rfl (.cons (t := 6) rfl (.cons (t := 7) rfl (.cons (t := 8) rfl (.cons (t := 9) rfl (.cons (t := 10) rfl (.cons (t := 11) rfl .nil))))))))) (.cons (t := 2) rfl (.cons (t := 5) rfl (.cons (t := 7) rfl (.cons (t := 9) rfl (.cons (t := 11) rfl .nil))))) rfl ?_
        refine tr_seq ?_
        refine tr_region (fun N14 hN => ?_)
        first | refine lx (op_bload (m := 2) rfl rfl ag24 sz24) rfl ?_ | refine lx (op_bload_part (m := 2) rfl rfl ag24 sz24 rfl rfl) rfl ?_
        refine lx (op_move rfl) rfl ?_
        first | refine lx (op_call (l := [(Go.Operand.tmp 79), (Go.Operand.tmp 80)]) (rrunlock_ok s g hx) (.cons rfl (.cons rfl .nil)) fn27) rfl ?_ | refine lx (op_call (l := [(Go.Operand.tmp 79), (Go.Operand.tmp 80)]) (rrunlock_ok s g hx) (.ent rfl (by repeat (first | exact Ent.refl _ | exact Ents.nil | exact Ent.nil _ _ | exact Ent.row _ _ _ _ | exact Ent.func _ | refine Ents.cons ?_ ?_ | refine Ent.tup ?_ | refine Ent.agg ?_ | refine Ent.cells ?_ | exact Ent.of_eq rfl)) (.ent rfl (by repeat (first | exact Ent.refl _ | exact Ents.nil | exact Ent.nil _ _ | exact Ent.row _ _ _ _ | exact Ent.func _ | refine Ents.cons ?_ ?_ | refine Ent.tup ?_ | refine Ent.agg ?_ | refine Ent.cells ?_ | exact Ent.of_eq rfl)) .nil)) fn27) rfl ?_
        refine lx (op_move rfl) rfl ?_
        refine lx (op_extract rfl rfl) rfl ?_
        refine lx (op_extract rfl rfl) rfl ?_
        first | refine lxr (op_store_all (m := 11) rfl rfl rfl (.agg rfl) sz24 rfl) rfl ?_ | refine lxr (op_store (m := 11) rfl rfl rfl (.agg rfl) sz24 rfl rfl rfl) rfl ?_
        refine lx (op_assign rfl) rfl ?_
        refine lx_end ⟨by kernel_rfl, ?_⟩
        refine pe_then_normal ?_
        refine tr_sub hC (.cons (t := 5) rfl (.cons (t := 6) rfl (.cons (t := 7) rfl (.cons (t := 8) rfl (.cons (t := 9) rfl (.cons (t := 10) rfl (.cons (t := 11) rfl (.cons (t := 12) rfl .nil)))))))) (.cons (t := 5) rfl (.cons (t := 7) rfl (.cons (t := 9) rfl (.cons (t := 11) rfl .nil)))) rfl ?_
        refine tr_seq ?_
        refine tr_region (fun N15 hN => ?_)
        refine lx (op_move rfl) rfl ?_
        refine lx (op_move rfl) rfl ?_
        refine lx (op_eql rfl rfl) rfl ?_
        refine lx (op_move rfl) rfl ?_
        refine lxs rfl rfl rfl guard_eq (.cons (t := 10) rfl (fun _ => Ent.refl _) .nil) (op_move rfl) rfl ?_
        refine lxs rfl rfl rfl guard_eq (.cons (t := 12) rfl (fun _ => Ent.refl _) .nil) (op_move rfl) rfl ?_
        refine lxs rfl rfl rfl guard_eq (.cons (t := 88) rfl (fun h => entW h) (.cons (t := 89) rfl (fun h => entW h) .nil)) (op_eql rfl rfl) rfl ?_
        refine lx (op_pick_and rfl rfl) rfl ?_
        refine lx (op_move rfl) rfl ?_
        first | refine lxs rfl rfl rfl guard_eq (.cons (t := 5) rfl (fun _ => Ent.refl _) .nil) (op_bload (m := 5) rfl rfl ag24 sz24) rfl ?_ | refine lxs rfl rfl rfl guard_eq (.cons (t := 5) rfl (fun _ => Ent.refl _) .nil) (op_bload_part (m := 5) rfl rfl ag24 sz24 rfl rfl) rfl ?_
        first | refine lxs rfl rfl rfl guard_eq (.cons (t := 7) rfl (fun _ => Ent.refl _) .nil) (op_bload (m := 7) rfl rfl ag24 sz24) rfl ?_ | refine lxs rfl rfl rfl guard_eq (.cons (t := 7) rfl (fun _ => Ent.refl _) .nil) (op_bload_part (m := 7) rfl rfl ag24 sz24 rfl rfl) rfl ?_
        first | refine lxs rfl rfl rfl guard_eq (.cons (t := 93) rfl (fun h => entW h) (.cons (t := 94) rfl (fun h => entW h) .nil)) (op_call (l := [(Go.Operand.tmp 93), (Go.Operand.tmp 94)]) (same_ok _ _ unlockF_len) (.cons rfl (.cons rfl .nil)) fn13) rfl ?_ | refine lxs rfl rfl rfl guard_eq (.cons (t := 93) rfl (fun h => entW h) (.cons (t := 94) rfl (fun h => entW h) .nil)) (op_call (l := [(Go.Operand.tmp 93), (Go.Operand.tmp 94)]) (same_ok _ _ unlockF_len) (.ent rfl (by repeat (first | exact Ent.refl _ | exact Ents.nil | exact Ent.nil _ _ | exact Ent.row _ _ _ _ | exact Ent.func _ | refine Ents.cons ?_ ?_ | refine Ent.tup ?_ | refine Ent.agg ?_ | refine Ent.cells ?_ | exact Ent.of_eq rfl)) (.ent rfl (by repeat (first | exact Ent.refl _ | exact Ents.nil | exact Ent.nil _ _ | exact Ent.row _ _ _ _ | exact Ent.func _ | refine Ents.cons ?_ ?_ | refine Ent.tup ?_ | refine Ent.agg ?_ | refine Ent.cells ?_ | exact Ent.of_eq rfl)) .nil)) fn13) rfl ?_
        refine lx (op_pick_and rfl rfl) rfl ?_
        refine lx (op_move rfl) rfl ?_
        first | refine lxs rfl rfl rfl guard_eq (.cons (t := 9) rfl (fun _ => Ent.refl _) .nil) (op_bload (m := 9) rfl rfl ag24 sz24) rfl ?_ | refine lxs rfl rfl rfl guard_eq (.cons (t := 9) rfl (fun _ => Ent.refl _) .nil) (op_bload_part (m := 9) rfl rfl ag24 sz24 rfl rfl) rfl ?_
        first | refine lxs rfl rfl rfl guard_eq (.cons (t := 11) rfl (fun _ => Ent.refl _) .nil) (op_bload (m := 11) rfl rfl ag24 sz24) rfl ?_ | refine lxs rfl rfl rfl guard_eq (.cons (t := 11) rfl (fun _ => Ent.refl _) .nil) (op_bload_part (m := 11) rfl rfl ag24 sz24 rfl rfl) rfl ?_
        first | refine lxs rfl rfl rfl guard_eq (.cons (t := 98) rfl (fun h => entW h) (.cons (t := 99) rfl (fun h => entW h) .nil)) (op_call (l := [(Go.Operand.tmp 98), (Go.Operand.tmp 99)]) (same_ok _ _ (runlockF_len hx)) (.cons rfl (.cons rfl .nil)) fn13) rfl ?_ | refine lxs rfl rfl rfl guard_eq (.cons (t := 98) rfl (fun h => entW h) (.cons (t := 99) rfl (fun h => entW h) .nil)) (op_call (l := [(Go.Operand.tmp 98), (Go.Operand.tmp 99)]) (same_ok _ _ (runlockF_len hx)) (.ent rfl (by repeat (first | exact Ent.refl _ | exact Ents.nil | exact Ent.nil _ _ | exact Ent.row _ _ _ _ | exact Ent.func _ | refine Ents.cons ?_ ?_ | refine Ent.tup ?_ | refine Ent.agg ?_ | refine Ent.cells ?_ | exact Ent.of_eq rfl)) (.ent rfl (by repeat (first | exact Ent.refl _ | exact Ents.nil | exact Ent.nil _ _ | exact Ent.row _ _ _ _ | exact Ent.func _ | refine Ents.cons ?_ ?_ | refine Ent.tup ?_ | refine Ent.agg ?_ | refine Ent.cells ?_ | exact Ent.of_eq rfl)) .nil)) fn13) rfl ?_
        refine lx (op_pick_and rfl rfl) rfl ?_
        refine lx (op_assign rfl) rfl ?_
        refine lx_end ⟨by kernel_rfl, ?_⟩
        refine pe_then_normal ?_
        refine tr_sub hC (.cons (t := 4) rfl .nil) .nil rfl ?_
        refine tr_ret ?_
        refine pe_ret1 rfl hO rfl (.tmp rfl .nil) ?_
        exact entB (by simp)

theorem law_ready (s : Sy) (g : Int) (hg : 0 ≤ g) : FnP Try.prog 4 [aggP s.ps, eqP (.int .u8 g)] (eqP (.bool true)) := by
  refine fn_pure' Try.func4 rfl Try.ntmps4 rfl ?_
  intro σ0 M ex Rf R hC hO
  simp only [frameOf, tokOf]
  refine tr_seq ?_
  refine tr_region (fun N0 hN => ?_)
  refine lxn (op_box (m := 2) (k := 2) rfl (.agg rfl) (by first | exact hC.low _ (by decide) | rfl)) rfl ?_
  refine lx (op_assign rfl) rfl ?_
  refine lx_end ⟨by kernel_rfl, ?_⟩
  refine pe_then_normal ?_
  refine tr_sub hC (.cons (t := 1) rfl (.cons (t := 2) rfl .nil)) (.cons (t := 2) rfl .nil) rfl ?_
  refine tr_seq ?_
  refine tr_seq ?_
  refine tr_region (fun N1 hN => ?_)
  first | refine lx (op_call (l := []) (awake_ok) .nil fn9) rfl ?_ | refine lx (op_call (l := []) (awake_ok) .nil fn9) rfl ?_
  first | refine lx (op_not rfl) rfl ?_ | refine lx (op_not_b rfl) rfl ?_
  refine lx_end ⟨by kernel_rfl, ?_⟩
  refine pe_then_normal ?_
  refine tr_sub hC (.cons (t := 1) rfl (.cons (t := 2) rfl (.cons (t := 10) rfl .nil))) (.cons (t := 2) rfl .nil) rfl ?_
  refine tr_cond rfl (fun h10 => ?_) (fun h10 => ?_)
  · exact absurd h10 (by decide)
  · (try simp only [Bool.and_eq_true, Bool.or_eq_true, Bool.and_eq_false_iff, Bool.or_eq_false_iff, decide_eq_true_eq, decide_eq_false_iff_not, Bool.not_eq_true', Bool.not_eq_false', ne_eq, Decidable.not_not, Int.not_lt, Int.not_le] at h10)
    refine tr_skip ?_
    refine pe_then_normal ?_
    refine tr_sub hC (.cons (t := 1) rfl (.cons (t := 2) rfl .nil)) (.cons (t := 2) rfl .nil) rfl ?_
    refine tr_seq ?_
    refine tr_seq ?_
    refine tr_region (fun N3 hN => ?_)
    first | refine lx (op_bload (m := 2) rfl rfl ag24 sz24) rfl ?_ | refine lx (op_bload_part (m := 2) rfl rfl ag24 sz24 rfl rfl) rfl ?_
    first | refine lx (op_call (l := [(Go.Operand.tmp 11)]) (few_ok s) (.cons rfl .nil) fn10) rfl ?_ | refine lx (op_call (l := [(Go.Operand.tmp 11)]) (few_ok s) (.ent rfl (by repeat (first | exact Ent.refl _ | exact Ents.nil | exact Ent.nil _ _ | exact Ent.row _ _ _ _ | exact Ent.func _ | refine Ents.cons ?_ ?_ | refine Ent.tup ?_ | refine Ent.agg ?_ | refine Ent.cells ?_ | exact Ent.of_eq rfl)) .nil) fn10) rfl ?_
    first | refine lx (op_not rfl) rfl ?_ | refine lx (op_not_b rfl) rfl ?_
    refine lx_end ⟨by kernel_rfl, ?_⟩
    refine pe_then_normal ?_
    refine tr_sub hC (.cons (t := 1) rfl (.cons (t := 2) rfl (.cons (t := 13) rfl .nil))) (.cons (t := 2) rfl .nil) rfl ?_
    refine tr_cond rfl (fun h13 => ?_) (fun h13 => ?_)
    · (try simp only [Bool.and_eq_true, Bool.or_eq_true, Bool.and_eq_false_iff, Bool.or_eq_false_iff, decide_eq_true_eq, decide_eq_false_iff_not, Bool.not_eq_true', Bool.not_eq_false', ne_eq, Decidable.not_not, Int.not_lt, Int.not_le] at h13)
      refine tr_seq ?_
      refine tr_region (fun N4 hN => ?_)
      refine lx (op_assign rfl) rfl ?_
      refine lx_end ⟨by kernel_rfl, ?_⟩
      refine pe_then_normal ?_
      refine tr_sub hC (.cons (t := 4) rfl .nil) .nil rfl ?_
      refine tr_ret ?_
      refine pe_then_ret ?_
      refine pe_ret1 rfl hO rfl (.tmp rfl .nil) ?_
      repeat (first | exact Ent.refl _ | exact Ents.nil | exact Ent.nil _ _ | exact Ent.row _ _ _ _ | exact Ent.func _ | refine Ents.cons ?_ ?_ | refine Ent.tup ?_ | refine Ent.agg ?_ | refine Ent.cells ?_ | exact Ent.of_eq rfl)
    · (try simp only [Bool.and_eq_true, Bool.or_eq_true, Bool.and_eq_false_iff, Bool.or_eq_false_iff, decide_eq_true_eq, decide_eq_false_iff_not, Bool.not_eq_true', Bool.not_eq_false', ne_eq, Decidable.not_not, Int.not_lt, Int.not_le] at h13)
      have hx : s.readers.length ≤ 1000000 := by omega
      refine tr_skip ?_
      refine pe_then_normal ?_
      refine tr_sub hC (.cons (t := 1) rfl (.cons (t := 2) rfl .nil)) (.cons (t := 2) rfl .nil) rfl ?_
      refine tr_seq ?_
      refine tr_seq ?_
      refine tr_drawn mixed (fun N5 hN => ?_)
      first | refine lx (op_bload (m := 2) rfl rfl ag24 sz24) rfl ?_ | refine lx (op_bload_part (m := 2) rfl rfl ag24 sz24 rfl rfl) rfl ?_
      first | refine lx (op_call (l := [(Go.Operand.tmp 14)]) (canL_ok s) (.cons rfl .nil) fn16) rfl ?_ | refine lx (op_call (l := [(Go.Operand.tmp 14)]) (canL_ok s) (.ent rfl (by repeat (first | exact Ent.refl _ | exact Ents.nil | exact Ent.nil _ _ | exact Ent.row _ _ _ _ | exact Ent.func _ | refine Ents.cons ?_ ?_ | refine Ent.tup ?_ | refine Ent.agg ?_ | refine Ent.cells ?_ | exact Ent.of_eq rfl)) .nil) fn16) rfl ?_
      first | refine lx (op_bload (m := 2) rfl rfl ag24 sz24) rfl ?_ | refine lx (op_bload_part (m := 2) rfl rfl ag24 sz24 rfl rfl) rfl ?_
      first | refine lx (op_call (l := [(Go.Operand.tmp 16)]) (rcanL_ok s) (.cons rfl .nil) fn17) rfl ?_ | refine lx (op_call (l := [(Go.Operand.tmp 16)]) (rcanL_ok s) (.ent rfl (by repeat (first | exact Ent.refl _ | exact Ents.nil | exact Ent.nil _ _ | exact Ent.row _ _ _ _ | exact Ent.func _ | refine Ents.cons ?_ ?_ | refine Ent.tup ?_ | refine Ent.agg ?_ | refine Ent.cells ?_ | exact Ent.of_eq rfl)) .nil) fn17) rfl ?_
      refine lx (op_neq_bool bo4 rfl rfl) rfl ?_
      refine lx (op_move rfl) rfl ?_
      first | refine lxs rfl rfl rfl guard_eq (.cons (t := 2) rfl (fun _ => Ent.refl _) .nil) (op_bload (m := 2) rfl rfl ag24 sz24) rfl ?_ | refine lxs rfl rfl rfl guard_eq (.cons (t := 2) rfl (fun _ => Ent.refl _) .nil) (op_bload_part (m := 2) rfl rfl ag24 sz24 rfl rfl) rfl ?_
      first | refine lxs rfl rfl rfl guard_eq (.cons (t := 20) rfl (fun h => entW h) .nil) (op_call (l := [(Go.Operand.tmp 20)]) (canR_ok s) (.cons rfl .nil) fn18) rfl ?_ | refine lxs rfl rfl rfl guard_eq (.cons (t := 20) rfl (fun h => entW h) .nil) (op_call (l := [(Go.Operand.tmp 20)]) (canR_ok s) (.ent rfl (by repeat (first | exact Ent.refl _ | exact Ents.nil | exact Ent.nil _ _ | exact Ent.row _ _ _ _ | exact Ent.func _ | refine Ents.cons ?_ ?_ | refine Ent.tup ?_ | refine Ent.agg ?_ | refine Ent.cells ?_ | exact Ent.of_eq rfl)) .nil) fn18) rfl ?_
      first | refine lxs rfl rfl rfl guard_eq (.cons (t := 2) rfl (fun _ => Ent.refl _) .nil) (op_bload (m := 2) rfl rfl ag24 sz24) rfl ?_ | refine lxs rfl rfl rfl guard_eq (.cons (t := 2) rfl (fun _ => Ent.refl _) .nil) (op_bload_part (m := 2) rfl rfl ag24 sz24 rfl rfl) rfl ?_
      first | refine lxs rfl rfl rfl guard_eq (.cons (t := 22) rfl (fun h => entW h) .nil) (op_call (l := [(Go.Operand.tmp 22)]) (rcanR_ok s) (.cons rfl .nil) fn19) rfl ?_ | refine lxs rfl rfl rfl guard_eq (.cons (t := 22) rfl (fun h => entW h) .nil) (op_call (l := [(Go.Operand.tmp 22)]) (rcanR_ok s) (.ent rfl (by repeat (first | exact Ent.refl _ | exact Ents.nil | exact Ent.nil _ _ | exact Ent.row _ _ _ _ | exact Ent.func _ | refine Ents.cons ?_ ?_ | refine Ent.tup ?_ | refine Ent.agg ?_ | refine Ent.cells ?_ | exact Ent.of_eq rfl)) .nil) fn19) rfl ?_
      refine lxs rfl rfl rfl guard_eq (.cons (t := 21) rfl (fun h => entW h) (.cons (t := 23) rfl (fun h => entW h) .nil)) (op_neq_bool bo4 rfl rfl) rfl ?_
      refine lx (op_pick_or rfl rfl) rfl ?_
      refine lx_end ⟨by kernel_rfl, ?_⟩
      refine pe_then_normal ?_
      refine tr_sub hC (.cons (t := 1) rfl (.cons (t := 2) rfl (.cons (t := 25) rfl .nil))) (.cons (t := 2) rfl .nil) rfl ?_
      refine tr_cond rfl (fun h25 => ?_) (fun h25 => ?_)
      · exact absurd h25 (by simp)
      · (try simp only [Bool.and_eq_true, Bool.or_eq_true, Bool.and_eq_false_iff, Bool.or_eq_false_iff, decide_eq_true_eq, decide_eq_false_iff_not, Bool.not_eq_true', Bool.not_eq_false', ne_eq, Decidable.not_not, Int.not_lt, Int.not_le] at h25)
        refine tr_skip ?_
        refine pe_then_normal ?_
        refine tr_sub hC (.cons (t := 1) rfl (.cons (t := 2) rfl .nil)) (.cons (t := 2) rfl .nil) rfl ?_
        refine tr_seq ?_
        refine tr_seq ?_
        refine tr_region (fun N7 hN => ?_)
        first | refine lx (op_bload (m := 2) rfl rfl ag24 sz24) rfl ?_ | refine lx (op_bload_part (m := 2) rfl rfl ag24 sz24 rfl rfl) rfl ?_
        first | refine lx (op_call (l := [(Go.Operand.tmp 26)]) (rvalid_ok s hx) (.cons rfl .nil) fn15) rfl ?_ | refine lx (op_call (l := [(Go.Operand.tmp 26)]) (rvalid_ok s hx) (.ent rfl (by repeat (first | exact Ent.refl _ | exact Ents.nil | exact Ent.nil _ _ | exact Ent.row _ _ _ _ | exact Ent.func _ | refine Ents.cons ?_ ?_ | refine Ent.tup ?_ | refine Ent.agg ?_ | refine Ent.cells ?_ | exact Ent.of_eq rfl)) .nil) fn15) rfl ?_
        first | refine lx (op_not rfl) rfl ?_ | refine lx (op_not_b rfl) rfl ?_
        refine lx_end ⟨by kernel_rfl, ?_⟩
        refine pe_then_normal ?_
        refine tr_sub hC (.cons (t := 1) rfl (.cons (t := 2) rfl (.cons (t := 28) rfl .nil))) (.cons (t := 2) rfl .nil) rfl ?_
        refine tr_cond rfl (fun h28 => ?_) (fun h28 => ?_)
        · (try simp only [Bool.and_eq_true, Bool.or_eq_true, Bool.and_eq_false_iff, Bool.or_eq_false_iff, decide_eq_true_eq, decide_eq_false_iff_not, Bool.not_eq_true', Bool.not_eq_false', ne_eq, Decidable.not_not, Int.not_lt, Int.not_le] at h28)
          refine tr_seq ?_
          refine tr_region (fun N8 hN => ?_)
          refine lx (op_assign rfl) rfl ?_
          refine lx_end ⟨by kernel_rfl, ?_⟩
          refine pe_then_normal ?_
          refine tr_sub hC (.cons (t := 4) rfl .nil) .nil rfl ?_
          refine tr_ret ?_
          refine pe_then_ret ?_
          refine pe_ret1 rfl hO rfl (.tmp rfl .nil) ?_
          repeat (first | exact Ent.refl _ | exact Ents.nil | exact Ent.nil _ _ | exact Ent.row _ _ _ _ | exact Ent.func _ | refine Ents.cons ?_ ?_ | refine Ent.tup ?_ | refine Ent.agg ?_ | refine Ent.cells ?_ | exact Ent.of_eq rfl)
        · (try simp only [Bool.and_eq_true, Bool.or_eq_true, Bool.and_eq_false_iff, Bool.or_eq_false_iff, decide_eq_true_eq, decide_eq_false_iff_not, Bool.not_eq_true', Bool.not_eq_false', ne_eq, Decidable.not_not, Int.not_lt, Int.not_le] at h28)
          refine tr_skip ?_
          refine pe_then_normal ?_
          refine tr_sub hC (.cons (t := 1) rfl (.cons (t := 2) rfl .nil)) (.cons (t := 2) rfl .nil) rfl ?_
          refine tr_seq ?_
          refine tr_region (fun N9 hN => ?_)
          first | refine lx (op_bload (m := 2) rfl rfl ag24 sz24) rfl ?_ | refine lx (op_bload_part (m := 2) rfl rfl ag24 sz24 rfl rfl) rfl ?_
          refine lx (op_move rfl) rfl ?_
          refine lx (op_rem rfl rfl rfl) rfl ?_
          refine lx (op_convert rfl us5 ik3) rfl ?_
          first | refine lx (op_call (l := [(Go.Operand.tmp 30), (Go.Operand.tmp 33)]) (lock_ok s _ hx) (.cons rfl (.cons rfl .nil)) fn20) rfl ?_ | refine lx (op_call (l := [(Go.Operand.tmp 30), (Go.Operand.tmp 33)]) (lock_ok s _ hx) (.ent rfl (by repeat (first | exact Ent.refl _ | exact Ents.nil | exact Ent.nil _ _ | exact Ent.row _ _ _ _ | exact Ent.func _ | refine Ents.cons ?_ ?_ | refine Ent.tup ?_ | refine Ent.agg ?_ | refine Ent.cells ?_ | exact Ent.of_eq rfl)) (.ent rfl (by repeat (first | exact Ent.refl _ | exact Ents.nil | exact Ent.nil _ _ | exact Ent.row _ _ _ _ | exact Ent.func _ | refine Ents.cons ?_ ?_ | refine Ent.tup ?_ | refine Ent.agg ?_ | refine Ent.cells ?_ | exact Ent.of_eq rfl)) .nil)) fn20) rfl ?_
          refine lx (op_move rfl) rfl ?_
          refine lx (op_extract rfl rfl) rfl ?_
          refine lx (op_extract rfl rfl) rfl ?_
          refine lxn (op_alloc (m := 5) (k := 5) (ps := zps) ze24 rfl rfl (by first | exact hC.low _ (by decide) | rfl)) rfl ?_
          first | refine lxr (op_store_all (m := 5) rfl rfl rfl (.agg rfl) sz24 rfl) rfl ?_ | refine lxr (op_store (m := 5) rfl rfl rfl (.agg rfl) sz24 rfl rfl rfl) rfl ?_
          refine lx (op_assign rfl) rfl ?_
          refine lx_end ⟨by kernel_rfl, ?_⟩
          refine pe_then_normal ?_
          refine tr_sub hC (.cons (t := 1) rfl (.cons (t := 2) rfl (.cons (t := 6) rfl .nil))) (.cons (t := 2) rfl .nil) rfl ?_
          refine tr_seq ?_
          refine tr_region (fun N10 hN => ?_)
          first | refine lx (op_bload (m := 2) rfl rfl ag24 sz24) rfl ?_ | refine lx (op_bload_part (m := 2) rfl rfl ag24 sz24 rfl rfl) rfl ?_
          refine lx (op_move rfl) rfl ?_
          refine lx (op_rem rfl rfl rfl) rfl ?_
          refine lx (op_convert rfl us5 ik3) rfl ?_
          first | refine lx (op_call (l := [(Go.Operand.tmp 38), (Go.Operand.tmp 41)]) (rlock_ok s _ hx) (.cons rfl (.cons rfl .nil)) fn21) rfl ?_ | refine lx (op_call (l := [(Go.Operand.tmp 38), (Go.Operand.tmp 41)]) (rlock_ok s _ hx) (.ent rfl (by repeat (first | exact Ent.refl _ | exact Ents.nil | exact Ent.nil _ _ | exact Ent.row _ _ _ _ | exact Ent.func _ | refine Ents.cons ?_ ?_ | refine Ent.tup ?_ | refine Ent.agg ?_ | refine Ent.cells ?_ | exact Ent.of_eq rfl)) (.ent rfl (by repeat (first | exact Ent.refl _ | exact Ents.nil | exact Ent.nil _ _ | exact Ent.row _ _ _ _ | exact Ent.func _ | refine Ents.cons ?_ ?_ | refine Ent.tup ?_ | refine Ent.agg ?_ | refine Ent.cells ?_ | exact Ent.of_eq rfl)) .nil)) fn21) rfl ?_
          refine lx (op_move rfl) rfl ?_
          refine lx (op_extract rfl rfl) rfl ?_
          refine lx (op_extract rfl rfl) rfl ?_
          refine lxn (op_alloc (m := 7) (k := 7) (ps := zps) ze24 rfl rfl (by first | exact hC.low _ (by decide) | rfl)) rfl ?_
          first | refine lxr (op_store_all (m := 7) rfl rfl rfl (.agg rfl) sz24 rfl) rfl ?_ | refine lxr (op_store (m := 7) rfl rfl rfl (.agg rfl) sz24 rfl rfl rfl) rfl ?_
          refine lx (op_assign rfl) rfl ?_
          refine lx_end ⟨by kernel_rfl, ?_⟩
          refine pe_then_normal ?_
          refine tr_sub hC (.cons (t := 2) rfl (.cons (t := 6) rfl (.cons (t := 8) rfl .nil))) (.cons (t := 2) rfl .nil) rfl ?_
          refine tr_seq ?_
          refine tr_region (fun N11 hN => ?_)
          refine lx (op_move rfl) rfl ?_
          refine lx (op_eql rfl rfl) rfl ?_
          first | refine lx (op_bload (m := 2) rfl rfl ag24 sz24) rfl ?_ | refine lx (op_bload_part (m := 2) rfl rfl ag24 sz24 rfl rfl) rfl ?_
          first | refine lx (op_call (l := [(Go.Operand.tmp 47)]) (canL_ok s) (.cons rfl .nil) fn16) rfl ?_ | refine lx (op_call (l := [(Go.Operand.tmp 47)]) (canL_ok s) (.ent rfl (by repeat (first | exact Ent.refl _ | exact Ents.nil | exact Ent.nil _ _ | exact Ent.row _ _ _ _ | exact Ent.func _ | refine Ents.cons ?_ ?_ | refine Ent.tup ?_ | refine Ent.agg ?_ | refine Ent.cells ?_ | exact Ent.of_eq rfl)) .nil) fn16) rfl ?_
          refine lx (op_eql_bool bo4 rfl rfl) rfl ?_
          refine lx (op_move rfl) rfl ?_
          refine lxs rfl rfl rfl guard_eq (.cons (t := 8) rfl (fun _ => Ent.refl _) .nil) (op_move rfl) rfl ?_
          refine lxs rfl rfl rfl guard_eq (.cons (t := 51) rfl (fun h => entW h) .nil) (op_eql rfl rfl) rfl ?_
          first | refine lxs rfl rfl rfl guard_eq (.cons (t := 2) rfl (fun _ => Ent.refl _) .nil) (op_bload (m := 2) rfl rfl ag24 sz24) rfl ?_ | refine lxs rfl rfl rfl guard_eq (.cons (t := 2) rfl (fun _ => Ent.refl _) .nil) (op_bload_part (m := 2) rfl rfl ag24 sz24 rfl rfl) rfl ?_
          first | refine lxs rfl rfl rfl guard_eq (.cons (t := 53) rfl (fun h => entW h) .nil) (op_call (l := [(Go.Operand.tmp 53)]) (canR_ok s) (.cons rfl .nil) fn18) rfl ?_ | refine lxs rfl rfl rfl guard_eq (.cons (t := 53) rfl (fun h => entW h) .nil) (op_call (l := [(Go.Operand.tmp 53)]) (canR_ok s) (.ent rfl (by repeat (first | exact Ent.refl _ | exact Ents.nil | exact Ent.nil _ _ | exact Ent.row _ _ _ _ | exact Ent.func _ | refine Ents.cons ?_ ?_ | refine Ent.tup ?_ | refine Ent.agg ?_ | refine Ent.cells ?_ | exact Ent.of_eq rfl)) .nil) fn18) rfl ?_
          refine lxs rfl rfl rfl guard_eq (.cons (t := 52) rfl (fun h => entW h) (.cons (t := 54) rfl (fun h => entW h) .nil)) (op_eql_bool bo4 rfl rfl) rfl ?_
          refine lx (op_pick_and rfl rfl) rfl ?_
          refine lx (op_assign rfl) rfl ?_
          refine lx_end ⟨by kernel_rfl, ?_⟩
          refine pe_then_normal ?_
          refine tr_sub hC (.cons (t := 4) rfl .nil) .nil rfl ?_
          refine tr_ret ?_
          refine pe_ret1 rfl hO rfl (.tmp rfl .nil) ?_
          have hv : validF s = true := by simpa using h28
          exact entB (by rw [lock_e hv (goro8 hg), rlock_e hv (goro8 hg)]; simp)

end Go.Proofs.Ytopnkekmbohgoaa
