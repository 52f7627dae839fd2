/- Walks of the statements about layer 17 -/
import Derived.Test.YtagjjeofdcgcmaaChWalk8
import Derived.Test.YtagjjeofdcgcmaaChPlain4
set_option linter.unusedVariables false
set_option linter.unusedSimpArgs false
namespace Go.Proofs.Ytagjjeofdcgcmaa
open Go.AL Go.Ch Go.RowKit
theorem fl23_1 : fldB Try.prog 23 1 = some (1, 3) := by kernel_rfl
theorem fn11 : fnB Try.prog 11 = true := by kernel_rfl
theorem fn12 : fnB Try.prog 12 = true := by kernel_rfl
theorem fn13 : fnB Try.prog 13 = true := by kernel_rfl
theorem fn14 : fnB Try.prog 14 = true := by kernel_rfl
theorem fn15 : fnB Try.prog 15 = true := by kernel_rfl
theorem fn16 : fnB Try.prog 16 = true := by kernel_rfl
theorem fn17 : fnB Try.prog 17 = true := by kernel_rfl
theorem fn18 : fnB Try.prog 18 = true := by kernel_rfl
theorem fn19 : fnB Try.prog 19 = true := by kernel_rfl
theorem fn20 : fnB Try.prog 20 = true := by kernel_rfl
theorem fn21 : fnB Try.prog 21 = true := by kernel_rfl
theorem fn23 : fnB Try.prog 23 = true := by kernel_rfl
theorem fn24 : fnB Try.prog 24 = true := by kernel_rfl
theorem fn25 : fnB Try.prog 25 = true := by kernel_rfl
theorem fn26 : fnB Try.prog 26 = true := by kernel_rfl
theorem fn27 : fnB Try.prog 27 = true := by kernel_rfl
theorem fn28 : fnB Try.prog 28 = true := by kernel_rfl
theorem fn31 : fnB Try.prog 31 = true := by kernel_rfl
theorem fn32 : fnB Try.prog 32 = true := by kernel_rfl
theorem Send_f (o : Ob) (w : Wt) (hs : Small o) : FnP Try.prog 13 [aggP o.ps, aggP (wp w)] (tupP [aggP (sendF o w).1.ps, aggP (sendF o w).2.ps]) := by
  rw [← send_same]
  exact Send_ok o w hs
theorem Recv_f (o : Ob) (w : Wt) (hs : Small o) (hc : 0 ≤ o.cap) (hq : (o.queue.length : Int) ≤ o.cap) : FnP Try.prog 14 [aggP o.ps, aggP (wp w)] (tupP [aggP (recvF o w).1.ps, aggP (recvF o w).2.ps]) := by
  rw [← recv_same hc hq]
  exact Recv_ok o w hs
theorem Close_f (o : Ob) (hs : Lens o) (hv : Vd o) : FnP Try.prog 27 [aggP o.ps] (tupP [aggP (closeF o).1.ps, aggP (closeF o).2.ps]) := by
  rw [← close_same hv]
  exact Close_ok o hs
theorem awake_ok  : FnP Try.prog 11 [] (eqP (.bool true)) := by
  refine fn_pure' Try.func11 rfl Try.ntmps11 rfl ?_
  intro σ0 M ex Rf R hC hO
  simp only [frameOf, tokOf]
  refine tr_seq ?_
  refine tr_region (fun N0 hN => ?_)
  refine lx (op_assign rfl) rfl ?_
  refine lx_end ⟨by kernel_rfl, ?_⟩
  refine pe_then_normal ?_
  refine tr_sub hC .nil .nil rfl ?_
  refine tr_seq ?_
  refine tr_region (fun N1 hN => ?_)
  first | refine lx (op_call (l := [(Go.Operand.const (Go.Value.int Go.IntKind.i64 1))]) (New_ok 1) (.cons rfl .nil) fn12) rfl ?_ | refine lx (op_call (l := [(Go.Operand.const (Go.Value.int Go.IntKind.i64 1))]) (New_ok 1) (.ent rfl (by repeat (first | exact Ents.nil | refine Ents.cons ?_ ?_ | refine Ent.tup ?_ | refine Ent.agg ?_ | exact Ent.row _ _ _ _ | exact Ent.nil _ _ | exact Ent.func _ | exact Ent.refl _ | exact Ent.of_eq rfl | refine Ent.cells ?_)) .nil) fn12) rfl ?_
  refine lx (op_move rfl) rfl ?_
  refine lx (op_extract rfl rfl) rfl ?_
  refine lx (op_extract rfl rfl) rfl ?_
  refine lxn (op_alloc (m := 1) (k := 1) (ps := [eqP (.int .i64 0), eqP (.slice none 0 0), eqP (.bool false), eqP (.int .i64 0), eqP (.slice none 0 0), eqP (.bool false), eqP (.int .i64 0), eqP (.int .i64 0), eqP (.slice none 0 0), eqP (.slice none 0 0)]) ze28 rfl rfl (by first | exact hC.low _ (by decide) | rfl)) rfl ?_
  refine lxr (op_store_all (m := 1) rfl rfl rfl (.agg rfl) sz28 rfl) rfl ?_
  refine lx (op_assign rfl) rfl ?_
  refine lx_end ⟨by kernel_rfl, ?_⟩
  refine pe_then_normal ?_
  refine tr_sub hC (.cons (t := 1) rfl (.cons (t := 2) rfl .nil)) (.cons (t := 1) rfl .nil) rfl ?_
  refine tr_seq ?_
  refine tr_region (fun N2 hN => ?_)
  refine lx (op_bload (m := 1) rfl rfl ag28 sz28) rfl ?_
  refine lx (op_build (qs := [_, _, _]) (parts := [(1, (Go.Operand.const (Go.Value.int Go.IntKind.i64 5)))]) ze23 rfl rfl fs23 (.cons rfl (.one (by (first | exact One.eq rfl | exact One.mv _ _ _ _ _ | exact One.cl _ _ _ | exact One.map _ | exact One.sl _ _ _ | exact One.row _ _ _ _ | exact One.msl _ _ _ _ | exact One.ptr _ _ | exact One.b _ | exact One.cells _))) fl23_1 sz3 rfl .nil) rfl rfl) rfl ?_
  refine lx (op_build (qs := [_, _, _, _, _]) (parts := [(0, (Go.Operand.const (Go.Value.int Go.IntKind.i64 0))), (1, (Go.Operand.const (Go.Value.int Go.IntKind.i64 (-1)))), (2, (Go.Operand.tmp 15))]) ze33 rfl rfl fs33 (.cons rfl (.one (by (first | exact One.eq rfl | exact One.mv _ _ _ _ _ | exact One.cl _ _ _ | exact One.map _ | exact One.sl _ _ _ | exact One.row _ _ _ _ | exact One.msl _ _ _ _ | exact One.ptr _ _ | exact One.b _ | exact One.cells _))) fl33_0 sz3 rfl (.cons rfl (.one (by (first | exact One.eq rfl | exact One.mv _ _ _ _ _ | exact One.cl _ _ _ | exact One.map _ | exact One.sl _ _ _ | exact One.row _ _ _ _ | exact One.msl _ _ _ _ | exact One.ptr _ _ | exact One.b _ | exact One.cells _))) fl33_1 sz3 rfl (.cons rfl (.agg rfl) fl33_2 sz23 rfl .nil))) rfl rfl) rfl ?_
  first | refine lx (op_call (l := [(Go.Operand.tmp 14), (Go.Operand.tmp 16)]) (Send_f (newF 1).1 ⟨0, -1, ⟨0, 5, 0⟩⟩ ⟨⟨by decide, by decide, by decide, by decide⟩, by decide, by decide⟩) (.cons rfl (.cons rfl .nil)) fn13) rfl ?_ | refine lx (op_call (l := [(Go.Operand.tmp 14), (Go.Operand.tmp 16)]) (Send_f (newF 1).1 ⟨0, -1, ⟨0, 5, 0⟩⟩ ⟨⟨by decide, by decide, by decide, by decide⟩, by decide, by decide⟩) (.ent rfl (by repeat (first | exact Ents.nil | refine Ents.cons ?_ ?_ | refine Ent.tup ?_ | refine Ent.agg ?_ | exact Ent.row _ _ _ _ | exact Ent.nil _ _ | exact Ent.func _ | exact Ent.refl _ | exact Ent.of_eq rfl | refine Ent.cells ?_)) (.ent rfl (by repeat (first | exact Ents.nil | refine Ents.cons ?_ ?_ | refine Ent.tup ?_ | refine Ent.agg ?_ | exact Ent.row _ _ _ _ | exact Ent.nil _ _ | exact Ent.func _ | exact Ent.refl _ | exact Ent.of_eq rfl | refine Ent.cells ?_)) .nil)) fn13) rfl ?_
  refine lx (op_move rfl) rfl ?_
  refine lx (op_extract rfl rfl) rfl ?_
  refine lx (op_extract rfl rfl) rfl ?_
  refine lxn (op_alloc (m := 3) (k := 3) (ps := [eqP (.int .i64 0), eqP (.slice none 0 0), eqP (.bool false), eqP (.int .i64 0), eqP (.slice none 0 0), eqP (.bool false), eqP (.int .i64 0), eqP (.int .i64 0), eqP (.slice none 0 0), eqP (.slice none 0 0)]) ze28 rfl rfl (by first | exact hC.low _ (by decide) | rfl)) rfl ?_
  refine lxn (op_alloc (m := 4) (k := 4) (ps := [eqP (.int .i64 0), eqP (.int .i64 0), eqP (.int .i64 0), eqP (.int .i64 0), eqP (.bool false), eqP (.int .i64 0), eqP (.bool false), eqP (.int .i64 0), eqP (.int .i64 0), eqP (.int .i64 0), eqP (.int .i64 0), eqP (.int .i64 0), eqP (.int .i64 0), eqP (.slice none 0 0), eqP (.slice none 0 0)]) ze35 rfl rfl (by first | exact hC.low _ (by decide) | rfl)) rfl ?_
  refine lxr (op_store_all (m := 3) rfl rfl rfl (.agg rfl) sz28 rfl) rfl ?_
  refine lxr (op_store_all (m := 4) rfl rfl rfl (.agg rfl) sz35 rfl) rfl ?_
  refine lx_end ⟨by kernel_rfl, ?_⟩
  refine pe_then_normal ?_
  refine tr_sub hC (.cons (t := 2) rfl (.cons (t := 3) rfl (.cons (t := 4) rfl .nil))) (.cons (t := 3) rfl (.cons (t := 4) rfl .nil)) rfl ?_
  refine tr_seq ?_
  refine tr_region (fun N3 hN => ?_)
  refine lx (op_bload (m := 3) rfl rfl ag28 sz28) rfl ?_
  refine lx (op_build (qs := [_, _, _]) (parts := [(1, (Go.Operand.const (Go.Value.int Go.IntKind.i64 6)))]) ze23 rfl rfl fs23 (.cons rfl (.one (by (first | exact One.eq rfl | exact One.mv _ _ _ _ _ | exact One.cl _ _ _ | exact One.map _ | exact One.sl _ _ _ | exact One.row _ _ _ _ | exact One.msl _ _ _ _ | exact One.ptr _ _ | exact One.b _ | exact One.cells _))) fl23_1 sz3 rfl .nil) rfl rfl) rfl ?_
  refine lx (op_build (qs := [_, _, _, _, _]) (parts := [(0, (Go.Operand.const (Go.Value.int Go.IntKind.i64 1))), (1, (Go.Operand.const (Go.Value.int Go.IntKind.i64 (-1)))), (2, (Go.Operand.tmp 22))]) ze33 rfl rfl fs33 (.cons rfl (.one (by (first | exact One.eq rfl | exact One.mv _ _ _ _ _ | exact One.cl _ _ _ | exact One.map _ | exact One.sl _ _ _ | exact One.row _ _ _ _ | exact One.msl _ _ _ _ | exact One.ptr _ _ | exact One.b _ | exact One.cells _))) fl33_0 sz3 rfl (.cons rfl (.one (by (first | exact One.eq rfl | exact One.mv _ _ _ _ _ | exact One.cl _ _ _ | exact One.map _ | exact One.sl _ _ _ | exact One.row _ _ _ _ | exact One.msl _ _ _ _ | exact One.ptr _ _ | exact One.b _ | exact One.cells _))) fl33_1 sz3 rfl (.cons rfl (.agg rfl) fl33_2 sz23 rfl .nil))) rfl rfl) rfl ?_
  first | refine lx (op_call (l := [(Go.Operand.tmp 21), (Go.Operand.tmp 23)]) (Send_f (sendF (newF 1).1 ⟨0, -1, ⟨0, 5, 0⟩⟩).1 ⟨1, -1, ⟨0, 6, 0⟩⟩ ⟨⟨by decide, by decide, by decide, by decide⟩, by decide, by decide⟩) (.cons rfl (.cons rfl .nil)) fn13) rfl ?_ | refine lx (op_call (l := [(Go.Operand.tmp 21), (Go.Operand.tmp 23)]) (Send_f (sendF (newF 1).1 ⟨0, -1, ⟨0, 5, 0⟩⟩).1 ⟨1, -1, ⟨0, 6, 0⟩⟩ ⟨⟨by decide, by decide, by decide, by decide⟩, by decide, by decide⟩) (.ent rfl (by repeat (first | exact Ents.nil | refine Ents.cons ?_ ?_ | refine Ent.tup ?_ | refine Ent.agg ?_ | exact Ent.row _ _ _ _ | exact Ent.nil _ _ | exact Ent.func _ | exact Ent.refl _ | exact Ent.of_eq rfl | refine Ent.cells ?_)) (.ent rfl (by repeat (first | exact Ents.nil | refine Ents.cons ?_ ?_ | refine Ent.tup ?_ | refine Ent.agg ?_ | exact Ent.row _ _ _ _ | exact Ent.nil _ _ | exact Ent.func _ | exact Ent.refl _ | exact Ent.of_eq rfl | refine Ent.cells ?_)) .nil)) fn13) rfl ?_
  refine lx (op_move rfl) rfl ?_
  refine lx (op_extract rfl rfl) rfl ?_
  refine lx (op_extract rfl rfl) rfl ?_
  refine lxn (op_alloc (m := 5) (k := 5) (ps := [eqP (.int .i64 0), eqP (.slice none 0 0), eqP (.bool false), eqP (.int .i64 0), eqP (.slice none 0 0), eqP (.bool false), eqP (.int .i64 0), eqP (.int .i64 0), eqP (.slice none 0 0), eqP (.slice none 0 0)]) ze28 rfl rfl (by first | exact hC.low _ (by decide) | rfl)) rfl ?_
  refine lxn (op_alloc (m := 6) (k := 6) (ps := [eqP (.int .i64 0), eqP (.int .i64 0), eqP (.int .i64 0), eqP (.int .i64 0), eqP (.bool false), eqP (.int .i64 0), eqP (.bool false), eqP (.int .i64 0), eqP (.int .i64 0), eqP (.int .i64 0), eqP (.int .i64 0), eqP (.int .i64 0), eqP (.int .i64 0), eqP (.slice none 0 0), eqP (.slice none 0 0)]) ze35 rfl rfl (by first | exact hC.low _ (by decide) | rfl)) rfl ?_
  refine lxr (op_store_all (m := 5) rfl rfl rfl (.agg rfl) sz28 rfl) rfl ?_
  refine lxr (op_store_all (m := 6) rfl rfl rfl (.agg rfl) sz35 rfl) rfl ?_
  refine lx_end ⟨by kernel_rfl, ?_⟩
  refine pe_then_normal ?_
  refine tr_sub hC (.cons (t := 2) rfl (.cons (t := 4) rfl (.cons (t := 5) rfl (.cons (t := 6) rfl .nil)))) (.cons (t := 4) rfl (.cons (t := 5) rfl (.cons (t := 6) rfl .nil))) rfl ?_
  refine tr_seq ?_
  refine tr_region (fun N4 hN => ?_)
  refine lx (op_bload (m := 5) rfl rfl ag28 sz28) rfl ?_
  refine lx (op_build (qs := [_, _, _, _, _]) (parts := [(0, (Go.Operand.const (Go.Value.int Go.IntKind.i64 2))), (1, (Go.Operand.const (Go.Value.int Go.IntKind.i64 (-1))))]) ze33 rfl rfl fs33 (.cons rfl (.one (by (first | exact One.eq rfl | exact One.mv _ _ _ _ _ | exact One.cl _ _ _ | exact One.map _ | exact One.sl _ _ _ | exact One.row _ _ _ _ | exact One.msl _ _ _ _ | exact One.ptr _ _ | exact One.b _ | exact One.cells _))) fl33_0 sz3 rfl (.cons rfl (.one (by (first | exact One.eq rfl | exact One.mv _ _ _ _ _ | exact One.cl _ _ _ | exact One.map _ | exact One.sl _ _ _ | exact One.row _ _ _ _ | exact One.msl _ _ _ _ | exact One.ptr _ _ | exact One.b _ | exact One.cells _))) fl33_1 sz3 rfl .nil)) rfl rfl) rfl ?_
  first | refine lx (op_call (l := [(Go.Operand.tmp 28), (Go.Operand.tmp 29)]) (Recv_f (sendF (sendF (newF 1).1 ⟨0, -1, ⟨0, 5, 0⟩⟩).1 ⟨1, -1, ⟨0, 6, 0⟩⟩).1 ⟨2, -1, ⟨0, 0, 0⟩⟩ ⟨⟨by decide, by decide, by decide, by decide⟩, by decide, by decide⟩ (by decide) (by decide)) (.cons rfl (.cons rfl .nil)) fn14) rfl ?_ | refine lx (op_call (l := [(Go.Operand.tmp 28), (Go.Operand.tmp 29)]) (Recv_f (sendF (sendF (newF 1).1 ⟨0, -1, ⟨0, 5, 0⟩⟩).1 ⟨1, -1, ⟨0, 6, 0⟩⟩).1 ⟨2, -1, ⟨0, 0, 0⟩⟩ ⟨⟨by decide, by decide, by decide, by decide⟩, by decide, by decide⟩ (by decide) (by decide)) (.ent rfl (by repeat (first | exact Ents.nil | refine Ents.cons ?_ ?_ | refine Ent.tup ?_ | refine Ent.agg ?_ | exact Ent.row _ _ _ _ | exact Ent.nil _ _ | exact Ent.func _ | exact Ent.refl _ | exact Ent.of_eq rfl | refine Ent.cells ?_)) (.ent rfl (by repeat (first | exact Ents.nil | refine Ents.cons ?_ ?_ | refine Ent.tup ?_ | refine Ent.agg ?_ | exact Ent.row _ _ _ _ | exact Ent.nil _ _ | exact Ent.func _ | exact Ent.refl _ | exact Ent.of_eq rfl | refine Ent.cells ?_)) .nil)) fn14) rfl ?_
  refine lx (op_move rfl) rfl ?_
  refine lx (op_extract rfl rfl) rfl ?_
  refine lx (op_extract rfl rfl) rfl ?_
  refine lxn (op_alloc (m := 7) (k := 7) (ps := [eqP (.int .i64 0), eqP (.slice none 0 0), eqP (.bool false), eqP (.int .i64 0), eqP (.slice none 0 0), eqP (.bool false), eqP (.int .i64 0), eqP (.int .i64 0), eqP (.slice none 0 0), eqP (.slice none 0 0)]) ze28 rfl rfl (by first | exact hC.low _ (by decide) | rfl)) rfl ?_
  refine lxn (op_alloc (m := 8) (k := 8) (ps := [eqP (.int .i64 0), eqP (.int .i64 0), eqP (.int .i64 0), eqP (.int .i64 0), eqP (.bool false), eqP (.int .i64 0), eqP (.bool false), eqP (.int .i64 0), eqP (.int .i64 0), eqP (.int .i64 0), eqP (.int .i64 0), eqP (.int .i64 0), eqP (.int .i64 0), eqP (.slice none 0 0), eqP (.slice none 0 0)]) ze35 rfl rfl (by first | exact hC.low _ (by decide) | rfl)) rfl ?_
  refine lxr (op_store_all (m := 7) rfl rfl rfl (.agg rfl) sz28 rfl) rfl ?_
  refine lxr (op_store_all (m := 8) rfl rfl rfl (.agg rfl) sz35 rfl) rfl ?_
  refine lx_end ⟨by kernel_rfl, ?_⟩
  refine pe_then_normal ?_
  refine tr_sub hC (.cons (t := 2) rfl (.cons (t := 4) rfl (.cons (t := 5) rfl (.cons (t := 6) rfl (.cons (t := 7) rfl (.cons (t := 8) rfl .nil)))))) (.cons (t := 4) rfl (.cons (t := 5) rfl (.cons (t := 6) rfl (.cons (t := 7) rfl (.cons (t := 8) rfl .nil))))) rfl ?_
  refine tr_seq ?_
  refine tr_region (fun N5 hN => ?_)
  refine lx (op_move rfl) rfl ?_
  refine lx (op_eql rfl rfl) rfl ?_
  refine lx (op_move rfl) rfl ?_
  refine lxs rfl rfl rfl guard_eq (.cons (t := 4) rfl (fun _ => Ent.refl _) .nil) (op_fieldAddr rfl fl35_0 sz3) rfl ?_
  refine lxs rfl rfl rfl guard_eq (.cons (t := 36) rfl (fun h => entW h) .nil) (op_bload_one (m := 4) rfl rfl ag3 rfl) rfl ?_
  refine lxs rfl rfl rfl guard_eq (.cons (t := 37) rfl (fun h => entW h) .nil) (op_eql rfl rfl) rfl ?_
  refine lx (op_pick_and rfl rfl) rfl ?_
  refine lx (op_move rfl) rfl ?_
  refine lxs rfl rfl rfl guard_eq (.cons (t := 4) rfl (fun _ => Ent.refl _) .nil) (op_fieldAddr rfl fl35_3 sz3) rfl ?_
  refine lxs rfl rfl rfl guard_eq (.cons (t := 41) rfl (fun h => entW h) .nil) (op_bload_one (m := 4) rfl rfl ag3 rfl) rfl ?_
  refine lxs rfl rfl rfl guard_eq (.cons (t := 42) rfl (fun h => entW h) .nil) (op_eql rfl rfl) rfl ?_
  refine lx (op_pick_and rfl rfl) rfl ?_
  refine lx (op_move rfl) rfl ?_
  refine lxs rfl rfl rfl guard_eq (.cons (t := 6) rfl (fun _ => Ent.refl _) .nil) (op_fieldAddr rfl fl35_0 sz3) rfl ?_
  refine lxs rfl rfl rfl guard_eq (.cons (t := 46) rfl (fun h => entW h) .nil) (op_bload_one (m := 6) rfl rfl ag3 rfl) rfl ?_
  refine lxs rfl rfl rfl guard_eq (.cons (t := 47) rfl (fun h => entW h) .nil) (op_eql rfl rfl) rfl ?_
  refine lx (op_pick_and rfl rfl) rfl ?_
  refine lx (op_move rfl) rfl ?_
  refine lxs rfl rfl rfl guard_eq (.cons (t := 5) rfl (fun _ => Ent.refl _) .nil) (op_fieldAddr rfl fl28_8 sz26) rfl ?_
  refine lxs rfl rfl rfl guard_eq (.cons (t := 51) rfl (fun h => entW h) .nil) (op_bload_one (m := 5) rfl rfl ag26 rfl) rfl ?_
  first | refine lxs rfl rfl rfl guard_eq (.cons (t := 52) rfl (fun h => entW h) .nil) (op_len rfl el26) rfl ?_ | refine lxs rfl rfl rfl guard_eq (.cons (t := 52) rfl (fun h => entW h) .nil) (op_len_row rfl el26) rfl ?_ | refine lxs rfl rfl rfl guard_eq (.cons (t := 52) rfl (fun h => entW h) .nil) (op_len_mv rfl el26) rfl ?_ | refine lxs rfl rfl rfl guard_eq (.cons (t := 52) rfl (fun h => entW h) .nil) (op_len_nil rfl el26) rfl ?_
  refine lxs rfl rfl rfl guard_eq (.cons (t := 53) rfl (fun h => entW h) .nil) (op_eql rfl rfl) rfl ?_
  refine lx (op_pick_and rfl rfl) rfl ?_
  refine lx (op_move rfl) rfl ?_
  refine lxs rfl rfl rfl guard_eq (.cons (t := 8) rfl (fun _ => Ent.refl _) .nil) (op_fieldAddr rfl fl35_1 sz23) rfl ?_
  refine lxs rfl rfl rfl guard_eq (.cons (t := 57) rfl (fun h => entW h) .nil) (op_fieldAddr rfl fl23_1 sz3) rfl ?_
  refine lxs rfl rfl rfl guard_eq (.cons (t := 58) rfl (fun h => entW h) .nil) (op_bload_one (m := 8) rfl rfl ag3 rfl) rfl ?_
  refine lxs rfl rfl rfl guard_eq (.cons (t := 59) rfl (fun h => entW h) .nil) (op_eql rfl rfl) rfl ?_
  refine lx (op_pick_and rfl rfl) rfl ?_
  refine lx (op_move rfl) rfl ?_
  refine lxs rfl rfl rfl guard_eq (.cons (t := 8) rfl (fun _ => Ent.refl _) .nil) (op_fieldAddr rfl fl35_4 sz4) rfl ?_
  refine lxs rfl rfl rfl guard_eq (.cons (t := 63) rfl (fun h => entW h) .nil) (op_bload_one (m := 8) rfl rfl ag4 rfl) rfl ?_
  refine lx (op_pick_and rfl rfl) rfl ?_
  refine lx (op_move rfl) rfl ?_
  refine lxs rfl rfl rfl guard_eq (.cons (t := 8) rfl (fun _ => Ent.refl _) .nil) (op_fieldAddr rfl fl35_5 sz33) rfl ?_
  refine lxs rfl rfl rfl guard_eq (.cons (t := 67) rfl (fun h => entW h) .nil) (op_fieldAddr rfl fl33_0 sz3) rfl ?_
  refine lxs rfl rfl rfl guard_eq (.cons (t := 68) rfl (fun h => entW h) .nil) (op_bload_one (m := 8) rfl rfl ag3 rfl) rfl ?_
  refine lxs rfl rfl rfl guard_eq (.cons (t := 69) rfl (fun h => entW h) .nil) (op_eql rfl rfl) rfl ?_
  refine lx (op_pick_and rfl rfl) rfl ?_
  refine lx (op_move rfl) rfl ?_
  refine lxs rfl rfl rfl guard_eq (.cons (t := 8) rfl (fun _ => Ent.refl _) .nil) (op_fieldAddr rfl fl35_6 sz3) rfl ?_
  refine lxs rfl rfl rfl guard_eq (.cons (t := 73) rfl (fun h => entW h) .nil) (op_bload_one (m := 8) rfl rfl ag3 rfl) rfl ?_
  refine lxs rfl rfl rfl guard_eq (.cons (t := 74) rfl (fun h => entW h) .nil) (op_eql rfl rfl) rfl ?_
  refine lx (op_pick_and rfl rfl) rfl ?_
  refine lx (op_move rfl) rfl ?_
  refine lxs rfl rfl rfl guard_eq (.cons (t := 7) rfl (fun _ => Ent.refl _) .nil) (op_fieldAddr rfl fl28_4 sz25) rfl ?_
  refine lxs rfl rfl rfl guard_eq (.cons (t := 78) rfl (fun h => entW h) .nil) (op_bload_one (m := 7) rfl rfl ag25 rfl) rfl ?_
  first | refine lxs rfl rfl rfl guard_eq (.cons (t := 79) rfl (fun h => entW h) .nil) (op_len rfl el25) rfl ?_ | refine lxs rfl rfl rfl guard_eq (.cons (t := 79) rfl (fun h => entW h) .nil) (op_len_row rfl el25) rfl ?_ | refine lxs rfl rfl rfl guard_eq (.cons (t := 79) rfl (fun h => entW h) .nil) (op_len_mv rfl el25) rfl ?_ | refine lxs rfl rfl rfl guard_eq (.cons (t := 79) rfl (fun h => entW h) .nil) (op_len_nil rfl el25) rfl ?_
  refine lxs rfl rfl rfl guard_eq (.cons (t := 80) rfl (fun h => entW h) .nil) (op_eql rfl rfl) rfl ?_
  refine lx (op_pick_and rfl rfl) rfl ?_
  refine lx (op_move rfl) rfl ?_
  refine lxs rfl rfl rfl guard_eq (.cons (t := 7) rfl (fun _ => Ent.refl _) .nil) (op_fieldAddr rfl fl28_4 sz25) rfl ?_
  refine lxs rfl rfl rfl guard_eq (.cons (t := 84) rfl (fun h => entW h) .nil) (op_bload_one (m := 7) rfl rfl ag25 rfl) rfl ?_
  refine lxs rfl rfl rfl guard_eq (.cons (t := 85) rfl (fun h => entW h) .nil) (op_index rfl rfl el25 sz23 rfl (by rfl : (recvF (sendF (sendF (newF 1).1 ⟨0, -1, ⟨0, 5, 0⟩⟩).1 ⟨1, -1, ⟨0, 6, 0⟩⟩).1 ⟨2, -1, ⟨0, 0, 0⟩⟩).1.queue[0]? = some ⟨0, 6, 0⟩)) rfl ?_
  first | refine lxs rfl rfl rfl guard_eq (.cons (t := 86) rfl (fun h => entW h) .nil) (op_fieldAddr rfl fl23_1 sz3) rfl ?_ | refine lxs rfl rfl rfl guard_eq (.cons (t := 86) rfl (fun h => entW h) .nil) (op_fieldCells rfl fl23_1 sz3) rfl ?_
  first | refine lxs rfl rfl rfl guard_eq (.cons (t := 87) rfl (fun h => entW h) .nil) (op_load_one rfl ag3 rfl) rfl ?_ | refine lxs rfl rfl rfl guard_eq (.cons (t := 87) rfl (fun h => entW h) .nil) (op_bload_one (m := 4) rfl rfl ag3 rfl) rfl ?_ | refine lxs rfl rfl rfl guard_eq (.cons (t := 87) rfl (fun h => entW h) .nil) (op_bload_one (m := 5) rfl rfl ag3 rfl) rfl ?_ | refine lxs rfl rfl rfl guard_eq (.cons (t := 87) rfl (fun h => entW h) .nil) (op_bload_one (m := 6) rfl rfl ag3 rfl) rfl ?_ | refine lxs rfl rfl rfl guard_eq (.cons (t := 87) rfl (fun h => entW h) .nil) (op_bload_one (m := 7) rfl rfl ag3 rfl) rfl ?_ | refine lxs rfl rfl rfl guard_eq (.cons (t := 87) rfl (fun h => entW h) .nil) (op_bload_one (m := 8) rfl rfl ag3 rfl) rfl ?_
  refine lxs rfl rfl rfl guard_eq (.cons (t := 88) rfl (fun h => entW h) .nil) (op_eql rfl rfl) rfl ?_
  refine lx (op_pick_and rfl rfl) rfl ?_
  refine lx (op_assign rfl) rfl ?_
  refine lx_end ⟨by kernel_rfl, ?_⟩
  refine pe_then_normal ?_
  refine tr_sub hC (.cons (t := 0) rfl .nil) .nil rfl ?_
  refine tr_ret ?_
  refine pe_ret1 rfl hO rfl (.tmp rfl .nil) ?_
  exact entB (by decide)

theorem law_valid (o : Ob) (x : Int) : FnP Try.prog 10 [aggP o.ps, eqP (.int .i64 x)] (eqP (.bool true)) := by
  refine fn_pure' Try.func10 rfl Try.ntmps10 rfl ?_
  intro σ0 M ex Rf R hC hO
  simp only [frameOf, tokOf]
  refine tr_seq ?_
  refine tr_region (fun N0 hN => ?_)
  refine lxn (op_box (m := 2) (k := 2) rfl (.agg rfl) (by first | exact hC.low _ (by decide) | rfl)) rfl ?_
  refine lx (op_assign rfl) rfl ?_
  refine lx_end ⟨by kernel_rfl, ?_⟩
  refine pe_then_normal ?_
  refine tr_sub hC (.cons (t := 1) rfl (.cons (t := 2) rfl .nil)) (.cons (t := 2) rfl .nil) rfl ?_
  refine tr_seq ?_
  refine tr_seq ?_
  refine tr_region (fun N1 hN => ?_)
  first | refine lx (op_call (l := []) (awake_ok) .nil fn11) rfl ?_ | refine lx (op_call (l := []) (awake_ok) .nil fn11) rfl ?_
  first | refine lx (op_not rfl) rfl ?_ | refine lx (op_not_b rfl) rfl ?_
  refine lx_end ⟨by kernel_rfl, ?_⟩
  refine pe_then_normal ?_
  refine tr_sub hC (.cons (t := 1) rfl (.cons (t := 2) rfl (.cons (t := 10) rfl .nil))) (.cons (t := 2) rfl .nil) rfl ?_
  refine tr_cond rfl (fun h10 => ?_) (fun h10 => ?_)
  · exact absurd h10 (by decide)
  · (try simp only [Bool.and_eq_true, Bool.or_eq_true, Bool.and_eq_false_iff, Bool.or_eq_false_iff, decide_eq_true_eq, decide_eq_false_iff_not, Bool.not_eq_true', Bool.not_eq_false', List.length_map, ne_eq, Decidable.not_not, Int.not_lt, Int.not_le] at h10)
    refine tr_skip ?_
    refine pe_then_normal ?_
    refine tr_sub hC (.cons (t := 1) rfl (.cons (t := 2) rfl .nil)) (.cons (t := 2) rfl .nil) rfl ?_
    refine tr_seq ?_
    refine tr_seq ?_
    refine tr_region (fun N3 hN => ?_)
    refine lx (op_bload (m := 2) rfl rfl ag28 sz28) rfl ?_
    first | refine lx (op_call (l := [(Go.Operand.tmp 11)]) (few_ok _) (.cons rfl .nil) fn16) rfl ?_ | refine lx (op_call (l := [(Go.Operand.tmp 11)]) (few_ok _) (.ent rfl (by repeat (first | exact Ents.nil | refine Ents.cons ?_ ?_ | refine Ent.tup ?_ | refine Ent.agg ?_ | exact Ent.row _ _ _ _ | exact Ent.nil _ _ | exact Ent.func _ | exact Ent.refl _ | exact Ent.of_eq rfl | refine Ent.cells ?_)) .nil) fn16) rfl ?_
    first | refine lx (op_not rfl) rfl ?_ | refine lx (op_not_b rfl) rfl ?_
    refine lx_end ⟨by kernel_rfl, ?_⟩
    refine pe_then_normal ?_
    refine tr_sub hC (.cons (t := 1) rfl (.cons (t := 2) rfl (.cons (t := 13) rfl .nil))) (.cons (t := 2) rfl .nil) rfl ?_
    refine tr_cond rfl (fun h13 => ?_) (fun h13 => ?_)
    · (try simp only [Bool.and_eq_true, Bool.or_eq_true, Bool.and_eq_false_iff, Bool.or_eq_false_iff, decide_eq_true_eq, decide_eq_false_iff_not, Bool.not_eq_true', Bool.not_eq_false', List.length_map, ne_eq, Decidable.not_not, Int.not_lt, Int.not_le] at h13)
      refine tr_seq ?_
      refine tr_region (fun N4 hN => ?_)
      refine lx (op_assign rfl) rfl ?_
      refine lx_end ⟨by kernel_rfl, ?_⟩
      refine pe_then_normal ?_
      refine tr_sub hC (.cons (t := 4) rfl .nil) .nil rfl ?_
      refine tr_ret ?_
      refine pe_then_ret ?_
      refine pe_ret1 rfl hO rfl (.tmp rfl .nil) ?_
      repeat (first | exact Ents.nil | refine Ents.cons ?_ ?_ | refine Ent.tup ?_ | refine Ent.agg ?_ | exact Ent.row _ _ _ _ | exact Ent.nil _ _ | exact Ent.func _ | exact Ent.refl _ | exact Ent.of_eq rfl | refine Ent.cells ?_)
    · (try simp only [Bool.and_eq_true, Bool.or_eq_true, Bool.and_eq_false_iff, Bool.or_eq_false_iff, decide_eq_true_eq, decide_eq_false_iff_not, Bool.not_eq_true', Bool.not_eq_false', List.length_map, ne_eq, Decidable.not_not, Int.not_lt, Int.not_le] at h13)
      have hl : Lens o := (few_iff h13).lens
      have hn := new_few x
      refine tr_skip ?_
      refine pe_then_normal ?_
      refine tr_sub hC (.cons (t := 1) rfl (.cons (t := 2) rfl .nil)) (.cons (t := 2) rfl .nil) rfl ?_
      refine tr_seq ?_
      refine tr_region (fun N5 hN => ?_)
      refine lx (op_move rfl) rfl ?_
      first | refine lx (op_call (l := [(Go.Operand.tmp 15)]) (New_ok x) (.cons rfl .nil) fn12) rfl ?_ | refine lx (op_call (l := [(Go.Operand.tmp 15)]) (New_ok x) (.ent rfl (by repeat (first | exact Ents.nil | refine Ents.cons ?_ ?_ | refine Ent.tup ?_ | refine Ent.agg ?_ | exact Ent.row _ _ _ _ | exact Ent.nil _ _ | exact Ent.func _ | exact Ent.refl _ | exact Ent.of_eq rfl | refine Ent.cells ?_)) .nil) fn12) rfl ?_
      refine lx (op_move rfl) rfl ?_
      refine lx (op_extract rfl rfl) rfl ?_
      refine lx (op_extract rfl rfl) rfl ?_
      refine lxn (op_alloc (m := 5) (k := 5) (ps := [eqP (.int .i64 0), eqP (.slice none 0 0), eqP (.bool false), eqP (.int .i64 0), eqP (.slice none 0 0), eqP (.bool false), eqP (.int .i64 0), eqP (.int .i64 0), eqP (.slice none 0 0), eqP (.slice none 0 0)]) ze28 rfl rfl (by first | exact hC.low _ (by decide) | rfl)) rfl ?_
      refine lxr (op_store_all (m := 5) rfl rfl rfl (.agg rfl) sz28 rfl) rfl ?_
      refine lx (op_assign rfl) rfl ?_
      refine lx_end ⟨by kernel_rfl, ?_⟩
      refine pe_then_normal ?_
      refine tr_sub hC (.cons (t := 1) rfl (.cons (t := 2) rfl (.cons (t := 5) rfl (.cons (t := 6) rfl .nil)))) (.cons (t := 2) rfl (.cons (t := 5) rfl .nil)) rfl ?_
      refine tr_seq ?_
      refine tr_region (fun N6 hN => ?_)
      refine lx (op_move rfl) rfl ?_
      first | refine lx (op_call (l := [(Go.Operand.tmp 20)]) (rNew_ok x) (.cons rfl .nil) fn31) rfl ?_ | refine lx (op_call (l := [(Go.Operand.tmp 20)]) (rNew_ok x) (.ent rfl (by repeat (first | exact Ents.nil | refine Ents.cons ?_ ?_ | refine Ent.tup ?_ | refine Ent.agg ?_ | exact Ent.row _ _ _ _ | exact Ent.nil _ _ | exact Ent.func _ | exact Ent.refl _ | exact Ent.of_eq rfl | refine Ent.cells ?_)) .nil) fn31) rfl ?_
      refine lx (op_move rfl) rfl ?_
      refine lx (op_extract rfl rfl) rfl ?_
      refine lx (op_extract rfl rfl) rfl ?_
      refine lxn (op_alloc (m := 7) (k := 7) (ps := [eqP (.int .i64 0), eqP (.slice none 0 0), eqP (.bool false), eqP (.int .i64 0), eqP (.slice none 0 0), eqP (.bool false), eqP (.int .i64 0), eqP (.int .i64 0), eqP (.slice none 0 0), eqP (.slice none 0 0)]) ze28 rfl rfl (by first | exact hC.low _ (by decide) | rfl)) rfl ?_
      refine lxr (op_store_all (m := 7) rfl rfl rfl (.agg rfl) sz28 rfl) rfl ?_
      refine lx (op_assign rfl) rfl ?_
      refine lx_end ⟨by kernel_rfl, ?_⟩
      refine pe_then_normal ?_
      refine tr_sub hC (.cons (t := 2) rfl (.cons (t := 5) rfl (.cons (t := 6) rfl (.cons (t := 7) rfl (.cons (t := 8) rfl .nil))))) (.cons (t := 2) rfl (.cons (t := 5) rfl (.cons (t := 7) rfl .nil))) rfl ?_
      refine tr_seq ?_
      refine tr_drawn mixed (fun N7 hN => ?_)
      refine lx (op_bload (m := 2) rfl rfl ag28 sz28) rfl ?_
      first | refine lx (op_call (l := [(Go.Operand.tmp 24)]) (Valid_ok o hl) (.cons rfl .nil) fn32) rfl ?_ | refine lx (op_call (l := [(Go.Operand.tmp 24)]) (Valid_ok o hl) (.ent rfl (by repeat (first | exact Ents.nil | refine Ents.cons ?_ ?_ | refine Ent.tup ?_ | refine Ent.agg ?_ | exact Ent.row _ _ _ _ | exact Ent.nil _ _ | exact Ent.func _ | exact Ent.refl _ | exact Ent.of_eq rfl | refine Ent.cells ?_)) .nil) fn32) rfl ?_
      refine lx (op_bload (m := 2) rfl rfl ag28 sz28) rfl ?_
      first | refine lx (op_call (l := [(Go.Operand.tmp 26)]) (rValid_ok o hl) (.cons rfl .nil) fn17) rfl ?_ | refine lx (op_call (l := [(Go.Operand.tmp 26)]) (rValid_ok o hl) (.ent rfl (by repeat (first | exact Ents.nil | refine Ents.cons ?_ ?_ | refine Ent.tup ?_ | refine Ent.agg ?_ | exact Ent.row _ _ _ _ | exact Ent.nil _ _ | exact Ent.func _ | exact Ent.refl _ | exact Ent.of_eq rfl | refine Ent.cells ?_)) .nil) fn17) rfl ?_
      refine lx (op_eql_bool bo4 rfl rfl) rfl ?_
      refine lx (op_move rfl) rfl ?_
      refine lxs rfl rfl rfl guard_eq (.cons (t := 6) rfl (fun _ => Ent.refl _) .nil) (op_move rfl) rfl ?_
      refine lxs rfl rfl rfl guard_eq (.cons (t := 8) rfl (fun _ => Ent.refl _) .nil) (op_move rfl) rfl ?_
      refine lxs rfl rfl rfl guard_eq (.cons (t := 30) rfl (fun h => entW h) (.cons (t := 31) rfl (fun h => entW h) .nil)) (op_eql rfl rfl) rfl ?_
      refine lx (op_pick_and rfl rfl) rfl ?_
      refine lx (op_move rfl) rfl ?_
      refine lxs rfl rfl rfl guard_eq (.cons (t := 5) rfl (fun _ => Ent.refl _) .nil) (op_bload (m := 5) rfl rfl ag28 sz28) rfl ?_
      refine lxs rfl rfl rfl guard_eq (.cons (t := 7) rfl (fun _ => Ent.refl _) .nil) (op_bload (m := 7) rfl rfl ag28 sz28) rfl ?_
      first | refine lxs rfl rfl rfl guard_eq (.cons (t := 35) rfl (fun h => entW h) (.cons (t := 36) rfl (fun h => entW h) .nil)) (op_call (l := [(Go.Operand.tmp 35), (Go.Operand.tmp 36)]) (Same_ok _ _ hn.lens) (.cons rfl (.cons rfl .nil)) fn15) rfl ?_ | refine lxs rfl rfl rfl guard_eq (.cons (t := 35) rfl (fun h => entW h) (.cons (t := 36) rfl (fun h => entW h) .nil)) (op_call (l := [(Go.Operand.tmp 35), (Go.Operand.tmp 36)]) (Same_ok _ _ hn.lens) (.ent rfl (by repeat (first | exact Ents.nil | refine Ents.cons ?_ ?_ | refine Ent.tup ?_ | refine Ent.agg ?_ | exact Ent.row _ _ _ _ | exact Ent.nil _ _ | exact Ent.func _ | exact Ent.refl _ | exact Ent.of_eq rfl | refine Ent.cells ?_)) (.ent rfl (by repeat (first | exact Ents.nil | refine Ents.cons ?_ ?_ | refine Ent.tup ?_ | refine Ent.agg ?_ | exact Ent.row _ _ _ _ | exact Ent.nil _ _ | exact Ent.func _ | exact Ent.refl _ | exact Ent.of_eq rfl | refine Ent.cells ?_)) .nil)) fn15) rfl ?_
      refine lx (op_pick_and rfl rfl) rfl ?_
      refine lx (op_move rfl) rfl ?_
      refine lxs rfl rfl rfl guard_eq (.cons (t := 6) rfl (fun _ => Ent.refl _) .nil) (op_move rfl) rfl ?_
      refine lxs rfl rfl rfl guard_eq (.cons (t := 40) rfl (fun h => entW h) .nil) (op_neq rfl rfl) rfl ?_
      refine lxs rfl rfl rfl guard_eq (.cons (t := 41) rfl (fun h => entW h) .nil) (op_move rfl) rfl ?_
      refine lxs rfl rfl rfl guard_w (.cons (t := 5) rfl (fun _ => Ent.refl _) .nil) (op_bload (m := 5) rfl rfl ag28 sz28) rfl ?_
      first | refine lxs rfl rfl rfl guard_w (.cons (t := 43) rfl (fun h => entW h) .nil) (op_call (l := [(Go.Operand.tmp 43)]) (Valid_ok _ hn.lens) (.cons rfl .nil) fn32) rfl ?_ | refine lxs rfl rfl rfl guard_w (.cons (t := 43) rfl (fun h => entW h) .nil) (op_call (l := [(Go.Operand.tmp 43)]) (Valid_ok _ hn.lens) (.ent rfl (by repeat (first | exact Ents.nil | refine Ents.cons ?_ ?_ | refine Ent.tup ?_ | refine Ent.agg ?_ | exact Ent.row _ _ _ _ | exact Ent.nil _ _ | exact Ent.func _ | exact Ent.refl _ | exact Ent.of_eq rfl | refine Ent.cells ?_)) .nil) fn32) rfl ?_
      refine lxs rfl rfl rfl guard_eq (.cons (t := 42) rfl (fun h => entW h) (.cons (t := 44) rfl (fun h => entS h) .nil)) (op_pick_or rfl rfl) rfl ?_
      refine lx (op_pick_and rfl rfl) rfl ?_
      refine lx (op_assign rfl) rfl ?_
      refine lx_end ⟨by kernel_rfl, ?_⟩
      refine pe_then_normal ?_
      refine tr_sub hC (.cons (t := 4) rfl .nil) .nil rfl ?_
      refine tr_ret ?_
      refine pe_ret1 rfl hO rfl (.tmp rfl .nil) ?_
      refine entB ?_
      by_cases h : (newF x).2 = 0
      · simp [h, new_valid h]
      · simp [h]

theorem law_send (o : Ob) (w : Wt) : FnP Try.prog 4 [aggP o.ps, aggP (wp w)] (eqP (.bool true)) := by
  refine fn_pure' Try.func4 rfl Try.ntmps4 rfl ?_
  intro σ0 M ex Rf R hC hO
  simp only [frameOf, tokOf]
  refine tr_seq ?_
  refine tr_region (fun N0 hN => ?_)
  refine lxn (op_box (m := 2) (k := 2) rfl (.agg rfl) (by first | exact hC.low _ (by decide) | rfl)) rfl ?_
  refine lxn (op_box (m := 3) (k := 3) rfl (.agg rfl) (by first | exact hC.low _ (by decide) | rfl)) rfl ?_
  refine lx (op_assign rfl) rfl ?_
  refine lx_end ⟨by kernel_rfl, ?_⟩
  refine pe_then_normal ?_
  refine tr_sub hC (.cons (t := 2) rfl (.cons (t := 3) rfl .nil)) (.cons (t := 2) rfl (.cons (t := 3) rfl .nil)) rfl ?_
  refine tr_seq ?_
  refine tr_seq ?_
  refine tr_region (fun N1 hN => ?_)
  first | refine lx (op_call (l := []) (awake_ok) .nil fn11) rfl ?_ | refine lx (op_call (l := []) (awake_ok) .nil fn11) rfl ?_
  first | refine lx (op_not rfl) rfl ?_ | refine lx (op_not_b rfl) rfl ?_
  refine lx_end ⟨by kernel_rfl, ?_⟩
  refine pe_then_normal ?_
  refine tr_sub hC (.cons (t := 2) rfl (.cons (t := 3) rfl (.cons (t := 10) rfl .nil))) (.cons (t := 2) rfl (.cons (t := 3) rfl .nil)) rfl ?_
  refine tr_cond rfl (fun h10 => ?_) (fun h10 => ?_)
  · exact absurd h10 (by decide)
  · (try simp only [Bool.and_eq_true, Bool.or_eq_true, Bool.and_eq_false_iff, Bool.or_eq_false_iff, decide_eq_true_eq, decide_eq_false_iff_not, Bool.not_eq_true', Bool.not_eq_false', List.length_map, ne_eq, Decidable.not_not, Int.not_lt, Int.not_le] at h10)
    refine tr_skip ?_
    refine pe_then_normal ?_
    refine tr_sub hC (.cons (t := 2) rfl (.cons (t := 3) rfl .nil)) (.cons (t := 2) rfl (.cons (t := 3) rfl .nil)) rfl ?_
    refine tr_seq ?_
    refine tr_seq ?_
    refine tr_region (fun N3 hN => ?_)
    refine lx (op_bload (m := 2) rfl rfl ag28 sz28) rfl ?_
    first | refine lx (op_call (l := [(Go.Operand.tmp 11)]) (few_ok _) (.cons rfl .nil) fn16) rfl ?_ | refine lx (op_call (l := [(Go.Operand.tmp 11)]) (few_ok _) (.ent rfl (by repeat (first | exact Ents.nil | refine Ents.cons ?_ ?_ | refine Ent.tup ?_ | refine Ent.agg ?_ | exact Ent.row _ _ _ _ | exact Ent.nil _ _ | exact Ent.func _ | exact Ent.refl _ | exact Ent.of_eq rfl | refine Ent.cells ?_)) .nil) fn16) rfl ?_
    first | refine lx (op_not rfl) rfl ?_ | refine lx (op_not_b rfl) rfl ?_
    refine lx (op_move rfl) rfl ?_
    refine lxs rfl rfl rfl guard_eq (.cons (t := 2) rfl (fun _ => Ent.refl _) .nil) (op_bload (m := 2) rfl rfl ag28 sz28) rfl ?_
    refine lxsc (rd := [(15, aggP o.ps)]) (φ := eqP (.bool (validF o))) rfl rfl rfl guard_eq (.cons (t := 15) rfl (fun h => entW h) .nil) (fun hgd => ?_) rfl rfl ?_
    · have hl : Lens o := (few_iff (by simpa using hgd)).lens
      first | exact op_call (l := [(Go.Operand.tmp 15)]) (rValid_ok o hl) (.cons rfl .nil) fn17 | exact op_call (l := [(Go.Operand.tmp 15)]) (rValid_ok o hl) (.ent rfl (by repeat (first | exact Ents.nil | refine Ents.cons ?_ ?_ | refine Ent.tup ?_ | refine Ent.agg ?_ | exact Ent.row _ _ _ _ | exact Ent.nil _ _ | exact Ent.func _ | exact Ent.refl _ | exact Ent.of_eq rfl | refine Ent.cells ?_)) .nil) fn17
    first | refine lxs rfl rfl rfl guard_eq (.cons (t := 16) rfl (fun h => entW h) .nil) (op_not rfl) rfl ?_ | refine lxs rfl rfl rfl guard_eq (.cons (t := 16) rfl (fun h => entW h) .nil) (op_not_b rfl) rfl ?_
    refine lx (op_pick_or rfl rfl) rfl ?_
    refine lx (op_move rfl) rfl ?_
    refine lxs rfl rfl rfl guard_eq (.cons (t := 2) rfl (fun _ => Ent.refl _) .nil) (op_bload (m := 2) rfl rfl ag28 sz28) rfl ?_
    refine lxs rfl rfl rfl guard_eq (.cons (t := 3) rfl (fun _ => Ent.refl _) .nil) (op_bload (m := 3) rfl rfl ag33 sz33) rfl ?_
    refine lxs rfl rfl rfl guard_eq (.cons (t := 2) rfl (fun _ => Ent.refl _) .nil) (op_fieldAddr rfl fl28_9 sz26) rfl ?_
    refine lxs rfl rfl rfl guard_eq (.cons (t := 22) rfl (fun h => entW h) .nil) (op_bload_one (m := 2) rfl rfl ag26 rfl) rfl ?_
    refine lxsc (rd := [(20, aggP o.ps), (21, aggP (wp w)), (23, slP wp 5 o.receivers)]) (φ := eqP (.bool (fitsF o w o.receivers))) rfl rfl rfl guard_eq (.cons (t := 20) rfl (fun h => entW h) (.cons (t := 21) rfl (fun h => entW h) (.cons (t := 23) rfl (fun h => entW h) .nil))) (fun hgd => ?_) rfl rfl ?_
    · have hl : Few o := few_iff (by simp at hgd; exact hgd.1)
      first | exact op_call (l := [(Go.Operand.tmp 20), (Go.Operand.tmp 21), (Go.Operand.tmp 23)]) (fits_ok o w o.receivers hl.lens (by have := hl.s; have := hl.r; omega)) (.cons rfl (.cons rfl (.cons rfl .nil))) fn18 | exact op_call (l := [(Go.Operand.tmp 20), (Go.Operand.tmp 21), (Go.Operand.tmp 23)]) (fits_ok o w o.receivers hl.lens (by have := hl.s; have := hl.r; omega)) (.ent rfl (by repeat (first | exact Ents.nil | refine Ents.cons ?_ ?_ | refine Ent.tup ?_ | refine Ent.agg ?_ | exact Ent.row _ _ _ _ | exact Ent.nil _ _ | exact Ent.func _ | exact Ent.refl _ | exact Ent.of_eq rfl | refine Ent.cells ?_)) (.ent rfl (by repeat (first | exact Ents.nil | refine Ents.cons ?_ ?_ | refine Ent.tup ?_ | refine Ent.agg ?_ | exact Ent.row _ _ _ _ | exact Ent.nil _ _ | exact Ent.func _ | exact Ent.refl _ | exact Ent.of_eq rfl | refine Ent.cells ?_)) (.ent rfl (by repeat (first | exact Ents.nil | refine Ents.cons ?_ ?_ | refine Ent.tup ?_ | refine Ent.agg ?_ | exact Ent.row _ _ _ _ | exact Ent.nil _ _ | exact Ent.func _ | exact Ent.refl _ | exact Ent.of_eq rfl | refine Ent.cells ?_)) .nil))) fn18
    first | refine lxs rfl rfl rfl guard_eq (.cons (t := 24) rfl (fun h => entW h) .nil) (op_not rfl) rfl ?_ | refine lxs rfl rfl rfl guard_eq (.cons (t := 24) rfl (fun h => entW h) .nil) (op_not_b rfl) rfl ?_
    refine lx (op_pick_or rfl rfl) rfl ?_
    refine lx_end ⟨by kernel_rfl, ?_⟩
    refine pe_then_normal ?_
    refine tr_sub hC (.cons (t := 2) rfl (.cons (t := 3) rfl (.cons (t := 26) rfl .nil))) (.cons (t := 2) rfl (.cons (t := 3) rfl .nil)) rfl ?_
    refine tr_cond rfl (fun h26 => ?_) (fun h26 => ?_)
    · (try simp only [Bool.and_eq_true, Bool.or_eq_true, Bool.and_eq_false_iff, Bool.or_eq_false_iff, decide_eq_true_eq, decide_eq_false_iff_not, Bool.not_eq_true', Bool.not_eq_false', List.length_map, ne_eq, Decidable.not_not, Int.not_lt, Int.not_le] at h26)
      refine tr_seq ?_
      refine tr_region (fun N4 hN => ?_)
      refine lx (op_assign rfl) rfl ?_
      refine lx_end ⟨by kernel_rfl, ?_⟩
      refine pe_then_normal ?_
      refine tr_sub hC (.cons (t := 4) rfl .nil) .nil rfl ?_
      refine tr_ret ?_
      refine pe_then_ret ?_
      refine pe_ret1 rfl hO rfl (.tmp rfl .nil) ?_
      repeat (first | exact Ents.nil | refine Ents.cons ?_ ?_ | refine Ent.tup ?_ | refine Ent.agg ?_ | exact Ent.row _ _ _ _ | exact Ent.nil _ _ | exact Ent.func _ | exact Ent.refl _ | exact Ent.of_eq rfl | refine Ent.cells ?_)
    · (try simp only [Bool.and_eq_true, Bool.or_eq_true, Bool.and_eq_false_iff, Bool.or_eq_false_iff, decide_eq_true_eq, decide_eq_false_iff_not, Bool.not_eq_true', Bool.not_eq_false', List.length_map, ne_eq, Decidable.not_not, Int.not_lt, Int.not_le] at h26)
      have hf : Few o := few_iff h26.1.1
      have hv : Vd o := (valid_iff o).1 h26.1.2
      have hfit := fits_iff h26.2
      have hsm := hf.small hv
      obtain ⟨hf1, hwk, hfl⟩ := send_few w hf
      have hok := (valid_iff _).2 (send_valid hv hfit)
      refine tr_skip ?_
      refine pe_then_normal ?_
      refine tr_sub hC (.cons (t := 2) rfl (.cons (t := 3) rfl .nil)) (.cons (t := 2) rfl (.cons (t := 3) rfl .nil)) rfl ?_
      refine tr_seq ?_
      refine tr_region (fun N5 hN => ?_)
      refine lx (op_bload (m := 2) rfl rfl ag28 sz28) rfl ?_
      refine lx (op_bload (m := 3) rfl rfl ag33 sz33) rfl ?_
      first | refine lx (op_call (l := [(Go.Operand.tmp 28), (Go.Operand.tmp 29)]) (Send_f o w hsm) (.cons rfl (.cons rfl .nil)) fn13) rfl ?_ | refine lx (op_call (l := [(Go.Operand.tmp 28), (Go.Operand.tmp 29)]) (Send_f o w hsm) (.ent rfl (by repeat (first | exact Ents.nil | refine Ents.cons ?_ ?_ | refine Ent.tup ?_ | refine Ent.agg ?_ | exact Ent.row _ _ _ _ | exact Ent.nil _ _ | exact Ent.func _ | exact Ent.refl _ | exact Ent.of_eq rfl | refine Ent.cells ?_)) (.ent rfl (by repeat (first | exact Ents.nil | refine Ents.cons ?_ ?_ | refine Ent.tup ?_ | refine Ent.agg ?_ | exact Ent.row _ _ _ _ | exact Ent.nil _ _ | exact Ent.func _ | exact Ent.refl _ | exact Ent.of_eq rfl | refine Ent.cells ?_)) .nil)) fn13) rfl ?_
      refine lx (op_move rfl) rfl ?_
      refine lx (op_extract rfl rfl) rfl ?_
      refine lx (op_extract rfl rfl) rfl ?_
      refine lxn (op_alloc (m := 5) (k := 5) (ps := [eqP (.int .i64 0), eqP (.slice none 0 0), eqP (.bool false), eqP (.int .i64 0), eqP (.slice none 0 0), eqP (.bool false), eqP (.int .i64 0), eqP (.int .i64 0), eqP (.slice none 0 0), eqP (.slice none 0 0)]) ze28 rfl rfl (by first | exact hC.low _ (by decide) | rfl)) rfl ?_
      refine lxn (op_alloc (m := 6) (k := 6) (ps := [eqP (.int .i64 0), eqP (.int .i64 0), eqP (.int .i64 0), eqP (.int .i64 0), eqP (.bool false), eqP (.int .i64 0), eqP (.bool false), eqP (.int .i64 0), eqP (.int .i64 0), eqP (.int .i64 0), eqP (.int .i64 0), eqP (.int .i64 0), eqP (.int .i64 0), eqP (.slice none 0 0), eqP (.slice none 0 0)]) ze35 rfl rfl (by first | exact hC.low _ (by decide) | rfl)) rfl ?_
      refine lxr (op_store_all (m := 5) rfl rfl rfl (.agg rfl) sz28 rfl) rfl ?_
      refine lxr (op_store_all (m := 6) rfl rfl rfl (.agg rfl) sz35 rfl) rfl ?_
      refine lx_end ⟨by kernel_rfl, ?_⟩
      refine pe_then_normal ?_
      refine tr_sub hC (.cons (t := 2) rfl (.cons (t := 3) rfl (.cons (t := 5) rfl (.cons (t := 6) rfl .nil)))) (.cons (t := 2) rfl (.cons (t := 3) rfl (.cons (t := 5) rfl (.cons (t := 6) rfl .nil)))) rfl ?_
      refine tr_seq ?_
      refine tr_region (fun N6 hN => ?_)
      refine lx (op_bload (m := 2) rfl rfl ag28 sz28) rfl ?_
      refine lx (op_bload (m := 3) rfl rfl ag33 sz33) rfl ?_
      first | refine lx (op_call (l := [(Go.Operand.tmp 34), (Go.Operand.tmp 35)]) (rSend_ok o w hsm) (.cons rfl (.cons rfl .nil)) fn19) rfl ?_ | refine lx (op_call (l := [(Go.Operand.tmp 34), (Go.Operand.tmp 35)]) (rSend_ok o w hsm) (.ent rfl (by repeat (first | exact Ents.nil | refine Ents.cons ?_ ?_ | refine Ent.tup ?_ | refine Ent.agg ?_ | exact Ent.row _ _ _ _ | exact Ent.nil _ _ | exact Ent.func _ | exact Ent.refl _ | exact Ent.of_eq rfl | refine Ent.cells ?_)) (.ent rfl (by repeat (first | exact Ents.nil | refine Ents.cons ?_ ?_ | refine Ent.tup ?_ | refine Ent.agg ?_ | exact Ent.row _ _ _ _ | exact Ent.nil _ _ | exact Ent.func _ | exact Ent.refl _ | exact Ent.of_eq rfl | refine Ent.cells ?_)) .nil)) fn19) rfl ?_
      refine lx (op_move rfl) rfl ?_
      refine lx (op_extract rfl rfl) rfl ?_
      refine lx (op_extract rfl rfl) rfl ?_
      refine lxn (op_alloc (m := 7) (k := 7) (ps := [eqP (.int .i64 0), eqP (.slice none 0 0), eqP (.bool false), eqP (.int .i64 0), eqP (.slice none 0 0), eqP (.bool false), eqP (.int .i64 0), eqP (.int .i64 0), eqP (.slice none 0 0), eqP (.slice none 0 0)]) ze28 rfl rfl (by first | exact hC.low _ (by decide) | rfl)) rfl ?_
      refine lxn (op_alloc (m := 8) (k := 8) (ps := [eqP (.int .i64 0), eqP (.int .i64 0), eqP (.int .i64 0), eqP (.int .i64 0), eqP (.bool false), eqP (.int .i64 0), eqP (.bool false), eqP (.int .i64 0), eqP (.int .i64 0), eqP (.int .i64 0), eqP (.int .i64 0), eqP (.int .i64 0), eqP (.int .i64 0), eqP (.slice none 0 0), eqP (.slice none 0 0)]) ze35 rfl rfl (by first | exact hC.low _ (by decide) | rfl)) rfl ?_
      refine lxr (op_store_all (m := 7) rfl rfl rfl (.agg rfl) sz28 rfl) rfl ?_
      refine lxr (op_store_all (m := 8) rfl rfl rfl (.agg rfl) sz35 rfl) rfl ?_
      refine lx_end ⟨by kernel_rfl, ?_⟩
      refine pe_then_normal ?_
      refine tr_sub hC (.cons (t := 2) rfl (.cons (t := 3) rfl (.cons (t := 5) rfl (.cons (t := 6) rfl (.cons (t := 7) rfl (.cons (t := 8) rfl .nil)))))) (.cons (t := 2) rfl (.cons (t := 3) rfl (.cons (t := 5) rfl (.cons (t := 6) rfl (.cons (t := 7) rfl (.cons (t := 8) rfl .nil)))))) rfl ?_
      refine tr_seq ?_
      refine tr_drawn mixed (fun N7 hN => ?_)
      refine lx (op_bload (m := 5) rfl rfl ag28 sz28) rfl ?_
      refine lx (op_bload (m := 7) rfl rfl ag28 sz28) rfl ?_
      first | refine lx (op_call (l := [(Go.Operand.tmp 39), (Go.Operand.tmp 40)]) (Same_ok _ _ hf1.lens) (.cons rfl (.cons rfl .nil)) fn15) rfl ?_ | refine lx (op_call (l := [(Go.Operand.tmp 39), (Go.Operand.tmp 40)]) (Same_ok _ _ hf1.lens) (.ent rfl (by repeat (first | exact Ents.nil | refine Ents.cons ?_ ?_ | refine Ent.tup ?_ | refine Ent.agg ?_ | exact Ent.row _ _ _ _ | exact Ent.nil _ _ | exact Ent.func _ | exact Ent.refl _ | exact Ent.of_eq rfl | refine Ent.cells ?_)) (.ent rfl (by repeat (first | exact Ents.nil | refine Ents.cons ?_ ?_ | refine Ent.tup ?_ | refine Ent.agg ?_ | exact Ent.row _ _ _ _ | exact Ent.nil _ _ | exact Ent.func _ | exact Ent.refl _ | exact Ent.of_eq rfl | refine Ent.cells ?_)) .nil)) fn15) rfl ?_
      refine lx (op_move rfl) rfl ?_
      refine lxs rfl rfl rfl guard_eq (.cons (t := 6) rfl (fun _ => Ent.refl _) .nil) (op_bload (m := 6) rfl rfl ag35 sz35) rfl ?_
      refine lxs rfl rfl rfl guard_eq (.cons (t := 8) rfl (fun _ => Ent.refl _) .nil) (op_bload (m := 8) rfl rfl ag35 sz35) rfl ?_
      first | refine lxs rfl rfl rfl guard_eq (.cons (t := 43) rfl (fun h => entW h) (.cons (t := 44) rfl (fun h => entW h) .nil)) (op_call (l := [(Go.Operand.tmp 43), (Go.Operand.tmp 44)]) (SameT_ok _ _ hwk hfl) (.cons rfl (.cons rfl .nil)) fn20) rfl ?_ | refine lxs rfl rfl rfl guard_eq (.cons (t := 43) rfl (fun h => entW h) (.cons (t := 44) rfl (fun h => entW h) .nil)) (op_call (l := [(Go.Operand.tmp 43), (Go.Operand.tmp 44)]) (SameT_ok _ _ hwk hfl) (.ent rfl (by repeat (first | exact Ents.nil | refine Ents.cons ?_ ?_ | refine Ent.tup ?_ | refine Ent.agg ?_ | exact Ent.row _ _ _ _ | exact Ent.nil _ _ | exact Ent.func _ | exact Ent.refl _ | exact Ent.of_eq rfl | refine Ent.cells ?_)) (.ent rfl (by repeat (first | exact Ents.nil | refine Ents.cons ?_ ?_ | refine Ent.tup ?_ | refine Ent.agg ?_ | exact Ent.row _ _ _ _ | exact Ent.nil _ _ | exact Ent.func _ | exact Ent.refl _ | exact Ent.of_eq rfl | refine Ent.cells ?_)) .nil)) fn20) rfl ?_
      refine lx (op_pick_and rfl rfl) rfl ?_
      refine lx (op_move rfl) rfl ?_
      refine lxs rfl rfl rfl guard_eq (.cons (t := 5) rfl (fun _ => Ent.refl _) .nil) (op_bload (m := 5) rfl rfl ag28 sz28) rfl ?_
      first | refine lxs rfl rfl rfl guard_eq (.cons (t := 48) rfl (fun h => entW h) .nil) (op_call (l := [(Go.Operand.tmp 48)]) (rValid_ok _ hf1.lens) (.cons rfl .nil) fn17) rfl ?_ | refine lxs rfl rfl rfl guard_eq (.cons (t := 48) rfl (fun h => entW h) .nil) (op_call (l := [(Go.Operand.tmp 48)]) (rValid_ok _ hf1.lens) (.ent rfl (by repeat (first | exact Ents.nil | refine Ents.cons ?_ ?_ | refine Ent.tup ?_ | refine Ent.agg ?_ | exact Ent.row _ _ _ _ | exact Ent.nil _ _ | exact Ent.func _ | exact Ent.refl _ | exact Ent.of_eq rfl | refine Ent.cells ?_)) .nil) fn17) rfl ?_
      refine lx (op_pick_and rfl rfl) rfl ?_
      refine lx (op_move rfl) rfl ?_
      refine lxs rfl rfl rfl guard_eq (.cons (t := 6) rfl (fun _ => Ent.refl _) .nil) (op_fieldAddr rfl fl35_0 sz3) rfl ?_
      refine lxs rfl rfl rfl guard_eq (.cons (t := 52) rfl (fun h => entW h) .nil) (op_bload_one (m := 6) rfl rfl ag3 rfl) rfl ?_
      refine lxs rfl rfl rfl guard_eq (.cons (t := 53) rfl (fun h => entW h) .nil) (op_neq rfl rfl) rfl ?_
      refine lxs rfl rfl rfl guard_eq (.cons (t := 2) rfl (fun _ => Ent.refl _) .nil) (op_bload (m := 2) rfl rfl ag28 sz28) rfl ?_
      refine lxs rfl rfl rfl guard_eq (.cons (t := 3) rfl (fun _ => Ent.refl _) .nil) (op_fieldAddr rfl fl33_0 sz3) rfl ?_
      refine lxs rfl rfl rfl guard_eq (.cons (t := 56) rfl (fun h => entW h) .nil) (op_bload_one (m := 3) rfl rfl ag3 rfl) rfl ?_
      first | refine lxs rfl rfl rfl guard_eq (.cons (t := 55) rfl (fun h => entW h) (.cons (t := 57) rfl (fun h => entW h) .nil)) (op_call (l := [(Go.Operand.tmp 55), (Go.Operand.tmp 57)]) (rLeave_ok o w.g hsm.toLens) (.cons rfl (.cons rfl .nil)) fn22) rfl ?_ | refine lxs rfl rfl rfl guard_eq (.cons (t := 55) rfl (fun h => entW h) (.cons (t := 57) rfl (fun h => entW h) .nil)) (op_call (l := [(Go.Operand.tmp 55), (Go.Operand.tmp 57)]) (rLeave_ok o w.g hsm.toLens) (.ent rfl (by repeat (first | exact Ents.nil | refine Ents.cons ?_ ?_ | refine Ent.tup ?_ | refine Ent.agg ?_ | exact Ent.row _ _ _ _ | exact Ent.nil _ _ | exact Ent.func _ | exact Ent.refl _ | exact Ent.of_eq rfl | refine Ent.cells ?_)) (.ent rfl (by repeat (first | exact Ents.nil | refine Ents.cons ?_ ?_ | refine Ent.tup ?_ | refine Ent.agg ?_ | exact Ent.row _ _ _ _ | exact Ent.nil _ _ | exact Ent.func _ | exact Ent.refl _ | exact Ent.of_eq rfl | refine Ent.cells ?_)) .nil)) fn22) rfl ?_
      first | refine lxs rfl rfl rfl guard_eq (.cons (t := 58) rfl (fun h => entW h) .nil) (op_call (l := [(Go.Operand.tmp 58)]) (SendReady_ok _) (.cons rfl .nil) fn21) rfl ?_ | refine lxs rfl rfl rfl guard_eq (.cons (t := 58) rfl (fun h => entW h) .nil) (op_call (l := [(Go.Operand.tmp 58)]) (SendReady_ok _) (.ent rfl (by repeat (first | exact Ents.nil | refine Ents.cons ?_ ?_ | refine Ent.tup ?_ | refine Ent.agg ?_ | exact Ent.row _ _ _ _ | exact Ent.nil _ _ | exact Ent.func _ | exact Ent.refl _ | exact Ent.of_eq rfl | refine Ent.cells ?_)) .nil) fn21) rfl ?_
      refine lxs rfl rfl rfl guard_eq (.cons (t := 54) rfl (fun h => entW h) (.cons (t := 59) rfl (fun h => entW h) .nil)) (op_eql_bool bo4 rfl rfl) rfl ?_
      refine lx (op_pick_and rfl rfl) rfl ?_
      refine lx (op_assign rfl) rfl ?_
      refine lx_end ⟨by kernel_rfl, ?_⟩
      refine pe_then_normal ?_
      refine tr_sub hC (.cons (t := 4) rfl .nil) .nil rfl ?_
      refine tr_ret ?_
      refine pe_ret1 rfl hO rfl (.tmp rfl .nil) ?_
      refine entB ?_
      rw [← send_ready]
      simp [hok]

theorem law_recv (o : Ob) (w : Wt) : FnP Try.prog 5 [aggP o.ps, aggP (wp w)] (eqP (.bool true)) := by
  refine fn_pure' Try.func5 rfl Try.ntmps5 rfl ?_
  intro σ0 M ex Rf R hC hO
  simp only [frameOf, tokOf]
  refine tr_seq ?_
  refine tr_region (fun N0 hN => ?_)
  refine lxn (op_box (m := 2) (k := 2) rfl (.agg rfl) (by first | exact hC.low _ (by decide) | rfl)) rfl ?_
  refine lxn (op_box (m := 3) (k := 3) rfl (.agg rfl) (by first | exact hC.low _ (by decide) | rfl)) rfl ?_
  refine lx (op_assign rfl) rfl ?_
  refine lx_end ⟨by kernel_rfl, ?_⟩
  refine pe_then_normal ?_
  refine tr_sub hC (.cons (t := 2) rfl (.cons (t := 3) rfl .nil)) (.cons (t := 2) rfl (.cons (t := 3) rfl .nil)) rfl ?_
  refine tr_seq ?_
  refine tr_seq ?_
  refine tr_region (fun N1 hN => ?_)
  first | refine lx (op_call (l := []) (awake_ok) .nil fn11) rfl ?_ | refine lx (op_call (l := []) (awake_ok) .nil fn11) rfl ?_
  first | refine lx (op_not rfl) rfl ?_ | refine lx (op_not_b rfl) rfl ?_
  refine lx_end ⟨by kernel_rfl, ?_⟩
  refine pe_then_normal ?_
  refine tr_sub hC (.cons (t := 2) rfl (.cons (t := 3) rfl (.cons (t := 10) rfl .nil))) (.cons (t := 2) rfl (.cons (t := 3) rfl .nil)) rfl ?_
  refine tr_cond rfl (fun h10 => ?_) (fun h10 => ?_)
  · exact absurd h10 (by decide)
  · (try simp only [Bool.and_eq_true, Bool.or_eq_true, Bool.and_eq_false_iff, Bool.or_eq_false_iff, decide_eq_true_eq, decide_eq_false_iff_not, Bool.not_eq_true', Bool.not_eq_false', List.length_map, ne_eq, Decidable.not_not, Int.not_lt, Int.not_le] at h10)
    refine tr_skip ?_
    refine pe_then_normal ?_
    refine tr_sub hC (.cons (t := 2) rfl (.cons (t := 3) rfl .nil)) (.cons (t := 2) rfl (.cons (t := 3) rfl .nil)) rfl ?_
    refine tr_seq ?_
    refine tr_seq ?_
    refine tr_region (fun N3 hN => ?_)
    refine lx (op_bload (m := 2) rfl rfl ag28 sz28) rfl ?_
    first | refine lx (op_call (l := [(Go.Operand.tmp 11)]) (few_ok _) (.cons rfl .nil) fn16) rfl ?_ | refine lx (op_call (l := [(Go.Operand.tmp 11)]) (few_ok _) (.ent rfl (by repeat (first | exact Ents.nil | refine Ents.cons ?_ ?_ | refine Ent.tup ?_ | refine Ent.agg ?_ | exact Ent.row _ _ _ _ | exact Ent.nil _ _ | exact Ent.func _ | exact Ent.refl _ | exact Ent.of_eq rfl | refine Ent.cells ?_)) .nil) fn16) rfl ?_
    first | refine lx (op_not rfl) rfl ?_ | refine lx (op_not_b rfl) rfl ?_
    refine lx (op_move rfl) rfl ?_
    refine lxs rfl rfl rfl guard_eq (.cons (t := 2) rfl (fun _ => Ent.refl _) .nil) (op_bload (m := 2) rfl rfl ag28 sz28) rfl ?_
    refine lxsc (rd := [(15, aggP o.ps)]) (φ := eqP (.bool (validF o))) rfl rfl rfl guard_eq (.cons (t := 15) rfl (fun h => entW h) .nil) (fun hgd => ?_) rfl rfl ?_
    · have hl : Lens o := (few_iff (by simpa using hgd)).lens
      first | exact op_call (l := [(Go.Operand.tmp 15)]) (rValid_ok o hl) (.cons rfl .nil) fn17 | exact op_call (l := [(Go.Operand.tmp 15)]) (rValid_ok o hl) (.ent rfl (by repeat (first | exact Ents.nil | refine Ents.cons ?_ ?_ | refine Ent.tup ?_ | refine Ent.agg ?_ | exact Ent.row _ _ _ _ | exact Ent.nil _ _ | exact Ent.func _ | exact Ent.refl _ | exact Ent.of_eq rfl | refine Ent.cells ?_)) .nil) fn17
    first | refine lxs rfl rfl rfl guard_eq (.cons (t := 16) rfl (fun h => entW h) .nil) (op_not rfl) rfl ?_ | refine lxs rfl rfl rfl guard_eq (.cons (t := 16) rfl (fun h => entW h) .nil) (op_not_b rfl) rfl ?_
    refine lx (op_pick_or rfl rfl) rfl ?_
    refine lx (op_move rfl) rfl ?_
    refine lxs rfl rfl rfl guard_eq (.cons (t := 2) rfl (fun _ => Ent.refl _) .nil) (op_bload (m := 2) rfl rfl ag28 sz28) rfl ?_
    refine lxs rfl rfl rfl guard_eq (.cons (t := 3) rfl (fun _ => Ent.refl _) .nil) (op_bload (m := 3) rfl rfl ag33 sz33) rfl ?_
    refine lxs rfl rfl rfl guard_eq (.cons (t := 2) rfl (fun _ => Ent.refl _) .nil) (op_fieldAddr rfl fl28_8 sz26) rfl ?_
    refine lxs rfl rfl rfl guard_eq (.cons (t := 22) rfl (fun h => entW h) .nil) (op_bload_one (m := 2) rfl rfl ag26 rfl) rfl ?_
    refine lxsc (rd := [(20, aggP o.ps), (21, aggP (wp w)), (23, slP wp 5 o.senders)]) (φ := eqP (.bool (fitsF o w o.senders))) rfl rfl rfl guard_eq (.cons (t := 20) rfl (fun h => entW h) (.cons (t := 21) rfl (fun h => entW h) (.cons (t := 23) rfl (fun h => entW h) .nil))) (fun hgd => ?_) rfl rfl ?_
    · have hl : Few o := few_iff (by simp at hgd; exact hgd.1)
      first | exact op_call (l := [(Go.Operand.tmp 20), (Go.Operand.tmp 21), (Go.Operand.tmp 23)]) (fits_ok o w o.senders hl.lens (by have := hl.s; have := hl.r; omega)) (.cons rfl (.cons rfl (.cons rfl .nil))) fn18 | exact op_call (l := [(Go.Operand.tmp 20), (Go.Operand.tmp 21), (Go.Operand.tmp 23)]) (fits_ok o w o.senders hl.lens (by have := hl.s; have := hl.r; omega)) (.ent rfl (by repeat (first | exact Ents.nil | refine Ents.cons ?_ ?_ | refine Ent.tup ?_ | refine Ent.agg ?_ | exact Ent.row _ _ _ _ | exact Ent.nil _ _ | exact Ent.func _ | exact Ent.refl _ | exact Ent.of_eq rfl | refine Ent.cells ?_)) (.ent rfl (by repeat (first | exact Ents.nil | refine Ents.cons ?_ ?_ | refine Ent.tup ?_ | refine Ent.agg ?_ | exact Ent.row _ _ _ _ | exact Ent.nil _ _ | exact Ent.func _ | exact Ent.refl _ | exact Ent.of_eq rfl | refine Ent.cells ?_)) (.ent rfl (by repeat (first | exact Ents.nil | refine Ents.cons ?_ ?_ | refine Ent.tup ?_ | refine Ent.agg ?_ | exact Ent.row _ _ _ _ | exact Ent.nil _ _ | exact Ent.func _ | exact Ent.refl _ | exact Ent.of_eq rfl | refine Ent.cells ?_)) .nil))) fn18
    first | refine lxs rfl rfl rfl guard_eq (.cons (t := 24) rfl (fun h => entW h) .nil) (op_not rfl) rfl ?_ | refine lxs rfl rfl rfl guard_eq (.cons (t := 24) rfl (fun h => entW h) .nil) (op_not_b rfl) rfl ?_
    refine lx (op_pick_or rfl rfl) rfl ?_
    refine lx_end ⟨by kernel_rfl, ?_⟩
    refine pe_then_normal ?_
    refine tr_sub hC (.cons (t := 2) rfl (.cons (t := 3) rfl (.cons (t := 26) rfl .nil))) (.cons (t := 2) rfl (.cons (t := 3) rfl .nil)) rfl ?_
    refine tr_cond rfl (fun h26 => ?_) (fun h26 => ?_)
    · (try simp only [Bool.and_eq_true, Bool.or_eq_true, Bool.and_eq_false_iff, Bool.or_eq_false_iff, decide_eq_true_eq, decide_eq_false_iff_not, Bool.not_eq_true', Bool.not_eq_false', List.length_map, ne_eq, Decidable.not_not, Int.not_lt, Int.not_le] at h26)
      refine tr_seq ?_
      refine tr_region (fun N4 hN => ?_)
      refine lx (op_assign rfl) rfl ?_
      refine lx_end ⟨by kernel_rfl, ?_⟩
      refine pe_then_normal ?_
      refine tr_sub hC (.cons (t := 4) rfl .nil) .nil rfl ?_
      refine tr_ret ?_
      refine pe_then_ret ?_
      refine pe_ret1 rfl hO rfl (.tmp rfl .nil) ?_
      repeat (first | exact Ents.nil | refine Ents.cons ?_ ?_ | refine Ent.tup ?_ | refine Ent.agg ?_ | exact Ent.row _ _ _ _ | exact Ent.nil _ _ | exact Ent.func _ | exact Ent.refl _ | exact Ent.of_eq rfl | refine Ent.cells ?_)
    · (try simp only [Bool.and_eq_true, Bool.or_eq_true, Bool.and_eq_false_iff, Bool.or_eq_false_iff, decide_eq_true_eq, decide_eq_false_iff_not, Bool.not_eq_true', Bool.not_eq_false', List.length_map, ne_eq, Decidable.not_not, Int.not_lt, Int.not_le] at h26)
      have hf : Few o := few_iff h26.1.1
      have hv : Vd o := (valid_iff o).1 h26.1.2
      have hfit := fits_iff h26.2
      have hsm := hf.small hv
      obtain ⟨hf1, hwk, hfl⟩ := recv_few w hf
      have hok := (valid_iff _).2 (recv_valid hv hfit)
      refine tr_skip ?_
      refine pe_then_normal ?_
      refine tr_sub hC (.cons (t := 2) rfl (.cons (t := 3) rfl .nil)) (.cons (t := 2) rfl (.cons (t := 3) rfl .nil)) rfl ?_
      refine tr_seq ?_
      refine tr_region (fun N5 hN => ?_)
      refine lx (op_bload (m := 2) rfl rfl ag28 sz28) rfl ?_
      refine lx (op_bload (m := 3) rfl rfl ag33 sz33) rfl ?_
      first | refine lx (op_call (l := [(Go.Operand.tmp 28), (Go.Operand.tmp 29)]) (Recv_f o w hsm hv.h1.2.2.1 hv.h1.2.2.2.2.1) (.cons rfl (.cons rfl .nil)) fn14) rfl ?_ | refine lx (op_call (l := [(Go.Operand.tmp 28), (Go.Operand.tmp 29)]) (Recv_f o w hsm hv.h1.2.2.1 hv.h1.2.2.2.2.1) (.ent rfl (by repeat (first | exact Ents.nil | refine Ents.cons ?_ ?_ | refine Ent.tup ?_ | refine Ent.agg ?_ | exact Ent.row _ _ _ _ | exact Ent.nil _ _ | exact Ent.func _ | exact Ent.refl _ | exact Ent.of_eq rfl | refine Ent.cells ?_)) (.ent rfl (by repeat (first | exact Ents.nil | refine Ents.cons ?_ ?_ | refine Ent.tup ?_ | refine Ent.agg ?_ | exact Ent.row _ _ _ _ | exact Ent.nil _ _ | exact Ent.func _ | exact Ent.refl _ | exact Ent.of_eq rfl | refine Ent.cells ?_)) .nil)) fn14) rfl ?_
      refine lx (op_move rfl) rfl ?_
      refine lx (op_extract rfl rfl) rfl ?_
      refine lx (op_extract rfl rfl) rfl ?_
      refine lxn (op_alloc (m := 5) (k := 5) (ps := [eqP (.int .i64 0), eqP (.slice none 0 0), eqP (.bool false), eqP (.int .i64 0), eqP (.slice none 0 0), eqP (.bool false), eqP (.int .i64 0), eqP (.int .i64 0), eqP (.slice none 0 0), eqP (.slice none 0 0)]) ze28 rfl rfl (by first | exact hC.low _ (by decide) | rfl)) rfl ?_
      refine lxn (op_alloc (m := 6) (k := 6) (ps := [eqP (.int .i64 0), eqP (.int .i64 0), eqP (.int .i64 0), eqP (.int .i64 0), eqP (.bool false), eqP (.int .i64 0), eqP (.bool false), eqP (.int .i64 0), eqP (.int .i64 0), eqP (.int .i64 0), eqP (.int .i64 0), eqP (.int .i64 0), eqP (.int .i64 0), eqP (.slice none 0 0), eqP (.slice none 0 0)]) ze35 rfl rfl (by first | exact hC.low _ (by decide) | rfl)) rfl ?_
      refine lxr (op_store_all (m := 5) rfl rfl rfl (.agg rfl) sz28 rfl) rfl ?_
      refine lxr (op_store_all (m := 6) rfl rfl rfl (.agg rfl) sz35 rfl) rfl ?_
      refine lx_end ⟨by kernel_rfl, ?_⟩
      refine pe_then_normal ?_
      refine tr_sub hC (.cons (t := 2) rfl (.cons (t := 3) rfl (.cons (t := 5) rfl (.cons (t := 6) rfl .nil)))) (.cons (t := 2) rfl (.cons (t := 3) rfl (.cons (t := 5) rfl (.cons (t := 6) rfl .nil)))) rfl ?_
      refine tr_seq ?_
      refine tr_region (fun N6 hN => ?_)
      refine lx (op_bload (m := 2) rfl rfl ag28 sz28) rfl ?_
      refine lx (op_bload (m := 3) rfl rfl ag33 sz33) rfl ?_
      first | refine lx (op_call (l := [(Go.Operand.tmp 34), (Go.Operand.tmp 35)]) (rRecv_ok o w hsm) (.cons rfl (.cons rfl .nil)) fn23) rfl ?_ | refine lx (op_call (l := [(Go.Operand.tmp 34), (Go.Operand.tmp 35)]) (rRecv_ok o w hsm) (.ent rfl (by repeat (first | exact Ents.nil | refine Ents.cons ?_ ?_ | refine Ent.tup ?_ | refine Ent.agg ?_ | exact Ent.row _ _ _ _ | exact Ent.nil _ _ | exact Ent.func _ | exact Ent.refl _ | exact Ent.of_eq rfl | refine Ent.cells ?_)) (.ent rfl (by repeat (first | exact Ents.nil | refine Ents.cons ?_ ?_ | refine Ent.tup ?_ | refine Ent.agg ?_ | exact Ent.row _ _ _ _ | exact Ent.nil _ _ | exact Ent.func _ | exact Ent.refl _ | exact Ent.of_eq rfl | refine Ent.cells ?_)) .nil)) fn23) rfl ?_
      refine lx (op_move rfl) rfl ?_
      refine lx (op_extract rfl rfl) rfl ?_
      refine lx (op_extract rfl rfl) rfl ?_
      refine lxn (op_alloc (m := 7) (k := 7) (ps := [eqP (.int .i64 0), eqP (.slice none 0 0), eqP (.bool false), eqP (.int .i64 0), eqP (.slice none 0 0), eqP (.bool false), eqP (.int .i64 0), eqP (.int .i64 0), eqP (.slice none 0 0), eqP (.slice none 0 0)]) ze28 rfl rfl (by first | exact hC.low _ (by decide) | rfl)) rfl ?_
      refine lxn (op_alloc (m := 8) (k := 8) (ps := [eqP (.int .i64 0), eqP (.int .i64 0), eqP (.int .i64 0), eqP (.int .i64 0), eqP (.bool false), eqP (.int .i64 0), eqP (.bool false), eqP (.int .i64 0), eqP (.int .i64 0), eqP (.int .i64 0), eqP (.int .i64 0), eqP (.int .i64 0), eqP (.int .i64 0), eqP (.slice none 0 0), eqP (.slice none 0 0)]) ze35 rfl rfl (by first | exact hC.low _ (by decide) | rfl)) rfl ?_
      refine lxr (op_store_all (m := 7) rfl rfl rfl (.agg rfl) sz28 rfl) rfl ?_
      refine lxr (op_store_all (m := 8) rfl rfl rfl (.agg rfl) sz35 rfl) rfl ?_
      refine lx_end ⟨by kernel_rfl, ?_⟩
      refine pe_then_normal ?_
      refine tr_sub hC (.cons (t := 2) rfl (.cons (t := 3) rfl (.cons (t := 5) rfl (.cons (t := 6) rfl (.cons (t := 7) rfl (.cons (t := 8) rfl .nil)))))) (.cons (t := 2) rfl (.cons (t := 3) rfl (.cons (t := 5) rfl (.cons (t := 6) rfl (.cons (t := 7) rfl (.cons (t := 8) rfl .nil)))))) rfl ?_
      refine tr_seq ?_
      refine tr_drawn mixed (fun N7 hN => ?_)
      refine lx (op_bload (m := 5) rfl rfl ag28 sz28) rfl ?_
      refine lx (op_bload (m := 7) rfl rfl ag28 sz28) rfl ?_
      first | refine lx (op_call (l := [(Go.Operand.tmp 39), (Go.Operand.tmp 40)]) (Same_ok _ _ hf1.lens) (.cons rfl (.cons rfl .nil)) fn15) rfl ?_ | refine lx (op_call (l := [(Go.Operand.tmp 39), (Go.Operand.tmp 40)]) (Same_ok _ _ hf1.lens) (.ent rfl (by repeat (first | exact Ents.nil | refine Ents.cons ?_ ?_ | refine Ent.tup ?_ | refine Ent.agg ?_ | exact Ent.row _ _ _ _ | exact Ent.nil _ _ | exact Ent.func _ | exact Ent.refl _ | exact Ent.of_eq rfl | refine Ent.cells ?_)) (.ent rfl (by repeat (first | exact Ents.nil | refine Ents.cons ?_ ?_ | refine Ent.tup ?_ | refine Ent.agg ?_ | exact Ent.row _ _ _ _ | exact Ent.nil _ _ | exact Ent.func _ | exact Ent.refl _ | exact Ent.of_eq rfl | refine Ent.cells ?_)) .nil)) fn15) rfl ?_
      refine lx (op_move rfl) rfl ?_
      refine lxs rfl rfl rfl guard_eq (.cons (t := 6) rfl (fun _ => Ent.refl _) .nil) (op_bload (m := 6) rfl rfl ag35 sz35) rfl ?_
      refine lxs rfl rfl rfl guard_eq (.cons (t := 8) rfl (fun _ => Ent.refl _) .nil) (op_bload (m := 8) rfl rfl ag35 sz35) rfl ?_
      first | refine lxs rfl rfl rfl guard_eq (.cons (t := 43) rfl (fun h => entW h) (.cons (t := 44) rfl (fun h => entW h) .nil)) (op_call (l := [(Go.Operand.tmp 43), (Go.Operand.tmp 44)]) (SameT_ok _ _ hwk hfl) (.cons rfl (.cons rfl .nil)) fn20) rfl ?_ | refine lxs rfl rfl rfl guard_eq (.cons (t := 43) rfl (fun h => entW h) (.cons (t := 44) rfl (fun h => entW h) .nil)) (op_call (l := [(Go.Operand.tmp 43), (Go.Operand.tmp 44)]) (SameT_ok _ _ hwk hfl) (.ent rfl (by repeat (first | exact Ents.nil | refine Ents.cons ?_ ?_ | refine Ent.tup ?_ | refine Ent.agg ?_ | exact Ent.row _ _ _ _ | exact Ent.nil _ _ | exact Ent.func _ | exact Ent.refl _ | exact Ent.of_eq rfl | refine Ent.cells ?_)) (.ent rfl (by repeat (first | exact Ents.nil | refine Ents.cons ?_ ?_ | refine Ent.tup ?_ | refine Ent.agg ?_ | exact Ent.row _ _ _ _ | exact Ent.nil _ _ | exact Ent.func _ | exact Ent.refl _ | exact Ent.of_eq rfl | refine Ent.cells ?_)) .nil)) fn20) rfl ?_
      refine lx (op_pick_and rfl rfl) rfl ?_
      refine lx (op_move rfl) rfl ?_
      refine lxs rfl rfl rfl guard_eq (.cons (t := 5) rfl (fun _ => Ent.refl _) .nil) (op_bload (m := 5) rfl rfl ag28 sz28) rfl ?_
      first | refine lxs rfl rfl rfl guard_eq (.cons (t := 48) rfl (fun h => entW h) .nil) (op_call (l := [(Go.Operand.tmp 48)]) (rValid_ok _ hf1.lens) (.cons rfl .nil) fn17) rfl ?_ | refine lxs rfl rfl rfl guard_eq (.cons (t := 48) rfl (fun h => entW h) .nil) (op_call (l := [(Go.Operand.tmp 48)]) (rValid_ok _ hf1.lens) (.ent rfl (by repeat (first | exact Ents.nil | refine Ents.cons ?_ ?_ | refine Ent.tup ?_ | refine Ent.agg ?_ | exact Ent.row _ _ _ _ | exact Ent.nil _ _ | exact Ent.func _ | exact Ent.refl _ | exact Ent.of_eq rfl | refine Ent.cells ?_)) .nil) fn17) rfl ?_
      refine lx (op_pick_and rfl rfl) rfl ?_
      refine lx (op_move rfl) rfl ?_
      refine lxs rfl rfl rfl guard_eq (.cons (t := 6) rfl (fun _ => Ent.refl _) .nil) (op_fieldAddr rfl fl35_0 sz3) rfl ?_
      refine lxs rfl rfl rfl guard_eq (.cons (t := 52) rfl (fun h => entW h) .nil) (op_bload_one (m := 6) rfl rfl ag3 rfl) rfl ?_
      refine lxs rfl rfl rfl guard_eq (.cons (t := 53) rfl (fun h => entW h) .nil) (op_neq rfl rfl) rfl ?_
      refine lxs rfl rfl rfl guard_eq (.cons (t := 2) rfl (fun _ => Ent.refl _) .nil) (op_bload (m := 2) rfl rfl ag28 sz28) rfl ?_
      refine lxs rfl rfl rfl guard_eq (.cons (t := 3) rfl (fun _ => Ent.refl _) .nil) (op_fieldAddr rfl fl33_0 sz3) rfl ?_
      refine lxs rfl rfl rfl guard_eq (.cons (t := 56) rfl (fun h => entW h) .nil) (op_bload_one (m := 3) rfl rfl ag3 rfl) rfl ?_
      first | refine lxs rfl rfl rfl guard_eq (.cons (t := 55) rfl (fun h => entW h) (.cons (t := 57) rfl (fun h => entW h) .nil)) (op_call (l := [(Go.Operand.tmp 55), (Go.Operand.tmp 57)]) (rLeave_ok o w.g hsm.toLens) (.cons rfl (.cons rfl .nil)) fn22) rfl ?_ | refine lxs rfl rfl rfl guard_eq (.cons (t := 55) rfl (fun h => entW h) (.cons (t := 57) rfl (fun h => entW h) .nil)) (op_call (l := [(Go.Operand.tmp 55), (Go.Operand.tmp 57)]) (rLeave_ok o w.g hsm.toLens) (.ent rfl (by repeat (first | exact Ents.nil | refine Ents.cons ?_ ?_ | refine Ent.tup ?_ | refine Ent.agg ?_ | exact Ent.row _ _ _ _ | exact Ent.nil _ _ | exact Ent.func _ | exact Ent.refl _ | exact Ent.of_eq rfl | refine Ent.cells ?_)) (.ent rfl (by repeat (first | exact Ents.nil | refine Ents.cons ?_ ?_ | refine Ent.tup ?_ | refine Ent.agg ?_ | exact Ent.row _ _ _ _ | exact Ent.nil _ _ | exact Ent.func _ | exact Ent.refl _ | exact Ent.of_eq rfl | refine Ent.cells ?_)) .nil)) fn22) rfl ?_
      first | refine lxs rfl rfl rfl guard_eq (.cons (t := 58) rfl (fun h => entW h) .nil) (op_call (l := [(Go.Operand.tmp 58)]) (RecvReady_ok _) (.cons rfl .nil) fn24) rfl ?_ | refine lxs rfl rfl rfl guard_eq (.cons (t := 58) rfl (fun h => entW h) .nil) (op_call (l := [(Go.Operand.tmp 58)]) (RecvReady_ok _) (.ent rfl (by repeat (first | exact Ents.nil | refine Ents.cons ?_ ?_ | refine Ent.tup ?_ | refine Ent.agg ?_ | exact Ent.row _ _ _ _ | exact Ent.nil _ _ | exact Ent.func _ | exact Ent.refl _ | exact Ent.of_eq rfl | refine Ent.cells ?_)) .nil) fn24) rfl ?_
      refine lxs rfl rfl rfl guard_eq (.cons (t := 54) rfl (fun h => entW h) (.cons (t := 59) rfl (fun h => entW h) .nil)) (op_eql_bool bo4 rfl rfl) rfl ?_
      refine lx (op_pick_and rfl rfl) rfl ?_
      refine lx (op_assign rfl) rfl ?_
      refine lx_end ⟨by kernel_rfl, ?_⟩
      refine pe_then_normal ?_
      refine tr_sub hC (.cons (t := 4) rfl .nil) .nil rfl ?_
      refine tr_ret ?_
      refine pe_ret1 rfl hO rfl (.tmp rfl .nil) ?_
      refine entB ?_
      rw [← recv_ready w hv]
      simp [hok]

theorem law_close (o : Ob) (x : Int) : FnP Try.prog 7 [aggP o.ps, eqP (.int .i64 x)] (eqP (.bool true)) := by
  refine fn_pure' Try.func7 rfl Try.ntmps7 rfl ?_
  intro σ0 M ex Rf R hC hO
  simp only [frameOf, tokOf]
  refine tr_seq ?_
  refine tr_region (fun N0 hN => ?_)
  refine lxn (op_box (m := 2) (k := 2) rfl (.agg rfl) (by first | exact hC.low _ (by decide) | rfl)) rfl ?_
  refine lx (op_assign rfl) rfl ?_
  refine lx_end ⟨by kernel_rfl, ?_⟩
  refine pe_then_normal ?_
  refine tr_sub hC (.cons (t := 1) rfl (.cons (t := 2) rfl .nil)) (.cons (t := 2) rfl .nil) rfl ?_
  refine tr_seq ?_
  refine tr_seq ?_
  refine tr_region (fun N1 hN => ?_)
  first | refine lx (op_call (l := []) (awake_ok) .nil fn11) rfl ?_ | refine lx (op_call (l := []) (awake_ok) .nil fn11) rfl ?_
  first | refine lx (op_not rfl) rfl ?_ | refine lx (op_not_b rfl) rfl ?_
  refine lx_end ⟨by kernel_rfl, ?_⟩
  refine pe_then_normal ?_
  refine tr_sub hC (.cons (t := 1) rfl (.cons (t := 2) rfl (.cons (t := 10) rfl .nil))) (.cons (t := 2) rfl .nil) rfl ?_
  refine tr_cond rfl (fun h10 => ?_) (fun h10 => ?_)
  · exact absurd h10 (by decide)
  · (try simp only [Bool.and_eq_true, Bool.or_eq_true, Bool.and_eq_false_iff, Bool.or_eq_false_iff, decide_eq_true_eq, decide_eq_false_iff_not, Bool.not_eq_true', Bool.not_eq_false', List.length_map, ne_eq, Decidable.not_not, Int.not_lt, Int.not_le] at h10)
    refine tr_skip ?_
    refine pe_then_normal ?_
    refine tr_sub hC (.cons (t := 1) rfl (.cons (t := 2) rfl .nil)) (.cons (t := 2) rfl .nil) rfl ?_
    refine tr_seq ?_
    refine tr_seq ?_
    refine tr_region (fun N3 hN => ?_)
    refine lx (op_bload (m := 2) rfl rfl ag28 sz28) rfl ?_
    first | refine lx (op_call (l := [(Go.Operand.tmp 11)]) (few_ok _) (.cons rfl .nil) fn16) rfl ?_ | refine lx (op_call (l := [(Go.Operand.tmp 11)]) (few_ok _) (.ent rfl (by repeat (first | exact Ents.nil | refine Ents.cons ?_ ?_ | refine Ent.tup ?_ | refine Ent.agg ?_ | exact Ent.row _ _ _ _ | exact Ent.nil _ _ | exact Ent.func _ | exact Ent.refl _ | exact Ent.of_eq rfl | refine Ent.cells ?_)) .nil) fn16) rfl ?_
    first | refine lx (op_not rfl) rfl ?_ | refine lx (op_not_b rfl) rfl ?_
    refine lx (op_move rfl) rfl ?_
    refine lxs rfl rfl rfl guard_eq (.cons (t := 2) rfl (fun _ => Ent.refl _) .nil) (op_bload (m := 2) rfl rfl ag28 sz28) rfl ?_
    refine lxsc (rd := [(15, aggP o.ps)]) (φ := eqP (.bool (validF o))) rfl rfl rfl guard_eq (.cons (t := 15) rfl (fun h => entW h) .nil) (fun hgd => ?_) rfl rfl ?_
    · have hl : Lens o := (few_iff (by simpa using hgd)).lens
      first | exact op_call (l := [(Go.Operand.tmp 15)]) (rValid_ok o hl) (.cons rfl .nil) fn17 | exact op_call (l := [(Go.Operand.tmp 15)]) (rValid_ok o hl) (.ent rfl (by repeat (first | exact Ents.nil | refine Ents.cons ?_ ?_ | refine Ent.tup ?_ | refine Ent.agg ?_ | exact Ent.row _ _ _ _ | exact Ent.nil _ _ | exact Ent.func _ | exact Ent.refl _ | exact Ent.of_eq rfl | refine Ent.cells ?_)) .nil) fn17
    first | refine lxs rfl rfl rfl guard_eq (.cons (t := 16) rfl (fun h => entW h) .nil) (op_not rfl) rfl ?_ | refine lxs rfl rfl rfl guard_eq (.cons (t := 16) rfl (fun h => entW h) .nil) (op_not_b rfl) rfl ?_
    refine lx (op_pick_or rfl rfl) rfl ?_
    refine lx_end ⟨by kernel_rfl, ?_⟩
    refine pe_then_normal ?_
    refine tr_sub hC (.cons (t := 1) rfl (.cons (t := 2) rfl (.cons (t := 18) rfl .nil))) (.cons (t := 2) rfl .nil) rfl ?_
    refine tr_cond rfl (fun h18 => ?_) (fun h18 => ?_)
    · (try simp only [Bool.and_eq_true, Bool.or_eq_true, Bool.and_eq_false_iff, Bool.or_eq_false_iff, decide_eq_true_eq, decide_eq_false_iff_not, Bool.not_eq_true', Bool.not_eq_false', List.length_map, ne_eq, Decidable.not_not, Int.not_lt, Int.not_le] at h18)
      refine tr_seq ?_
      refine tr_region (fun N4 hN => ?_)
      refine lx (op_assign rfl) rfl ?_
      refine lx_end ⟨by kernel_rfl, ?_⟩
      refine pe_then_normal ?_
      refine tr_sub hC (.cons (t := 4) rfl .nil) .nil rfl ?_
      refine tr_ret ?_
      refine pe_then_ret ?_
      refine pe_ret1 rfl hO rfl (.tmp rfl .nil) ?_
      repeat (first | exact Ents.nil | refine Ents.cons ?_ ?_ | refine Ent.tup ?_ | refine Ent.agg ?_ | exact Ent.row _ _ _ _ | exact Ent.nil _ _ | exact Ent.func _ | exact Ent.refl _ | exact Ent.of_eq rfl | refine Ent.cells ?_)
    · (try simp only [Bool.and_eq_true, Bool.or_eq_true, Bool.and_eq_false_iff, Bool.or_eq_false_iff, decide_eq_true_eq, decide_eq_false_iff_not, Bool.not_eq_true', Bool.not_eq_false', List.length_map, ne_eq, Decidable.not_not, Int.not_lt, Int.not_le] at h18)
      have hf : Few o := few_iff h18.1
      have hv : Vd o := (valid_iff o).1 h18.2
      obtain ⟨hf1, hwk, hfl⟩ := close_few hf
      have hok := (valid_iff _).2 (close_valid hv)
      refine tr_skip ?_
      refine pe_then_normal ?_
      refine tr_sub hC (.cons (t := 1) rfl (.cons (t := 2) rfl .nil)) (.cons (t := 2) rfl .nil) rfl ?_
      refine tr_seq ?_
      refine tr_region (fun N5 hN => ?_)
      refine lx (op_bload (m := 2) rfl rfl ag28 sz28) rfl ?_
      first | refine lx (op_call (l := [(Go.Operand.tmp 20)]) (Close_f o hf.lens hv) (.cons rfl .nil) fn27) rfl ?_ | refine lx (op_call (l := [(Go.Operand.tmp 20)]) (Close_f o hf.lens hv) (.ent rfl (by repeat (first | exact Ents.nil | refine Ents.cons ?_ ?_ | refine Ent.tup ?_ | refine Ent.agg ?_ | exact Ent.row _ _ _ _ | exact Ent.nil _ _ | exact Ent.func _ | exact Ent.refl _ | exact Ent.of_eq rfl | refine Ent.cells ?_)) .nil) fn27) rfl ?_
      refine lx (op_move rfl) rfl ?_
      refine lx (op_extract rfl rfl) rfl ?_
      refine lx (op_extract rfl rfl) rfl ?_
      refine lxn (op_alloc (m := 5) (k := 5) (ps := [eqP (.int .i64 0), eqP (.slice none 0 0), eqP (.bool false), eqP (.int .i64 0), eqP (.slice none 0 0), eqP (.bool false), eqP (.int .i64 0), eqP (.int .i64 0), eqP (.slice none 0 0), eqP (.slice none 0 0)]) ze28 rfl rfl (by first | exact hC.low _ (by decide) | rfl)) rfl ?_
      refine lxn (op_alloc (m := 6) (k := 6) (ps := [eqP (.int .i64 0), eqP (.int .i64 0), eqP (.int .i64 0), eqP (.int .i64 0), eqP (.bool false), eqP (.int .i64 0), eqP (.bool false), eqP (.int .i64 0), eqP (.int .i64 0), eqP (.int .i64 0), eqP (.int .i64 0), eqP (.int .i64 0), eqP (.int .i64 0), eqP (.slice none 0 0), eqP (.slice none 0 0)]) ze35 rfl rfl (by first | exact hC.low _ (by decide) | rfl)) rfl ?_
      refine lxr (op_store_all (m := 5) rfl rfl rfl (.agg rfl) sz28 rfl) rfl ?_
      refine lxr (op_store_all (m := 6) rfl rfl rfl (.agg rfl) sz35 rfl) rfl ?_
      refine lx_end ⟨by kernel_rfl, ?_⟩
      refine pe_then_normal ?_
      refine tr_sub hC (.cons (t := 1) rfl (.cons (t := 2) rfl (.cons (t := 5) rfl (.cons (t := 6) rfl .nil)))) (.cons (t := 2) rfl (.cons (t := 5) rfl (.cons (t := 6) rfl .nil))) rfl ?_
      refine tr_seq ?_
      refine tr_region (fun N6 hN => ?_)
      refine lx (op_bload (m := 2) rfl rfl ag28 sz28) rfl ?_
      first | refine lx (op_call (l := [(Go.Operand.tmp 25)]) (rClose_ok o hf.lens) (.cons rfl .nil) fn28) rfl ?_ | refine lx (op_call (l := [(Go.Operand.tmp 25)]) (rClose_ok o hf.lens) (.ent rfl (by repeat (first | exact Ents.nil | refine Ents.cons ?_ ?_ | refine Ent.tup ?_ | refine Ent.agg ?_ | exact Ent.row _ _ _ _ | exact Ent.nil _ _ | exact Ent.func _ | exact Ent.refl _ | exact Ent.of_eq rfl | refine Ent.cells ?_)) .nil) fn28) rfl ?_
      refine lx (op_move rfl) rfl ?_
      refine lx (op_extract rfl rfl) rfl ?_
      refine lx (op_extract rfl rfl) rfl ?_
      refine lxn (op_alloc (m := 7) (k := 7) (ps := [eqP (.int .i64 0), eqP (.slice none 0 0), eqP (.bool false), eqP (.int .i64 0), eqP (.slice none 0 0), eqP (.bool false), eqP (.int .i64 0), eqP (.int .i64 0), eqP (.slice none 0 0), eqP (.slice none 0 0)]) ze28 rfl rfl (by first | exact hC.low _ (by decide) | rfl)) rfl ?_
      refine lxn (op_alloc (m := 8) (k := 8) (ps := [eqP (.int .i64 0), eqP (.int .i64 0), eqP (.int .i64 0), eqP (.int .i64 0), eqP (.bool false), eqP (.int .i64 0), eqP (.bool false), eqP (.int .i64 0), eqP (.int .i64 0), eqP (.int .i64 0), eqP (.int .i64 0), eqP (.int .i64 0), eqP (.int .i64 0), eqP (.slice none 0 0), eqP (.slice none 0 0)]) ze35 rfl rfl (by first | exact hC.low _ (by decide) | rfl)) rfl ?_
      refine lxr (op_store_all (m := 7) rfl rfl rfl (.agg rfl) sz28 rfl) rfl ?_
      refine lxr (op_store_all (m := 8) rfl rfl rfl (.agg rfl) sz35 rfl) rfl ?_
      refine lx_end ⟨by kernel_rfl, ?_⟩
      refine pe_then_normal ?_
      refine tr_sub hC (.cons (t := 1) rfl (.cons (t := 2) rfl (.cons (t := 5) rfl (.cons (t := 6) rfl (.cons (t := 7) rfl (.cons (t := 8) rfl .nil)))))) (.cons (t := 2) rfl (.cons (t := 5) rfl (.cons (t := 6) rfl (.cons (t := 7) rfl (.cons (t := 8) rfl .nil))))) rfl ?_
      refine tr_seq ?_
      refine tr_drawn mixed (fun N7 hN => ?_)
      refine lx (op_bload (m := 5) rfl rfl ag28 sz28) rfl ?_
      refine lx (op_bload (m := 7) rfl rfl ag28 sz28) rfl ?_
      first | refine lx (op_call (l := [(Go.Operand.tmp 29), (Go.Operand.tmp 30)]) (Same_ok _ _ hf1.lens) (.cons rfl (.cons rfl .nil)) fn15) rfl ?_ | refine lx (op_call (l := [(Go.Operand.tmp 29), (Go.Operand.tmp 30)]) (Same_ok _ _ hf1.lens) (.ent rfl (by repeat (first | exact Ents.nil | refine Ents.cons ?_ ?_ | refine Ent.tup ?_ | refine Ent.agg ?_ | exact Ent.row _ _ _ _ | exact Ent.nil _ _ | exact Ent.func _ | exact Ent.refl _ | exact Ent.of_eq rfl | refine Ent.cells ?_)) (.ent rfl (by repeat (first | exact Ents.nil | refine Ents.cons ?_ ?_ | refine Ent.tup ?_ | refine Ent.agg ?_ | exact Ent.row _ _ _ _ | exact Ent.nil _ _ | exact Ent.func _ | exact Ent.refl _ | exact Ent.of_eq rfl | refine Ent.cells ?_)) .nil)) fn15) rfl ?_
      refine lx (op_move rfl) rfl ?_
      refine lxs rfl rfl rfl guard_eq (.cons (t := 6) rfl (fun _ => Ent.refl _) .nil) (op_bload (m := 6) rfl rfl ag35 sz35) rfl ?_
      refine lxs rfl rfl rfl guard_eq (.cons (t := 8) rfl (fun _ => Ent.refl _) .nil) (op_bload (m := 8) rfl rfl ag35 sz35) rfl ?_
      first | refine lxs rfl rfl rfl guard_eq (.cons (t := 33) rfl (fun h => entW h) (.cons (t := 34) rfl (fun h => entW h) .nil)) (op_call (l := [(Go.Operand.tmp 33), (Go.Operand.tmp 34)]) (SameT_ok _ _ hwk hfl) (.cons rfl (.cons rfl .nil)) fn20) rfl ?_ | refine lxs rfl rfl rfl guard_eq (.cons (t := 33) rfl (fun h => entW h) (.cons (t := 34) rfl (fun h => entW h) .nil)) (op_call (l := [(Go.Operand.tmp 33), (Go.Operand.tmp 34)]) (SameT_ok _ _ hwk hfl) (.ent rfl (by repeat (first | exact Ents.nil | refine Ents.cons ?_ ?_ | refine Ent.tup ?_ | refine Ent.agg ?_ | exact Ent.row _ _ _ _ | exact Ent.nil _ _ | exact Ent.func _ | exact Ent.refl _ | exact Ent.of_eq rfl | refine Ent.cells ?_)) (.ent rfl (by repeat (first | exact Ents.nil | refine Ents.cons ?_ ?_ | refine Ent.tup ?_ | refine Ent.agg ?_ | exact Ent.row _ _ _ _ | exact Ent.nil _ _ | exact Ent.func _ | exact Ent.refl _ | exact Ent.of_eq rfl | refine Ent.cells ?_)) .nil)) fn20) rfl ?_
      refine lx (op_pick_and rfl rfl) rfl ?_
      refine lx (op_move rfl) rfl ?_
      refine lxs rfl rfl rfl guard_eq (.cons (t := 2) rfl (fun _ => Ent.refl _) .nil) (op_bload (m := 2) rfl rfl ag28 sz28) rfl ?_
      refine lxs rfl rfl rfl guard_eq (.cons (t := 1) rfl (fun _ => Ent.refl _) .nil) (op_move rfl) rfl ?_
      first | refine lxs rfl rfl rfl guard_eq (.cons (t := 38) rfl (fun h => entW h) (.cons (t := 39) rfl (fun h => entW h) .nil)) (op_call (l := [(Go.Operand.tmp 38), (Go.Operand.tmp 39)]) (leave_ok o x hf.lens) (.cons rfl (.cons rfl .nil)) fn29) rfl ?_ | refine lxs rfl rfl rfl guard_eq (.cons (t := 38) rfl (fun h => entW h) (.cons (t := 39) rfl (fun h => entW h) .nil)) (op_call (l := [(Go.Operand.tmp 38), (Go.Operand.tmp 39)]) (leave_ok o x hf.lens) (.ent rfl (by repeat (first | exact Ents.nil | refine Ents.cons ?_ ?_ | refine Ent.tup ?_ | refine Ent.agg ?_ | exact Ent.row _ _ _ _ | exact Ent.nil _ _ | exact Ent.func _ | exact Ent.refl _ | exact Ent.of_eq rfl | refine Ent.cells ?_)) (.ent rfl (by repeat (first | exact Ents.nil | refine Ents.cons ?_ ?_ | refine Ent.tup ?_ | refine Ent.agg ?_ | exact Ent.row _ _ _ _ | exact Ent.nil _ _ | exact Ent.func _ | exact Ent.refl _ | exact Ent.of_eq rfl | refine Ent.cells ?_)) .nil)) fn29) rfl ?_
      refine lxs rfl rfl rfl guard_eq (.cons (t := 2) rfl (fun _ => Ent.refl _) .nil) (op_bload (m := 2) rfl rfl ag28 sz28) rfl ?_
      refine lxs rfl rfl rfl guard_eq (.cons (t := 1) rfl (fun _ => Ent.refl _) .nil) (op_move rfl) rfl ?_
      first | refine lxs rfl rfl rfl guard_eq (.cons (t := 41) rfl (fun h => entW h) (.cons (t := 42) rfl (fun h => entW h) .nil)) (op_call (l := [(Go.Operand.tmp 41), (Go.Operand.tmp 42)]) (rLeave_ok o x hf.lens) (.cons rfl (.cons rfl .nil)) fn22) rfl ?_ | refine lxs rfl rfl rfl guard_eq (.cons (t := 41) rfl (fun h => entW h) (.cons (t := 42) rfl (fun h => entW h) .nil)) (op_call (l := [(Go.Operand.tmp 41), (Go.Operand.tmp 42)]) (rLeave_ok o x hf.lens) (.ent rfl (by repeat (first | exact Ents.nil | refine Ents.cons ?_ ?_ | refine Ent.tup ?_ | refine Ent.agg ?_ | exact Ent.row _ _ _ _ | exact Ent.nil _ _ | exact Ent.func _ | exact Ent.refl _ | exact Ent.of_eq rfl | refine Ent.cells ?_)) (.ent rfl (by repeat (first | exact Ents.nil | refine Ents.cons ?_ ?_ | refine Ent.tup ?_ | refine Ent.agg ?_ | exact Ent.row _ _ _ _ | exact Ent.nil _ _ | exact Ent.func _ | exact Ent.refl _ | exact Ent.of_eq rfl | refine Ent.cells ?_)) .nil)) fn22) rfl ?_
      first | refine lxs rfl rfl rfl guard_eq (.cons (t := 40) rfl (fun h => entW h) (.cons (t := 43) rfl (fun h => entW h) .nil)) (op_call (l := [(Go.Operand.tmp 40), (Go.Operand.tmp 43)]) (Same_ok _ _ (leave_lens x hf.lens)) (.cons rfl (.cons rfl .nil)) fn15) rfl ?_ | refine lxs rfl rfl rfl guard_eq (.cons (t := 40) rfl (fun h => entW h) (.cons (t := 43) rfl (fun h => entW h) .nil)) (op_call (l := [(Go.Operand.tmp 40), (Go.Operand.tmp 43)]) (Same_ok _ _ (leave_lens x hf.lens)) (.ent rfl (by repeat (first | exact Ents.nil | refine Ents.cons ?_ ?_ | refine Ent.tup ?_ | refine Ent.agg ?_ | exact Ent.row _ _ _ _ | exact Ent.nil _ _ | exact Ent.func _ | exact Ent.refl _ | exact Ent.of_eq rfl | refine Ent.cells ?_)) (.ent rfl (by repeat (first | exact Ents.nil | refine Ents.cons ?_ ?_ | refine Ent.tup ?_ | refine Ent.agg ?_ | exact Ent.row _ _ _ _ | exact Ent.nil _ _ | exact Ent.func _ | exact Ent.refl _ | exact Ent.of_eq rfl | refine Ent.cells ?_)) .nil)) fn15) rfl ?_
      refine lx (op_pick_and rfl rfl) rfl ?_
      refine lx (op_move rfl) rfl ?_
      refine lxs rfl rfl rfl guard_eq (.cons (t := 5) rfl (fun _ => Ent.refl _) .nil) (op_bload (m := 5) rfl rfl ag28 sz28) rfl ?_
      first | refine lxs rfl rfl rfl guard_eq (.cons (t := 47) rfl (fun h => entW h) .nil) (op_call (l := [(Go.Operand.tmp 47)]) (rValid_ok _ hf1.lens) (.cons rfl .nil) fn17) rfl ?_ | refine lxs rfl rfl rfl guard_eq (.cons (t := 47) rfl (fun h => entW h) .nil) (op_call (l := [(Go.Operand.tmp 47)]) (rValid_ok _ hf1.lens) (.ent rfl (by repeat (first | exact Ents.nil | refine Ents.cons ?_ ?_ | refine Ent.tup ?_ | refine Ent.agg ?_ | exact Ent.row _ _ _ _ | exact Ent.nil _ _ | exact Ent.func _ | exact Ent.refl _ | exact Ent.of_eq rfl | refine Ent.cells ?_)) .nil) fn17) rfl ?_
      refine lx (op_pick_and rfl rfl) rfl ?_
      refine lx (op_assign rfl) rfl ?_
      refine lx_end ⟨by kernel_rfl, ?_⟩
      refine pe_then_normal ?_
      refine tr_sub hC (.cons (t := 4) rfl .nil) .nil rfl ?_
      refine tr_ret ?_
      refine pe_ret1 rfl hO rfl (.tmp rfl .nil) ?_
      exact entB (by simp [hok])

theorem law_ready (o : Ob) : FnP Try.prog 6 [aggP o.ps] (eqP (.bool true)) := by
  refine fn_pure' Try.func6 rfl Try.ntmps6 rfl ?_
  intro σ0 M ex Rf R hC hO
  simp only [frameOf, tokOf]
  refine tr_seq ?_
  refine tr_region (fun N0 hN => ?_)
  refine lxn (op_box (m := 1) (k := 1) rfl (.agg rfl) (by first | exact hC.low _ (by decide) | rfl)) rfl ?_
  refine lx (op_assign rfl) rfl ?_
  refine lx_end ⟨by kernel_rfl, ?_⟩
  refine pe_then_normal ?_
  refine tr_sub hC (.cons (t := 1) rfl .nil) (.cons (t := 1) rfl .nil) rfl ?_
  refine tr_seq ?_
  refine tr_seq ?_
  refine tr_region (fun N1 hN => ?_)
  first | refine lx (op_call (l := []) (awake_ok) .nil fn11) rfl ?_ | refine lx (op_call (l := []) (awake_ok) .nil fn11) rfl ?_
  first | refine lx (op_not rfl) rfl ?_ | refine lx (op_not_b rfl) rfl ?_
  refine lx_end ⟨by kernel_rfl, ?_⟩
  refine pe_then_normal ?_
  refine tr_sub hC (.cons (t := 1) rfl (.cons (t := 6) rfl .nil)) (.cons (t := 1) rfl .nil) rfl ?_
  refine tr_cond rfl (fun h6 => ?_) (fun h6 => ?_)
  · exact absurd h6 (by decide)
  · (try simp only [Bool.and_eq_true, Bool.or_eq_true, Bool.and_eq_false_iff, Bool.or_eq_false_iff, decide_eq_true_eq, decide_eq_false_iff_not, Bool.not_eq_true', Bool.not_eq_false', List.length_map, ne_eq, Decidable.not_not, Int.not_lt, Int.not_le] at h6)
    refine tr_skip ?_
    refine pe_then_normal ?_
    refine tr_sub hC (.cons (t := 1) rfl .nil) (.cons (t := 1) rfl .nil) rfl ?_
    refine tr_seq ?_
    refine tr_seq ?_
    refine tr_region (fun N3 hN => ?_)
    refine lx (op_bload (m := 1) rfl rfl ag28 sz28) rfl ?_
    first | refine lx (op_call (l := [(Go.Operand.tmp 7)]) (few_ok _) (.cons rfl .nil) fn16) rfl ?_ | refine lx (op_call (l := [(Go.Operand.tmp 7)]) (few_ok _) (.ent rfl (by repeat (first | exact Ents.nil | refine Ents.cons ?_ ?_ | refine Ent.tup ?_ | refine Ent.agg ?_ | exact Ent.row _ _ _ _ | exact Ent.nil _ _ | exact Ent.func _ | exact Ent.refl _ | exact Ent.of_eq rfl | refine Ent.cells ?_)) .nil) fn16) rfl ?_
    first | refine lx (op_not rfl) rfl ?_ | refine lx (op_not_b rfl) rfl ?_
    refine lx (op_move rfl) rfl ?_
    refine lxs rfl rfl rfl guard_eq (.cons (t := 1) rfl (fun _ => Ent.refl _) .nil) (op_bload (m := 1) rfl rfl ag28 sz28) rfl ?_
    refine lxsc (rd := [(11, aggP o.ps)]) (φ := eqP (.bool (validF o))) rfl rfl rfl guard_eq (.cons (t := 11) rfl (fun h => entW h) .nil) (fun hgd => ?_) rfl rfl ?_
    · have hl : Lens o := (few_iff (by simpa using hgd)).lens
      first | exact op_call (l := [(Go.Operand.tmp 11)]) (rValid_ok o hl) (.cons rfl .nil) fn17 | exact op_call (l := [(Go.Operand.tmp 11)]) (rValid_ok o hl) (.ent rfl (by repeat (first | exact Ents.nil | refine Ents.cons ?_ ?_ | refine Ent.tup ?_ | refine Ent.agg ?_ | exact Ent.row _ _ _ _ | exact Ent.nil _ _ | exact Ent.func _ | exact Ent.refl _ | exact Ent.of_eq rfl | refine Ent.cells ?_)) .nil) fn17
    first | refine lxs rfl rfl rfl guard_eq (.cons (t := 12) rfl (fun h => entW h) .nil) (op_not rfl) rfl ?_ | refine lxs rfl rfl rfl guard_eq (.cons (t := 12) rfl (fun h => entW h) .nil) (op_not_b rfl) rfl ?_
    refine lx (op_pick_or rfl rfl) rfl ?_
    refine lx_end ⟨by kernel_rfl, ?_⟩
    refine pe_then_normal ?_
    refine tr_sub hC (.cons (t := 1) rfl (.cons (t := 14) rfl .nil)) (.cons (t := 1) rfl .nil) rfl ?_
    refine tr_cond rfl (fun h14 => ?_) (fun h14 => ?_)
    · (try simp only [Bool.and_eq_true, Bool.or_eq_true, Bool.and_eq_false_iff, Bool.or_eq_false_iff, decide_eq_true_eq, decide_eq_false_iff_not, Bool.not_eq_true', Bool.not_eq_false', List.length_map, ne_eq, Decidable.not_not, Int.not_lt, Int.not_le] at h14)
      refine tr_seq ?_
      refine tr_region (fun N4 hN => ?_)
      refine lx (op_assign rfl) rfl ?_
      refine lx_end ⟨by kernel_rfl, ?_⟩
      refine pe_then_normal ?_
      refine tr_sub hC (.cons (t := 2) rfl .nil) .nil rfl ?_
      refine tr_ret ?_
      refine pe_then_ret ?_
      refine pe_ret1 rfl hO rfl (.tmp rfl .nil) ?_
      repeat (first | exact Ents.nil | refine Ents.cons ?_ ?_ | refine Ent.tup ?_ | refine Ent.agg ?_ | exact Ent.row _ _ _ _ | exact Ent.nil _ _ | exact Ent.func _ | exact Ent.refl _ | exact Ent.of_eq rfl | refine Ent.cells ?_)
    · (try simp only [Bool.and_eq_true, Bool.or_eq_true, Bool.and_eq_false_iff, Bool.or_eq_false_iff, decide_eq_true_eq, decide_eq_false_iff_not, Bool.not_eq_true', Bool.not_eq_false', List.length_map, ne_eq, Decidable.not_not, Int.not_lt, Int.not_le] at h14)
      have hf : Few o := few_iff h14.1
      have hv : Vd o := (valid_iff o).1 h14.2
      have hone := ready_one hv
      have hsb := hf.s
      have hrb := hf.r
      refine tr_skip ?_
      refine pe_then_normal ?_
      refine tr_sub hC (.cons (t := 1) rfl .nil) (.cons (t := 1) rfl .nil) rfl ?_
      refine tr_seq ?_
      refine tr_region (fun N5 hN => ?_)
      refine lx (op_bload (m := 1) rfl rfl ag28 sz28) rfl ?_
      first | refine lx (op_call (l := [(Go.Operand.tmp 15)]) (SendReady_ok o) (.cons rfl .nil) fn21) rfl ?_ | refine lx (op_call (l := [(Go.Operand.tmp 15)]) (SendReady_ok o) (.ent rfl (by repeat (first | exact Ents.nil | refine Ents.cons ?_ ?_ | refine Ent.tup ?_ | refine Ent.agg ?_ | exact Ent.row _ _ _ _ | exact Ent.nil _ _ | exact Ent.func _ | exact Ent.refl _ | exact Ent.of_eq rfl | refine Ent.cells ?_)) .nil) fn21) rfl ?_
      refine lx (op_assign rfl) rfl ?_
      refine lx_end ⟨by kernel_rfl, ?_⟩
      refine pe_then_normal ?_
      refine tr_sub hC (.cons (t := 1) rfl (.cons (t := 3) rfl .nil)) (.cons (t := 1) rfl .nil) rfl ?_
      refine tr_seq ?_
      refine tr_region (fun N6 hN => ?_)
      refine lx (op_bload (m := 1) rfl rfl ag28 sz28) rfl ?_
      first | refine lx (op_call (l := [(Go.Operand.tmp 17)]) (RecvReady_ok o) (.cons rfl .nil) fn24) rfl ?_ | refine lx (op_call (l := [(Go.Operand.tmp 17)]) (RecvReady_ok o) (.ent rfl (by repeat (first | exact Ents.nil | refine Ents.cons ?_ ?_ | refine Ent.tup ?_ | refine Ent.agg ?_ | exact Ent.row _ _ _ _ | exact Ent.nil _ _ | exact Ent.func _ | exact Ent.refl _ | exact Ent.of_eq rfl | refine Ent.cells ?_)) .nil) fn24) rfl ?_
      refine lx (op_assign rfl) rfl ?_
      refine lx_end ⟨by kernel_rfl, ?_⟩
      refine pe_then_normal ?_
      refine tr_sub hC (.cons (t := 1) rfl (.cons (t := 3) rfl (.cons (t := 4) rfl .nil))) (.cons (t := 1) rfl .nil) rfl ?_
      refine tr_seq ?_
      refine tr_seq ?_
      refine tr_region (fun N7 hN => ?_)
      refine lx (op_move rfl) rfl ?_
      refine lx (op_bload (m := 1) rfl rfl ag28 sz28) rfl ?_
      first | refine lx (op_call (l := [(Go.Operand.tmp 20)]) (rSendReady_ok o) (.cons rfl .nil) fn25) rfl ?_ | refine lx (op_call (l := [(Go.Operand.tmp 20)]) (rSendReady_ok o) (.ent rfl (by repeat (first | exact Ents.nil | refine Ents.cons ?_ ?_ | refine Ent.tup ?_ | refine Ent.agg ?_ | exact Ent.row _ _ _ _ | exact Ent.nil _ _ | exact Ent.func _ | exact Ent.refl _ | exact Ent.of_eq rfl | refine Ent.cells ?_)) .nil) fn25) rfl ?_
      refine lx (op_neq_bool bo4 rfl rfl) rfl ?_
      refine lx (op_move rfl) rfl ?_
      refine lxs rfl rfl rfl guard_eq (.cons (t := 4) rfl (fun _ => Ent.refl _) .nil) (op_move rfl) rfl ?_
      refine lxs rfl rfl rfl guard_eq (.cons (t := 1) rfl (fun _ => Ent.refl _) .nil) (op_bload (m := 1) rfl rfl ag28 sz28) rfl ?_
      first | refine lxs rfl rfl rfl guard_eq (.cons (t := 25) rfl (fun h => entW h) .nil) (op_call (l := [(Go.Operand.tmp 25)]) (rRecvReady_ok o) (.cons rfl .nil) fn26) rfl ?_ | refine lxs rfl rfl rfl guard_eq (.cons (t := 25) rfl (fun h => entW h) .nil) (op_call (l := [(Go.Operand.tmp 25)]) (rRecvReady_ok o) (.ent rfl (by repeat (first | exact Ents.nil | refine Ents.cons ?_ ?_ | refine Ent.tup ?_ | refine Ent.agg ?_ | exact Ent.row _ _ _ _ | exact Ent.nil _ _ | exact Ent.func _ | exact Ent.refl _ | exact Ent.of_eq rfl | refine Ent.cells ?_)) .nil) fn26) rfl ?_
      refine lxs rfl rfl rfl guard_eq (.cons (t := 24) rfl (fun h => entW h) (.cons (t := 26) rfl (fun h => entW h) .nil)) (op_neq_bool bo4 rfl rfl) rfl ?_
      refine lx (op_pick_or rfl rfl) rfl ?_
      refine lx_end ⟨by kernel_rfl, ?_⟩
      refine pe_then_normal ?_
      refine tr_sub hC (.cons (t := 1) rfl (.cons (t := 3) rfl (.cons (t := 4) rfl (.cons (t := 28) rfl .nil)))) (.cons (t := 1) rfl .nil) rfl ?_
      refine tr_cond rfl (fun h28 => ?_) (fun h28 => ?_)
      · (try simp only [Bool.and_eq_true, Bool.or_eq_true, Bool.and_eq_false_iff, Bool.or_eq_false_iff, decide_eq_true_eq, decide_eq_false_iff_not, Bool.not_eq_true', Bool.not_eq_false', List.length_map, ne_eq, Decidable.not_not, Int.not_lt, Int.not_le] at h28)
        exact absurd h28 (by simp)
      · (try simp only [Bool.and_eq_true, Bool.or_eq_true, Bool.and_eq_false_iff, Bool.or_eq_false_iff, decide_eq_true_eq, decide_eq_false_iff_not, Bool.not_eq_true', Bool.not_eq_false', List.length_map, ne_eq, Decidable.not_not, Int.not_lt, Int.not_le] at h28)
        refine tr_skip ?_
        refine pe_then_normal ?_
        refine tr_sub hC (.cons (t := 1) rfl (.cons (t := 3) rfl (.cons (t := 4) rfl .nil))) (.cons (t := 1) rfl .nil) rfl ?_
        refine tr_seq ?_
        refine tr_region (fun N9 hN => ?_)
        refine lx (op_move rfl) rfl ?_
        refine lx (op_move rfl) rfl ?_
        refine lxs rfl rfl rfl guard_eq (.cons (t := 4) rfl (fun _ => Ent.refl _) .nil) (op_move rfl) rfl ?_
        refine lx (op_pick_or rfl rfl) rfl ?_
        refine lx (op_move rfl) rfl ?_
        refine lxs rfl rfl rfl guard_eq (.cons (t := 1) rfl (fun _ => Ent.refl _) .nil) (op_fieldAddr rfl fl28_8 sz26) rfl ?_
        refine lxs rfl rfl rfl guard_eq (.cons (t := 34) rfl (fun h => entW h) .nil) (op_bload_one (m := 1) rfl rfl ag26 rfl) rfl ?_
        first | refine lxs rfl rfl rfl guard_eq (.cons (t := 35) rfl (fun h => entW h) .nil) (op_len rfl el26) rfl ?_ | refine lxs rfl rfl rfl guard_eq (.cons (t := 35) rfl (fun h => entW h) .nil) (op_len_row rfl el26) rfl ?_ | refine lxs rfl rfl rfl guard_eq (.cons (t := 35) rfl (fun h => entW h) .nil) (op_len_mv rfl el26) rfl ?_ | refine lxs rfl rfl rfl guard_eq (.cons (t := 35) rfl (fun h => entW h) .nil) (op_len_nil rfl el26) rfl ?_
        refine lxs rfl rfl rfl guard_eq (.cons (t := 1) rfl (fun _ => Ent.refl _) .nil) (op_fieldAddr rfl fl28_9 sz26) rfl ?_
        refine lxs rfl rfl rfl guard_eq (.cons (t := 37) rfl (fun h => entW h) .nil) (op_bload_one (m := 1) rfl rfl ag26 rfl) rfl ?_
        first | refine lxs rfl rfl rfl guard_eq (.cons (t := 38) rfl (fun h => entW h) .nil) (op_len rfl el26) rfl ?_ | refine lxs rfl rfl rfl guard_eq (.cons (t := 38) rfl (fun h => entW h) .nil) (op_len_row rfl el26) rfl ?_ | refine lxs rfl rfl rfl guard_eq (.cons (t := 38) rfl (fun h => entW h) .nil) (op_len_mv rfl el26) rfl ?_ | refine lxs rfl rfl rfl guard_eq (.cons (t := 38) rfl (fun h => entW h) .nil) (op_len_nil rfl el26) rfl ?_
        refine lxs rfl rfl rfl guard_eq (.cons (t := 36) rfl (fun h => entW h) (.cons (t := 39) rfl (fun h => entW h) .nil)) (op_add rfl rfl (by omega)) rfl ?_
        refine lxs rfl rfl rfl guard_eq (.cons (t := 40) rfl (fun h => entW h) .nil) (op_eql rfl rfl) rfl ?_
        refine lxs rfl rfl rfl guard_eq (.cons (t := 41) rfl (fun h => entW h) .nil) (op_move rfl) rfl ?_
        refine lxs rfl rfl rfl guard_w (.cons (t := 1) rfl (fun _ => Ent.refl _) .nil) (op_fieldAddr rfl fl28_3 sz3) rfl ?_
        refine lxs rfl rfl rfl guard_w (.cons (t := 43) rfl (fun h => entW h) .nil) (op_bload_one (m := 1) rfl rfl ag3 rfl) rfl ?_
        refine lxs rfl rfl rfl guard_w (.cons (t := 44) rfl (fun h => entW h) .nil) (op_eql rfl rfl) rfl ?_
        refine lxs rfl rfl rfl guard_eq (.cons (t := 42) rfl (fun h => entW h) (.cons (t := 45) rfl (fun h => entS h) .nil)) (op_pick_and rfl rfl) rfl ?_
        refine lx (op_pick_or rfl rfl) rfl ?_
        refine lx (op_assign rfl) rfl ?_
        refine lx_end ⟨by kernel_rfl, ?_⟩
        refine pe_then_normal ?_
        refine tr_sub hC (.cons (t := 2) rfl .nil) .nil rfl ?_
        refine tr_ret ?_
        refine pe_ret1 rfl hO rfl (.tmp rfl .nil) ?_
        exact entB hone

end Go.Proofs.Ytagjjeofdcgcmaa
