/- Parts of a proof that share one text: StWalk18, StRead, StBulk. -/
import Derived.Test.YthiknhmoefbanaaSPe
import Derived.Test.YthiknhmoefbanaaSPb
import Derived.Test.YthiknhmoefbanaaChecked
import Derived.Test.YthiknhmoefbanaaRows

set_option linter.unusedVariables false
set_option linter.unusedSimpArgs false
namespace Go.Proofs.Ythiknhmoefbanaa
open Go.AL Go.Ch Go.Hp Go.RowKit
theorem fn12 : fnB Try.prog 12 = true := by kernel_rfl
theorem fn19 : fnB Try.prog 19 = true := by kernel_rfl
theorem fn24 : fnB Try.prog 24 = true := by kernel_rfl
theorem fn26 : fnB Try.prog 26 = true := by kernel_rfl
theorem fn28 : fnB Try.prog 28 = true := by kernel_rfl
theorem fn30 : fnB Try.prog 30 = true := by kernel_rfl
structure Cl where
  p : Pg
  g : Gr
  fn : Int
  args : List V
  dest : Int
def Cl.ps (c : Cl) : List Pred := [slP Fu.ps 4 c.p.funcs, slP Gl.ps 2 c.p.globals, slP lyp 1 c.p.layouts, eqP (.int .i64 c.p.main), eqP (.int .i64 c.g.state), eqP (.int .i64 c.g.fault), eqP (.int .i64 c.g.allocs), slP Fm.ps 9 c.g.frames, eqP (.int .i64 c.fn), slP vp 3 c.args, eqP (.int .i64 c.dest)]
theorem Cl.len (c : Cl) : c.ps.length = 11 := rfl
theorem law_defers (g : Gr) (hb : BdG 1048576 g) (hn : g.frames.length ≤ 100000) (d : Df) (hd : d.args.length ≤ 1048576) : FnP Try.prog 6 [aggP g.ps, aggP d.ps] (eqP (.bool true)) := by
  have hb4 : BdG 4000000 g := hb.mono (by decide)
  refine fn_pure' Try.func6 rfl Try.ntmps6 rfl ?_
  intro σ0 M ex Rf R hC hO
  simp only [frameOf, tokOf]
  refine tr_seq ?_
  refine tr_region (fun N0 hN => ?_)
  refine lxn (op_box (m := 2) (k := 2) rfl (.agg rfl) (by first | exact hC.low _ (by decide) | rfl)) rfl ?_
  refine lxn (op_box (m := 3) (k := 3) rfl (.agg rfl) (by first | exact hC.low _ (by decide) | rfl)) rfl ?_
  refine lx (op_assign rfl) rfl ?_
  refine lx_end ⟨by kernel_rfl, ?_⟩
  refine pe_then_normal ?_
  refine tr_sub hC (.cons (t := 2) rfl (.cons (t := 3) rfl .nil)) (.cons (t := 2) rfl (.cons (t := 3) rfl .nil)) rfl ?_
  refine tr_seq ?_
  refine tr_seq ?_
  refine tr_region (fun N1 hN => ?_)
  first | refine lx (op_call (l := []) (awake_ok) .nil fn12) rfl ?_ | refine lx (op_call (l := []) (awake_ok) .nil fn12) rfl ?_
  first | refine lx (op_not rfl) rfl ?_ | refine lx (op_not_b rfl) rfl ?_
  refine lx_end ⟨by kernel_rfl, ?_⟩
  refine pe_then_normal ?_
  refine tr_sub hC (.cons (t := 2) rfl (.cons (t := 3) rfl (.cons (t := 7) rfl .nil))) (.cons (t := 2) rfl (.cons (t := 3) rfl .nil)) rfl ?_
  refine tr_cond rfl (fun h7 => ?_) (fun h7 => ?_)
  · exact absurd h7 (by simp)
  · (try simp only [Bool.and_eq_true, Bool.or_eq_true, Bool.and_eq_false_iff, Bool.or_eq_false_iff, decide_eq_true_eq, decide_eq_false_iff_not, Bool.not_eq_true', Bool.not_eq_false', List.length_map, ne_eq, Decidable.not_not, Int.not_lt, Int.not_le] at h7)
    refine tr_skip ?_
    refine pe_then_normal ?_
    refine tr_sub hC (.cons (t := 2) rfl (.cons (t := 3) rfl .nil)) (.cons (t := 2) rfl (.cons (t := 3) rfl .nil)) rfl ?_
    refine tr_seq ?_
    refine tr_region (fun N3 hN => ?_)
    refine lx (op_bload (m := 2) rfl rfl ag29 sz29) rfl ?_
    first | refine lx (op_call (l := [(Go.Operand.tmp 8)]) (copyG_ok g hb4) (.cons rfl .nil) fn16) rfl ?_ | refine lx (op_call (l := [(Go.Operand.tmp 8)]) (copyG_ok g hb4) (.ent rfl (by repeat (first | exact Ents.nil | refine Ents.cons ?_ ?_ | refine Ent.tup ?_ | refine Ent.agg ?_ | exact Ent.row _ _ _ _ | exact Ent.nil _ _ | exact Ent.func _ | exact Ent.refl _ | exact Ent.of_eq rfl | refine Ent.cells ?_)) .nil) fn16) rfl ?_
    refine lxn (op_alloc (m := 5) (k := 5) (ps := [eqP (.int .i64 0), eqP (.int .i64 0), eqP (.int .i64 0), eqP (.slice none 0 0)]) ze29 rfl rfl (by first | exact hC.low _ (by decide) | rfl)) rfl ?_
    refine lxr (op_store_all (m := 5) rfl rfl rfl (.agg rfl) sz29 rfl) rfl ?_
    refine lx_end ⟨by kernel_rfl, ?_⟩
    refine pe_then_normal ?_
    refine tr_sub hC (.cons (t := 2) rfl (.cons (t := 3) rfl (.cons (t := 5) rfl .nil))) (.cons (t := 2) rfl (.cons (t := 3) rfl (.cons (t := 5) rfl .nil))) rfl ?_
    refine tr_seq ?_
    refine tr_drawn mixed (fun N4 hN => ?_)
    refine lx (op_bload (m := 5) rfl rfl ag29 sz29) rfl ?_
    refine lx (op_bload (m := 3) rfl rfl ag47 sz47) rfl ?_
    first | refine lx (op_call (l := [(Go.Operand.tmp 10), (Go.Operand.tmp 11)]) (Defer_ok g hb hn d hd) (.cons rfl (.cons rfl .nil)) fn23) rfl ?_ | refine lx (op_call (l := [(Go.Operand.tmp 10), (Go.Operand.tmp 11)]) (Defer_ok g hb hn d hd) (.ent rfl (by repeat (first | exact Ents.nil | refine Ents.cons ?_ ?_ | refine Ent.tup ?_ | refine Ent.agg ?_ | exact Ent.row _ _ _ _ | exact Ent.nil _ _ | exact Ent.func _ | exact Ent.refl _ | exact Ent.of_eq rfl | refine Ent.cells ?_)) (.ent rfl (by repeat (first | exact Ents.nil | refine Ents.cons ?_ ?_ | refine Ent.tup ?_ | refine Ent.agg ?_ | exact Ent.row _ _ _ _ | exact Ent.nil _ _ | exact Ent.func _ | exact Ent.refl _ | exact Ent.of_eq rfl | refine Ent.cells ?_)) .nil)) fn23) rfl ?_
    refine lx (op_bload (m := 2) rfl rfl ag29 sz29) rfl ?_
    refine lx (op_bload (m := 3) rfl rfl ag47 sz47) rfl ?_
    first | refine lx (op_call (l := [(Go.Operand.tmp 13), (Go.Operand.tmp 14)]) (rDefer_ok g hb hn d hd) (.cons rfl (.cons rfl .nil)) fn24) rfl ?_ | refine lx (op_call (l := [(Go.Operand.tmp 13), (Go.Operand.tmp 14)]) (rDefer_ok g hb hn d hd) (.ent rfl (by repeat (first | exact Ents.nil | refine Ents.cons ?_ ?_ | refine Ent.tup ?_ | refine Ent.agg ?_ | exact Ent.row _ _ _ _ | exact Ent.nil _ _ | exact Ent.func _ | exact Ent.refl _ | exact Ent.of_eq rfl | refine Ent.cells ?_)) (.ent rfl (by repeat (first | exact Ents.nil | refine Ents.cons ?_ ?_ | refine Ent.tup ?_ | refine Ent.agg ?_ | exact Ent.row _ _ _ _ | exact Ent.nil _ _ | exact Ent.func _ | exact Ent.refl _ | exact Ent.of_eq rfl | refine Ent.cells ?_)) .nil)) fn24) rfl ?_
    first | refine lx (op_call (l := [(Go.Operand.tmp 12), (Go.Operand.tmp 15)]) (sameG_ok (deferF g d) (deferF g d) ((bdG_deferF hb hd).mono (by decide))) (.cons rfl (.cons rfl .nil)) fn19) rfl ?_ | refine lx (op_call (l := [(Go.Operand.tmp 12), (Go.Operand.tmp 15)]) (sameG_ok (deferF g d) (deferF g d) ((bdG_deferF hb hd).mono (by decide))) (.ent rfl (by repeat (first | exact Ents.nil | refine Ents.cons ?_ ?_ | refine Ent.tup ?_ | refine Ent.agg ?_ | exact Ent.row _ _ _ _ | exact Ent.nil _ _ | exact Ent.func _ | exact Ent.refl _ | exact Ent.of_eq rfl | refine Ent.cells ?_)) (.ent rfl (by repeat (first | exact Ents.nil | refine Ents.cons ?_ ?_ | refine Ent.tup ?_ | refine Ent.agg ?_ | exact Ent.row _ _ _ _ | exact Ent.nil _ _ | exact Ent.func _ | exact Ent.refl _ | exact Ent.of_eq rfl | refine Ent.cells ?_)) .nil)) fn19) rfl ?_
    refine lx (op_move rfl) rfl ?_
    refine lxs rfl rfl rfl guard_eq (.cons (t := 5) rfl (fun _ => Ent.refl _) .nil) (op_bload (m := 5) rfl rfl ag29 sz29) rfl ?_
    refine lxs rfl rfl rfl guard_eq (.cons (t := 2) rfl (fun _ => Ent.refl _) .nil) (op_bload (m := 2) rfl rfl ag29 sz29) rfl ?_
    first | refine lxs rfl rfl rfl guard_eq (.cons (t := 18) rfl (fun h => entW h) (.cons (t := 19) rfl (fun h => entW h) .nil)) (op_call (l := [(Go.Operand.tmp 18), (Go.Operand.tmp 19)]) (sameG_ok (g) (g) (hb4)) (.cons rfl (.cons rfl .nil)) fn19) rfl ?_ | refine lxs rfl rfl rfl guard_eq (.cons (t := 18) rfl (fun h => entW h) (.cons (t := 19) rfl (fun h => entW h) .nil)) (op_call (l := [(Go.Operand.tmp 18), (Go.Operand.tmp 19)]) (sameG_ok (g) (g) (hb4)) (.ent rfl (by repeat (first | exact Ents.nil | refine Ents.cons ?_ ?_ | refine Ent.tup ?_ | refine Ent.agg ?_ | exact Ent.row _ _ _ _ | exact Ent.nil _ _ | exact Ent.func _ | exact Ent.refl _ | exact Ent.of_eq rfl | refine Ent.cells ?_)) (.ent rfl (by repeat (first | exact Ents.nil | refine Ents.cons ?_ ?_ | refine Ent.tup ?_ | refine Ent.agg ?_ | exact Ent.row _ _ _ _ | exact Ent.nil _ _ | exact Ent.func _ | exact Ent.refl _ | exact Ent.of_eq rfl | refine Ent.cells ?_)) .nil)) fn19) rfl ?_
    refine lx (op_pick_and rfl rfl) rfl ?_
    refine lx (op_assign rfl) rfl ?_
    refine lx_end ⟨by kernel_rfl, ?_⟩
    refine pe_then_normal ?_
    refine tr_sub hC (.cons (t := 4) rfl .nil) .nil rfl ?_
    refine tr_ret ?_
    refine pe_ret1 rfl hO rfl (.tmp rfl .nil) ?_
    exact entB (by simp)
theorem law_sets (g : Gr) (hb : BdG 1048576 g) (hn : g.frames.length ≤ 100000) (r : Int) (v : V) : FnP Try.prog 7 [aggP g.ps, eqP (.int .i64 r), aggP (vp v)] (eqP (.bool true)) := by
  have hb4 : BdG 4000000 g := hb.mono (by decide)
  refine fn_pure' Try.func7 rfl Try.ntmps7 rfl ?_
  intro σ0 M ex Rf R hC hO
  simp only [frameOf, tokOf]
  refine tr_seq ?_
  refine tr_region (fun N0 hN => ?_)
  refine lxn (op_box (m := 3) (k := 3) rfl (.agg rfl) (by first | exact hC.low _ (by decide) | rfl)) rfl ?_
  refine lxn (op_box (m := 5) (k := 5) rfl (.agg rfl) (by first | exact hC.low _ (by decide) | rfl)) rfl ?_
  refine lx (op_assign rfl) rfl ?_
  refine lx_end ⟨by kernel_rfl, ?_⟩
  refine pe_then_normal ?_
  refine tr_sub hC (.cons (t := 1) rfl (.cons (t := 3) rfl (.cons (t := 5) rfl .nil))) (.cons (t := 3) rfl (.cons (t := 5) rfl .nil)) rfl ?_
  refine tr_seq ?_
  refine tr_seq ?_
  refine tr_region (fun N1 hN => ?_)
  first | refine lx (op_call (l := []) (awake_ok) .nil fn12) rfl ?_ | refine lx (op_call (l := []) (awake_ok) .nil fn12) rfl ?_
  first | refine lx (op_not rfl) rfl ?_ | refine lx (op_not_b rfl) rfl ?_
  refine lx_end ⟨by kernel_rfl, ?_⟩
  refine pe_then_normal ?_
  refine tr_sub hC (.cons (t := 1) rfl (.cons (t := 3) rfl (.cons (t := 5) rfl (.cons (t := 9) rfl .nil)))) (.cons (t := 3) rfl (.cons (t := 5) rfl .nil)) rfl ?_
  refine tr_cond rfl (fun h9 => ?_) (fun h9 => ?_)
  · exact absurd h9 (by simp)
  · (try simp only [Bool.and_eq_true, Bool.or_eq_true, Bool.and_eq_false_iff, Bool.or_eq_false_iff, decide_eq_true_eq, decide_eq_false_iff_not, Bool.not_eq_true', Bool.not_eq_false', List.length_map, ne_eq, Decidable.not_not, Int.not_lt, Int.not_le] at h9)
    refine tr_skip ?_
    refine pe_then_normal ?_
    refine tr_sub hC (.cons (t := 1) rfl (.cons (t := 3) rfl (.cons (t := 5) rfl .nil))) (.cons (t := 3) rfl (.cons (t := 5) rfl .nil)) rfl ?_
    refine tr_seq ?_
    refine tr_region (fun N3 hN => ?_)
    refine lx (op_bload (m := 3) rfl rfl ag29 sz29) rfl ?_
    first | refine lx (op_call (l := [(Go.Operand.tmp 10)]) (copyG_ok g hb4) (.cons rfl .nil) fn16) rfl ?_ | refine lx (op_call (l := [(Go.Operand.tmp 10)]) (copyG_ok g hb4) (.ent rfl (by repeat (first | exact Ents.nil | refine Ents.cons ?_ ?_ | refine Ent.tup ?_ | refine Ent.agg ?_ | exact Ent.row _ _ _ _ | exact Ent.nil _ _ | exact Ent.func _ | exact Ent.refl _ | exact Ent.of_eq rfl | refine Ent.cells ?_)) .nil) fn16) rfl ?_
    refine lxn (op_alloc (m := 7) (k := 7) (ps := [eqP (.int .i64 0), eqP (.int .i64 0), eqP (.int .i64 0), eqP (.slice none 0 0)]) ze29 rfl rfl (by first | exact hC.low _ (by decide) | rfl)) rfl ?_
    refine lxr (op_store_all (m := 7) rfl rfl rfl (.agg rfl) sz29 rfl) rfl ?_
    refine lx_end ⟨by kernel_rfl, ?_⟩
    refine pe_then_normal ?_
    refine tr_sub hC (.cons (t := 1) rfl (.cons (t := 3) rfl (.cons (t := 5) rfl (.cons (t := 7) rfl .nil)))) (.cons (t := 3) rfl (.cons (t := 5) rfl (.cons (t := 7) rfl .nil))) rfl ?_
    refine tr_seq ?_
    refine tr_drawn mixed (fun N4 hN => ?_)
    refine lx (op_bload (m := 7) rfl rfl ag29 sz29) rfl ?_
    refine lx (op_move rfl) rfl ?_
    refine lx (op_bload (m := 5) rfl rfl ag43 sz43) rfl ?_
    first | refine lx (op_call (l := [(Go.Operand.tmp 12), (Go.Operand.tmp 13), (Go.Operand.tmp 14)]) (Set_ok g hb hn r v) (.cons rfl (.cons rfl (.cons rfl .nil))) fn25) rfl ?_ | refine lx (op_call (l := [(Go.Operand.tmp 12), (Go.Operand.tmp 13), (Go.Operand.tmp 14)]) (Set_ok g hb hn r v) (.ent rfl (by repeat (first | exact Ents.nil | refine Ents.cons ?_ ?_ | refine Ent.tup ?_ | refine Ent.agg ?_ | exact Ent.row _ _ _ _ | exact Ent.nil _ _ | exact Ent.func _ | exact Ent.refl _ | exact Ent.of_eq rfl | refine Ent.cells ?_)) (.ent rfl (by repeat (first | exact Ents.nil | refine Ents.cons ?_ ?_ | refine Ent.tup ?_ | refine Ent.agg ?_ | exact Ent.row _ _ _ _ | exact Ent.nil _ _ | exact Ent.func _ | exact Ent.refl _ | exact Ent.of_eq rfl | refine Ent.cells ?_)) (.ent rfl (by repeat (first | exact Ents.nil | refine Ents.cons ?_ ?_ | refine Ent.tup ?_ | refine Ent.agg ?_ | exact Ent.row _ _ _ _ | exact Ent.nil _ _ | exact Ent.func _ | exact Ent.refl _ | exact Ent.of_eq rfl | refine Ent.cells ?_)) .nil))) fn25) rfl ?_
    refine lx (op_bload (m := 3) rfl rfl ag29 sz29) rfl ?_
    refine lx (op_move rfl) rfl ?_
    refine lx (op_bload (m := 5) rfl rfl ag43 sz43) rfl ?_
    first | refine lx (op_call (l := [(Go.Operand.tmp 16), (Go.Operand.tmp 17), (Go.Operand.tmp 18)]) (rSet_ok g hb hn r v) (.cons rfl (.cons rfl (.cons rfl .nil))) fn26) rfl ?_ | refine lx (op_call (l := [(Go.Operand.tmp 16), (Go.Operand.tmp 17), (Go.Operand.tmp 18)]) (rSet_ok g hb hn r v) (.ent rfl (by repeat (first | exact Ents.nil | refine Ents.cons ?_ ?_ | refine Ent.tup ?_ | refine Ent.agg ?_ | exact Ent.row _ _ _ _ | exact Ent.nil _ _ | exact Ent.func _ | exact Ent.refl _ | exact Ent.of_eq rfl | refine Ent.cells ?_)) (.ent rfl (by repeat (first | exact Ents.nil | refine Ents.cons ?_ ?_ | refine Ent.tup ?_ | refine Ent.agg ?_ | exact Ent.row _ _ _ _ | exact Ent.nil _ _ | exact Ent.func _ | exact Ent.refl _ | exact Ent.of_eq rfl | refine Ent.cells ?_)) (.ent rfl (by repeat (first | exact Ents.nil | refine Ents.cons ?_ ?_ | refine Ent.tup ?_ | refine Ent.agg ?_ | exact Ent.row _ _ _ _ | exact Ent.nil _ _ | exact Ent.func _ | exact Ent.refl _ | exact Ent.of_eq rfl | refine Ent.cells ?_)) .nil))) fn26) rfl ?_
    first | refine lx (op_call (l := [(Go.Operand.tmp 15), (Go.Operand.tmp 19)]) (sameG_ok (setF g r v) (setF g r v) ((bdG_setF hb).mono (by decide))) (.cons rfl (.cons rfl .nil)) fn19) rfl ?_ | refine lx (op_call (l := [(Go.Operand.tmp 15), (Go.Operand.tmp 19)]) (sameG_ok (setF g r v) (setF g r v) ((bdG_setF hb).mono (by decide))) (.ent rfl (by repeat (first | exact Ents.nil | refine Ents.cons ?_ ?_ | refine Ent.tup ?_ | refine Ent.agg ?_ | exact Ent.row _ _ _ _ | exact Ent.nil _ _ | exact Ent.func _ | exact Ent.refl _ | exact Ent.of_eq rfl | refine Ent.cells ?_)) (.ent rfl (by repeat (first | exact Ents.nil | refine Ents.cons ?_ ?_ | refine Ent.tup ?_ | refine Ent.agg ?_ | exact Ent.row _ _ _ _ | exact Ent.nil _ _ | exact Ent.func _ | exact Ent.refl _ | exact Ent.of_eq rfl | refine Ent.cells ?_)) .nil)) fn19) rfl ?_
    refine lx (op_move rfl) rfl ?_
    refine lxs rfl rfl rfl guard_eq (.cons (t := 7) rfl (fun _ => Ent.refl _) .nil) (op_bload (m := 7) rfl rfl ag29 sz29) rfl ?_
    refine lxs rfl rfl rfl guard_eq (.cons (t := 1) rfl (fun _ => Ent.refl _) .nil) (op_move rfl) rfl ?_
    first | refine lxs rfl rfl rfl guard_eq (.cons (t := 22) rfl (fun h => entW h) (.cons (t := 23) rfl (fun h => entW h) .nil)) (op_call (l := [(Go.Operand.tmp 22), (Go.Operand.tmp 23)]) (Reg_ok g hb hn r) (.cons rfl (.cons rfl .nil)) fn27) rfl ?_ | refine lxs rfl rfl rfl guard_eq (.cons (t := 22) rfl (fun h => entW h) (.cons (t := 23) rfl (fun h => entW h) .nil)) (op_call (l := [(Go.Operand.tmp 22), (Go.Operand.tmp 23)]) (Reg_ok g hb hn r) (.ent rfl (by repeat (first | exact Ents.nil | refine Ents.cons ?_ ?_ | refine Ent.tup ?_ | refine Ent.agg ?_ | exact Ent.row _ _ _ _ | exact Ent.nil _ _ | exact Ent.func _ | exact Ent.refl _ | exact Ent.of_eq rfl | refine Ent.cells ?_)) (.ent rfl (by repeat (first | exact Ents.nil | refine Ents.cons ?_ ?_ | refine Ent.tup ?_ | refine Ent.agg ?_ | exact Ent.row _ _ _ _ | exact Ent.nil _ _ | exact Ent.func _ | exact Ent.refl _ | exact Ent.of_eq rfl | refine Ent.cells ?_)) .nil)) fn27) rfl ?_
    refine lxs rfl rfl rfl guard_eq (.cons (t := 3) rfl (fun _ => Ent.refl _) .nil) (op_bload (m := 3) rfl rfl ag29 sz29) rfl ?_
    refine lxs rfl rfl rfl guard_eq (.cons (t := 1) rfl (fun _ => Ent.refl _) .nil) (op_move rfl) rfl ?_
    first | refine lxs rfl rfl rfl guard_eq (.cons (t := 25) rfl (fun h => entW h) (.cons (t := 26) rfl (fun h => entW h) .nil)) (op_call (l := [(Go.Operand.tmp 25), (Go.Operand.tmp 26)]) (rReg_ok g hb hn r) (.cons rfl (.cons rfl .nil)) fn28) rfl ?_ | refine lxs rfl rfl rfl guard_eq (.cons (t := 25) rfl (fun h => entW h) (.cons (t := 26) rfl (fun h => entW h) .nil)) (op_call (l := [(Go.Operand.tmp 25), (Go.Operand.tmp 26)]) (rReg_ok g hb hn r) (.ent rfl (by repeat (first | exact Ents.nil | refine Ents.cons ?_ ?_ | refine Ent.tup ?_ | refine Ent.agg ?_ | exact Ent.row _ _ _ _ | exact Ent.nil _ _ | exact Ent.func _ | exact Ent.refl _ | exact Ent.of_eq rfl | refine Ent.cells ?_)) (.ent rfl (by repeat (first | exact Ents.nil | refine Ents.cons ?_ ?_ | refine Ent.tup ?_ | refine Ent.agg ?_ | exact Ent.row _ _ _ _ | exact Ent.nil _ _ | exact Ent.func _ | exact Ent.refl _ | exact Ent.of_eq rfl | refine Ent.cells ?_)) .nil)) fn28) rfl ?_
    refine lxs rfl rfl rfl guard_eq (.cons (t := 24) rfl (fun h => entW h) (.cons (t := 27) rfl (fun h => entW h) .nil)) (op_eql_agg rfl rfl (eqV _ _)) rfl ?_
    refine lx (op_pick_and rfl rfl) rfl ?_
    refine lx (op_move rfl) rfl ?_
    refine lxs rfl rfl rfl guard_eq (.cons (t := 7) rfl (fun _ => Ent.refl _) .nil) (op_bload (m := 7) rfl rfl ag29 sz29) rfl ?_
    refine lxs rfl rfl rfl guard_eq (.cons (t := 3) rfl (fun _ => Ent.refl _) .nil) (op_bload (m := 3) rfl rfl ag29 sz29) rfl ?_
    first | refine lxs rfl rfl rfl guard_eq (.cons (t := 31) rfl (fun h => entW h) (.cons (t := 32) rfl (fun h => entW h) .nil)) (op_call (l := [(Go.Operand.tmp 31), (Go.Operand.tmp 32)]) (sameG_ok (g) (g) (hb4)) (.cons rfl (.cons rfl .nil)) fn19) rfl ?_ | refine lxs rfl rfl rfl guard_eq (.cons (t := 31) rfl (fun h => entW h) (.cons (t := 32) rfl (fun h => entW h) .nil)) (op_call (l := [(Go.Operand.tmp 31), (Go.Operand.tmp 32)]) (sameG_ok (g) (g) (hb4)) (.ent rfl (by repeat (first | exact Ents.nil | refine Ents.cons ?_ ?_ | refine Ent.tup ?_ | refine Ent.agg ?_ | exact Ent.row _ _ _ _ | exact Ent.nil _ _ | exact Ent.func _ | exact Ent.refl _ | exact Ent.of_eq rfl | refine Ent.cells ?_)) (.ent rfl (by repeat (first | exact Ents.nil | refine Ents.cons ?_ ?_ | refine Ent.tup ?_ | refine Ent.agg ?_ | exact Ent.row _ _ _ _ | exact Ent.nil _ _ | exact Ent.func _ | exact Ent.refl _ | exact Ent.of_eq rfl | refine Ent.cells ?_)) .nil)) fn19) rfl ?_
    refine lx (op_pick_and rfl rfl) rfl ?_
    refine lx (op_assign rfl) rfl ?_
    refine lx_end ⟨by kernel_rfl, ?_⟩
    refine pe_then_normal ?_
    refine tr_sub hC (.cons (t := 6) rfl .nil) .nil rfl ?_
    refine tr_ret ?_
    refine pe_ret1 rfl hO rfl (.tmp rfl .nil) ?_
    exact entB (by simp)
def sv (s : Int × Int) : List Value := [.int .i64 s.1, .int .i64 s.2]
theorem eqS (a b : Int × Int) : EqLaw Try.prog 56 (sv a) (sv b) (decide (a = b)) := (eqLaw_flat (ls := [.i .i64, .i .i64]) (by kernel_rfl) (by kernel_rfl) (by kernel_rfl) rfl rfl).to (decide_eq_decide.mpr (by
  obtain ⟨a1, a2⟩ := a
  obtain ⟨b1, b2⟩ := b
  simp [sv]))
theorem law_sites (g : Gr) (hb : g.frames.length ≤ 4000000) : FnP Try.prog 8 [aggP g.ps] (eqP (.bool true)) := by
  have hsl : (sitesF g.frames).length = g.frames.length := by unfold sitesF; simp
  refine fn_pure' Try.func8 rfl Try.ntmps8 rfl ?_
  intro σ0 M ex Rf R hC hO
  simp only [frameOf, tokOf]
  refine tr_seq ?_
  refine tr_region (fun N0 hN => ?_)
  refine lxn (op_box (m := 1) (k := 1) rfl (.agg rfl) (by first | exact hC.low _ (by decide) | rfl)) rfl ?_
  refine lx (op_assign rfl) rfl ?_
  refine lx_end ⟨by kernel_rfl, ?_⟩
  refine pe_then_normal ?_
  refine tr_sub hC (.cons (t := 1) rfl .nil) (.cons (t := 1) rfl .nil) rfl ?_
  refine tr_seq ?_
  refine tr_drawn mixed (fun N1 hN => ?_)
  refine lx (op_bload (m := 1) rfl rfl ag29 sz29) rfl ?_
  first | refine lx (op_call (l := [(Go.Operand.tmp 6)]) (Sites_ok g hb) (.cons rfl .nil) fn29) rfl ?_ | refine lx (op_call (l := [(Go.Operand.tmp 6)]) (Sites_ok g hb) (.ent rfl (by repeat (first | exact Ents.nil | refine Ents.cons ?_ ?_ | refine Ent.tup ?_ | refine Ent.agg ?_ | exact Ent.row _ _ _ _ | exact Ent.nil _ _ | exact Ent.func _ | exact Ent.refl _ | exact Ent.of_eq rfl | refine Ent.cells ?_)) .nil) fn29) rfl ?_
  refine lx (op_bload (m := 1) rfl rfl ag29 sz29) rfl ?_
  first | refine lx (op_call (l := [(Go.Operand.tmp 8)]) (rSites_ok g hb) (.cons rfl .nil) fn30) rfl ?_ | refine lx (op_call (l := [(Go.Operand.tmp 8)]) (rSites_ok g hb) (.ent rfl (by repeat (first | exact Ents.nil | refine Ents.cons ?_ ?_ | refine Ent.tup ?_ | refine Ent.agg ?_ | exact Ent.row _ _ _ _ | exact Ent.nil _ _ | exact Ent.func _ | exact Ent.refl _ | exact Ent.of_eq rfl | refine Ent.cells ?_)) .nil) fn30) rfl ?_
  refine lx (op_assign rfl) rfl ?_
  refine lx (op_assign rfl) rfl ?_
  refine lx_end ⟨by kernel_rfl, ?_⟩
  refine pe_then_normal ?_
  refine tr_sub hC (.cons (t := 3) rfl (.cons (t := 4) rfl .nil)) .nil rfl ?_
  refine tr_seq ?_
  refine tr_seq ?_
  refine tr_region (fun N2 hN => ?_)
  first | refine lx (op_call (l := []) (awake_ok) .nil fn12) rfl ?_ | refine lx (op_call (l := []) (awake_ok) .nil fn12) rfl ?_
  first | refine lx (op_not rfl) rfl ?_ | refine lx (op_not_b rfl) rfl ?_
  refine lx (op_move rfl) rfl ?_
  refine lxs rfl rfl rfl guard_eq (.cons (t := 3) rfl (fun _ => Ent.refl _) .nil) (op_move rfl) rfl ?_
  first | refine lxs rfl rfl rfl guard_eq (.cons (t := 13) rfl (fun h => entW h) .nil) (op_len rfl el53) rfl ?_ | refine lxs rfl rfl rfl guard_eq (.cons (t := 13) rfl (fun h => entW h) .nil) (op_len_row rfl el53) rfl ?_ | refine lxs rfl rfl rfl guard_eq (.cons (t := 13) rfl (fun h => entW h) .nil) (op_len_mv rfl el53) rfl ?_ | refine lxs rfl rfl rfl guard_eq (.cons (t := 13) rfl (fun h => entW h) .nil) (op_len_nil rfl el53) rfl ?_
  refine lxs rfl rfl rfl guard_eq (.cons (t := 4) rfl (fun _ => Ent.refl _) .nil) (op_move rfl) rfl ?_
  first | refine lxs rfl rfl rfl guard_eq (.cons (t := 15) rfl (fun h => entW h) .nil) (op_len rfl el53) rfl ?_ | refine lxs rfl rfl rfl guard_eq (.cons (t := 15) rfl (fun h => entW h) .nil) (op_len_row rfl el53) rfl ?_ | refine lxs rfl rfl rfl guard_eq (.cons (t := 15) rfl (fun h => entW h) .nil) (op_len_mv rfl el53) rfl ?_ | refine lxs rfl rfl rfl guard_eq (.cons (t := 15) rfl (fun h => entW h) .nil) (op_len_nil rfl el53) rfl ?_
  refine lxs rfl rfl rfl guard_eq (.cons (t := 14) rfl (fun h => entW h) (.cons (t := 16) rfl (fun h => entW h) .nil)) (op_neq rfl rfl) rfl ?_
  refine lx (op_pick_or rfl rfl) rfl ?_
  refine lx_end ⟨by kernel_rfl, ?_⟩
  refine pe_then_normal ?_
  refine tr_sub hC (.cons (t := 3) rfl (.cons (t := 4) rfl (.cons (t := 18) rfl .nil))) .nil rfl ?_
  refine tr_cond rfl (fun h18 => ?_) (fun h18 => ?_)
  · exact absurd h18 (by simp)
  · (try simp only [Bool.and_eq_true, Bool.or_eq_true, Bool.and_eq_false_iff, Bool.or_eq_false_iff, decide_eq_true_eq, decide_eq_false_iff_not, Bool.not_eq_true', Bool.not_eq_false', List.length_map, ne_eq, Decidable.not_not, Int.not_lt, Int.not_le] at h18)
    refine tr_skip ?_
    refine pe_then_normal ?_
    refine tr_sub hC (.cons (t := 3) rfl (.cons (t := 4) rfl .nil)) .nil rfl ?_
    refine tr_seq ?_
    refine tr_seq ?_
    refine tr_region (fun N4 hN => ?_)
    refine lx (op_assign rfl) rfl ?_
    refine lx_end ⟨by kernel_rfl, ?_⟩
    refine pe_then_normal ?_
    refine tr_sub hC (.cons (t := 3) rfl (.cons (t := 4) rfl (.cons (t := 5) rfl .nil))) .nil rfl ?_
    refine tr_block ?_
    refine tr_loopK (α := {zz : Nat // zz ≤ (sitesF g.frames).length}) (⟨(0), Nat.zero_le _⟩) (fun zz => [(5, eqP (.int .i64 (zz.1 : Int)))]) (fun zz => []) (fun zz => (sitesF g.frames).length - zz.1) hC (.cons (t := 3) rfl (.cons (t := 4) rfl .nil)) .nil rfl ?_ ?_ (fun zz => ?_)
    · try dsimp only [List.cons_append, List.nil_append]
      first | refine SubF.cons rfl ?_ | (refine SubF.ent rfl ?_ ?_; · repeat (first | exact Ents.nil | refine Ents.cons ?_ ?_ | refine Ent.tup ?_ | refine Ent.agg ?_ | exact Ent.row _ _ _ _ | exact Ent.nil _ _ | exact Ent.func _ | exact Ent.refl _ | exact Ent.of_eq rfl | refine Ent.cells ?_))
      exact SubF.nil
    · try dsimp only [List.cons_append, List.nil_append]
      repeat (first | exact SubL.nil | refine SubL.cons rfl ?_)
    · obtain ⟨k, hk1⟩ := zz
      dsimp only [List.cons_append, List.nil_append]
      refine tr_seq ?_
      refine tr_seq ?_
      refine tr_region (fun N5 hN => ?_)
      refine lx (op_move rfl) rfl ?_
      refine lx (op_move rfl) rfl ?_
      first | refine lx (op_len rfl el53) rfl ?_ | refine lx (op_len_row rfl el53) rfl ?_ | refine lx (op_len_mv rfl el53) rfl ?_ | refine lx (op_len_nil rfl el53) rfl ?_
      refine lx (op_lss rfl rfl) rfl ?_
      refine lx_end ⟨by kernel_rfl, ?_⟩
      refine pe_then_normal ?_
      refine tr_sub hC (.cons (t := 3) rfl (.cons (t := 4) rfl (.cons (t := 5) rfl (.cons (t := 22) rfl .nil)))) .nil rfl ?_
      refine tr_cond rfl (fun h22 => ?_) (fun h22 => ?_)
      · (try simp only [Bool.and_eq_true, Bool.or_eq_true, Bool.and_eq_false_iff, Bool.or_eq_false_iff, decide_eq_true_eq, decide_eq_false_iff_not, Bool.not_eq_true', Bool.not_eq_false', List.length_map, ne_eq, Decidable.not_not, Int.not_lt, Int.not_le] at h22)
        refine tr_skip ?_
        refine pe_then_normal ?_
        refine tr_sub hC (.cons (t := 3) rfl (.cons (t := 4) rfl (.cons (t := 5) rfl .nil))) .nil rfl ?_
        refine tr_seq ?_
        refine tr_block ?_
        refine tr_seq ?_
        refine tr_drawn mixed (fun N7 hN => ?_)
        refine lx (op_move rfl) rfl ?_
        refine lx (op_move rfl) rfl ?_
        refine lx (op_index rfl rfl el53 sz56 rfl (List.getElem?_eq_getElem (by omega : k < (sitesF g.frames).length))) rfl ?_
        first | refine lx (op_load_all rfl ag56 sz56) rfl ?_ | refine lx (op_load_agg rfl ag56 sz56 rfl) rfl ?_
        refine lx (op_move rfl) rfl ?_
        refine lx (op_move rfl) rfl ?_
        refine lx (op_index rfl rfl el53 sz56 rfl (List.getElem?_eq_getElem (by omega : k < (sitesF g.frames).length))) rfl ?_
        first | refine lx (op_load_all rfl ag56 sz56) rfl ?_ | refine lx (op_load_agg rfl ag56 sz56 rfl) rfl ?_
        refine lx (op_neq_agg rfl rfl (eqS _ _)) rfl ?_
        refine lx_end ⟨by kernel_rfl, ?_⟩
        refine pe_then_normal ?_
        refine tr_sub hC (.cons (t := 3) rfl (.cons (t := 4) rfl (.cons (t := 5) rfl (.cons (t := 33) rfl .nil)))) .nil rfl ?_
        refine tr_cond rfl (fun h33 => ?_) (fun h33 => ?_)
        · exact absurd h33 (by simp)
        · (try simp only [Bool.and_eq_true, Bool.or_eq_true, Bool.and_eq_false_iff, Bool.or_eq_false_iff, decide_eq_true_eq, decide_eq_false_iff_not, Bool.not_eq_true', Bool.not_eq_false', List.length_map, ne_eq, Decidable.not_not, Int.not_lt, Int.not_le] at h33)
          refine tr_skip ?_
          refine pe_block_normal ?_
          refine pe_then_normal ?_
          refine tr_sub hC (.cons (t := 3) rfl (.cons (t := 4) rfl (.cons (t := 5) rfl .nil))) .nil rfl ?_
          refine tr_region (fun N6 hN => ?_)
          refine lx (op_move rfl) rfl ?_
          refine lx (op_add rfl rfl (by omega)) rfl ?_
          refine lx (op_assign rfl) rfl ?_
          refine lx_end ⟨by kernel_rfl, ?_⟩
          refine pe_round (⟨(k + 1), by omega⟩) (by dsimp only; omega) (pe_st hC ?_ ?_ rfl)
          · try dsimp only [List.cons_append, List.nil_append]
            first | refine SubF.cons rfl ?_ | (refine SubF.ent rfl ?_ ?_; · repeat (first | exact Ents.nil | refine Ents.cons ?_ ?_ | refine Ent.tup ?_ | refine Ent.agg ?_ | exact Ent.row _ _ _ _ | exact Ent.nil _ _ | exact Ent.func _ | exact Ent.refl _ | exact Ent.of_eq rfl | refine Ent.cells ?_))
            first | refine SubF.cons rfl ?_ | (refine SubF.ent rfl ?_ ?_; · repeat (first | exact Ents.nil | refine Ents.cons ?_ ?_ | refine Ent.tup ?_ | refine Ent.agg ?_ | exact Ent.row _ _ _ _ | exact Ent.nil _ _ | exact Ent.func _ | exact Ent.refl _ | exact Ent.of_eq rfl | refine Ent.cells ?_))
            first | refine SubF.cons rfl ?_ | (refine SubF.ent rfl ?_ ?_; · repeat (first | exact Ents.nil | refine Ents.cons ?_ ?_ | refine Ent.tup ?_ | refine Ent.agg ?_ | exact Ent.row _ _ _ _ | exact Ent.nil _ _ | exact Ent.func _ | exact Ent.refl _ | exact Ent.of_eq rfl | refine Ent.cells ?_))
            exact SubF.nil
          · try dsimp only [List.cons_append, List.nil_append]
            repeat (first | exact SubL.nil | refine SubL.cons rfl ?_)
      · (try simp only [Bool.and_eq_true, Bool.or_eq_true, Bool.and_eq_false_iff, Bool.or_eq_false_iff, decide_eq_true_eq, decide_eq_false_iff_not, Bool.not_eq_true', Bool.not_eq_false', List.length_map, ne_eq, Decidable.not_not, Int.not_lt, Int.not_le] at h22)
        refine tr_exit ?_
        refine pe_then_exit ?_
        refine pe_then_exit ?_
        refine pe_block_eq ?_
        refine pe_then_normal ?_
        refine tr_sub hC .nil .nil rfl ?_
        refine tr_seq ?_
        refine tr_region (fun N9 hN => ?_)
        refine lx (op_assign rfl) rfl ?_
        refine lx_end ⟨by kernel_rfl, ?_⟩
        refine pe_then_normal ?_
        refine tr_sub hC (.cons (t := 2) rfl .nil) .nil rfl ?_
        refine tr_ret ?_
        refine pe_ret1 rfl hO rfl (.tmp rfl .nil) ?_
        exact entB rfl
end Go.Proofs.Ythiknhmoefbanaa


namespace Go.Proofs.Ythiknhmoefbanaa
open Go.AL Go.Ch Go.Hp Go.RowKit
section
variable {H : Type} {enc : TypeId × Value → H} {W : World} {base : Nat} {spare : Nat → Bool} {held : Bool} {bk : DataW H → Nat}
theorem rd_value (hB : BulkOK bk) : RdS enc Try.prog W base spare held bk 43 vp szV (fun _ => True) :=
  (rdS_struct hB (fs := [(0, 3, 1), (1, 3, 1), (2, 3, 1)]) (m := 3) (by kernel_rfl) (by kernel_rfl) (rdfS_cons (rdS_int hB Try.underlying3) (rdfS_cons (rdS_int hB Try.underlying3) (rdfS_cons (rdS_int hB Try.underlying3) rdfS_nil)))).map
    (fun x => ⟨x.1, x.2.1, x.2.2.1⟩) (fun _ => rfl) (fun _ => Nat.le_refl _) (fun _ _ => trivial)
theorem rd_values (hB : BulkOK bk) : RdS enc Try.prog W base spare held bk 33 (fun l => [slP vp 3 l]) (szL szV) (fun _ => True) :=
  (rdS_slice hB Try.underlying33 (rd_value hB) (by kernel_rfl) (by decide)).map (fun x => x) (fun _ => rfl) (fun _ => Nat.le_refl _) (fun _ _ => trivial)
theorem rd_deferred (hB : BulkOK bk) : RdS enc Try.prog W base spare held bk 47 Df.ps szD (fun _ => True) :=
  (rdS_struct hB (fs := [(0, 3, 1), (1, 33, 1)]) (m := 2) (by kernel_rfl) (by kernel_rfl) (rdfS_cons (rdS_int hB Try.underlying3) (rdfS_cons (rd_values hB) rdfS_nil))).map
    (fun x => ⟨x.1, x.2.1⟩) (fun _ => rfl) (fun _ => by simp only [szD]; omega) (fun _ _ => trivial)
theorem rd_defers (hB : BulkOK bk) : RdS enc Try.prog W base spare held bk 58 (fun l => [slP Df.ps 2 l]) (szL szD) (fun _ => True) :=
  (rdS_slice hB Try.underlying58 (rd_deferred hB) (by kernel_rfl) (by decide)).map (fun x => x) (fun _ => rfl) (fun _ => Nat.le_refl _) (fun _ _ => trivial)
theorem rd_frame (hB : BulkOK bk) : RdS enc Try.prog W base spare held bk 60 Fm.ps szFm (fun _ => True) :=
  (rdS_struct hB (fs := [(0, 3, 1), (1, 3, 1), (2, 33, 1), (3, 3, 1), (4, 58, 1), (5, 4, 1), (6, 43, 3)]) (m := 9) (by kernel_rfl) (by kernel_rfl) (rdfS_cons (rdS_int hB Try.underlying3) (rdfS_cons (rdS_int hB Try.underlying3) (rdfS_cons (rd_values hB) (rdfS_cons (rdS_int hB Try.underlying3) (rdfS_cons (rd_defers hB) (rdfS_cons (rdS_bool hB Try.underlying4) (rdfS_cons (rd_value hB) rdfS_nil)))))))).map
    (fun x => ⟨x.1, x.2.1, x.2.2.1, x.2.2.2.1, x.2.2.2.2.1, x.2.2.2.2.2.1, x.2.2.2.2.2.2.1⟩) (fun _ => rfl) (fun _ => by simp only [szFm, szV]; omega) (fun _ _ => trivial)
theorem rd_frames (hB : BulkOK bk) : RdS enc Try.prog W base spare held bk 27 (fun l => [slP Fm.ps 9 l]) (szL szFm) (fun _ => True) :=
  (rdS_slice hB Try.underlying27 (rd_frame hB) (by kernel_rfl) (by decide)).map (fun x => x) (fun _ => rfl) (fun _ => Nat.le_refl _) (fun _ _ => trivial)
theorem rd_goroutine (hB : BulkOK bk) : RdS enc Try.prog W base spare held bk 29 Gr.ps szGr (fun _ => True) :=
  (rdS_struct hB (fs := [(0, 3, 1), (1, 3, 1), (2, 3, 1), (3, 27, 1)]) (m := 4) (by kernel_rfl) (by kernel_rfl) (rdfS_cons (rdS_int hB Try.underlying3) (rdfS_cons (rdS_int hB Try.underlying3) (rdfS_cons (rdS_int hB Try.underlying3) (rdfS_cons (rd_frames hB) rdfS_nil))))).map
    (fun x => ⟨x.1, x.2.1, x.2.2.1, x.2.2.2.1⟩) (fun _ => rfl) (fun _ => by simp only [szGr]; omega) (fun _ _ => trivial)
def szCl (c : Cl) : Nat := szP c.p + szGr c.g + szL szV c.args
end
end Go.Proofs.Ythiknhmoefbanaa


namespace Go.Proofs.Ythiknhmoefbanaa
open Go.AL
theorem bulkAll {H : Type} : ∀ l : List (DataW H), Rows.uptoBulkAll l = (l.map Rows.uptoBulk).sum
  | [] => rfl
  | d :: l => by
    rw [Rows.uptoBulkAll, bulkAll l, List.map_cons, List.sum_cons]
theorem bulkOK {H : Type} : BulkOK (H := H) Rows.uptoBulk where
  lit := fun l => by cases l <;> simp [Rows.uptoBulk]
  nil := by simp [Rows.uptoBulk]
  slice := fun e s => by rw [Rows.uptoBulk, bulkAll, bulkAll]; omega
  agg := fun l => by rw [Rows.uptoBulk, bulkAll]; omega
end Go.Proofs.Ythiknhmoefbanaa
