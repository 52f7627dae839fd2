/- Parts of a proof that share one text: StWalk13, StWalk14, StWalk15. -/
import Derived.Test.YthiknhmoefbanaaCLb
import Derived.Test.YthiknhmoefbanaaCLd

set_option linter.unusedVariables false
set_option linter.unusedSimpArgs false
namespace Go.Proofs.Ythiknhmoefbanaa
open Go.AL Go.Ch Go.Hp Go.RowKit
theorem fn33 : fnB Try.prog 33 = true := by kernel_rfl
theorem rValid_ok (p : Pg) (g : Gr) (hb : BdG 9223372036854775807 g) : FnP Try.prog 15 [aggP p.ps, aggP g.ps] (eqP (.bool (validG p g))) := by
 have hbf := hb.frames
 refine fn_pure' Try.func15 rfl Try.ntmps15 rfl ?_
 intro σ0 M ex Rf R hC hO
 simp only [frameOf, tokOf]
 refine tr_seq ?_
 refine tr_region (fun N0 hN => ?_)
 refine lxn (op_box (m := 2) (k := 2) rfl (.agg rfl) (by first | exact hC.low _ (by decide) | rfl)) rfl ?_
 refine lxn (op_box (m := 3) (k := 3) rfl (.agg rfl) (by first | exact hC.low _ (by decide) | rfl)) rfl ?_
 refine lx (op_assign rfl) rfl ?_
 refine lx_end ⟨by kernel_rfl, ?_⟩
 refine pe_then_normal ?_
 refine tr_sub hC (.cons (t := 2) rfl (.cons (t := 3) rfl .nil)) (.cons (t := 2) rfl (.cons (t := 3) rfl .nil)) rfl ?_
 refine tr_seq ?_
 refine tr_seq ?_
 refine tr_region (fun N1 hN => ?_)
 refine lx (op_fieldAddr rfl fl29_0 sz3) rfl ?_
 refine lx (op_bload_one (m := 3) rfl rfl ag3 rfl) rfl ?_
 refine lx (op_lss rfl rfl) rfl ?_
 refine lx (op_move rfl) rfl ?_
 refine lxs rfl rfl rfl guard_eq (.cons (t := 3) rfl (fun _ => Ent.refl _) .nil) (op_fieldAddr rfl fl29_0 sz3) rfl ?_
 refine lxs rfl rfl rfl guard_eq (.cons (t := 13) rfl (fun h => entW h) .nil) (op_bload_one (m := 3) rfl rfl ag3 rfl) rfl ?_
 refine lxs rfl rfl rfl guard_eq (.cons (t := 14) rfl (fun h => entW h) .nil) (op_gtr rfl rfl) rfl ?_
 refine lx (op_pick_or rfl rfl) rfl ?_
 refine lx (op_move rfl) rfl ?_
 refine lxs rfl rfl rfl guard_eq (.cons (t := 3) rfl (fun _ => Ent.refl _) .nil) (op_fieldAddr rfl fl29_1 sz3) rfl ?_
 refine lxs rfl rfl rfl guard_eq (.cons (t := 18) rfl (fun h => entW h) .nil) (op_bload_one (m := 3) rfl rfl ag3 rfl) rfl ?_
 refine lxs rfl rfl rfl guard_eq (.cons (t := 19) rfl (fun h => entW h) .nil) (op_lss rfl rfl) rfl ?_
 refine lx (op_pick_or rfl rfl) rfl ?_
 refine lx (op_move rfl) rfl ?_
 refine lxs rfl rfl rfl guard_eq (.cons (t := 3) rfl (fun _ => Ent.refl _) .nil) (op_fieldAddr rfl fl29_1 sz3) rfl ?_
 refine lxs rfl rfl rfl guard_eq (.cons (t := 23) rfl (fun h => entW h) .nil) (op_bload_one (m := 3) rfl rfl ag3 rfl) rfl ?_
 refine lxs rfl rfl rfl guard_eq (.cons (t := 24) rfl (fun h => entW h) .nil) (op_gtr rfl rfl) rfl ?_
 refine lx (op_pick_or rfl rfl) rfl ?_
 refine lx (op_move rfl) rfl ?_
 refine lxs rfl rfl rfl guard_eq (.cons (t := 3) rfl (fun _ => Ent.refl _) .nil) (op_fieldAddr rfl fl29_0 sz3) rfl ?_
 refine lxs rfl rfl rfl guard_eq (.cons (t := 28) rfl (fun h => entW h) .nil) (op_bload_one (m := 3) rfl rfl ag3 rfl) rfl ?_
 refine lxs rfl rfl rfl guard_eq (.cons (t := 29) rfl (fun h => entW h) .nil) (op_eql rfl rfl) rfl ?_
 refine lxs rfl rfl rfl guard_eq (.cons (t := 3) rfl (fun _ => Ent.refl _) .nil) (op_fieldAddr rfl fl29_1 sz3) rfl ?_
 refine lxs rfl rfl rfl guard_eq (.cons (t := 31) rfl (fun h => entW h) .nil) (op_bload_one (m := 3) rfl rfl ag3 rfl) rfl ?_
 refine lxs rfl rfl rfl guard_eq (.cons (t := 32) rfl (fun h => entW h) .nil) (op_neq rfl rfl) rfl ?_
 refine lxs rfl rfl rfl guard_eq (.cons (t := 30) rfl (fun h => entW h) (.cons (t := 33) rfl (fun h => entW h) .nil)) (op_neq_bool bo4 rfl rfl) rfl ?_
 refine lx (op_pick_or rfl rfl) rfl ?_
 refine lx (op_move rfl) rfl ?_
 refine lxs rfl rfl rfl guard_eq (.cons (t := 3) rfl (fun _ => Ent.refl _) .nil) (op_fieldAddr rfl fl29_2 sz3) rfl ?_
 refine lxs rfl rfl rfl guard_eq (.cons (t := 37) rfl (fun h => entW h) .nil) (op_bload_one (m := 3) rfl rfl ag3 rfl) rfl ?_
 refine lxs rfl rfl rfl guard_eq (.cons (t := 38) rfl (fun h => entW h) .nil) (op_lss rfl rfl) rfl ?_
 refine lx (op_pick_or rfl rfl) rfl ?_
 refine lx (op_move rfl) rfl ?_
 refine lxs rfl rfl rfl guard_eq (.cons (t := 3) rfl (fun _ => Ent.refl _) .nil) (op_fieldAddr rfl fl29_2 sz3) rfl ?_
 refine lxs rfl rfl rfl guard_eq (.cons (t := 42) rfl (fun h => entW h) .nil) (op_bload_one (m := 3) rfl rfl ag3 rfl) rfl ?_
 refine lxs rfl rfl rfl guard_eq (.cons (t := 43) rfl (fun h => entW h) .nil) (op_gtr rfl rfl) rfl ?_
 refine lx (op_pick_or rfl rfl) rfl ?_
 refine lx (op_move rfl) rfl ?_
 refine lxs rfl rfl rfl guard_eq (.cons (t := 3) rfl (fun _ => Ent.refl _) .nil) (op_fieldAddr rfl fl29_3 sz27) rfl ?_
 refine lxs rfl rfl rfl guard_eq (.cons (t := 47) rfl (fun h => entW h) .nil) (op_bload_one (m := 3) rfl rfl ag27 rfl) rfl ?_
 first | refine lxs rfl rfl rfl guard_eq (.cons (t := 48) rfl (fun h => entW h) .nil) (op_len rfl el27) rfl ?_ | refine lxs rfl rfl rfl guard_eq (.cons (t := 48) rfl (fun h => entW h) .nil) (op_len_row rfl el27) rfl ?_ | refine lxs rfl rfl rfl guard_eq (.cons (t := 48) rfl (fun h => entW h) .nil) (op_len_mv rfl el27) rfl ?_ | refine lxs rfl rfl rfl guard_eq (.cons (t := 48) rfl (fun h => entW h) .nil) (op_len_nil rfl el27) rfl ?_
 refine lxs rfl rfl rfl guard_eq (.cons (t := 49) rfl (fun h => entW h) .nil) (op_gtr rfl rfl) rfl ?_
 refine lx (op_pick_or rfl rfl) rfl ?_
 refine lx (op_move rfl) rfl ?_
 refine lxs rfl rfl rfl guard_eq (.cons (t := 3) rfl (fun _ => Ent.refl _) .nil) (op_fieldAddr rfl fl29_0 sz3) rfl ?_
 refine lxs rfl rfl rfl guard_eq (.cons (t := 53) rfl (fun h => entW h) .nil) (op_bload_one (m := 3) rfl rfl ag3 rfl) rfl ?_
 refine lxs rfl rfl rfl guard_eq (.cons (t := 54) rfl (fun h => entW h) .nil) (op_eql rfl rfl) rfl ?_
 refine lxs rfl rfl rfl guard_eq (.cons (t := 3) rfl (fun _ => Ent.refl _) .nil) (op_fieldAddr rfl fl29_3 sz27) rfl ?_
 refine lxs rfl rfl rfl guard_eq (.cons (t := 56) rfl (fun h => entW h) .nil) (op_bload_one (m := 3) rfl rfl ag27 rfl) rfl ?_
 first | refine lxs rfl rfl rfl guard_eq (.cons (t := 57) rfl (fun h => entW h) .nil) (op_len rfl el27) rfl ?_ | refine lxs rfl rfl rfl guard_eq (.cons (t := 57) rfl (fun h => entW h) .nil) (op_len_row rfl el27) rfl ?_ | refine lxs rfl rfl rfl guard_eq (.cons (t := 57) rfl (fun h => entW h) .nil) (op_len_mv rfl el27) rfl ?_ | refine lxs rfl rfl rfl guard_eq (.cons (t := 57) rfl (fun h => entW h) .nil) (op_len_nil rfl el27) rfl ?_
 refine lxs rfl rfl rfl guard_eq (.cons (t := 58) rfl (fun h => entW h) .nil) (op_eql rfl rfl) rfl ?_
 refine lxs rfl rfl rfl guard_eq (.cons (t := 55) rfl (fun h => entW h) (.cons (t := 59) rfl (fun h => entW h) .nil)) (op_neq_bool bo4 rfl rfl) rfl ?_
 refine lx (op_pick_or rfl rfl) rfl ?_
 refine lx_end ⟨by kernel_rfl, ?_⟩
 refine pe_then_normal ?_
 refine tr_sub hC (.cons (t := 2) rfl (.cons (t := 3) rfl (.cons (t := 61) rfl .nil))) (.cons (t := 2) rfl (.cons (t := 3) rfl .nil)) rfl ?_
 refine tr_cond rfl (fun h61 => ?_) (fun h61 => ?_)
 ·have hbad := valid_hdr (p := p) (rhdr_no (g := g) h61)
  refine tr_seq ?_
  refine tr_region (fun N2 hN => ?_)
  refine lx (op_assign rfl) rfl ?_
  refine lx_end ⟨by kernel_rfl, ?_⟩
  refine pe_then_normal ?_
  refine tr_sub hC (.cons (t := 4) rfl .nil) .nil rfl ?_
  refine tr_ret ?_
  refine pe_then_ret ?_
  refine pe_ret1 rfl hO rfl (.tmp rfl .nil) ?_
  rw [hbad]
  exact ent_auto
 ·have hvg := valid_frs (p := p) (rhdr_yes (g := g) h61)
  refine tr_skip ?_
  refine pe_then_normal ?_
  refine tr_sub hC (.cons (t := 2) rfl (.cons (t := 3) rfl .nil)) (.cons (t := 2) rfl (.cons (t := 3) rfl .nil)) rfl ?_
  refine tr_seq ?_
  refine tr_seq ?_
  refine tr_region (fun N3 hN => ?_)
  refine lx (op_assign rfl) rfl ?_
  refine lx_end ⟨by kernel_rfl, ?_⟩
  refine pe_then_normal ?_
  refine tr_sub hC (.cons (t := 2) rfl (.cons (t := 3) rfl (.cons (t := 5) rfl .nil))) (.cons (t := 2) rfl (.cons (t := 3) rfl .nil)) rfl ?_
  refine tr_block ?_
  refine tr_loopK (α := {zz : Nat // zz ≤ g.frames.length ∧ frsOK p (prvF g.frames zz) (g.frames.drop zz) = frsOK p none g.frames}) (⟨(0), Nat.zero_le _, rfl⟩) (fun zz => [(5, eqP (.int .i64 (zz.1 : Int)))]) (fun zz => []) (fun zz => g.frames.length - zz.1) hC (.cons (t := 2) rfl (.cons (t := 3) rfl .nil)) (.cons (t := 2) rfl (.cons (t := 3) rfl .nil)) rfl ?_ ?_ (fun zz => ?_)
  ·try dsimp only [List.cons_append, List.nil_append]
   first | refine SubF.cons rfl ?_ | (refine SubF.ent rfl ?_ ?_; · exact ent_auto)
   exact SubF.nil
  ·try dsimp only [List.cons_append, List.nil_append]
   repeat (first | exact SubL.nil | refine SubL.cons rfl ?_)
  ·obtain ⟨k, hk1, hk2⟩ := zz
   dsimp only [List.cons_append, List.nil_append]
   refine tr_seq ?_
   refine tr_seq ?_
   refine tr_region (fun N4 hN => ?_)
   refine lx (op_move rfl) rfl ?_
   refine lx (op_fieldAddr rfl fl29_3 sz27) rfl ?_
   refine lx (op_bload_one (m := 3) rfl rfl ag27 rfl) rfl ?_
   first | refine lx (op_len rfl el27) rfl ?_ | refine lx (op_len_row rfl el27) rfl ?_ | refine lx (op_len_mv rfl el27) rfl ?_ | refine lx (op_len_nil rfl el27) rfl ?_
   refine lx (op_lss rfl rfl) rfl ?_
   refine lx_end ⟨by kernel_rfl, ?_⟩
   refine pe_then_normal ?_
   refine tr_sub hC (.cons (t := 2) rfl (.cons (t := 3) rfl (.cons (t := 5) rfl (.cons (t := 66) rfl .nil)))) (.cons (t := 2) rfl (.cons (t := 3) rfl .nil)) rfl ?_
   refine tr_cond rfl (fun h66 => ?_) (fun h66 => ?_)
   ·(try simp only [cq1, cq2, cq3, cq4, cq5, cq6, cq7, cq8, cq9, cq10, cq11, cq12, cq13] at h66)
    have hbk := hb.each _ (List.getElem_mem (by omega : k < g.frames.length))
    have hbd := hbk.defers
    refine tr_skip ?_
    refine pe_then_normal ?_
    refine tr_sub hC (.cons (t := 2) rfl (.cons (t := 3) rfl (.cons (t := 5) rfl .nil))) (.cons (t := 2) rfl (.cons (t := 3) rfl .nil)) rfl ?_
    refine tr_seq ?_
    refine tr_block ?_
    refine tr_seq ?_
    refine tr_region (fun N6 hN => ?_)
    refine lx (op_fieldAddr rfl fl29_3 sz27) rfl ?_
    refine lx (op_bload_one (m := 3) rfl rfl ag27 rfl) rfl ?_
    refine lx (op_move rfl) rfl ?_
    refine lx (op_index rfl rfl el27 sz60 rfl (List.getElem?_eq_getElem (by omega : k < g.frames.length))) rfl ?_
    first | refine lx (op_load_all rfl ag60 sz60) rfl ?_ | refine lx (op_load_agg rfl ag60 sz60 rfl) rfl ?_ | refine lx (op_bload (m := 2) rfl rfl ag60 sz60) rfl ?_ | refine lx (op_bload (m := 3) rfl rfl ag60 sz60) rfl ?_ | refine lx (op_bload_part (m := 2) (qs := [_, _, _, _, _, _, _, _, _]) rfl rfl ag60 sz60 rfl rfl) rfl ?_ | refine lx (op_bload_part (m := 3) (qs := [_, _, _, _, _, _, _, _, _]) rfl rfl ag60 sz60 rfl rfl) rfl ?_
    refine lxn (op_alloc (m := 6) (k := 6) (ps := [eqP (.int .i64 0), eqP (.int .i64 0), eqP (.slice none 0 0), eqP (.int .i64 0), eqP (.slice none 0 0), eqP (.bool false), eqP (.int .i64 0), eqP (.int .i64 0), eqP (.int .i64 0)]) ze60 rfl rfl (by first | exact hC.low _ (by decide) | rfl)) rfl ?_
    refine lxr (op_store_all (m := 6) rfl rfl rfl (.agg rfl) sz60 rfl) rfl ?_
    refine lx_end ⟨by kernel_rfl, ?_⟩
    refine pe_then_normal ?_
    refine tr_sub hC (.cons (t := 2) rfl (.cons (t := 3) rfl (.cons (t := 5) rfl (.cons (t := 6) rfl .nil)))) (.cons (t := 2) rfl (.cons (t := 3) rfl (.cons (t := 6) rfl .nil))) rfl ?_
    refine tr_seq ?_
    refine tr_seq ?_
    refine tr_drawn mixed (fun N7 hN => ?_)
    refine lx (op_fieldAddr rfl fl60_0 sz3) rfl ?_
    refine lx (op_bload_one (m := 6) rfl rfl ag3 rfl) rfl ?_
    refine lx (op_lss rfl rfl) rfl ?_
    refine lx (op_move rfl) rfl ?_
    refine lxs rfl rfl rfl guard_eq (.cons (t := 6) rfl (fun _ => Ent.refl _) .nil) (op_fieldAddr rfl fl60_0 sz3) rfl ?_
    refine lxs rfl rfl rfl guard_eq (.cons (t := 78) rfl (fun h => entW h) .nil) (op_bload_one (m := 6) rfl rfl ag3 rfl) rfl ?_
    refine lxs rfl rfl rfl guard_eq (.cons (t := 2) rfl (fun _ => Ent.refl _) .nil) (op_fieldAddr rfl fl26_0 sz22) rfl ?_
    refine lxs rfl rfl rfl guard_eq (.cons (t := 80) rfl (fun h => entW h) .nil) (op_bload_one (m := 2) rfl rfl ag22 rfl) rfl ?_
    first | refine lxs rfl rfl rfl guard_eq (.cons (t := 81) rfl (fun h => entW h) .nil) (op_len rfl el22) rfl ?_ | refine lxs rfl rfl rfl guard_eq (.cons (t := 81) rfl (fun h => entW h) .nil) (op_len_row rfl el22) rfl ?_ | refine lxs rfl rfl rfl guard_eq (.cons (t := 81) rfl (fun h => entW h) .nil) (op_len_mv rfl el22) rfl ?_ | refine lxs rfl rfl rfl guard_eq (.cons (t := 81) rfl (fun h => entW h) .nil) (op_len_nil rfl el22) rfl ?_
    refine lxs rfl rfl rfl guard_eq (.cons (t := 79) rfl (fun h => entW h) (.cons (t := 82) rfl (fun h => entW h) .nil)) (op_geq rfl rfl) rfl ?_
    refine lx (op_pick_or rfl rfl) rfl ?_
    refine lx (op_move rfl) rfl ?_
    refine lxs rfl rfl rfl guard_eq (.cons (t := 6) rfl (fun _ => Ent.refl _) .nil) (op_fieldAddr rfl fl60_2 sz33) rfl ?_
    refine lxs rfl rfl rfl guard_eq (.cons (t := 86) rfl (fun h => entW h) .nil) (op_bload_one (m := 6) rfl rfl ag33 rfl) rfl ?_
    first | refine lxs rfl rfl rfl guard_eq (.cons (t := 87) rfl (fun h => entW h) .nil) (op_len rfl el33) rfl ?_ | refine lxs rfl rfl rfl guard_eq (.cons (t := 87) rfl (fun h => entW h) .nil) (op_len_row rfl el33) rfl ?_ | refine lxs rfl rfl rfl guard_eq (.cons (t := 87) rfl (fun h => entW h) .nil) (op_len_mv rfl el33) rfl ?_ | refine lxs rfl rfl rfl guard_eq (.cons (t := 87) rfl (fun h => entW h) .nil) (op_len_nil rfl el33) rfl ?_
    refine lxs rfl rfl rfl guard_eq (.cons (t := 2) rfl (fun _ => Ent.refl _) .nil) (op_fieldAddr rfl fl26_0 sz22) rfl ?_
    refine lxs rfl rfl rfl guard_eq (.cons (t := 89) rfl (fun h => entW h) .nil) (op_bload_one (m := 2) rfl rfl ag22 rfl) rfl ?_
    refine lxs rfl rfl rfl guard_eq (.cons (t := 6) rfl (fun _ => Ent.refl _) .nil) (op_fieldAddr rfl fl60_0 sz3) rfl ?_
    refine lxs rfl rfl rfl guard_eq (.cons (t := 91) rfl (fun h => entW h) .nil) (op_bload_one (m := 6) rfl rfl ag3 rfl) rfl ?_
    refine lxsc (rd := [(90, slP Fu.ps 4 p.funcs), (92, eqP (.int .i64 g.frames[k].fn))]) (φ := cellsP (pfn p g.frames[k].fn).ps) rfl rfl rfl guard_eq (.cons (t := 90) rfl (fun h => entW h) (.cons (t := 92) rfl (fun h => entW h) .nil)) (fun hgd => ?_) rfl rfl ?_
    ·have hq0 : 0 ≤ g.frames[k].fn ∧ g.frames[k].fn < (p.funcs.length : Int) := by
      simp at hgd
      omega
     exact op_index rfl rfl el22 sz66 (by omega : g.frames[k].fn = ((g.frames[k].fn.toNat : Nat) : Int)) (pfn_at (by omega) (by omega))
    first | refine lxs rfl rfl rfl guard_eq (.cons (t := 93) rfl (fun h => entW h) .nil) (op_fieldAddr rfl fl66_2 sz3) rfl ?_ | refine lxs rfl rfl rfl guard_eq (.cons (t := 93) rfl (fun h => entW h) .nil) (op_fieldCells rfl fl66_2 sz3) rfl ?_
    first | refine lxs rfl rfl rfl guard_eq (.cons (t := 94) rfl (fun h => entW h) .nil) (op_load_one rfl ag3 rfl) rfl ?_ | refine lxs rfl rfl rfl guard_eq (.cons (t := 94) rfl (fun h => entW h) .nil) (op_bload_one (m := 2) rfl rfl ag3 rfl) rfl ?_ | refine lxs rfl rfl rfl guard_eq (.cons (t := 94) rfl (fun h => entW h) .nil) (op_bload_one (m := 3) rfl rfl ag3 rfl) rfl ?_ | refine lxs rfl rfl rfl guard_eq (.cons (t := 94) rfl (fun h => entW h) .nil) (op_bload_one (m := 6) rfl rfl ag3 rfl) rfl ?_
    refine lxs rfl rfl rfl guard_eq (.cons (t := 88) rfl (fun h => entW h) (.cons (t := 95) rfl (fun h => entW h) .nil)) (op_neq rfl rfl) rfl ?_
    refine lx (op_pick_or rfl rfl) rfl ?_
    refine lx (op_move rfl) rfl ?_
    refine lxs rfl rfl rfl guard_eq (.cons (t := 6) rfl (fun _ => Ent.refl _) .nil) (op_fieldAddr rfl fl60_1 sz3) rfl ?_
    refine lxs rfl rfl rfl guard_eq (.cons (t := 99) rfl (fun h => entW h) .nil) (op_bload_one (m := 6) rfl rfl ag3 rfl) rfl ?_
    refine lxs rfl rfl rfl guard_eq (.cons (t := 100) rfl (fun h => entW h) .nil) (op_lss rfl rfl) rfl ?_
    refine lx (op_pick_or rfl rfl) rfl ?_
    refine lx (op_move rfl) rfl ?_
    refine lxs rfl rfl rfl guard_eq (.cons (t := 6) rfl (fun _ => Ent.refl _) .nil) (op_fieldAddr rfl fl60_1 sz3) rfl ?_
    refine lxs rfl rfl rfl guard_eq (.cons (t := 104) rfl (fun h => entW h) .nil) (op_bload_one (m := 6) rfl rfl ag3 rfl) rfl ?_
    refine lxs rfl rfl rfl guard_eq (.cons (t := 2) rfl (fun _ => Ent.refl _) .nil) (op_fieldAddr rfl fl26_0 sz22) rfl ?_
    refine lxs rfl rfl rfl guard_eq (.cons (t := 106) rfl (fun h => entW h) .nil) (op_bload_one (m := 2) rfl rfl ag22 rfl) rfl ?_
    refine lxs rfl rfl rfl guard_eq (.cons (t := 6) rfl (fun _ => Ent.refl _) .nil) (op_fieldAddr rfl fl60_0 sz3) rfl ?_
    refine lxs rfl rfl rfl guard_eq (.cons (t := 108) rfl (fun h => entW h) .nil) (op_bload_one (m := 6) rfl rfl ag3 rfl) rfl ?_
    refine lxsc (rd := [(107, slP Fu.ps 4 p.funcs), (109, eqP (.int .i64 g.frames[k].fn))]) (φ := cellsP (pfn p g.frames[k].fn).ps) rfl rfl rfl guard_eq (.cons (t := 107) rfl (fun h => entW h) (.cons (t := 109) rfl (fun h => entW h) .nil)) (fun hgd => ?_) rfl rfl ?_
    ·have hq0 : 0 ≤ g.frames[k].fn ∧ g.frames[k].fn < (p.funcs.length : Int) := by
      simp at hgd
      omega
     exact op_index rfl rfl el22 sz66 (by omega : g.frames[k].fn = ((g.frames[k].fn.toNat : Nat) : Int)) (pfn_at (by omega) (by omega))
    first | refine lxs rfl rfl rfl guard_eq (.cons (t := 110) rfl (fun h => entW h) .nil) (op_fieldAddr rfl fl66_3 sz64) rfl ?_ | refine lxs rfl rfl rfl guard_eq (.cons (t := 110) rfl (fun h => entW h) .nil) (op_fieldCells rfl fl66_3 sz64) rfl ?_
    first | refine lxs rfl rfl rfl guard_eq (.cons (t := 111) rfl (fun h => entW h) .nil) (op_load_one rfl ag64 rfl) rfl ?_ | refine lxs rfl rfl rfl guard_eq (.cons (t := 111) rfl (fun h => entW h) .nil) (op_bload_one (m := 2) rfl rfl ag64 rfl) rfl ?_ | refine lxs rfl rfl rfl guard_eq (.cons (t := 111) rfl (fun h => entW h) .nil) (op_bload_one (m := 3) rfl rfl ag64 rfl) rfl ?_ | refine lxs rfl rfl rfl guard_eq (.cons (t := 111) rfl (fun h => entW h) .nil) (op_bload_one (m := 6) rfl rfl ag64 rfl) rfl ?_
    first | refine lxs rfl rfl rfl guard_eq (.cons (t := 112) rfl (fun h => entW h) .nil) (op_len rfl el64) rfl ?_ | refine lxs rfl rfl rfl guard_eq (.cons (t := 112) rfl (fun h => entW h) .nil) (op_len_row rfl el64) rfl ?_ | refine lxs rfl rfl rfl guard_eq (.cons (t := 112) rfl (fun h => entW h) .nil) (op_len_mv rfl el64) rfl ?_ | refine lxs rfl rfl rfl guard_eq (.cons (t := 112) rfl (fun h => entW h) .nil) (op_len_nil rfl el64) rfl ?_
    refine lxs rfl rfl rfl guard_eq (.cons (t := 105) rfl (fun h => entW h) (.cons (t := 113) rfl (fun h => entW h) .nil)) (op_geq rfl rfl) rfl ?_
    refine lx (op_pick_or rfl rfl) rfl ?_
    refine lx (op_move rfl) rfl ?_
    refine lxs rfl rfl rfl guard_eq (.cons (t := 6) rfl (fun _ => Ent.refl _) .nil) (op_fieldAddr rfl fl60_2 sz33) rfl ?_
    refine lxs rfl rfl rfl guard_eq (.cons (t := 117) rfl (fun h => entW h) .nil) (op_bload_one (m := 6) rfl rfl ag33 rfl) rfl ?_
    first | refine lxs rfl rfl rfl guard_eq (.cons (t := 118) rfl (fun h => entW h) .nil) (op_call (l := [(Go.Operand.tmp 118)]) (rvvals_ok g.frames[k].regs (by have := hbk.regs; omega)) (.cons rfl .nil) fn33) rfl ?_ | refine lxs rfl rfl rfl guard_eq (.cons (t := 118) rfl (fun h => entW h) .nil) (op_call (l := [(Go.Operand.tmp 118)]) (rvvals_ok g.frames[k].regs (by have := hbk.regs; omega)) (.ent rfl (by exact ent_auto) .nil) fn33) rfl ?_
    first | refine lxs rfl rfl rfl guard_eq (.cons (t := 119) rfl (fun h => entW h) .nil) (op_not rfl) rfl ?_ | refine lxs rfl rfl rfl guard_eq (.cons (t := 119) rfl (fun h => entW h) .nil) (op_not_b rfl) rfl ?_
    refine lx (op_pick_or rfl rfl) rfl ?_
    refine lx (op_move rfl) rfl ?_
    refine lxs rfl rfl rfl guard_eq (.cons (t := 6) rfl (fun _ => Ent.refl _) .nil) (op_fieldAddr rfl fl60_6 sz43) rfl ?_
    refine lxs rfl rfl rfl guard_eq (.cons (t := 123) rfl (fun h => entW h) .nil) (op_bload_part (m := 6) (qs := [_, _, _]) rfl rfl ag43 sz43 rfl rfl) rfl ?_
    first | refine lxs rfl rfl rfl guard_eq (.cons (t := 124) rfl (fun h => entW h) .nil) (op_call (l := [(Go.Operand.tmp 124)]) (rvval_ok g.frames[k].result) (.cons rfl .nil) fn32) rfl ?_ | refine lxs rfl rfl rfl guard_eq (.cons (t := 124) rfl (fun h => entW h) .nil) (op_call (l := [(Go.Operand.tmp 124)]) (rvval_ok g.frames[k].result) (.ent rfl (by exact ent_auto) .nil) fn32) rfl ?_
    first | refine lxs rfl rfl rfl guard_eq (.cons (t := 125) rfl (fun h => entW h) .nil) (op_not rfl) rfl ?_ | refine lxs rfl rfl rfl guard_eq (.cons (t := 125) rfl (fun h => entW h) .nil) (op_not_b rfl) rfl ?_
    refine lx (op_pick_or rfl rfl) rfl ?_
    refine lx (op_move rfl) rfl ?_
    refine lxs rfl rfl rfl guard_eq (.cons (t := 6) rfl (fun _ => Ent.refl _) .nil) (op_fieldAddr rfl fl60_3 sz3) rfl ?_
    refine lxs rfl rfl rfl guard_eq (.cons (t := 129) rfl (fun h => entW h) .nil) (op_bload_one (m := 6) rfl rfl ag3 rfl) rfl ?_
    refine lxs rfl rfl rfl guard_eq (.cons (t := 130) rfl (fun h => entW h) .nil) (op_lss rfl rfl) rfl ?_
    refine lx (op_pick_or rfl rfl) rfl ?_
    refine lx (op_move rfl) rfl ?_
    refine lxs rfl rfl rfl guard_eq (.cons (t := 5) rfl (fun _ => Ent.refl _) .nil) (op_move rfl) rfl ?_
    refine lxs rfl rfl rfl guard_eq (.cons (t := 134) rfl (fun h => entW h) .nil) (op_eql rfl rfl) rfl ?_
    refine lxs rfl rfl rfl guard_eq (.cons (t := 135) rfl (fun h => entW h) .nil) (op_move rfl) rfl ?_
    refine lxs rfl rfl rfl guard_w (.cons (t := 6) rfl (fun _ => Ent.refl _) .nil) (op_fieldAddr rfl fl60_3 sz3) rfl ?_
    refine lxs rfl rfl rfl guard_w (.cons (t := 137) rfl (fun h => entW h) .nil) (op_bload_one (m := 6) rfl rfl ag3 rfl) rfl ?_
    refine lxs rfl rfl rfl guard_w (.cons (t := 138) rfl (fun h => entW h) .nil) (op_neq rfl rfl) rfl ?_
    refine lxs rfl rfl rfl guard_eq (.cons (t := 136) rfl (fun h => entW h) (.cons (t := 139) rfl (fun h => entS h) .nil)) (op_pick_and rfl rfl) rfl ?_
    refine lx (op_pick_or rfl rfl) rfl ?_
    refine lx (op_move rfl) rfl ?_
    refine lxs rfl rfl rfl guard_eq (.cons (t := 5) rfl (fun _ => Ent.refl _) .nil) (op_move rfl) rfl ?_
    refine lxs rfl rfl rfl guard_eq (.cons (t := 143) rfl (fun h => entW h) .nil) (op_gtr rfl rfl) rfl ?_
    refine lxs rfl rfl rfl guard_eq (.cons (t := 144) rfl (fun h => entW h) .nil) (op_move rfl) rfl ?_
    refine lxs rfl rfl rfl guard_w (.cons (t := 6) rfl (fun _ => Ent.refl _) .nil) (op_fieldAddr rfl fl60_3 sz3) rfl ?_
    refine lxs rfl rfl rfl guard_w (.cons (t := 146) rfl (fun h => entW h) .nil) (op_bload_one (m := 6) rfl rfl ag3 rfl) rfl ?_
    refine lxs rfl rfl rfl guard_w (.cons (t := 3) rfl (fun _ => Ent.refl _) .nil) (op_fieldAddr rfl fl29_3 sz27) rfl ?_
    refine lxs rfl rfl rfl guard_w (.cons (t := 148) rfl (fun h => entW h) .nil) (op_bload_one (m := 3) rfl rfl ag27 rfl) rfl ?_
    refine lxs rfl rfl rfl guard_w (.cons (t := 5) rfl (fun _ => Ent.refl _) .nil) (op_move rfl) rfl ?_
    refine lxs rfl rfl rfl guard_w (.cons (t := 150) rfl (fun h => entW h) .nil) (op_sub rfl rfl (by omega)) rfl ?_
    refine lxsc (rd := [(149, slP Fm.ps 9 g.frames), (151, eqP (.int .i64 ((k : Int) - 1)))]) (φ := cellsP (g.frames[k - 1]'(by omega)).ps) rfl rfl rfl guard_w (.cons (t := 149) rfl (fun h => entW h) (.cons (t := 151) rfl (fun h => entW h) .nil)) (fun hgd => ?_) rfl rfl ?_
    ·have hq0 : 0 < k := by
      simp at hgd
      omega
     exact op_index rfl rfl el27 sz60 (by omega : (k : Int) - 1 = ((k - 1 : Nat) : Int)) (List.getElem?_eq_getElem (by omega : k - 1 < g.frames.length))
    first | refine lxs rfl rfl rfl guard_w (.cons (t := 152) rfl (fun h => entW h) .nil) (op_fieldAddr rfl fl60_2 sz33) rfl ?_ | refine lxs rfl rfl rfl guard_w (.cons (t := 152) rfl (fun h => entW h) .nil) (op_fieldCells rfl fl60_2 sz33) rfl ?_
    first | refine lxs rfl rfl rfl guard_w (.cons (t := 153) rfl (fun h => entW h) .nil) (op_load_one rfl ag33 rfl) rfl ?_ | refine lxs rfl rfl rfl guard_w (.cons (t := 153) rfl (fun h => entW h) .nil) (op_bload_one (m := 2) rfl rfl ag33 rfl) rfl ?_ | refine lxs rfl rfl rfl guard_w (.cons (t := 153) rfl (fun h => entW h) .nil) (op_bload_one (m := 3) rfl rfl ag33 rfl) rfl ?_ | refine lxs rfl rfl rfl guard_w (.cons (t := 153) rfl (fun h => entW h) .nil) (op_bload_one (m := 6) rfl rfl ag33 rfl) rfl ?_
    first | refine lxs rfl rfl rfl guard_w (.cons (t := 154) rfl (fun h => entW h) .nil) (op_len rfl el33) rfl ?_ | refine lxs rfl rfl rfl guard_w (.cons (t := 154) rfl (fun h => entW h) .nil) (op_len_row rfl el33) rfl ?_ | refine lxs rfl rfl rfl guard_w (.cons (t := 154) rfl (fun h => entW h) .nil) (op_len_mv rfl el33) rfl ?_ | refine lxs rfl rfl rfl guard_w (.cons (t := 154) rfl (fun h => entW h) .nil) (op_len_nil rfl el33) rfl ?_
    refine lxs rfl rfl rfl guard_w (.cons (t := 147) rfl (fun h => entW h) (.cons (t := 155) rfl (fun h => entW h) .nil)) (op_geq rfl rfl) rfl ?_
    refine lxs rfl rfl rfl guard_eq (.cons (t := 145) rfl (fun h => entW h) (.cons (t := 156) rfl (fun h => entS h) .nil)) (op_pick_and rfl rfl) rfl ?_
    refine lx (op_pick_or rfl rfl) rfl ?_
    refine lx_end ⟨by kernel_rfl, ?_⟩
    refine pe_then_normal ?_
    refine tr_sub hC (.cons (t := 2) rfl (.cons (t := 3) rfl (.cons (t := 5) rfl (.cons (t := 6) rfl (.cons (t := 158) rfl .nil))))) (.cons (t := 2) rfl (.cons (t := 3) rfl (.cons (t := 6) rfl .nil))) rfl ?_
    refine tr_cond rfl (fun h158 => ?_) (fun h158 => ?_)
    ·have hbad := hvg.trans (frs_bad (by omega) hk2 (rfrm_no (by omega) h158))
     refine tr_seq ?_
     refine tr_region (fun N8 hN => ?_)
     refine lx (op_assign rfl) rfl ?_
     refine lx_end ⟨by kernel_rfl, ?_⟩
     refine pe_then_normal ?_
     refine tr_sub hC (.cons (t := 4) rfl .nil) .nil rfl ?_
     refine tr_ret ?_
     refine pe_then_ret ?_
     refine pe_block_ret ?_
     refine pe_then_ret ?_
     refine pe_then_ret ?_
     refine pe_block_ret ?_
     refine pe_then_ret ?_
     refine pe_ret1 rfl hO rfl (.tmp rfl .nil) ?_
     rw [hbad]
     exact ent_auto
    ·have hmd := h158
     refine tr_skip ?_
     refine pe_then_normal ?_
     refine tr_sub hC (.cons (t := 2) rfl (.cons (t := 3) rfl (.cons (t := 5) rfl (.cons (t := 6) rfl .nil)))) (.cons (t := 2) rfl (.cons (t := 3) rfl (.cons (t := 6) rfl .nil))) rfl ?_
     refine tr_seq ?_
     refine tr_region (fun N9 hN => ?_)
     refine lx (op_assign rfl) rfl ?_
     refine lx_end ⟨by kernel_rfl, ?_⟩
     refine pe_then_normal ?_
     refine tr_sub hC (.cons (t := 2) rfl (.cons (t := 3) rfl (.cons (t := 5) rfl (.cons (t := 6) rfl (.cons (t := 7) rfl .nil))))) (.cons (t := 2) rfl (.cons (t := 3) rfl (.cons (t := 6) rfl .nil))) rfl ?_
     refine tr_block ?_
     refine tr_loopK (α := {zz : Nat // zz ≤ g.frames[k].defers.length ∧ (g.frames[k].defers.take zz).all (defOK p) = true}) (⟨(0), Nat.zero_le _, by simp⟩) (fun zz => [(7, eqP (.int .i64 (zz.1 : Int)))]) (fun zz => []) (fun zz => g.frames[k].defers.length - zz.1) hC (.cons (t := 2) rfl (.cons (t := 3) rfl (.cons (t := 5) rfl (.cons (t := 6) rfl .nil)))) (.cons (t := 2) rfl (.cons (t := 3) rfl (.cons (t := 6) rfl .nil))) rfl ?_ ?_ (fun zz => ?_)
     ·try dsimp only [List.cons_append, List.nil_append]
      first | refine SubF.cons rfl ?_ | (refine SubF.ent rfl ?_ ?_; · exact ent_auto)
      exact SubF.nil
     ·try dsimp only [List.cons_append, List.nil_append]
      repeat (first | exact SubL.nil | refine SubL.cons rfl ?_)
     ·obtain ⟨j, hj1, hj2⟩ := zz
      dsimp only [List.cons_append, List.nil_append]
      refine tr_seq ?_
      refine tr_seq ?_
      refine tr_region (fun N10 hN => ?_)
      refine lx (op_move rfl) rfl ?_
      refine lx (op_fieldAddr rfl fl60_4 sz58) rfl ?_
      refine lx (op_bload_one (m := 6) rfl rfl ag58 rfl) rfl ?_
      first | refine lx (op_len rfl el58) rfl ?_ | refine lx (op_len_row rfl el58) rfl ?_ | refine lx (op_len_mv rfl el58) rfl ?_ | refine lx (op_len_nil rfl el58) rfl ?_
      refine lx (op_lss rfl rfl) rfl ?_
      refine lx_end ⟨by kernel_rfl, ?_⟩
      refine pe_then_normal ?_
      refine tr_sub hC (.cons (t := 2) rfl (.cons (t := 3) rfl (.cons (t := 5) rfl (.cons (t := 6) rfl (.cons (t := 7) rfl (.cons (t := 163) rfl .nil)))))) (.cons (t := 2) rfl (.cons (t := 3) rfl (.cons (t := 6) rfl .nil))) rfl ?_
      refine tr_cond rfl (fun h163 => ?_) (fun h163 => ?_)
      ·(try simp only [cq1, cq2, cq3, cq4, cq5, cq6, cq7, cq8, cq9, cq10, cq11, cq12, cq13] at h163)
       refine tr_skip ?_
       refine pe_then_normal ?_
       refine tr_sub hC (.cons (t := 2) rfl (.cons (t := 3) rfl (.cons (t := 5) rfl (.cons (t := 6) rfl (.cons (t := 7) rfl .nil))))) (.cons (t := 2) rfl (.cons (t := 3) rfl (.cons (t := 6) rfl .nil))) rfl ?_
       refine tr_seq ?_
       refine tr_block ?_
       refine tr_seq ?_
       refine tr_region (fun N12 hN => ?_)
       refine lx (op_fieldAddr rfl fl60_4 sz58) rfl ?_
       refine lx (op_bload_one (m := 6) rfl rfl ag58 rfl) rfl ?_
       refine lx (op_move rfl) rfl ?_
       refine lx (op_index rfl rfl el58 sz47 rfl (List.getElem?_eq_getElem (by omega : j < g.frames[k].defers.length))) rfl ?_
       first | refine lx (op_load_all rfl ag47 sz47) rfl ?_ | refine lx (op_load_agg rfl ag47 sz47 rfl) rfl ?_ | refine lx (op_bload (m := 2) rfl rfl ag47 sz47) rfl ?_ | refine lx (op_bload (m := 3) rfl rfl ag47 sz47) rfl ?_ | refine lx (op_bload (m := 6) rfl rfl ag47 sz47) rfl ?_ | refine lx (op_bload_part (m := 2) (qs := [_, _]) rfl rfl ag47 sz47 rfl rfl) rfl ?_ | refine lx (op_bload_part (m := 3) (qs := [_, _]) rfl rfl ag47 sz47 rfl rfl) rfl ?_ | refine lx (op_bload_part (m := 6) (qs := [_, _]) rfl rfl ag47 sz47 rfl rfl) rfl ?_
       refine lxn (op_alloc (m := 8) (k := 8) (ps := [eqP (.int .i64 0), eqP (.slice none 0 0)]) ze47 rfl rfl (by first | exact hC.low _ (by decide) | rfl)) rfl ?_
       refine lxr (op_store_all (m := 8) rfl rfl rfl (.agg rfl) sz47 rfl) rfl ?_
       refine lx_end ⟨by kernel_rfl, ?_⟩
       refine pe_then_normal ?_
       refine tr_sub hC (.cons (t := 2) rfl (.cons (t := 3) rfl (.cons (t := 5) rfl (.cons (t := 6) rfl (.cons (t := 7) rfl (.cons (t := 8) rfl .nil)))))) (.cons (t := 2) rfl (.cons (t := 3) rfl (.cons (t := 6) rfl (.cons (t := 8) rfl .nil)))) rfl ?_
       refine tr_seq ?_
       refine tr_drawn mixed (fun N13 hN => ?_)
       refine lx (op_fieldAddr rfl fl47_0 sz3) rfl ?_
       refine lx (op_bload_one (m := 8) rfl rfl ag3 rfl) rfl ?_
       refine lx (op_lss rfl rfl) rfl ?_
       refine lx (op_move rfl) rfl ?_
       refine lxs rfl rfl rfl guard_eq (.cons (t := 8) rfl (fun _ => Ent.refl _) .nil) (op_fieldAddr rfl fl47_0 sz3) rfl ?_
       refine lxs rfl rfl rfl guard_eq (.cons (t := 175) rfl (fun h => entW h) .nil) (op_bload_one (m := 8) rfl rfl ag3 rfl) rfl ?_
       refine lxs rfl rfl rfl guard_eq (.cons (t := 2) rfl (fun _ => Ent.refl _) .nil) (op_fieldAddr rfl fl26_0 sz22) rfl ?_
       refine lxs rfl rfl rfl guard_eq (.cons (t := 177) rfl (fun h => entW h) .nil) (op_bload_one (m := 2) rfl rfl ag22 rfl) rfl ?_
       first | refine lxs rfl rfl rfl guard_eq (.cons (t := 178) rfl (fun h => entW h) .nil) (op_len rfl el22) rfl ?_ | refine lxs rfl rfl rfl guard_eq (.cons (t := 178) rfl (fun h => entW h) .nil) (op_len_row rfl el22) rfl ?_ | refine lxs rfl rfl rfl guard_eq (.cons (t := 178) rfl (fun h => entW h) .nil) (op_len_mv rfl el22) rfl ?_ | refine lxs rfl rfl rfl guard_eq (.cons (t := 178) rfl (fun h => entW h) .nil) (op_len_nil rfl el22) rfl ?_
       refine lxs rfl rfl rfl guard_eq (.cons (t := 176) rfl (fun h => entW h) (.cons (t := 179) rfl (fun h => entW h) .nil)) (op_geq rfl rfl) rfl ?_
       refine lx (op_pick_or rfl rfl) rfl ?_
       refine lx (op_move rfl) rfl ?_
       refine lxs rfl rfl rfl guard_eq (.cons (t := 8) rfl (fun _ => Ent.refl _) .nil) (op_fieldAddr rfl fl47_1 sz33) rfl ?_
       refine lxs rfl rfl rfl guard_eq (.cons (t := 183) rfl (fun h => entW h) .nil) (op_bload_one (m := 8) rfl rfl ag33 rfl) rfl ?_
       first | refine lxs rfl rfl rfl guard_eq (.cons (t := 184) rfl (fun h => entW h) .nil) (op_len rfl el33) rfl ?_ | refine lxs rfl rfl rfl guard_eq (.cons (t := 184) rfl (fun h => entW h) .nil) (op_len_row rfl el33) rfl ?_ | refine lxs rfl rfl rfl guard_eq (.cons (t := 184) rfl (fun h => entW h) .nil) (op_len_mv rfl el33) rfl ?_ | refine lxs rfl rfl rfl guard_eq (.cons (t := 184) rfl (fun h => entW h) .nil) (op_len_nil rfl el33) rfl ?_
       refine lxs rfl rfl rfl guard_eq (.cons (t := 2) rfl (fun _ => Ent.refl _) .nil) (op_fieldAddr rfl fl26_0 sz22) rfl ?_
       refine lxs rfl rfl rfl guard_eq (.cons (t := 186) rfl (fun h => entW h) .nil) (op_bload_one (m := 2) rfl rfl ag22 rfl) rfl ?_
       refine lxs rfl rfl rfl guard_eq (.cons (t := 8) rfl (fun _ => Ent.refl _) .nil) (op_fieldAddr rfl fl47_0 sz3) rfl ?_
       refine lxs rfl rfl rfl guard_eq (.cons (t := 188) rfl (fun h => entW h) .nil) (op_bload_one (m := 8) rfl rfl ag3 rfl) rfl ?_
       refine lxsc (rd := [(187, slP Fu.ps 4 p.funcs), (189, eqP (.int .i64 g.frames[k].defers[j].fn))]) (φ := cellsP (pfn p g.frames[k].defers[j].fn).ps) rfl rfl rfl guard_eq (.cons (t := 187) rfl (fun h => entW h) (.cons (t := 189) rfl (fun h => entW h) .nil)) (fun hgd => ?_) rfl rfl ?_
       ·have hq0 : 0 ≤ g.frames[k].defers[j].fn ∧ g.frames[k].defers[j].fn < (p.funcs.length : Int) := by
         simp at hgd
         omega
        exact op_index rfl rfl el22 sz66 (by omega : g.frames[k].defers[j].fn = ((g.frames[k].defers[j].fn.toNat : Nat) : Int)) (pfn_at (by omega) (by omega))
       first | refine lxs rfl rfl rfl guard_eq (.cons (t := 190) rfl (fun h => entW h) .nil) (op_fieldAddr rfl fl66_1 sz3) rfl ?_ | refine lxs rfl rfl rfl guard_eq (.cons (t := 190) rfl (fun h => entW h) .nil) (op_fieldCells rfl fl66_1 sz3) rfl ?_
       first | refine lxs rfl rfl rfl guard_eq (.cons (t := 191) rfl (fun h => entW h) .nil) (op_load_one rfl ag3 rfl) rfl ?_ | refine lxs rfl rfl rfl guard_eq (.cons (t := 191) rfl (fun h => entW h) .nil) (op_bload_one (m := 2) rfl rfl ag3 rfl) rfl ?_ | refine lxs rfl rfl rfl guard_eq (.cons (t := 191) rfl (fun h => entW h) .nil) (op_bload_one (m := 3) rfl rfl ag3 rfl) rfl ?_ | refine lxs rfl rfl rfl guard_eq (.cons (t := 191) rfl (fun h => entW h) .nil) (op_bload_one (m := 6) rfl rfl ag3 rfl) rfl ?_ | refine lxs rfl rfl rfl guard_eq (.cons (t := 191) rfl (fun h => entW h) .nil) (op_bload_one (m := 8) rfl rfl ag3 rfl) rfl ?_
       refine lxs rfl rfl rfl guard_eq (.cons (t := 185) rfl (fun h => entW h) (.cons (t := 192) rfl (fun h => entW h) .nil)) (op_neq rfl rfl) rfl ?_
       refine lx (op_pick_or rfl rfl) rfl ?_
       refine lx (op_move rfl) rfl ?_
       refine lxs rfl rfl rfl guard_eq (.cons (t := 8) rfl (fun _ => Ent.refl _) .nil) (op_fieldAddr rfl fl47_1 sz33) rfl ?_
       refine lxs rfl rfl rfl guard_eq (.cons (t := 196) rfl (fun h => entW h) .nil) (op_bload_one (m := 8) rfl rfl ag33 rfl) rfl ?_
       first | refine lxs rfl rfl rfl guard_eq (.cons (t := 197) rfl (fun h => entW h) .nil) (op_call (l := [(Go.Operand.tmp 197)]) (rvvals_ok g.frames[k].defers[j].args (by have := hbk.args g.frames[k].defers[j] (List.getElem_mem ..); omega)) (.cons rfl .nil) fn33) rfl ?_ | refine lxs rfl rfl rfl guard_eq (.cons (t := 197) rfl (fun h => entW h) .nil) (op_call (l := [(Go.Operand.tmp 197)]) (rvvals_ok g.frames[k].defers[j].args (by have := hbk.args g.frames[k].defers[j] (List.getElem_mem ..); omega)) (.ent rfl (by exact ent_auto) .nil) fn33) rfl ?_
       first | refine lxs rfl rfl rfl guard_eq (.cons (t := 198) rfl (fun h => entW h) .nil) (op_not rfl) rfl ?_ | refine lxs rfl rfl rfl guard_eq (.cons (t := 198) rfl (fun h => entW h) .nil) (op_not_b rfl) rfl ?_
       refine lx (op_pick_or rfl rfl) rfl ?_
       refine lx_end ⟨by kernel_rfl, ?_⟩
       refine pe_then_normal ?_
       refine tr_sub hC (.cons (t := 2) rfl (.cons (t := 3) rfl (.cons (t := 5) rfl (.cons (t := 6) rfl (.cons (t := 7) rfl (.cons (t := 200) rfl .nil)))))) (.cons (t := 2) rfl (.cons (t := 3) rfl (.cons (t := 6) rfl .nil))) rfl ?_
       refine tr_cond rfl (fun h200 => ?_) (fun h200 => ?_)
       ·have hbad := hvg.trans (frs_bad (by omega) hk2 (frm_no4 (all_bad (φ := defOK p) (by omega : j < g.frames[k].defers.length) (def_no h200))))
        refine tr_seq ?_
        refine tr_region (fun N14 hN => ?_)
        refine lx (op_assign rfl) rfl ?_
        refine lx_end ⟨by kernel_rfl, ?_⟩
        refine pe_then_normal ?_
        refine tr_sub hC (.cons (t := 4) rfl .nil) .nil rfl ?_
        refine tr_ret ?_
        refine pe_block_ret ?_
        refine pe_then_ret ?_
        refine pe_then_ret ?_
        refine pe_block_ret ?_
        refine pe_block_ret ?_
        refine pe_then_ret ?_
        refine pe_then_ret ?_
        refine pe_block_ret ?_
        refine pe_then_ret ?_
        refine pe_ret1 rfl hO rfl (.tmp rfl .nil) ?_
        rw [hbad]
        exact ent_auto
       ·have hdy := def_yes h200
        refine tr_skip ?_
        refine pe_block_normal ?_
        refine pe_then_normal ?_
        refine tr_sub hC (.cons (t := 2) rfl (.cons (t := 3) rfl (.cons (t := 5) rfl (.cons (t := 6) rfl (.cons (t := 7) rfl .nil))))) (.cons (t := 2) rfl (.cons (t := 3) rfl (.cons (t := 6) rfl .nil))) rfl ?_
        refine tr_region (fun N11 hN => ?_)
        refine lx (op_move rfl) rfl ?_
        refine lx (op_add rfl rfl (by omega)) rfl ?_
        refine lx (op_assign rfl) rfl ?_
        refine lx_end ⟨by kernel_rfl, ?_⟩
        refine pe_round (⟨(j + 1), by omega, all_step (φ := defOK p) hj2 (by omega) hdy⟩) (by dsimp only; omega) (pe_st hC ?_ ?_ rfl)
        ·try dsimp only [List.cons_append, List.nil_append]
         first | refine SubF.cons rfl ?_ | (refine SubF.ent rfl ?_ ?_; · exact ent_auto)
         first | refine SubF.cons rfl ?_ | (refine SubF.ent rfl ?_ ?_; · exact ent_auto)
         first | refine SubF.cons rfl ?_ | (refine SubF.ent rfl ?_ ?_; · exact ent_auto)
         first | refine SubF.cons rfl ?_ | (refine SubF.ent rfl ?_ ?_; · exact ent_auto)
         first | refine SubF.cons rfl ?_ | (refine SubF.ent rfl ?_ ?_; · exact ent_auto)
         exact SubF.nil
        ·try dsimp only [List.cons_append, List.nil_append]
         repeat (first | exact SubL.nil | refine SubL.cons rfl ?_)
      ·(try simp only [cq1, cq2, cq3, cq4, cq5, cq6, cq7, cq8, cq9, cq10, cq11, cq12, cq13] at h163)
       have hgo := frs_next (by omega) hk2 (rfrm_yes (by omega) hmd (all_end hj2 (by omega)))
       refine tr_exit ?_
       refine pe_then_exit ?_
       refine pe_then_exit ?_
       refine pe_block_eq ?_
       refine pe_block_normal ?_
       refine pe_then_normal ?_
       refine tr_sub hC (.cons (t := 2) rfl (.cons (t := 3) rfl (.cons (t := 5) rfl .nil))) (.cons (t := 2) rfl (.cons (t := 3) rfl .nil)) rfl ?_
       refine tr_region (fun N5 hN => ?_)
       refine lx (op_move rfl) rfl ?_
       refine lx (op_add rfl rfl (by omega)) rfl ?_
       refine lx (op_assign rfl) rfl ?_
       refine lx_end ⟨by kernel_rfl, ?_⟩
       refine pe_round (⟨(k + 1), by omega, hgo⟩) (by dsimp only; omega) (pe_st hC ?_ ?_ rfl)
       ·try dsimp only [List.cons_append, List.nil_append]
        first | refine SubF.cons rfl ?_ | (refine SubF.ent rfl ?_ ?_; · exact ent_auto)
        first | refine SubF.cons rfl ?_ | (refine SubF.ent rfl ?_ ?_; · exact ent_auto)
        first | refine SubF.cons rfl ?_ | (refine SubF.ent rfl ?_ ?_; · exact ent_auto)
        exact SubF.nil
       ·try dsimp only [List.cons_append, List.nil_append]
        repeat (first | exact SubL.nil | refine SubL.cons rfl ?_)
   ·(try simp only [cq1, cq2, cq3, cq4, cq5, cq6, cq7, cq8, cq9, cq10, cq11, cq12, cq13] at h66)
    have hfin := hvg.trans (frs_end (by omega) hk2)
    refine tr_exit ?_
    refine pe_then_exit ?_
    refine pe_then_exit ?_
    refine pe_block_eq ?_
    refine pe_then_normal ?_
    refine tr_sub hC .nil .nil rfl ?_
    refine tr_seq ?_
    refine tr_region (fun N15 hN => ?_)
    refine lx (op_assign rfl) rfl ?_
    refine lx_end ⟨by kernel_rfl, ?_⟩
    refine pe_then_normal ?_
    refine tr_sub hC (.cons (t := 4) rfl .nil) .nil rfl ?_
    refine tr_ret ?_
    refine pe_ret1 rfl hO rfl (.tmp rfl .nil) ?_
    rw [hfin]
    exact ent_auto
end Go.Proofs.Ythiknhmoefbanaa


set_option linter.unusedVariables false
set_option linter.unusedSimpArgs false
namespace Go.Proofs.Ythiknhmoefbanaa
open Go.AL Go.Ch Go.Hp Go.RowKit
theorem ag23 : aggB Try.prog 23 = some false := by kernel_rfl
theorem ag24 : aggB Try.prog 24 = some false := by kernel_rfl
theorem ag80 : aggB Try.prog 80 = some true := by kernel_rfl
theorem el23 : elemB Try.prog 23 = some 71 := by kernel_rfl
theorem el24 : elemB Try.prog 24 = some 81 := by kernel_rfl
theorem fl26_1 : fldB Try.prog 26 1 = some (1, 23) := by kernel_rfl
theorem fl26_2 : fldB Try.prog 26 2 = some (2, 24) := by kernel_rfl
theorem fl80_0 : fldB Try.prog 80 0 = some (0, 3) := by kernel_rfl
theorem fl80_1 : fldB Try.prog 80 1 = some (1, 3) := by kernel_rfl
theorem fl80_2 : fldB Try.prog 80 2 = some (2, 3) := by kernel_rfl
theorem fl80_3 : fldB Try.prog 80 3 = some (3, 3) := by kernel_rfl
theorem fl80_4 : fldB Try.prog 80 4 = some (4, 3) := by kernel_rfl
theorem fn48 : fnB Try.prog 48 = true := by kernel_rfl
theorem fn49 : fnB Try.prog 49 = true := by kernel_rfl
theorem st9 : Try.prog.underlying 9 = some .string := by kernel_rfl
theorem sz23 : sizeB Try.prog 23 = some 1 := by kernel_rfl
theorem sz24 : sizeB Try.prog 24 = some 1 := by kernel_rfl
theorem sz80 : sizeB Try.prog 80 = some 5 := by kernel_rfl
def rolesF (x : Int) : ByteArray :=
 if x = 1 then ⟨#[100, 105, 45]⟩
 else if x = 2 then ⟨#[100, 45, 45]⟩
 else if x = 3 then ⟨#[100, 114, 45]⟩
 else if x = 9 then ⟨#[100, 114, 45]⟩
 else if x = 10 then ⟨#[100, 114, 45]⟩
 else if x = 15 then ⟨#[100, 114, 45]⟩
 else if x = 22 then ⟨#[100, 114, 45]⟩
 else if x = 23 then ⟨#[100, 114, 45]⟩
 else if x = 33 then ⟨#[100, 114, 45]⟩
 else if x = 35 then ⟨#[100, 114, 45]⟩
 else if x = 4 then ⟨#[100, 114, 114]⟩
 else if x = 5 then ⟨#[100, 114, 114]⟩
 else if x = 6 then ⟨#[100, 114, 114]⟩
 else if x = 7 then ⟨#[100, 114, 114]⟩
 else if x = 8 then ⟨#[100, 114, 114]⟩
 else if x = 11 then ⟨#[100, 114, 114]⟩
 else if x = 12 then ⟨#[100, 114, 114]⟩
 else if x = 13 then ⟨#[100, 114, 114]⟩
 else if x = 14 then ⟨#[100, 114, 114]⟩
 else if x = 20 then ⟨#[100, 114, 114]⟩
 else if x = 37 then ⟨#[100, 114, 114]⟩
 else if x = 38 then ⟨#[100, 114, 114]⟩
 else if x = 16 then ⟨#[45, 45, 106]⟩
 else if x = 17 then ⟨#[114, 45, 106]⟩
 else if x = 45 then ⟨#[114, 45, 106]⟩
 else if x = 18 then ⟨#[100, 103, 45]⟩
 else if x = 19 then ⟨#[100, 114, 110]⟩
 else if x = 21 then ⟨#[100, 108, 45]⟩
 else if x = 24 then ⟨#[100, 49, 110]⟩
 else if x = 25 then ⟨#[100, 110, 45]⟩
 else if x = 26 then ⟨#[68, 102, 97]⟩
 else if x = 28 then ⟨#[45, 102, 97]⟩
 else if x = 31 then ⟨#[45, 102, 97]⟩
 else if x = 30 then ⟨#[82, 45, 45]⟩
 else if x = 34 then ⟨#[114, 114, 45]⟩
 else if x = 36 then ⟨#[114, 114, 45]⟩
 else if x = 43 then ⟨#[114, 114, 45]⟩
 else if x = 47 then ⟨#[114, 114, 45]⟩
 else if x = 27 then ⟨#[114, 45, 45]⟩
 else if x = 29 then ⟨#[114, 45, 45]⟩
 else if x = 32 then ⟨#[114, 45, 45]⟩
 else if x = 39 then ⟨#[114, 45, 45]⟩
 else if x = 40 then ⟨#[114, 45, 45]⟩
 else if x = 41 then ⟨#[114, 45, 45]⟩
 else if x = 42 then ⟨#[114, 45, 45]⟩
 else if x = 44 then ⟨#[114, 45, 45]⟩
 else if x = 46 then ⟨#[114, 45, 45]⟩
 else if x = 49 then ⟨#[114, 45, 45]⟩
 else if x = 52 then ⟨#[114, 45, 45]⟩
 else if x = 48 then ⟨#[68, 114, 68]⟩
 else if x = 50 then ⟨#[100, 115, 98]⟩
 else if x = 51 then ⟨#[114, 98, 99]⟩
 else es
theorem ite_or {c : Prop} [Decidable c] {a b : ByteArray} (ha : 3 ≤ a.size) (hb : b = es ∨ 3 ≤ b.size) : (if c then a else b) = es ∨ 3 ≤ (if c then a else b).size := by
 split
 ·exact .inr ha
 ·exact hb
theorem roles_or (x : Int) : rolesF x = es ∨ 3 ≤ (rolesF x).size := by
 unfold rolesF
 repeat (refine ite_or (by decide) ?_)
 exact .inl rfl
theorem roles_sz {x : Int} (h : ((rolesF x).toList == es.toList) = false) : 3 ≤ (rolesF x).size := by
 rcases roles_or x with e | e
 ·rw [e] at h
  simp at h
 ·exact e
theorem Roles_ok (x : Int) : FnP Try.prog 48 [eqP (.int .i64 x)] (eqP (.string (rolesF x))) := by
 refine fn_pure' Try.func48 rfl Try.ntmps48 rfl ?_
 intro σ0 M ex Rf R hC hO
 simp only [frameOf, tokOf]
 refine tr_seq ?_
 refine tr_region (fun N0 hN => ?_)
 refine lx (op_assign rfl) rfl ?_
 refine lx_end ⟨by kernel_rfl, ?_⟩
 refine pe_then_normal ?_
 refine tr_sub hC (.cons (t := 0) rfl .nil) .nil rfl ?_
 refine tr_seq ?_
 refine tr_seq ?_
 refine tr_region (fun N1 hN => ?_)
 refine lx (op_move rfl) rfl ?_
 refine lx_end ⟨by kernel_rfl, ?_⟩
 refine pe_then_normal ?_
 refine tr_sub hC (.cons (t := 3) rfl .nil) .nil rfl ?_
 refine tr_block ?_
 refine tr_seq ?_
 refine tr_region (fun N2 hN => ?_)
 refine lx (op_eql rfl rfl) rfl ?_
 refine lx (op_assign rfl) rfl ?_
 refine lx_end ⟨by kernel_rfl, ?_⟩
 refine pe_then_normal ?_
 refine tr_sub hC (.cons (t := 3) rfl (.cons (t := 4) rfl .nil)) .nil rfl ?_
 refine tr_cond rfl (fun h4 => ?_) (fun h4 => ?_)
 ·(try simp only [cq1, cq2, cq3, cq4, cq5, cq6, cq7, cq8, cq9, cq10, cq11, cq12, cq13] at h4)
  refine tr_seq ?_
  refine tr_region (fun N3 hN => ?_)
  refine lx (op_assign rfl) rfl ?_
  refine lx_end ⟨by kernel_rfl, ?_⟩
  refine pe_then_normal ?_
  refine tr_sub hC (.cons (t := 2) rfl .nil) .nil rfl ?_
  refine tr_ret ?_
  refine pe_block_ret ?_
  refine pe_then_ret ?_
  refine pe_ret1 rfl hO rfl (.tmp rfl .nil) ?_
  rw [rolesF, if_pos h4]
  exact ent_auto
 ·(try simp only [cq1, cq2, cq3, cq4, cq5, cq6, cq7, cq8, cq9, cq10, cq11, cq12, cq13] at h4)
  refine tr_seq ?_
  refine tr_region (fun N4 hN => ?_)
  refine lx (op_eql rfl rfl) rfl ?_
  refine lx (op_assign rfl) rfl ?_
  refine lx_end ⟨by kernel_rfl, ?_⟩
  refine pe_then_normal ?_
  refine tr_sub hC (.cons (t := 3) rfl (.cons (t := 6) rfl .nil)) .nil rfl ?_
  refine tr_cond rfl (fun h6 => ?_) (fun h6 => ?_)
  ·(try simp only [cq1, cq2, cq3, cq4, cq5, cq6, cq7, cq8, cq9, cq10, cq11, cq12, cq13] at h6)
   refine tr_seq ?_
   refine tr_region (fun N5 hN => ?_)
   refine lx (op_assign rfl) rfl ?_
   refine lx_end ⟨by kernel_rfl, ?_⟩
   refine pe_then_normal ?_
   refine tr_sub hC (.cons (t := 2) rfl .nil) .nil rfl ?_
   refine tr_ret ?_
   refine pe_block_ret ?_
   refine pe_then_ret ?_
   refine pe_ret1 rfl hO rfl (.tmp rfl .nil) ?_
   rw [rolesF, if_neg h4, if_pos h6]
   exact ent_auto
  ·(try simp only [cq1, cq2, cq3, cq4, cq5, cq6, cq7, cq8, cq9, cq10, cq11, cq12, cq13] at h6)
   refine tr_seq ?_
   refine tr_seq ?_
   refine tr_region (fun N6 hN => ?_)
   refine lx (op_eql rfl rfl) rfl ?_
   refine lx (op_assign rfl) rfl ?_
   refine lx_end ⟨by kernel_rfl, ?_⟩
   refine pe_then_normal ?_
   refine tr_sub hC (.cons (t := 3) rfl (.cons (t := 8) rfl .nil)) .nil rfl ?_
   refine tr_cond2 rfl (fun h8 => ?_) (fun h8 => ?_)
   ·(try simp only [cq1, cq2, cq3, cq4, cq5, cq6, cq7, cq8, cq9, cq10, cq11, cq12, cq13] at h8)
    refine tr_skip ?_
    refine pe_then_normal ?_
    refine tr_sub hC (.cons (t := 3) rfl (.cons (t := 8) rfl .nil)) .nil rfl ?_
    refine tr_cond_t rfl ?_
    refine tr_seq ?_
    refine tr_region (fun N14 hN => ?_)
    refine lx (op_assign rfl) rfl ?_
    refine lx_end ⟨by kernel_rfl, ?_⟩
    refine pe_then_normal ?_
    refine tr_sub hC (.cons (t := 2) rfl .nil) .nil rfl ?_
    refine tr_ret ?_
    refine pe_block_ret ?_
    refine pe_then_ret ?_
    refine pe_ret1 rfl hO rfl (.tmp rfl .nil) ?_
    rw [rolesF, if_neg h4, if_neg h6, if_pos h8]
    exact ent_auto
   ·(try simp only [cq1, cq2, cq3, cq4, cq5, cq6, cq7, cq8, cq9, cq10, cq11, cq12, cq13] at h8)
    refine tr_seq ?_
    refine tr_region (fun N7 hN => ?_)
    refine lx (op_eql rfl rfl) rfl ?_
    refine lx (op_assign rfl) rfl ?_
    refine lx_end ⟨by kernel_rfl, ?_⟩
    refine pe_then_normal ?_
    refine tr_sub hC (.cons (t := 3) rfl (.cons (t := 8) rfl .nil)) .nil rfl ?_
    refine tr_cond2 rfl (fun h8_2 => ?_) (fun h8_2 => ?_)
    ·(try simp only [cq1, cq2, cq3, cq4, cq5, cq6, cq7, cq8, cq9, cq10, cq11, cq12, cq13] at h8_2)
     refine tr_skip ?_
     refine pe_then_normal ?_
     refine tr_sub hC (.cons (t := 3) rfl (.cons (t := 8) rfl .nil)) .nil rfl ?_
     refine tr_cond_t rfl ?_
     refine tr_seq ?_
     refine tr_region (fun N14 hN => ?_)
     refine lx (op_assign rfl) rfl ?_
     refine lx_end ⟨by kernel_rfl, ?_⟩
     refine pe_then_normal ?_
     refine tr_sub hC (.cons (t := 2) rfl .nil) .nil rfl ?_
     refine tr_ret ?_
     refine pe_block_ret ?_
     refine pe_then_ret ?_
     refine pe_ret1 rfl hO rfl (.tmp rfl .nil) ?_
     rw [rolesF, if_neg h4, if_neg h6, if_neg h8, if_pos h8_2]
     exact ent_auto
    ·(try simp only [cq1, cq2, cq3, cq4, cq5, cq6, cq7, cq8, cq9, cq10, cq11, cq12, cq13] at h8_2)
     refine tr_seq ?_
     refine tr_region (fun N8 hN => ?_)
     refine lx (op_eql rfl rfl) rfl ?_
     refine lx (op_assign rfl) rfl ?_
     refine lx_end ⟨by kernel_rfl, ?_⟩
     refine pe_then_normal ?_
     refine tr_sub hC (.cons (t := 3) rfl (.cons (t := 8) rfl .nil)) .nil rfl ?_
     refine tr_cond2 rfl (fun h8_3 => ?_) (fun h8_3 => ?_)
     ·(try simp only [cq1, cq2, cq3, cq4, cq5, cq6, cq7, cq8, cq9, cq10, cq11, cq12, cq13] at h8_3)
      refine tr_skip ?_
      refine pe_then_normal ?_
      refine tr_sub hC (.cons (t := 3) rfl (.cons (t := 8) rfl .nil)) .nil rfl ?_
      refine tr_cond_t rfl ?_
      refine tr_seq ?_
      refine tr_region (fun N14 hN => ?_)
      refine lx (op_assign rfl) rfl ?_
      refine lx_end ⟨by kernel_rfl, ?_⟩
      refine pe_then_normal ?_
      refine tr_sub hC (.cons (t := 2) rfl .nil) .nil rfl ?_
      refine tr_ret ?_
      refine pe_block_ret ?_
      refine pe_then_ret ?_
      refine pe_ret1 rfl hO rfl (.tmp rfl .nil) ?_
      rw [rolesF, if_neg h4, if_neg h6, if_neg h8, if_neg h8_2, if_pos h8_3]
      exact ent_auto
     ·(try simp only [cq1, cq2, cq3, cq4, cq5, cq6, cq7, cq8, cq9, cq10, cq11, cq12, cq13] at h8_3)
      refine tr_seq ?_
      refine tr_region (fun N9 hN => ?_)
      refine lx (op_eql rfl rfl) rfl ?_
      refine lx (op_assign rfl) rfl ?_
      refine lx_end ⟨by kernel_rfl, ?_⟩
      refine pe_then_normal ?_
      refine tr_sub hC (.cons (t := 3) rfl (.cons (t := 8) rfl .nil)) .nil rfl ?_
      refine tr_cond2 rfl (fun h8_4 => ?_) (fun h8_4 => ?_)
      ·(try simp only [cq1, cq2, cq3, cq4, cq5, cq6, cq7, cq8, cq9, cq10, cq11, cq12, cq13] at h8_4)
       refine tr_skip ?_
       refine pe_then_normal ?_
       refine tr_sub hC (.cons (t := 3) rfl (.cons (t := 8) rfl .nil)) .nil rfl ?_
       refine tr_cond_t rfl ?_
       refine tr_seq ?_
       refine tr_region (fun N14 hN => ?_)
       refine lx (op_assign rfl) rfl ?_
       refine lx_end ⟨by kernel_rfl, ?_⟩
       refine pe_then_normal ?_
       refine tr_sub hC (.cons (t := 2) rfl .nil) .nil rfl ?_
       refine tr_ret ?_
       refine pe_block_ret ?_
       refine pe_then_ret ?_
       refine pe_ret1 rfl hO rfl (.tmp rfl .nil) ?_
       rw [rolesF, if_neg h4, if_neg h6, if_neg h8, if_neg h8_2, if_neg h8_3, if_pos h8_4]
       exact ent_auto
      ·(try simp only [cq1, cq2, cq3, cq4, cq5, cq6, cq7, cq8, cq9, cq10, cq11, cq12, cq13] at h8_4)
       refine tr_seq ?_
       refine tr_region (fun N10 hN => ?_)
       refine lx (op_eql rfl rfl) rfl ?_
       refine lx (op_assign rfl) rfl ?_
       refine lx_end ⟨by kernel_rfl, ?_⟩
       refine pe_then_normal ?_
       refine tr_sub hC (.cons (t := 3) rfl (.cons (t := 8) rfl .nil)) .nil rfl ?_
       refine tr_cond2 rfl (fun h8_5 => ?_) (fun h8_5 => ?_)
       ·(try simp only [cq1, cq2, cq3, cq4, cq5, cq6, cq7, cq8, cq9, cq10, cq11, cq12, cq13] at h8_5)
        refine tr_skip ?_
        refine pe_then_normal ?_
        refine tr_sub hC (.cons (t := 3) rfl (.cons (t := 8) rfl .nil)) .nil rfl ?_
        refine tr_cond_t rfl ?_
        refine tr_seq ?_
        refine tr_region (fun N14 hN => ?_)
        refine lx (op_assign rfl) rfl ?_
        refine lx_end ⟨by kernel_rfl, ?_⟩
        refine pe_then_normal ?_
        refine tr_sub hC (.cons (t := 2) rfl .nil) .nil rfl ?_
        refine tr_ret ?_
        refine pe_block_ret ?_
        refine pe_then_ret ?_
        refine pe_ret1 rfl hO rfl (.tmp rfl .nil) ?_
        rw [rolesF, if_neg h4, if_neg h6, if_neg h8, if_neg h8_2, if_neg h8_3, if_neg h8_4, if_pos h8_5]
        exact ent_auto
       ·(try simp only [cq1, cq2, cq3, cq4, cq5, cq6, cq7, cq8, cq9, cq10, cq11, cq12, cq13] at h8_5)
        refine tr_seq ?_
        refine tr_region (fun N11 hN => ?_)
        refine lx (op_eql rfl rfl) rfl ?_
        refine lx (op_assign rfl) rfl ?_
        refine lx_end ⟨by kernel_rfl, ?_⟩
        refine pe_then_normal ?_
        refine tr_sub hC (.cons (t := 3) rfl (.cons (t := 8) rfl .nil)) .nil rfl ?_
        refine tr_cond2 rfl (fun h8_6 => ?_) (fun h8_6 => ?_)
        ·(try simp only [cq1, cq2, cq3, cq4, cq5, cq6, cq7, cq8, cq9, cq10, cq11, cq12, cq13] at h8_6)
         refine tr_skip ?_
         refine pe_then_normal ?_
         refine tr_sub hC (.cons (t := 3) rfl (.cons (t := 8) rfl .nil)) .nil rfl ?_
         refine tr_cond_t rfl ?_
         refine tr_seq ?_
         refine tr_region (fun N14 hN => ?_)
         refine lx (op_assign rfl) rfl ?_
         refine lx_end ⟨by kernel_rfl, ?_⟩
         refine pe_then_normal ?_
         refine tr_sub hC (.cons (t := 2) rfl .nil) .nil rfl ?_
         refine tr_ret ?_
         refine pe_block_ret ?_
         refine pe_then_ret ?_
         refine pe_ret1 rfl hO rfl (.tmp rfl .nil) ?_
         rw [rolesF, if_neg h4, if_neg h6, if_neg h8, if_neg h8_2, if_neg h8_3, if_neg h8_4, if_neg h8_5, if_pos h8_6]
         exact ent_auto
        ·(try simp only [cq1, cq2, cq3, cq4, cq5, cq6, cq7, cq8, cq9, cq10, cq11, cq12, cq13] at h8_6)
         refine tr_seq ?_
         refine tr_region (fun N12 hN => ?_)
         refine lx (op_eql rfl rfl) rfl ?_
         refine lx (op_assign rfl) rfl ?_
         refine lx_end ⟨by kernel_rfl, ?_⟩
         refine pe_then_normal ?_
         refine tr_sub hC (.cons (t := 3) rfl (.cons (t := 8) rfl .nil)) .nil rfl ?_
         refine tr_cond2 rfl (fun h8_7 => ?_) (fun h8_7 => ?_)
         ·(try simp only [cq1, cq2, cq3, cq4, cq5, cq6, cq7, cq8, cq9, cq10, cq11, cq12, cq13] at h8_7)
          refine tr_skip ?_
          refine pe_then_normal ?_
          refine tr_sub hC (.cons (t := 3) rfl (.cons (t := 8) rfl .nil)) .nil rfl ?_
          refine tr_cond_t rfl ?_
          refine tr_seq ?_
          refine tr_region (fun N14 hN => ?_)
          refine lx (op_assign rfl) rfl ?_
          refine lx_end ⟨by kernel_rfl, ?_⟩
          refine pe_then_normal ?_
          refine tr_sub hC (.cons (t := 2) rfl .nil) .nil rfl ?_
          refine tr_ret ?_
          refine pe_block_ret ?_
          refine pe_then_ret ?_
          refine pe_ret1 rfl hO rfl (.tmp rfl .nil) ?_
          rw [rolesF, if_neg h4, if_neg h6, if_neg h8, if_neg h8_2, if_neg h8_3, if_neg h8_4, if_neg h8_5, if_neg h8_6, if_pos h8_7]
          exact ent_auto
         ·(try simp only [cq1, cq2, cq3, cq4, cq5, cq6, cq7, cq8, cq9, cq10, cq11, cq12, cq13] at h8_7)
          refine tr_region (fun N13 hN => ?_)
          refine lx (op_eql rfl rfl) rfl ?_
          refine lx (op_assign rfl) rfl ?_
          refine lx_end ⟨by kernel_rfl, ?_⟩
          refine pe_then_normal ?_
          refine tr_sub hC (.cons (t := 3) rfl (.cons (t := 8) rfl .nil)) .nil rfl ?_
          refine tr_cond rfl (fun h8_8 => ?_) (fun h8_8 => ?_)
          ·(try simp only [cq1, cq2, cq3, cq4, cq5, cq6, cq7, cq8, cq9, cq10, cq11, cq12, cq13] at h8_8)
           refine tr_seq ?_
           refine tr_region (fun N14 hN => ?_)
           refine lx (op_assign rfl) rfl ?_
           refine lx_end ⟨by kernel_rfl, ?_⟩
           refine pe_then_normal ?_
           refine tr_sub hC (.cons (t := 2) rfl .nil) .nil rfl ?_
           refine tr_ret ?_
           refine pe_block_ret ?_
           refine pe_then_ret ?_
           refine pe_ret1 rfl hO rfl (.tmp rfl .nil) ?_
           rw [rolesF, if_neg h4, if_neg h6, if_neg h8, if_neg h8_2, if_neg h8_3, if_neg h8_4, if_neg h8_5, if_neg h8_6, if_neg h8_7, if_pos h8_8]
           exact ent_auto
          ·(try simp only [cq1, cq2, cq3, cq4, cq5, cq6, cq7, cq8, cq9, cq10, cq11, cq12, cq13] at h8_8)
           refine tr_seq ?_
           refine tr_seq ?_
           refine tr_region (fun N15 hN => ?_)
           refine lx (op_eql rfl rfl) rfl ?_
           refine lx (op_assign rfl) rfl ?_
           refine lx_end ⟨by kernel_rfl, ?_⟩
           refine pe_then_normal ?_
           refine tr_sub hC (.cons (t := 3) rfl (.cons (t := 17) rfl .nil)) .nil rfl ?_
           refine tr_cond2 rfl (fun h17 => ?_) (fun h17 => ?_)
           ·(try simp only [cq1, cq2, cq3, cq4, cq5, cq6, cq7, cq8, cq9, cq10, cq11, cq12, cq13] at h17)
            refine tr_skip ?_
            refine pe_then_normal ?_
            refine tr_sub hC (.cons (t := 3) rfl (.cons (t := 17) rfl .nil)) .nil rfl ?_
            refine tr_cond_t rfl ?_
            refine tr_seq ?_
            refine tr_region (fun N27 hN => ?_)
            refine lx (op_assign rfl) rfl ?_
            refine lx_end ⟨by kernel_rfl, ?_⟩
            refine pe_then_normal ?_
            refine tr_sub hC (.cons (t := 2) rfl .nil) .nil rfl ?_
            refine tr_ret ?_
            refine pe_block_ret ?_
            refine pe_then_ret ?_
            refine pe_ret1 rfl hO rfl (.tmp rfl .nil) ?_
            rw [rolesF, if_neg h4, if_neg h6, if_neg h8, if_neg h8_2, if_neg h8_3, if_neg h8_4, if_neg h8_5, if_neg h8_6, if_neg h8_7, if_neg h8_8, if_pos h17]
            exact ent_auto
           ·(try simp only [cq1, cq2, cq3, cq4, cq5, cq6, cq7, cq8, cq9, cq10, cq11, cq12, cq13] at h17)
            refine tr_seq ?_
            refine tr_region (fun N16 hN => ?_)
            refine lx (op_eql rfl rfl) rfl ?_
            refine lx (op_assign rfl) rfl ?_
            refine lx_end ⟨by kernel_rfl, ?_⟩
            refine pe_then_normal ?_
            refine tr_sub hC (.cons (t := 3) rfl (.cons (t := 17) rfl .nil)) .nil rfl ?_
            refine tr_cond2 rfl (fun h17_2 => ?_) (fun h17_2 => ?_)
            ·(try simp only [cq1, cq2, cq3, cq4, cq5, cq6, cq7, cq8, cq9, cq10, cq11, cq12, cq13] at h17_2)
             refine tr_skip ?_
             refine pe_then_normal ?_
             refine tr_sub hC (.cons (t := 3) rfl (.cons (t := 17) rfl .nil)) .nil rfl ?_
             refine tr_cond_t rfl ?_
             refine tr_seq ?_
             refine tr_region (fun N27 hN => ?_)
             refine lx (op_assign rfl) rfl ?_
             refine lx_end ⟨by kernel_rfl, ?_⟩
             refine pe_then_normal ?_
             refine tr_sub hC (.cons (t := 2) rfl .nil) .nil rfl ?_
             refine tr_ret ?_
             refine pe_block_ret ?_
             refine pe_then_ret ?_
             refine pe_ret1 rfl hO rfl (.tmp rfl .nil) ?_
             rw [rolesF, if_neg h4, if_neg h6, if_neg h8, if_neg h8_2, if_neg h8_3, if_neg h8_4, if_neg h8_5, if_neg h8_6, if_neg h8_7, if_neg h8_8, if_neg h17, if_pos h17_2]
             exact ent_auto
            ·(try simp only [cq1, cq2, cq3, cq4, cq5, cq6, cq7, cq8, cq9, cq10, cq11, cq12, cq13] at h17_2)
             refine tr_seq ?_
             refine tr_region (fun N17 hN => ?_)
             refine lx (op_eql rfl rfl) rfl ?_
             refine lx (op_assign rfl) rfl ?_
             refine lx_end ⟨by kernel_rfl, ?_⟩
             refine pe_then_normal ?_
             refine tr_sub hC (.cons (t := 3) rfl (.cons (t := 17) rfl .nil)) .nil rfl ?_
             refine tr_cond2 rfl (fun h17_3 => ?_) (fun h17_3 => ?_)
             ·(try simp only [cq1, cq2, cq3, cq4, cq5, cq6, cq7, cq8, cq9, cq10, cq11, cq12, cq13] at h17_3)
              refine tr_skip ?_
              refine pe_then_normal ?_
              refine tr_sub hC (.cons (t := 3) rfl (.cons (t := 17) rfl .nil)) .nil rfl ?_
              refine tr_cond_t rfl ?_
              refine tr_seq ?_
              refine tr_region (fun N27 hN => ?_)
              refine lx (op_assign rfl) rfl ?_
              refine lx_end ⟨by kernel_rfl, ?_⟩
              refine pe_then_normal ?_
              refine tr_sub hC (.cons (t := 2) rfl .nil) .nil rfl ?_
              refine tr_ret ?_
              refine pe_block_ret ?_
              refine pe_then_ret ?_
              refine pe_ret1 rfl hO rfl (.tmp rfl .nil) ?_
              rw [rolesF, if_neg h4, if_neg h6, if_neg h8, if_neg h8_2, if_neg h8_3, if_neg h8_4, if_neg h8_5, if_neg h8_6, if_neg h8_7, if_neg h8_8, if_neg h17, if_neg h17_2, if_pos h17_3]
              exact ent_auto
             ·(try simp only [cq1, cq2, cq3, cq4, cq5, cq6, cq7, cq8, cq9, cq10, cq11, cq12, cq13] at h17_3)
              refine tr_seq ?_
              refine tr_region (fun N18 hN => ?_)
              refine lx (op_eql rfl rfl) rfl ?_
              refine lx (op_assign rfl) rfl ?_
              refine lx_end ⟨by kernel_rfl, ?_⟩
              refine pe_then_normal ?_
              refine tr_sub hC (.cons (t := 3) rfl (.cons (t := 17) rfl .nil)) .nil rfl ?_
              refine tr_cond2 rfl (fun h17_4 => ?_) (fun h17_4 => ?_)
              ·(try simp only [cq1, cq2, cq3, cq4, cq5, cq6, cq7, cq8, cq9, cq10, cq11, cq12, cq13] at h17_4)
               refine tr_skip ?_
               refine pe_then_normal ?_
               refine tr_sub hC (.cons (t := 3) rfl (.cons (t := 17) rfl .nil)) .nil rfl ?_
               refine tr_cond_t rfl ?_
               refine tr_seq ?_
               refine tr_region (fun N27 hN => ?_)
               refine lx (op_assign rfl) rfl ?_
               refine lx_end ⟨by kernel_rfl, ?_⟩
               refine pe_then_normal ?_
               refine tr_sub hC (.cons (t := 2) rfl .nil) .nil rfl ?_
               refine tr_ret ?_
               refine pe_block_ret ?_
               refine pe_then_ret ?_
               refine pe_ret1 rfl hO rfl (.tmp rfl .nil) ?_
               rw [rolesF, if_neg h4, if_neg h6, if_neg h8, if_neg h8_2, if_neg h8_3, if_neg h8_4, if_neg h8_5, if_neg h8_6, if_neg h8_7, if_neg h8_8, if_neg h17, if_neg h17_2, if_neg h17_3, if_pos h17_4]
               exact ent_auto
              ·(try simp only [cq1, cq2, cq3, cq4, cq5, cq6, cq7, cq8, cq9, cq10, cq11, cq12, cq13] at h17_4)
               refine tr_seq ?_
               refine tr_region (fun N19 hN => ?_)
               refine lx (op_eql rfl rfl) rfl ?_
               refine lx (op_assign rfl) rfl ?_
               refine lx_end ⟨by kernel_rfl, ?_⟩
               refine pe_then_normal ?_
               refine tr_sub hC (.cons (t := 3) rfl (.cons (t := 17) rfl .nil)) .nil rfl ?_
               refine tr_cond2 rfl (fun h17_5 => ?_) (fun h17_5 => ?_)
               ·(try simp only [cq1, cq2, cq3, cq4, cq5, cq6, cq7, cq8, cq9, cq10, cq11, cq12, cq13] at h17_5)
                refine tr_skip ?_
                refine pe_then_normal ?_
                refine tr_sub hC (.cons (t := 3) rfl (.cons (t := 17) rfl .nil)) .nil rfl ?_
                refine tr_cond_t rfl ?_
                refine tr_seq ?_
                refine tr_region (fun N27 hN => ?_)
                refine lx (op_assign rfl) rfl ?_
                refine lx_end ⟨by kernel_rfl, ?_⟩
                refine pe_then_normal ?_
                refine tr_sub hC (.cons (t := 2) rfl .nil) .nil rfl ?_
                refine tr_ret ?_
                refine pe_block_ret ?_
                refine pe_then_ret ?_
                refine pe_ret1 rfl hO rfl (.tmp rfl .nil) ?_
                rw [rolesF, if_neg h4, if_neg h6, if_neg h8, if_neg h8_2, if_neg h8_3, if_neg h8_4, if_neg h8_5, if_neg h8_6, if_neg h8_7, if_neg h8_8, if_neg h17, if_neg h17_2, if_neg h17_3, if_neg h17_4, if_pos h17_5]
                exact ent_auto
               ·(try simp only [cq1, cq2, cq3, cq4, cq5, cq6, cq7, cq8, cq9, cq10, cq11, cq12, cq13] at h17_5)
                refine tr_seq ?_
                refine tr_region (fun N20 hN => ?_)
                refine lx (op_eql rfl rfl) rfl ?_
                refine lx (op_assign rfl) rfl ?_
                refine lx_end ⟨by kernel_rfl, ?_⟩
                refine pe_then_normal ?_
                refine tr_sub hC (.cons (t := 3) rfl (.cons (t := 17) rfl .nil)) .nil rfl ?_
                refine tr_cond2 rfl (fun h17_6 => ?_) (fun h17_6 => ?_)
                ·(try simp only [cq1, cq2, cq3, cq4, cq5, cq6, cq7, cq8, cq9, cq10, cq11, cq12, cq13] at h17_6)
                 refine tr_skip ?_
                 refine pe_then_normal ?_
                 refine tr_sub hC (.cons (t := 3) rfl (.cons (t := 17) rfl .nil)) .nil rfl ?_
                 refine tr_cond_t rfl ?_
                 refine tr_seq ?_
                 refine tr_region (fun N27 hN => ?_)
                 refine lx (op_assign rfl) rfl ?_
                 refine lx_end ⟨by kernel_rfl, ?_⟩
                 refine pe_then_normal ?_
                 refine tr_sub hC (.cons (t := 2) rfl .nil) .nil rfl ?_
                 refine tr_ret ?_
                 refine pe_block_ret ?_
                 refine pe_then_ret ?_
                 refine pe_ret1 rfl hO rfl (.tmp rfl .nil) ?_
                 rw [rolesF, if_neg h4, if_neg h6, if_neg h8, if_neg h8_2, if_neg h8_3, if_neg h8_4, if_neg h8_5, if_neg h8_6, if_neg h8_7, if_neg h8_8, if_neg h17, if_neg h17_2, if_neg h17_3, if_neg h17_4, if_neg h17_5, if_pos h17_6]
                 exact ent_auto
                ·(try simp only [cq1, cq2, cq3, cq4, cq5, cq6, cq7, cq8, cq9, cq10, cq11, cq12, cq13] at h17_6)
                 refine tr_seq ?_
                 refine tr_region (fun N21 hN => ?_)
                 refine lx (op_eql rfl rfl) rfl ?_
                 refine lx (op_assign rfl) rfl ?_
                 refine lx_end ⟨by kernel_rfl, ?_⟩
                 refine pe_then_normal ?_
                 refine tr_sub hC (.cons (t := 3) rfl (.cons (t := 17) rfl .nil)) .nil rfl ?_
                 refine tr_cond2 rfl (fun h17_7 => ?_) (fun h17_7 => ?_)
                 ·(try simp only [cq1, cq2, cq3, cq4, cq5, cq6, cq7, cq8, cq9, cq10, cq11, cq12, cq13] at h17_7)
                  refine tr_skip ?_
                  refine pe_then_normal ?_
                  refine tr_sub hC (.cons (t := 3) rfl (.cons (t := 17) rfl .nil)) .nil rfl ?_
                  refine tr_cond_t rfl ?_
                  refine tr_seq ?_
                  refine tr_region (fun N27 hN => ?_)
                  refine lx (op_assign rfl) rfl ?_
                  refine lx_end ⟨by kernel_rfl, ?_⟩
                  refine pe_then_normal ?_
                  refine tr_sub hC (.cons (t := 2) rfl .nil) .nil rfl ?_
                  refine tr_ret ?_
                  refine pe_block_ret ?_
                  refine pe_then_ret ?_
                  refine pe_ret1 rfl hO rfl (.tmp rfl .nil) ?_
                  rw [rolesF, if_neg h4, if_neg h6, if_neg h8, if_neg h8_2, if_neg h8_3, if_neg h8_4, if_neg h8_5, if_neg h8_6, if_neg h8_7, if_neg h8_8, if_neg h17, if_neg h17_2, if_neg h17_3, if_neg h17_4, if_neg h17_5, if_neg h17_6, if_pos h17_7]
                  exact ent_auto
                 ·(try simp only [cq1, cq2, cq3, cq4, cq5, cq6, cq7, cq8, cq9, cq10, cq11, cq12, cq13] at h17_7)
                  refine tr_seq ?_
                  refine tr_region (fun N22 hN => ?_)
                  refine lx (op_eql rfl rfl) rfl ?_
                  refine lx (op_assign rfl) rfl ?_
                  refine lx_end ⟨by kernel_rfl, ?_⟩
                  refine pe_then_normal ?_
                  refine tr_sub hC (.cons (t := 3) rfl (.cons (t := 17) rfl .nil)) .nil rfl ?_
                  refine tr_cond2 rfl (fun h17_8 => ?_) (fun h17_8 => ?_)
                  ·(try simp only [cq1, cq2, cq3, cq4, cq5, cq6, cq7, cq8, cq9, cq10, cq11, cq12, cq13] at h17_8)
                   refine tr_skip ?_
                   refine pe_then_normal ?_
                   refine tr_sub hC (.cons (t := 3) rfl (.cons (t := 17) rfl .nil)) .nil rfl ?_
                   refine tr_cond_t rfl ?_
                   refine tr_seq ?_
                   refine tr_region (fun N27 hN => ?_)
                   refine lx (op_assign rfl) rfl ?_
                   refine lx_end ⟨by kernel_rfl, ?_⟩
                   refine pe_then_normal ?_
                   refine tr_sub hC (.cons (t := 2) rfl .nil) .nil rfl ?_
                   refine tr_ret ?_
                   refine pe_block_ret ?_
                   refine pe_then_ret ?_
                   refine pe_ret1 rfl hO rfl (.tmp rfl .nil) ?_
                   rw [rolesF, if_neg h4, if_neg h6, if_neg h8, if_neg h8_2, if_neg h8_3, if_neg h8_4, if_neg h8_5, if_neg h8_6, if_neg h8_7, if_neg h8_8, if_neg h17, if_neg h17_2, if_neg h17_3, if_neg h17_4, if_neg h17_5, if_neg h17_6, if_neg h17_7, if_pos h17_8]
                   exact ent_auto
                  ·(try simp only [cq1, cq2, cq3, cq4, cq5, cq6, cq7, cq8, cq9, cq10, cq11, cq12, cq13] at h17_8)
                   refine tr_seq ?_
                   refine tr_region (fun N23 hN => ?_)
                   refine lx (op_eql rfl rfl) rfl ?_
                   refine lx (op_assign rfl) rfl ?_
                   refine lx_end ⟨by kernel_rfl, ?_⟩
                   refine pe_then_normal ?_
                   refine tr_sub hC (.cons (t := 3) rfl (.cons (t := 17) rfl .nil)) .nil rfl ?_
                   refine tr_cond2 rfl (fun h17_9 => ?_) (fun h17_9 => ?_)
                   ·(try simp only [cq1, cq2, cq3, cq4, cq5, cq6, cq7, cq8, cq9, cq10, cq11, cq12, cq13] at h17_9)
                    refine tr_skip ?_
                    refine pe_then_normal ?_
                    refine tr_sub hC (.cons (t := 3) rfl (.cons (t := 17) rfl .nil)) .nil rfl ?_
                    refine tr_cond_t rfl ?_
                    refine tr_seq ?_
                    refine tr_region (fun N27 hN => ?_)
                    refine lx (op_assign rfl) rfl ?_
                    refine lx_end ⟨by kernel_rfl, ?_⟩
                    refine pe_then_normal ?_
                    refine tr_sub hC (.cons (t := 2) rfl .nil) .nil rfl ?_
                    refine tr_ret ?_
                    refine pe_block_ret ?_
                    refine pe_then_ret ?_
                    refine pe_ret1 rfl hO rfl (.tmp rfl .nil) ?_
                    rw [rolesF, if_neg h4, if_neg h6, if_neg h8, if_neg h8_2, if_neg h8_3, if_neg h8_4, if_neg h8_5, if_neg h8_6, if_neg h8_7, if_neg h8_8, if_neg h17, if_neg h17_2, if_neg h17_3, if_neg h17_4, if_neg h17_5, if_neg h17_6, if_neg h17_7, if_neg h17_8, if_pos h17_9]
                    exact ent_auto
                   ·(try simp only [cq1, cq2, cq3, cq4, cq5, cq6, cq7, cq8, cq9, cq10, cq11, cq12, cq13] at h17_9)
                    refine tr_seq ?_
                    refine tr_region (fun N24 hN => ?_)
                    refine lx (op_eql rfl rfl) rfl ?_
                    refine lx (op_assign rfl) rfl ?_
                    refine lx_end ⟨by kernel_rfl, ?_⟩
                    refine pe_then_normal ?_
                    refine tr_sub hC (.cons (t := 3) rfl (.cons (t := 17) rfl .nil)) .nil rfl ?_
                    refine tr_cond2 rfl (fun h17_10 => ?_) (fun h17_10 => ?_)
                    ·(try simp only [cq1, cq2, cq3, cq4, cq5, cq6, cq7, cq8, cq9, cq10, cq11, cq12, cq13] at h17_10)
                     refine tr_skip ?_
                     refine pe_then_normal ?_
                     refine tr_sub hC (.cons (t := 3) rfl (.cons (t := 17) rfl .nil)) .nil rfl ?_
                     refine tr_cond_t rfl ?_
                     refine tr_seq ?_
                     refine tr_region (fun N27 hN => ?_)
                     refine lx (op_assign rfl) rfl ?_
                     refine lx_end ⟨by kernel_rfl, ?_⟩
                     refine pe_then_normal ?_
                     refine tr_sub hC (.cons (t := 2) rfl .nil) .nil rfl ?_
                     refine tr_ret ?_
                     refine pe_block_ret ?_
                     refine pe_then_ret ?_
                     refine pe_ret1 rfl hO rfl (.tmp rfl .nil) ?_
                     rw [rolesF, if_neg h4, if_neg h6, if_neg h8, if_neg h8_2, if_neg h8_3, if_neg h8_4, if_neg h8_5, if_neg h8_6, if_neg h8_7, if_neg h8_8, if_neg h17, if_neg h17_2, if_neg h17_3, if_neg h17_4, if_neg h17_5, if_neg h17_6, if_neg h17_7, if_neg h17_8, if_neg h17_9, if_pos h17_10]
                     exact ent_auto
                    ·(try simp only [cq1, cq2, cq3, cq4, cq5, cq6, cq7, cq8, cq9, cq10, cq11, cq12, cq13] at h17_10)
                     refine tr_seq ?_
                     refine tr_region (fun N25 hN => ?_)
                     refine lx (op_eql rfl rfl) rfl ?_
                     refine lx (op_assign rfl) rfl ?_
                     refine lx_end ⟨by kernel_rfl, ?_⟩
                     refine pe_then_normal ?_
                     refine tr_sub hC (.cons (t := 3) rfl (.cons (t := 17) rfl .nil)) .nil rfl ?_
                     refine tr_cond2 rfl (fun h17_11 => ?_) (fun h17_11 => ?_)
                     ·(try simp only [cq1, cq2, cq3, cq4, cq5, cq6, cq7, cq8, cq9, cq10, cq11, cq12, cq13] at h17_11)
                      refine tr_skip ?_
                      refine pe_then_normal ?_
                      refine tr_sub hC (.cons (t := 3) rfl (.cons (t := 17) rfl .nil)) .nil rfl ?_
                      refine tr_cond_t rfl ?_
                      refine tr_seq ?_
                      refine tr_region (fun N27 hN => ?_)
                      refine lx (op_assign rfl) rfl ?_
                      refine lx_end ⟨by kernel_rfl, ?_⟩
                      refine pe_then_normal ?_
                      refine tr_sub hC (.cons (t := 2) rfl .nil) .nil rfl ?_
                      refine tr_ret ?_
                      refine pe_block_ret ?_
                      refine pe_then_ret ?_
                      refine pe_ret1 rfl hO rfl (.tmp rfl .nil) ?_
                      rw [rolesF, if_neg h4, if_neg h6, if_neg h8, if_neg h8_2, if_neg h8_3, if_neg h8_4, if_neg h8_5, if_neg h8_6, if_neg h8_7, if_neg h8_8, if_neg h17, if_neg h17_2, if_neg h17_3, if_neg h17_4, if_neg h17_5, if_neg h17_6, if_neg h17_7, if_neg h17_8, if_neg h17_9, if_neg h17_10, if_pos h17_11]
                      exact ent_auto
                     ·(try simp only [cq1, cq2, cq3, cq4, cq5, cq6, cq7, cq8, cq9, cq10, cq11, cq12, cq13] at h17_11)
                      refine tr_region (fun N26 hN => ?_)
                      refine lx (op_eql rfl rfl) rfl ?_
                      refine lx (op_assign rfl) rfl ?_
                      refine lx_end ⟨by kernel_rfl, ?_⟩
                      refine pe_then_normal ?_
                      refine tr_sub hC (.cons (t := 3) rfl (.cons (t := 17) rfl .nil)) .nil rfl ?_
                      refine tr_cond rfl (fun h17_12 => ?_) (fun h17_12 => ?_)
                      ·(try simp only [cq1, cq2, cq3, cq4, cq5, cq6, cq7, cq8, cq9, cq10, cq11, cq12, cq13] at h17_12)
                       refine tr_seq ?_
                       refine tr_region (fun N27 hN => ?_)
                       refine lx (op_assign rfl) rfl ?_
                       refine lx_end ⟨by kernel_rfl, ?_⟩
                       refine pe_then_normal ?_
                       refine tr_sub hC (.cons (t := 2) rfl .nil) .nil rfl ?_
                       refine tr_ret ?_
                       refine pe_block_ret ?_
                       refine pe_then_ret ?_
                       refine pe_ret1 rfl hO rfl (.tmp rfl .nil) ?_
                       rw [rolesF, if_neg h4, if_neg h6, if_neg h8, if_neg h8_2, if_neg h8_3, if_neg h8_4, if_neg h8_5, if_neg h8_6, if_neg h8_7, if_neg h8_8, if_neg h17, if_neg h17_2, if_neg h17_3, if_neg h17_4, if_neg h17_5, if_neg h17_6, if_neg h17_7, if_neg h17_8, if_neg h17_9, if_neg h17_10, if_neg h17_11, if_pos h17_12]
                       exact ent_auto
                      ·(try simp only [cq1, cq2, cq3, cq4, cq5, cq6, cq7, cq8, cq9, cq10, cq11, cq12, cq13] at h17_12)
                       refine tr_seq ?_
                       refine tr_region (fun N28 hN => ?_)
                       refine lx (op_eql rfl rfl) rfl ?_
                       refine lx (op_assign rfl) rfl ?_
                       refine lx_end ⟨by kernel_rfl, ?_⟩
                       refine pe_then_normal ?_
                       refine tr_sub hC (.cons (t := 3) rfl (.cons (t := 30) rfl .nil)) .nil rfl ?_
                       refine tr_cond rfl (fun h30 => ?_) (fun h30 => ?_)
                       ·(try simp only [cq1, cq2, cq3, cq4, cq5, cq6, cq7, cq8, cq9, cq10, cq11, cq12, cq13] at h30)
                        refine tr_seq ?_
                        refine tr_region (fun N29 hN => ?_)
                        refine lx (op_assign rfl) rfl ?_
                        refine lx_end ⟨by kernel_rfl, ?_⟩
                        refine pe_then_normal ?_
                        refine tr_sub hC (.cons (t := 2) rfl .nil) .nil rfl ?_
                        refine tr_ret ?_
                        refine pe_block_ret ?_
                        refine pe_then_ret ?_
                        refine pe_ret1 rfl hO rfl (.tmp rfl .nil) ?_
                        rw [rolesF, if_neg h4, if_neg h6, if_neg h8, if_neg h8_2, if_neg h8_3, if_neg h8_4, if_neg h8_5, if_neg h8_6, if_neg h8_7, if_neg h8_8, if_neg h17, if_neg h17_2, if_neg h17_3, if_neg h17_4, if_neg h17_5, if_neg h17_6, if_neg h17_7, if_neg h17_8, if_neg h17_9, if_neg h17_10, if_neg h17_11, if_neg h17_12, if_pos h30]
                        exact ent_auto
                       ·(try simp only [cq1, cq2, cq3, cq4, cq5, cq6, cq7, cq8, cq9, cq10, cq11, cq12, cq13] at h30)
                        refine tr_seq ?_
                        refine tr_seq ?_
                        refine tr_region (fun N30 hN => ?_)
                        refine lx (op_eql rfl rfl) rfl ?_
                        refine lx (op_assign rfl) rfl ?_
                        refine lx_end ⟨by kernel_rfl, ?_⟩
                        refine pe_then_normal ?_
                        refine tr_sub hC (.cons (t := 3) rfl (.cons (t := 32) rfl .nil)) .nil rfl ?_
                        refine tr_cond2 rfl (fun h32 => ?_) (fun h32 => ?_)
                        ·(try simp only [cq1, cq2, cq3, cq4, cq5, cq6, cq7, cq8, cq9, cq10, cq11, cq12, cq13] at h32)
                         refine tr_skip ?_
                         refine pe_then_normal ?_
                         refine tr_sub hC (.cons (t := 3) rfl (.cons (t := 32) rfl .nil)) .nil rfl ?_
                         refine tr_cond_t rfl ?_
                         refine tr_seq ?_
                         refine tr_region (fun N32 hN => ?_)
                         refine lx (op_assign rfl) rfl ?_
                         refine lx_end ⟨by kernel_rfl, ?_⟩
                         refine pe_then_normal ?_
                         refine tr_sub hC (.cons (t := 2) rfl .nil) .nil rfl ?_
                         refine tr_ret ?_
                         refine pe_block_ret ?_
                         refine pe_then_ret ?_
                         refine pe_ret1 rfl hO rfl (.tmp rfl .nil) ?_
                         rw [rolesF, if_neg h4, if_neg h6, if_neg h8, if_neg h8_2, if_neg h8_3, if_neg h8_4, if_neg h8_5, if_neg h8_6, if_neg h8_7, if_neg h8_8, if_neg h17, if_neg h17_2, if_neg h17_3, if_neg h17_4, if_neg h17_5, if_neg h17_6, if_neg h17_7, if_neg h17_8, if_neg h17_9, if_neg h17_10, if_neg h17_11, if_neg h17_12, if_neg h30, if_pos h32]
                         exact ent_auto
                        ·(try simp only [cq1, cq2, cq3, cq4, cq5, cq6, cq7, cq8, cq9, cq10, cq11, cq12, cq13] at h32)
                         refine tr_region (fun N31 hN => ?_)
                         refine lx (op_eql rfl rfl) rfl ?_
                         refine lx (op_assign rfl) rfl ?_
                         refine lx_end ⟨by kernel_rfl, ?_⟩
                         refine pe_then_normal ?_
                         refine tr_sub hC (.cons (t := 3) rfl (.cons (t := 32) rfl .nil)) .nil rfl ?_
                         refine tr_cond rfl (fun h32_2 => ?_) (fun h32_2 => ?_)
                         ·(try simp only [cq1, cq2, cq3, cq4, cq5, cq6, cq7, cq8, cq9, cq10, cq11, cq12, cq13] at h32_2)
                          refine tr_seq ?_
                          refine tr_region (fun N32 hN => ?_)
                          refine lx (op_assign rfl) rfl ?_
                          refine lx_end ⟨by kernel_rfl, ?_⟩
                          refine pe_then_normal ?_
                          refine tr_sub hC (.cons (t := 2) rfl .nil) .nil rfl ?_
                          refine tr_ret ?_
                          refine pe_block_ret ?_
                          refine pe_then_ret ?_
                          refine pe_ret1 rfl hO rfl (.tmp rfl .nil) ?_
                          rw [rolesF, if_neg h4, if_neg h6, if_neg h8, if_neg h8_2, if_neg h8_3, if_neg h8_4, if_neg h8_5, if_neg h8_6, if_neg h8_7, if_neg h8_8, if_neg h17, if_neg h17_2, if_neg h17_3, if_neg h17_4, if_neg h17_5, if_neg h17_6, if_neg h17_7, if_neg h17_8, if_neg h17_9, if_neg h17_10, if_neg h17_11, if_neg h17_12, if_neg h30, if_neg h32, if_pos h32_2]
                          exact ent_auto
                         ·(try simp only [cq1, cq2, cq3, cq4, cq5, cq6, cq7, cq8, cq9, cq10, cq11, cq12, cq13] at h32_2)
                          refine tr_seq ?_
                          refine tr_region (fun N33 hN => ?_)
                          refine lx (op_eql rfl rfl) rfl ?_
                          refine lx (op_assign rfl) rfl ?_
                          refine lx_end ⟨by kernel_rfl, ?_⟩
                          refine pe_then_normal ?_
                          refine tr_sub hC (.cons (t := 3) rfl (.cons (t := 35) rfl .nil)) .nil rfl ?_
                          refine tr_cond rfl (fun h35 => ?_) (fun h35 => ?_)
                          ·(try simp only [cq1, cq2, cq3, cq4, cq5, cq6, cq7, cq8, cq9, cq10, cq11, cq12, cq13] at h35)
                           refine tr_seq ?_
                           refine tr_region (fun N34 hN => ?_)
                           refine lx (op_assign rfl) rfl ?_
                           refine lx_end ⟨by kernel_rfl, ?_⟩
                           refine pe_then_normal ?_
                           refine tr_sub hC (.cons (t := 2) rfl .nil) .nil rfl ?_
                           refine tr_ret ?_
                           refine pe_block_ret ?_
                           refine pe_then_ret ?_
                           refine pe_ret1 rfl hO rfl (.tmp rfl .nil) ?_
                           rw [rolesF, if_neg h4, if_neg h6, if_neg h8, if_neg h8_2, if_neg h8_3, if_neg h8_4, if_neg h8_5, if_neg h8_6, if_neg h8_7, if_neg h8_8, if_neg h17, if_neg h17_2, if_neg h17_3, if_neg h17_4, if_neg h17_5, if_neg h17_6, if_neg h17_7, if_neg h17_8, if_neg h17_9, if_neg h17_10, if_neg h17_11, if_neg h17_12, if_neg h30, if_neg h32, if_neg h32_2, if_pos h35]
                           exact ent_auto
                          ·(try simp only [cq1, cq2, cq3, cq4, cq5, cq6, cq7, cq8, cq9, cq10, cq11, cq12, cq13] at h35)
                           refine tr_seq ?_
                           refine tr_region (fun N35 hN => ?_)
                           refine lx (op_eql rfl rfl) rfl ?_
                           refine lx (op_assign rfl) rfl ?_
                           refine lx_end ⟨by kernel_rfl, ?_⟩
                           refine pe_then_normal ?_
                           refine tr_sub hC (.cons (t := 3) rfl (.cons (t := 37) rfl .nil)) .nil rfl ?_
                           refine tr_cond rfl (fun h37 => ?_) (fun h37 => ?_)
                           ·(try simp only [cq1, cq2, cq3, cq4, cq5, cq6, cq7, cq8, cq9, cq10, cq11, cq12, cq13] at h37)
                            refine tr_seq ?_
                            refine tr_region (fun N36 hN => ?_)
                            refine lx (op_assign rfl) rfl ?_
                            refine lx_end ⟨by kernel_rfl, ?_⟩
                            refine pe_then_normal ?_
                            refine tr_sub hC (.cons (t := 2) rfl .nil) .nil rfl ?_
                            refine tr_ret ?_
                            refine pe_block_ret ?_
                            refine pe_then_ret ?_
                            refine pe_ret1 rfl hO rfl (.tmp rfl .nil) ?_
                            rw [rolesF, if_neg h4, if_neg h6, if_neg h8, if_neg h8_2, if_neg h8_3, if_neg h8_4, if_neg h8_5, if_neg h8_6, if_neg h8_7, if_neg h8_8, if_neg h17, if_neg h17_2, if_neg h17_3, if_neg h17_4, if_neg h17_5, if_neg h17_6, if_neg h17_7, if_neg h17_8, if_neg h17_9, if_neg h17_10, if_neg h17_11, if_neg h17_12, if_neg h30, if_neg h32, if_neg h32_2, if_neg h35, if_pos h37]
                            exact ent_auto
                           ·(try simp only [cq1, cq2, cq3, cq4, cq5, cq6, cq7, cq8, cq9, cq10, cq11, cq12, cq13] at h37)
                            refine tr_seq ?_
                            refine tr_region (fun N37 hN => ?_)
                            refine lx (op_eql rfl rfl) rfl ?_
                            refine lx (op_assign rfl) rfl ?_
                            refine lx_end ⟨by kernel_rfl, ?_⟩
                            refine pe_then_normal ?_
                            refine tr_sub hC (.cons (t := 3) rfl (.cons (t := 39) rfl .nil)) .nil rfl ?_
                            refine tr_cond rfl (fun h39 => ?_) (fun h39 => ?_)
                            ·(try simp only [cq1, cq2, cq3, cq4, cq5, cq6, cq7, cq8, cq9, cq10, cq11, cq12, cq13] at h39)
                             refine tr_seq ?_
                             refine tr_region (fun N38 hN => ?_)
                             refine lx (op_assign rfl) rfl ?_
                             refine lx_end ⟨by kernel_rfl, ?_⟩
                             refine pe_then_normal ?_
                             refine tr_sub hC (.cons (t := 2) rfl .nil) .nil rfl ?_
                             refine tr_ret ?_
                             refine pe_block_ret ?_
                             refine pe_then_ret ?_
                             refine pe_ret1 rfl hO rfl (.tmp rfl .nil) ?_
                             rw [rolesF, if_neg h4, if_neg h6, if_neg h8, if_neg h8_2, if_neg h8_3, if_neg h8_4, if_neg h8_5, if_neg h8_6, if_neg h8_7, if_neg h8_8, if_neg h17, if_neg h17_2, if_neg h17_3, if_neg h17_4, if_neg h17_5, if_neg h17_6, if_neg h17_7, if_neg h17_8, if_neg h17_9, if_neg h17_10, if_neg h17_11, if_neg h17_12, if_neg h30, if_neg h32, if_neg h32_2, if_neg h35, if_neg h37, if_pos h39]
                             exact ent_auto
                            ·(try simp only [cq1, cq2, cq3, cq4, cq5, cq6, cq7, cq8, cq9, cq10, cq11, cq12, cq13] at h39)
                             refine tr_seq ?_
                             refine tr_region (fun N39 hN => ?_)
                             refine lx (op_eql rfl rfl) rfl ?_
                             refine lx (op_assign rfl) rfl ?_
                             refine lx_end ⟨by kernel_rfl, ?_⟩
                             refine pe_then_normal ?_
                             refine tr_sub hC (.cons (t := 3) rfl (.cons (t := 41) rfl .nil)) .nil rfl ?_
                             refine tr_cond rfl (fun h41 => ?_) (fun h41 => ?_)
                             ·(try simp only [cq1, cq2, cq3, cq4, cq5, cq6, cq7, cq8, cq9, cq10, cq11, cq12, cq13] at h41)
                              refine tr_seq ?_
                              refine tr_region (fun N40 hN => ?_)
                              refine lx (op_assign rfl) rfl ?_
                              refine lx_end ⟨by kernel_rfl, ?_⟩
                              refine pe_then_normal ?_
                              refine tr_sub hC (.cons (t := 2) rfl .nil) .nil rfl ?_
                              refine tr_ret ?_
                              refine pe_block_ret ?_
                              refine pe_then_ret ?_
                              refine pe_ret1 rfl hO rfl (.tmp rfl .nil) ?_
                              rw [rolesF, if_neg h4, if_neg h6, if_neg h8, if_neg h8_2, if_neg h8_3, if_neg h8_4, if_neg h8_5, if_neg h8_6, if_neg h8_7, if_neg h8_8, if_neg h17, if_neg h17_2, if_neg h17_3, if_neg h17_4, if_neg h17_5, if_neg h17_6, if_neg h17_7, if_neg h17_8, if_neg h17_9, if_neg h17_10, if_neg h17_11, if_neg h17_12, if_neg h30, if_neg h32, if_neg h32_2, if_neg h35, if_neg h37, if_neg h39, if_pos h41]
                              exact ent_auto
                             ·(try simp only [cq1, cq2, cq3, cq4, cq5, cq6, cq7, cq8, cq9, cq10, cq11, cq12, cq13] at h41)
                              refine tr_seq ?_
                              refine tr_region (fun N41 hN => ?_)
                              refine lx (op_eql rfl rfl) rfl ?_
                              refine lx (op_assign rfl) rfl ?_
                              refine lx_end ⟨by kernel_rfl, ?_⟩
                              refine pe_then_normal ?_
                              refine tr_sub hC (.cons (t := 3) rfl (.cons (t := 43) rfl .nil)) .nil rfl ?_
                              refine tr_cond rfl (fun h43 => ?_) (fun h43 => ?_)
                              ·(try simp only [cq1, cq2, cq3, cq4, cq5, cq6, cq7, cq8, cq9, cq10, cq11, cq12, cq13] at h43)
                               refine tr_seq ?_
                               refine tr_region (fun N42 hN => ?_)
                               refine lx (op_assign rfl) rfl ?_
                               refine lx_end ⟨by kernel_rfl, ?_⟩
                               refine pe_then_normal ?_
                               refine tr_sub hC (.cons (t := 2) rfl .nil) .nil rfl ?_
                               refine tr_ret ?_
                               refine pe_block_ret ?_
                               refine pe_then_ret ?_
                               refine pe_ret1 rfl hO rfl (.tmp rfl .nil) ?_
                               rw [rolesF, if_neg h4, if_neg h6, if_neg h8, if_neg h8_2, if_neg h8_3, if_neg h8_4, if_neg h8_5, if_neg h8_6, if_neg h8_7, if_neg h8_8, if_neg h17, if_neg h17_2, if_neg h17_3, if_neg h17_4, if_neg h17_5, if_neg h17_6, if_neg h17_7, if_neg h17_8, if_neg h17_9, if_neg h17_10, if_neg h17_11, if_neg h17_12, if_neg h30, if_neg h32, if_neg h32_2, if_neg h35, if_neg h37, if_neg h39, if_neg h41, if_pos h43]
                               exact ent_auto
                              ·(try simp only [cq1, cq2, cq3, cq4, cq5, cq6, cq7, cq8, cq9, cq10, cq11, cq12, cq13] at h43)
                               refine tr_seq ?_
                               refine tr_region (fun N43 hN => ?_)
                               refine lx (op_eql rfl rfl) rfl ?_
                               refine lx (op_assign rfl) rfl ?_
                               refine lx_end ⟨by kernel_rfl, ?_⟩
                               refine pe_then_normal ?_
                               refine tr_sub hC (.cons (t := 3) rfl (.cons (t := 45) rfl .nil)) .nil rfl ?_
                               refine tr_cond rfl (fun h45 => ?_) (fun h45 => ?_)
                               ·(try simp only [cq1, cq2, cq3, cq4, cq5, cq6, cq7, cq8, cq9, cq10, cq11, cq12, cq13] at h45)
                                refine tr_seq ?_
                                refine tr_region (fun N44 hN => ?_)
                                refine lx (op_assign rfl) rfl ?_
                                refine lx_end ⟨by kernel_rfl, ?_⟩
                                refine pe_then_normal ?_
                                refine tr_sub hC (.cons (t := 2) rfl .nil) .nil rfl ?_
                                refine tr_ret ?_
                                refine pe_block_ret ?_
                                refine pe_then_ret ?_
                                refine pe_ret1 rfl hO rfl (.tmp rfl .nil) ?_
                                rw [rolesF, if_neg h4, if_neg h6, if_neg h8, if_neg h8_2, if_neg h8_3, if_neg h8_4, if_neg h8_5, if_neg h8_6, if_neg h8_7, if_neg h8_8, if_neg h17, if_neg h17_2, if_neg h17_3, if_neg h17_4, if_neg h17_5, if_neg h17_6, if_neg h17_7, if_neg h17_8, if_neg h17_9, if_neg h17_10, if_neg h17_11, if_neg h17_12, if_neg h30, if_neg h32, if_neg h32_2, if_neg h35, if_neg h37, if_neg h39, if_neg h41, if_neg h43, if_pos h45]
                                exact ent_auto
                               ·(try simp only [cq1, cq2, cq3, cq4, cq5, cq6, cq7, cq8, cq9, cq10, cq11, cq12, cq13] at h45)
                                refine tr_seq ?_
                                refine tr_seq ?_
                                refine tr_region (fun N45 hN => ?_)
                                refine lx (op_eql rfl rfl) rfl ?_
                                refine lx (op_assign rfl) rfl ?_
                                refine lx_end ⟨by kernel_rfl, ?_⟩
                                refine pe_then_normal ?_
                                refine tr_sub hC (.cons (t := 3) rfl (.cons (t := 47) rfl .nil)) .nil rfl ?_
                                refine tr_cond2 rfl (fun h47 => ?_) (fun h47 => ?_)
                                ·(try simp only [cq1, cq2, cq3, cq4, cq5, cq6, cq7, cq8, cq9, cq10, cq11, cq12, cq13] at h47)
                                 refine tr_skip ?_
                                 refine pe_then_normal ?_
                                 refine tr_sub hC (.cons (t := 3) rfl (.cons (t := 47) rfl .nil)) .nil rfl ?_
                                 refine tr_cond_t rfl ?_
                                 refine tr_seq ?_
                                 refine tr_region (fun N47 hN => ?_)
                                 refine lx (op_assign rfl) rfl ?_
                                 refine lx_end ⟨by kernel_rfl, ?_⟩
                                 refine pe_then_normal ?_
                                 refine tr_sub hC (.cons (t := 2) rfl .nil) .nil rfl ?_
                                 refine tr_ret ?_
                                 refine pe_block_ret ?_
                                 refine pe_then_ret ?_
                                 refine pe_ret1 rfl hO rfl (.tmp rfl .nil) ?_
                                 rw [rolesF, if_neg h4, if_neg h6, if_neg h8, if_neg h8_2, if_neg h8_3, if_neg h8_4, if_neg h8_5, if_neg h8_6, if_neg h8_7, if_neg h8_8, if_neg h17, if_neg h17_2, if_neg h17_3, if_neg h17_4, if_neg h17_5, if_neg h17_6, if_neg h17_7, if_neg h17_8, if_neg h17_9, if_neg h17_10, if_neg h17_11, if_neg h17_12, if_neg h30, if_neg h32, if_neg h32_2, if_neg h35, if_neg h37, if_neg h39, if_neg h41, if_neg h43, if_neg h45, if_pos h47]
                                 exact ent_auto
                                ·(try simp only [cq1, cq2, cq3, cq4, cq5, cq6, cq7, cq8, cq9, cq10, cq11, cq12, cq13] at h47)
                                 refine tr_region (fun N46 hN => ?_)
                                 refine lx (op_eql rfl rfl) rfl ?_
                                 refine lx (op_assign rfl) rfl ?_
                                 refine lx_end ⟨by kernel_rfl, ?_⟩
                                 refine pe_then_normal ?_
                                 refine tr_sub hC (.cons (t := 3) rfl (.cons (t := 47) rfl .nil)) .nil rfl ?_
                                 refine tr_cond rfl (fun h47_2 => ?_) (fun h47_2 => ?_)
                                 ·(try simp only [cq1, cq2, cq3, cq4, cq5, cq6, cq7, cq8, cq9, cq10, cq11, cq12, cq13] at h47_2)
                                  refine tr_seq ?_
                                  refine tr_region (fun N47 hN => ?_)
                                  refine lx (op_assign rfl) rfl ?_
                                  refine lx_end ⟨by kernel_rfl, ?_⟩
                                  refine pe_then_normal ?_
                                  refine tr_sub hC (.cons (t := 2) rfl .nil) .nil rfl ?_
                                  refine tr_ret ?_
                                  refine pe_block_ret ?_
                                  refine pe_then_ret ?_
                                  refine pe_ret1 rfl hO rfl (.tmp rfl .nil) ?_
                                  rw [rolesF, if_neg h4, if_neg h6, if_neg h8, if_neg h8_2, if_neg h8_3, if_neg h8_4, if_neg h8_5, if_neg h8_6, if_neg h8_7, if_neg h8_8, if_neg h17, if_neg h17_2, if_neg h17_3, if_neg h17_4, if_neg h17_5, if_neg h17_6, if_neg h17_7, if_neg h17_8, if_neg h17_9, if_neg h17_10, if_neg h17_11, if_neg h17_12, if_neg h30, if_neg h32, if_neg h32_2, if_neg h35, if_neg h37, if_neg h39, if_neg h41, if_neg h43, if_neg h45, if_neg h47, if_pos h47_2]
                                  exact ent_auto
                                 ·(try simp only [cq1, cq2, cq3, cq4, cq5, cq6, cq7, cq8, cq9, cq10, cq11, cq12, cq13] at h47_2)
                                  refine tr_seq ?_
                                  refine tr_region (fun N48 hN => ?_)
                                  refine lx (op_eql rfl rfl) rfl ?_
                                  refine lx (op_assign rfl) rfl ?_
                                  refine lx_end ⟨by kernel_rfl, ?_⟩
                                  refine pe_then_normal ?_
                                  refine tr_sub hC (.cons (t := 3) rfl (.cons (t := 50) rfl .nil)) .nil rfl ?_
                                  refine tr_cond rfl (fun h50 => ?_) (fun h50 => ?_)
                                  ·(try simp only [cq1, cq2, cq3, cq4, cq5, cq6, cq7, cq8, cq9, cq10, cq11, cq12, cq13] at h50)
                                   refine tr_seq ?_
                                   refine tr_region (fun N49 hN => ?_)
                                   refine lx (op_assign rfl) rfl ?_
                                   refine lx_end ⟨by kernel_rfl, ?_⟩
                                   refine pe_then_normal ?_
                                   refine tr_sub hC (.cons (t := 2) rfl .nil) .nil rfl ?_
                                   refine tr_ret ?_
                                   refine pe_block_ret ?_
                                   refine pe_then_ret ?_
                                   refine pe_ret1 rfl hO rfl (.tmp rfl .nil) ?_
                                   rw [rolesF, if_neg h4, if_neg h6, if_neg h8, if_neg h8_2, if_neg h8_3, if_neg h8_4, if_neg h8_5, if_neg h8_6, if_neg h8_7, if_neg h8_8, if_neg h17, if_neg h17_2, if_neg h17_3, if_neg h17_4, if_neg h17_5, if_neg h17_6, if_neg h17_7, if_neg h17_8, if_neg h17_9, if_neg h17_10, if_neg h17_11, if_neg h17_12, if_neg h30, if_neg h32, if_neg h32_2, if_neg h35, if_neg h37, if_neg h39, if_neg h41, if_neg h43, if_neg h45, if_neg h47, if_neg h47_2, if_pos h50]
                                   exact ent_auto
                                  ·(try simp only [cq1, cq2, cq3, cq4, cq5, cq6, cq7, cq8, cq9, cq10, cq11, cq12, cq13] at h50)
                                   refine tr_seq ?_
                                   refine tr_seq ?_
                                   refine tr_region (fun N50 hN => ?_)
                                   refine lx (op_eql rfl rfl) rfl ?_
                                   refine lx (op_assign rfl) rfl ?_
                                   refine lx_end ⟨by kernel_rfl, ?_⟩
                                   refine pe_then_normal ?_
                                   refine tr_sub hC (.cons (t := 3) rfl (.cons (t := 52) rfl .nil)) .nil rfl ?_
                                   refine tr_cond2 rfl (fun h52 => ?_) (fun h52 => ?_)
                                   ·(try simp only [cq1, cq2, cq3, cq4, cq5, cq6, cq7, cq8, cq9, cq10, cq11, cq12, cq13] at h52)
                                    refine tr_skip ?_
                                    refine pe_then_normal ?_
                                    refine tr_sub hC (.cons (t := 3) rfl (.cons (t := 52) rfl .nil)) .nil rfl ?_
                                    refine tr_cond_t rfl ?_
                                    refine tr_seq ?_
                                    refine tr_region (fun N54 hN => ?_)
                                    refine lx (op_assign rfl) rfl ?_
                                    refine lx_end ⟨by kernel_rfl, ?_⟩
                                    refine pe_then_normal ?_
                                    refine tr_sub hC (.cons (t := 2) rfl .nil) .nil rfl ?_
                                    refine tr_ret ?_
                                    refine pe_block_ret ?_
                                    refine pe_then_ret ?_
                                    refine pe_ret1 rfl hO rfl (.tmp rfl .nil) ?_
                                    rw [rolesF, if_neg h4, if_neg h6, if_neg h8, if_neg h8_2, if_neg h8_3, if_neg h8_4, if_neg h8_5, if_neg h8_6, if_neg h8_7, if_neg h8_8, if_neg h17, if_neg h17_2, if_neg h17_3, if_neg h17_4, if_neg h17_5, if_neg h17_6, if_neg h17_7, if_neg h17_8, if_neg h17_9, if_neg h17_10, if_neg h17_11, if_neg h17_12, if_neg h30, if_neg h32, if_neg h32_2, if_neg h35, if_neg h37, if_neg h39, if_neg h41, if_neg h43, if_neg h45, if_neg h47, if_neg h47_2, if_neg h50, if_pos h52]
                                    exact ent_auto
                                   ·(try simp only [cq1, cq2, cq3, cq4, cq5, cq6, cq7, cq8, cq9, cq10, cq11, cq12, cq13] at h52)
                                    refine tr_seq ?_
                                    refine tr_region (fun N51 hN => ?_)
                                    refine lx (op_eql rfl rfl) rfl ?_
                                    refine lx (op_assign rfl) rfl ?_
                                    refine lx_end ⟨by kernel_rfl, ?_⟩
                                    refine pe_then_normal ?_
                                    refine tr_sub hC (.cons (t := 3) rfl (.cons (t := 52) rfl .nil)) .nil rfl ?_
                                    refine tr_cond2 rfl (fun h52_2 => ?_) (fun h52_2 => ?_)
                                    ·(try simp only [cq1, cq2, cq3, cq4, cq5, cq6, cq7, cq8, cq9, cq10, cq11, cq12, cq13] at h52_2)
                                     refine tr_skip ?_
                                     refine pe_then_normal ?_
                                     refine tr_sub hC (.cons (t := 3) rfl (.cons (t := 52) rfl .nil)) .nil rfl ?_
                                     refine tr_cond_t rfl ?_
                                     refine tr_seq ?_
                                     refine tr_region (fun N54 hN => ?_)
                                     refine lx (op_assign rfl) rfl ?_
                                     refine lx_end ⟨by kernel_rfl, ?_⟩
                                     refine pe_then_normal ?_
                                     refine tr_sub hC (.cons (t := 2) rfl .nil) .nil rfl ?_
                                     refine tr_ret ?_
                                     refine pe_block_ret ?_
                                     refine pe_then_ret ?_
                                     refine pe_ret1 rfl hO rfl (.tmp rfl .nil) ?_
                                     rw [rolesF, if_neg h4, if_neg h6, if_neg h8, if_neg h8_2, if_neg h8_3, if_neg h8_4, if_neg h8_5, if_neg h8_6, if_neg h8_7, if_neg h8_8, if_neg h17, if_neg h17_2, if_neg h17_3, if_neg h17_4, if_neg h17_5, if_neg h17_6, if_neg h17_7, if_neg h17_8, if_neg h17_9, if_neg h17_10, if_neg h17_11, if_neg h17_12, if_neg h30, if_neg h32, if_neg h32_2, if_neg h35, if_neg h37, if_neg h39, if_neg h41, if_neg h43, if_neg h45, if_neg h47, if_neg h47_2, if_neg h50, if_neg h52, if_pos h52_2]
                                     exact ent_auto
                                    ·(try simp only [cq1, cq2, cq3, cq4, cq5, cq6, cq7, cq8, cq9, cq10, cq11, cq12, cq13] at h52_2)
                                     refine tr_seq ?_
                                     refine tr_region (fun N52 hN => ?_)
                                     refine lx (op_eql rfl rfl) rfl ?_
                                     refine lx (op_assign rfl) rfl ?_
                                     refine lx_end ⟨by kernel_rfl, ?_⟩
                                     refine pe_then_normal ?_
                                     refine tr_sub hC (.cons (t := 3) rfl (.cons (t := 52) rfl .nil)) .nil rfl ?_
                                     refine tr_cond2 rfl (fun h52_3 => ?_) (fun h52_3 => ?_)
                                     ·(try simp only [cq1, cq2, cq3, cq4, cq5, cq6, cq7, cq8, cq9, cq10, cq11, cq12, cq13] at h52_3)
                                      refine tr_skip ?_
                                      refine pe_then_normal ?_
                                      refine tr_sub hC (.cons (t := 3) rfl (.cons (t := 52) rfl .nil)) .nil rfl ?_
                                      refine tr_cond_t rfl ?_
                                      refine tr_seq ?_
                                      refine tr_region (fun N54 hN => ?_)
                                      refine lx (op_assign rfl) rfl ?_
                                      refine lx_end ⟨by kernel_rfl, ?_⟩
                                      refine pe_then_normal ?_
                                      refine tr_sub hC (.cons (t := 2) rfl .nil) .nil rfl ?_
                                      refine tr_ret ?_
                                      refine pe_block_ret ?_
                                      refine pe_then_ret ?_
                                      refine pe_ret1 rfl hO rfl (.tmp rfl .nil) ?_
                                      rw [rolesF, if_neg h4, if_neg h6, if_neg h8, if_neg h8_2, if_neg h8_3, if_neg h8_4, if_neg h8_5, if_neg h8_6, if_neg h8_7, if_neg h8_8, if_neg h17, if_neg h17_2, if_neg h17_3, if_neg h17_4, if_neg h17_5, if_neg h17_6, if_neg h17_7, if_neg h17_8, if_neg h17_9, if_neg h17_10, if_neg h17_11, if_neg h17_12, if_neg h30, if_neg h32, if_neg h32_2, if_neg h35, if_neg h37, if_neg h39, if_neg h41, if_neg h43, if_neg h45, if_neg h47, if_neg h47_2, if_neg h50, if_neg h52, if_neg h52_2, if_pos h52_3]
                                      exact ent_auto
                                     ·(try simp only [cq1, cq2, cq3, cq4, cq5, cq6, cq7, cq8, cq9, cq10, cq11, cq12, cq13] at h52_3)
                                      refine tr_region (fun N53 hN => ?_)
                                      refine lx (op_eql rfl rfl) rfl ?_
                                      refine lx (op_assign rfl) rfl ?_
                                      refine lx_end ⟨by kernel_rfl, ?_⟩
                                      refine pe_then_normal ?_
                                      refine tr_sub hC (.cons (t := 3) rfl (.cons (t := 52) rfl .nil)) .nil rfl ?_
                                      refine tr_cond rfl (fun h52_4 => ?_) (fun h52_4 => ?_)
                                      ·(try simp only [cq1, cq2, cq3, cq4, cq5, cq6, cq7, cq8, cq9, cq10, cq11, cq12, cq13] at h52_4)
                                       refine tr_seq ?_
                                       refine tr_region (fun N54 hN => ?_)
                                       refine lx (op_assign rfl) rfl ?_
                                       refine lx_end ⟨by kernel_rfl, ?_⟩
                                       refine pe_then_normal ?_
                                       refine tr_sub hC (.cons (t := 2) rfl .nil) .nil rfl ?_
                                       refine tr_ret ?_
                                       refine pe_block_ret ?_
                                       refine pe_then_ret ?_
                                       refine pe_ret1 rfl hO rfl (.tmp rfl .nil) ?_
                                       rw [rolesF, if_neg h4, if_neg h6, if_neg h8, if_neg h8_2, if_neg h8_3, if_neg h8_4, if_neg h8_5, if_neg h8_6, if_neg h8_7, if_neg h8_8, if_neg h17, if_neg h17_2, if_neg h17_3, if_neg h17_4, if_neg h17_5, if_neg h17_6, if_neg h17_7, if_neg h17_8, if_neg h17_9, if_neg h17_10, if_neg h17_11, if_neg h17_12, if_neg h30, if_neg h32, if_neg h32_2, if_neg h35, if_neg h37, if_neg h39, if_neg h41, if_neg h43, if_neg h45, if_neg h47, if_neg h47_2, if_neg h50, if_neg h52, if_neg h52_2, if_neg h52_3, if_pos h52_4]
                                       exact ent_auto
                                      ·(try simp only [cq1, cq2, cq3, cq4, cq5, cq6, cq7, cq8, cq9, cq10, cq11, cq12, cq13] at h52_4)
                                       refine tr_seq ?_
                                       refine tr_seq ?_
                                       refine tr_region (fun N55 hN => ?_)
                                       refine lx (op_eql rfl rfl) rfl ?_
                                       refine lx (op_assign rfl) rfl ?_
                                       refine lx_end ⟨by kernel_rfl, ?_⟩
                                       refine pe_then_normal ?_
                                       refine tr_sub hC (.cons (t := 3) rfl (.cons (t := 57) rfl .nil)) .nil rfl ?_
                                       refine tr_cond2 rfl (fun h57 => ?_) (fun h57 => ?_)
                                       ·(try simp only [cq1, cq2, cq3, cq4, cq5, cq6, cq7, cq8, cq9, cq10, cq11, cq12, cq13] at h57)
                                        refine tr_skip ?_
                                        refine pe_then_normal ?_
                                        refine tr_sub hC (.cons (t := 3) rfl (.cons (t := 57) rfl .nil)) .nil rfl ?_
                                        refine tr_cond_t rfl ?_
                                        refine tr_seq ?_
                                        refine tr_region (fun N66 hN => ?_)
                                        refine lx (op_assign rfl) rfl ?_
                                        refine lx_end ⟨by kernel_rfl, ?_⟩
                                        refine pe_then_normal ?_
                                        refine tr_sub hC (.cons (t := 2) rfl .nil) .nil rfl ?_
                                        refine tr_ret ?_
                                        refine pe_block_ret ?_
                                        refine pe_then_ret ?_
                                        refine pe_ret1 rfl hO rfl (.tmp rfl .nil) ?_
                                        rw [rolesF, if_neg h4, if_neg h6, if_neg h8, if_neg h8_2, if_neg h8_3, if_neg h8_4, if_neg h8_5, if_neg h8_6, if_neg h8_7, if_neg h8_8, if_neg h17, if_neg h17_2, if_neg h17_3, if_neg h17_4, if_neg h17_5, if_neg h17_6, if_neg h17_7, if_neg h17_8, if_neg h17_9, if_neg h17_10, if_neg h17_11, if_neg h17_12, if_neg h30, if_neg h32, if_neg h32_2, if_neg h35, if_neg h37, if_neg h39, if_neg h41, if_neg h43, if_neg h45, if_neg h47, if_neg h47_2, if_neg h50, if_neg h52, if_neg h52_2, if_neg h52_3, if_neg h52_4, if_pos h57]
                                        exact ent_auto
                                       ·(try simp only [cq1, cq2, cq3, cq4, cq5, cq6, cq7, cq8, cq9, cq10, cq11, cq12, cq13] at h57)
                                        refine tr_seq ?_
                                        refine tr_region (fun N56 hN => ?_)
                                        refine lx (op_eql rfl rfl) rfl ?_
                                        refine lx (op_assign rfl) rfl ?_
                                        refine lx_end ⟨by kernel_rfl, ?_⟩
                                        refine pe_then_normal ?_
                                        refine tr_sub hC (.cons (t := 3) rfl (.cons (t := 57) rfl .nil)) .nil rfl ?_
                                        refine tr_cond2 rfl (fun h57_2 => ?_) (fun h57_2 => ?_)
                                        ·(try simp only [cq1, cq2, cq3, cq4, cq5, cq6, cq7, cq8, cq9, cq10, cq11, cq12, cq13] at h57_2)
                                         refine tr_skip ?_
                                         refine pe_then_normal ?_
                                         refine tr_sub hC (.cons (t := 3) rfl (.cons (t := 57) rfl .nil)) .nil rfl ?_
                                         refine tr_cond_t rfl ?_
                                         refine tr_seq ?_
                                         refine tr_region (fun N66 hN => ?_)
                                         refine lx (op_assign rfl) rfl ?_
                                         refine lx_end ⟨by kernel_rfl, ?_⟩
                                         refine pe_then_normal ?_
                                         refine tr_sub hC (.cons (t := 2) rfl .nil) .nil rfl ?_
                                         refine tr_ret ?_
                                         refine pe_block_ret ?_
                                         refine pe_then_ret ?_
                                         refine pe_ret1 rfl hO rfl (.tmp rfl .nil) ?_
                                         rw [rolesF, if_neg h4, if_neg h6, if_neg h8, if_neg h8_2, if_neg h8_3, if_neg h8_4, if_neg h8_5, if_neg h8_6, if_neg h8_7, if_neg h8_8, if_neg h17, if_neg h17_2, if_neg h17_3, if_neg h17_4, if_neg h17_5, if_neg h17_6, if_neg h17_7, if_neg h17_8, if_neg h17_9, if_neg h17_10, if_neg h17_11, if_neg h17_12, if_neg h30, if_neg h32, if_neg h32_2, if_neg h35, if_neg h37, if_neg h39, if_neg h41, if_neg h43, if_neg h45, if_neg h47, if_neg h47_2, if_neg h50, if_neg h52, if_neg h52_2, if_neg h52_3, if_neg h52_4, if_neg h57, if_pos h57_2]
                                         exact ent_auto
                                        ·(try simp only [cq1, cq2, cq3, cq4, cq5, cq6, cq7, cq8, cq9, cq10, cq11, cq12, cq13] at h57_2)
                                         refine tr_seq ?_
                                         refine tr_region (fun N57 hN => ?_)
                                         refine lx (op_eql rfl rfl) rfl ?_
                                         refine lx (op_assign rfl) rfl ?_
                                         refine lx_end ⟨by kernel_rfl, ?_⟩
                                         refine pe_then_normal ?_
                                         refine tr_sub hC (.cons (t := 3) rfl (.cons (t := 57) rfl .nil)) .nil rfl ?_
                                         refine tr_cond2 rfl (fun h57_3 => ?_) (fun h57_3 => ?_)
                                         ·(try simp only [cq1, cq2, cq3, cq4, cq5, cq6, cq7, cq8, cq9, cq10, cq11, cq12, cq13] at h57_3)
                                          refine tr_skip ?_
                                          refine pe_then_normal ?_
                                          refine tr_sub hC (.cons (t := 3) rfl (.cons (t := 57) rfl .nil)) .nil rfl ?_
                                          refine tr_cond_t rfl ?_
                                          refine tr_seq ?_
                                          refine tr_region (fun N66 hN => ?_)
                                          refine lx (op_assign rfl) rfl ?_
                                          refine lx_end ⟨by kernel_rfl, ?_⟩
                                          refine pe_then_normal ?_
                                          refine tr_sub hC (.cons (t := 2) rfl .nil) .nil rfl ?_
                                          refine tr_ret ?_
                                          refine pe_block_ret ?_
                                          refine pe_then_ret ?_
                                          refine pe_ret1 rfl hO rfl (.tmp rfl .nil) ?_
                                          rw [rolesF, if_neg h4, if_neg h6, if_neg h8, if_neg h8_2, if_neg h8_3, if_neg h8_4, if_neg h8_5, if_neg h8_6, if_neg h8_7, if_neg h8_8, if_neg h17, if_neg h17_2, if_neg h17_3, if_neg h17_4, if_neg h17_5, if_neg h17_6, if_neg h17_7, if_neg h17_8, if_neg h17_9, if_neg h17_10, if_neg h17_11, if_neg h17_12, if_neg h30, if_neg h32, if_neg h32_2, if_neg h35, if_neg h37, if_neg h39, if_neg h41, if_neg h43, if_neg h45, if_neg h47, if_neg h47_2, if_neg h50, if_neg h52, if_neg h52_2, if_neg h52_3, if_neg h52_4, if_neg h57, if_neg h57_2, if_pos h57_3]
                                          exact ent_auto
                                         ·(try simp only [cq1, cq2, cq3, cq4, cq5, cq6, cq7, cq8, cq9, cq10, cq11, cq12, cq13] at h57_3)
                                          refine tr_seq ?_
                                          refine tr_region (fun N58 hN => ?_)
                                          refine lx (op_eql rfl rfl) rfl ?_
                                          refine lx (op_assign rfl) rfl ?_
                                          refine lx_end ⟨by kernel_rfl, ?_⟩
                                          refine pe_then_normal ?_
                                          refine tr_sub hC (.cons (t := 3) rfl (.cons (t := 57) rfl .nil)) .nil rfl ?_
                                          refine tr_cond2 rfl (fun h57_4 => ?_) (fun h57_4 => ?_)
                                          ·(try simp only [cq1, cq2, cq3, cq4, cq5, cq6, cq7, cq8, cq9, cq10, cq11, cq12, cq13] at h57_4)
                                           refine tr_skip ?_
                                           refine pe_then_normal ?_
                                           refine tr_sub hC (.cons (t := 3) rfl (.cons (t := 57) rfl .nil)) .nil rfl ?_
                                           refine tr_cond_t rfl ?_
                                           refine tr_seq ?_
                                           refine tr_region (fun N66 hN => ?_)
                                           refine lx (op_assign rfl) rfl ?_
                                           refine lx_end ⟨by kernel_rfl, ?_⟩
                                           refine pe_then_normal ?_
                                           refine tr_sub hC (.cons (t := 2) rfl .nil) .nil rfl ?_
                                           refine tr_ret ?_
                                           refine pe_block_ret ?_
                                           refine pe_then_ret ?_
                                           refine pe_ret1 rfl hO rfl (.tmp rfl .nil) ?_
                                           rw [rolesF, if_neg h4, if_neg h6, if_neg h8, if_neg h8_2, if_neg h8_3, if_neg h8_4, if_neg h8_5, if_neg h8_6, if_neg h8_7, if_neg h8_8, if_neg h17, if_neg h17_2, if_neg h17_3, if_neg h17_4, if_neg h17_5, if_neg h17_6, if_neg h17_7, if_neg h17_8, if_neg h17_9, if_neg h17_10, if_neg h17_11, if_neg h17_12, if_neg h30, if_neg h32, if_neg h32_2, if_neg h35, if_neg h37, if_neg h39, if_neg h41, if_neg h43, if_neg h45, if_neg h47, if_neg h47_2, if_neg h50, if_neg h52, if_neg h52_2, if_neg h52_3, if_neg h52_4, if_neg h57, if_neg h57_2, if_neg h57_3, if_pos h57_4]
                                           exact ent_auto
                                          ·(try simp only [cq1, cq2, cq3, cq4, cq5, cq6, cq7, cq8, cq9, cq10, cq11, cq12, cq13] at h57_4)
                                           refine tr_seq ?_
                                           refine tr_region (fun N59 hN => ?_)
                                           refine lx (op_eql rfl rfl) rfl ?_
                                           refine lx (op_assign rfl) rfl ?_
                                           refine lx_end ⟨by kernel_rfl, ?_⟩
                                           refine pe_then_normal ?_
                                           refine tr_sub hC (.cons (t := 3) rfl (.cons (t := 57) rfl .nil)) .nil rfl ?_
                                           refine tr_cond2 rfl (fun h57_5 => ?_) (fun h57_5 => ?_)
                                           ·(try simp only [cq1, cq2, cq3, cq4, cq5, cq6, cq7, cq8, cq9, cq10, cq11, cq12, cq13] at h57_5)
                                            refine tr_skip ?_
                                            refine pe_then_normal ?_
                                            refine tr_sub hC (.cons (t := 3) rfl (.cons (t := 57) rfl .nil)) .nil rfl ?_
                                            refine tr_cond_t rfl ?_
                                            refine tr_seq ?_
                                            refine tr_region (fun N66 hN => ?_)
                                            refine lx (op_assign rfl) rfl ?_
                                            refine lx_end ⟨by kernel_rfl, ?_⟩
                                            refine pe_then_normal ?_
                                            refine tr_sub hC (.cons (t := 2) rfl .nil) .nil rfl ?_
                                            refine tr_ret ?_
                                            refine pe_block_ret ?_
                                            refine pe_then_ret ?_
                                            refine pe_ret1 rfl hO rfl (.tmp rfl .nil) ?_
                                            rw [rolesF, if_neg h4, if_neg h6, if_neg h8, if_neg h8_2, if_neg h8_3, if_neg h8_4, if_neg h8_5, if_neg h8_6, if_neg h8_7, if_neg h8_8, if_neg h17, if_neg h17_2, if_neg h17_3, if_neg h17_4, if_neg h17_5, if_neg h17_6, if_neg h17_7, if_neg h17_8, if_neg h17_9, if_neg h17_10, if_neg h17_11, if_neg h17_12, if_neg h30, if_neg h32, if_neg h32_2, if_neg h35, if_neg h37, if_neg h39, if_neg h41, if_neg h43, if_neg h45, if_neg h47, if_neg h47_2, if_neg h50, if_neg h52, if_neg h52_2, if_neg h52_3, if_neg h52_4, if_neg h57, if_neg h57_2, if_neg h57_3, if_neg h57_4, if_pos h57_5]
                                            exact ent_auto
                                           ·(try simp only [cq1, cq2, cq3, cq4, cq5, cq6, cq7, cq8, cq9, cq10, cq11, cq12, cq13] at h57_5)
                                            refine tr_seq ?_
                                            refine tr_region (fun N60 hN => ?_)
                                            refine lx (op_eql rfl rfl) rfl ?_
                                            refine lx (op_assign rfl) rfl ?_
                                            refine lx_end ⟨by kernel_rfl, ?_⟩
                                            refine pe_then_normal ?_
                                            refine tr_sub hC (.cons (t := 3) rfl (.cons (t := 57) rfl .nil)) .nil rfl ?_
                                            refine tr_cond2 rfl (fun h57_6 => ?_) (fun h57_6 => ?_)
                                            ·(try simp only [cq1, cq2, cq3, cq4, cq5, cq6, cq7, cq8, cq9, cq10, cq11, cq12, cq13] at h57_6)
                                             refine tr_skip ?_
                                             refine pe_then_normal ?_
                                             refine tr_sub hC (.cons (t := 3) rfl (.cons (t := 57) rfl .nil)) .nil rfl ?_
                                             refine tr_cond_t rfl ?_
                                             refine tr_seq ?_
                                             refine tr_region (fun N66 hN => ?_)
                                             refine lx (op_assign rfl) rfl ?_
                                             refine lx_end ⟨by kernel_rfl, ?_⟩
                                             refine pe_then_normal ?_
                                             refine tr_sub hC (.cons (t := 2) rfl .nil) .nil rfl ?_
                                             refine tr_ret ?_
                                             refine pe_block_ret ?_
                                             refine pe_then_ret ?_
                                             refine pe_ret1 rfl hO rfl (.tmp rfl .nil) ?_
                                             rw [rolesF, if_neg h4, if_neg h6, if_neg h8, if_neg h8_2, if_neg h8_3, if_neg h8_4, if_neg h8_5, if_neg h8_6, if_neg h8_7, if_neg h8_8, if_neg h17, if_neg h17_2, if_neg h17_3, if_neg h17_4, if_neg h17_5, if_neg h17_6, if_neg h17_7, if_neg h17_8, if_neg h17_9, if_neg h17_10, if_neg h17_11, if_neg h17_12, if_neg h30, if_neg h32, if_neg h32_2, if_neg h35, if_neg h37, if_neg h39, if_neg h41, if_neg h43, if_neg h45, if_neg h47, if_neg h47_2, if_neg h50, if_neg h52, if_neg h52_2, if_neg h52_3, if_neg h52_4, if_neg h57, if_neg h57_2, if_neg h57_3, if_neg h57_4, if_neg h57_5, if_pos h57_6]
                                             exact ent_auto
                                            ·(try simp only [cq1, cq2, cq3, cq4, cq5, cq6, cq7, cq8, cq9, cq10, cq11, cq12, cq13] at h57_6)
                                             refine tr_seq ?_
                                             refine tr_region (fun N61 hN => ?_)
                                             refine lx (op_eql rfl rfl) rfl ?_
                                             refine lx (op_assign rfl) rfl ?_
                                             refine lx_end ⟨by kernel_rfl, ?_⟩
                                             refine pe_then_normal ?_
                                             refine tr_sub hC (.cons (t := 3) rfl (.cons (t := 57) rfl .nil)) .nil rfl ?_
                                             refine tr_cond2 rfl (fun h57_7 => ?_) (fun h57_7 => ?_)
                                             ·(try simp only [cq1, cq2, cq3, cq4, cq5, cq6, cq7, cq8, cq9, cq10, cq11, cq12, cq13] at h57_7)
                                              refine tr_skip ?_
                                              refine pe_then_normal ?_
                                              refine tr_sub hC (.cons (t := 3) rfl (.cons (t := 57) rfl .nil)) .nil rfl ?_
                                              refine tr_cond_t rfl ?_
                                              refine tr_seq ?_
                                              refine tr_region (fun N66 hN => ?_)
                                              refine lx (op_assign rfl) rfl ?_
                                              refine lx_end ⟨by kernel_rfl, ?_⟩
                                              refine pe_then_normal ?_
                                              refine tr_sub hC (.cons (t := 2) rfl .nil) .nil rfl ?_
                                              refine tr_ret ?_
                                              refine pe_block_ret ?_
                                              refine pe_then_ret ?_
                                              refine pe_ret1 rfl hO rfl (.tmp rfl .nil) ?_
                                              rw [rolesF, if_neg h4, if_neg h6, if_neg h8, if_neg h8_2, if_neg h8_3, if_neg h8_4, if_neg h8_5, if_neg h8_6, if_neg h8_7, if_neg h8_8, if_neg h17, if_neg h17_2, if_neg h17_3, if_neg h17_4, if_neg h17_5, if_neg h17_6, if_neg h17_7, if_neg h17_8, if_neg h17_9, if_neg h17_10, if_neg h17_11, if_neg h17_12, if_neg h30, if_neg h32, if_neg h32_2, if_neg h35, if_neg h37, if_neg h39, if_neg h41, if_neg h43, if_neg h45, if_neg h47, if_neg h47_2, if_neg h50, if_neg h52, if_neg h52_2, if_neg h52_3, if_neg h52_4, if_neg h57, if_neg h57_2, if_neg h57_3, if_neg h57_4, if_neg h57_5, if_neg h57_6, if_pos h57_7]
                                              exact ent_auto
                                             ·(try simp only [cq1, cq2, cq3, cq4, cq5, cq6, cq7, cq8, cq9, cq10, cq11, cq12, cq13] at h57_7)
                                              refine tr_seq ?_
                                              refine tr_region (fun N62 hN => ?_)
                                              refine lx (op_eql rfl rfl) rfl ?_
                                              refine lx (op_assign rfl) rfl ?_
                                              refine lx_end ⟨by kernel_rfl, ?_⟩
                                              refine pe_then_normal ?_
                                              refine tr_sub hC (.cons (t := 3) rfl (.cons (t := 57) rfl .nil)) .nil rfl ?_
                                              refine tr_cond2 rfl (fun h57_8 => ?_) (fun h57_8 => ?_)
                                              ·(try simp only [cq1, cq2, cq3, cq4, cq5, cq6, cq7, cq8, cq9, cq10, cq11, cq12, cq13] at h57_8)
                                               refine tr_skip ?_
                                               refine pe_then_normal ?_
                                               refine tr_sub hC (.cons (t := 3) rfl (.cons (t := 57) rfl .nil)) .nil rfl ?_
                                               refine tr_cond_t rfl ?_
                                               refine tr_seq ?_
                                               refine tr_region (fun N66 hN => ?_)
                                               refine lx (op_assign rfl) rfl ?_
                                               refine lx_end ⟨by kernel_rfl, ?_⟩
                                               refine pe_then_normal ?_
                                               refine tr_sub hC (.cons (t := 2) rfl .nil) .nil rfl ?_
                                               refine tr_ret ?_
                                               refine pe_block_ret ?_
                                               refine pe_then_ret ?_
                                               refine pe_ret1 rfl hO rfl (.tmp rfl .nil) ?_
                                               rw [rolesF, if_neg h4, if_neg h6, if_neg h8, if_neg h8_2, if_neg h8_3, if_neg h8_4, if_neg h8_5, if_neg h8_6, if_neg h8_7, if_neg h8_8, if_neg h17, if_neg h17_2, if_neg h17_3, if_neg h17_4, if_neg h17_5, if_neg h17_6, if_neg h17_7, if_neg h17_8, if_neg h17_9, if_neg h17_10, if_neg h17_11, if_neg h17_12, if_neg h30, if_neg h32, if_neg h32_2, if_neg h35, if_neg h37, if_neg h39, if_neg h41, if_neg h43, if_neg h45, if_neg h47, if_neg h47_2, if_neg h50, if_neg h52, if_neg h52_2, if_neg h52_3, if_neg h52_4, if_neg h57, if_neg h57_2, if_neg h57_3, if_neg h57_4, if_neg h57_5, if_neg h57_6, if_neg h57_7, if_pos h57_8]
                                               exact ent_auto
                                              ·(try simp only [cq1, cq2, cq3, cq4, cq5, cq6, cq7, cq8, cq9, cq10, cq11, cq12, cq13] at h57_8)
                                               refine tr_seq ?_
                                               refine tr_region (fun N63 hN => ?_)
                                               refine lx (op_eql rfl rfl) rfl ?_
                                               refine lx (op_assign rfl) rfl ?_
                                               refine lx_end ⟨by kernel_rfl, ?_⟩
                                               refine pe_then_normal ?_
                                               refine tr_sub hC (.cons (t := 3) rfl (.cons (t := 57) rfl .nil)) .nil rfl ?_
                                               refine tr_cond2 rfl (fun h57_9 => ?_) (fun h57_9 => ?_)
                                               ·(try simp only [cq1, cq2, cq3, cq4, cq5, cq6, cq7, cq8, cq9, cq10, cq11, cq12, cq13] at h57_9)
                                                refine tr_skip ?_
                                                refine pe_then_normal ?_
                                                refine tr_sub hC (.cons (t := 3) rfl (.cons (t := 57) rfl .nil)) .nil rfl ?_
                                                refine tr_cond_t rfl ?_
                                                refine tr_seq ?_
                                                refine tr_region (fun N66 hN => ?_)
                                                refine lx (op_assign rfl) rfl ?_
                                                refine lx_end ⟨by kernel_rfl, ?_⟩
                                                refine pe_then_normal ?_
                                                refine tr_sub hC (.cons (t := 2) rfl .nil) .nil rfl ?_
                                                refine tr_ret ?_
                                                refine pe_block_ret ?_
                                                refine pe_then_ret ?_
                                                refine pe_ret1 rfl hO rfl (.tmp rfl .nil) ?_
                                                rw [rolesF, if_neg h4, if_neg h6, if_neg h8, if_neg h8_2, if_neg h8_3, if_neg h8_4, if_neg h8_5, if_neg h8_6, if_neg h8_7, if_neg h8_8, if_neg h17, if_neg h17_2, if_neg h17_3, if_neg h17_4, if_neg h17_5, if_neg h17_6, if_neg h17_7, if_neg h17_8, if_neg h17_9, if_neg h17_10, if_neg h17_11, if_neg h17_12, if_neg h30, if_neg h32, if_neg h32_2, if_neg h35, if_neg h37, if_neg h39, if_neg h41, if_neg h43, if_neg h45, if_neg h47, if_neg h47_2, if_neg h50, if_neg h52, if_neg h52_2, if_neg h52_3, if_neg h52_4, if_neg h57, if_neg h57_2, if_neg h57_3, if_neg h57_4, if_neg h57_5, if_neg h57_6, if_neg h57_7, if_neg h57_8, if_pos h57_9]
                                                exact ent_auto
                                               ·(try simp only [cq1, cq2, cq3, cq4, cq5, cq6, cq7, cq8, cq9, cq10, cq11, cq12, cq13] at h57_9)
                                                refine tr_seq ?_
                                                refine tr_region (fun N64 hN => ?_)
                                                refine lx (op_eql rfl rfl) rfl ?_
                                                refine lx (op_assign rfl) rfl ?_
                                                refine lx_end ⟨by kernel_rfl, ?_⟩
                                                refine pe_then_normal ?_
                                                refine tr_sub hC (.cons (t := 3) rfl (.cons (t := 57) rfl .nil)) .nil rfl ?_
                                                refine tr_cond2 rfl (fun h57_10 => ?_) (fun h57_10 => ?_)
                                                ·(try simp only [cq1, cq2, cq3, cq4, cq5, cq6, cq7, cq8, cq9, cq10, cq11, cq12, cq13] at h57_10)
                                                 refine tr_skip ?_
                                                 refine pe_then_normal ?_
                                                 refine tr_sub hC (.cons (t := 3) rfl (.cons (t := 57) rfl .nil)) .nil rfl ?_
                                                 refine tr_cond_t rfl ?_
                                                 refine tr_seq ?_
                                                 refine tr_region (fun N66 hN => ?_)
                                                 refine lx (op_assign rfl) rfl ?_
                                                 refine lx_end ⟨by kernel_rfl, ?_⟩
                                                 refine pe_then_normal ?_
                                                 refine tr_sub hC (.cons (t := 2) rfl .nil) .nil rfl ?_
                                                 refine tr_ret ?_
                                                 refine pe_block_ret ?_
                                                 refine pe_then_ret ?_
                                                 refine pe_ret1 rfl hO rfl (.tmp rfl .nil) ?_
                                                 rw [rolesF, if_neg h4, if_neg h6, if_neg h8, if_neg h8_2, if_neg h8_3, if_neg h8_4, if_neg h8_5, if_neg h8_6, if_neg h8_7, if_neg h8_8, if_neg h17, if_neg h17_2, if_neg h17_3, if_neg h17_4, if_neg h17_5, if_neg h17_6, if_neg h17_7, if_neg h17_8, if_neg h17_9, if_neg h17_10, if_neg h17_11, if_neg h17_12, if_neg h30, if_neg h32, if_neg h32_2, if_neg h35, if_neg h37, if_neg h39, if_neg h41, if_neg h43, if_neg h45, if_neg h47, if_neg h47_2, if_neg h50, if_neg h52, if_neg h52_2, if_neg h52_3, if_neg h52_4, if_neg h57, if_neg h57_2, if_neg h57_3, if_neg h57_4, if_neg h57_5, if_neg h57_6, if_neg h57_7, if_neg h57_8, if_neg h57_9, if_pos h57_10]
                                                 exact ent_auto
                                                ·(try simp only [cq1, cq2, cq3, cq4, cq5, cq6, cq7, cq8, cq9, cq10, cq11, cq12, cq13] at h57_10)
                                                 refine tr_region (fun N65 hN => ?_)
                                                 refine lx (op_eql rfl rfl) rfl ?_
                                                 refine lx (op_assign rfl) rfl ?_
                                                 refine lx_end ⟨by kernel_rfl, ?_⟩
                                                 refine pe_then_normal ?_
                                                 refine tr_sub hC (.cons (t := 3) rfl (.cons (t := 57) rfl .nil)) .nil rfl ?_
                                                 refine tr_cond rfl (fun h57_11 => ?_) (fun h57_11 => ?_)
                                                 ·(try simp only [cq1, cq2, cq3, cq4, cq5, cq6, cq7, cq8, cq9, cq10, cq11, cq12, cq13] at h57_11)
                                                  refine tr_seq ?_
                                                  refine tr_region (fun N66 hN => ?_)
                                                  refine lx (op_assign rfl) rfl ?_
                                                  refine lx_end ⟨by kernel_rfl, ?_⟩
                                                  refine pe_then_normal ?_
                                                  refine tr_sub hC (.cons (t := 2) rfl .nil) .nil rfl ?_
                                                  refine tr_ret ?_
                                                  refine pe_block_ret ?_
                                                  refine pe_then_ret ?_
                                                  refine pe_ret1 rfl hO rfl (.tmp rfl .nil) ?_
                                                  rw [rolesF, if_neg h4, if_neg h6, if_neg h8, if_neg h8_2, if_neg h8_3, if_neg h8_4, if_neg h8_5, if_neg h8_6, if_neg h8_7, if_neg h8_8, if_neg h17, if_neg h17_2, if_neg h17_3, if_neg h17_4, if_neg h17_5, if_neg h17_6, if_neg h17_7, if_neg h17_8, if_neg h17_9, if_neg h17_10, if_neg h17_11, if_neg h17_12, if_neg h30, if_neg h32, if_neg h32_2, if_neg h35, if_neg h37, if_neg h39, if_neg h41, if_neg h43, if_neg h45, if_neg h47, if_neg h47_2, if_neg h50, if_neg h52, if_neg h52_2, if_neg h52_3, if_neg h52_4, if_neg h57, if_neg h57_2, if_neg h57_3, if_neg h57_4, if_neg h57_5, if_neg h57_6, if_neg h57_7, if_neg h57_8, if_neg h57_9, if_neg h57_10, if_pos h57_11]
                                                  exact ent_auto
                                                 ·(try simp only [cq1, cq2, cq3, cq4, cq5, cq6, cq7, cq8, cq9, cq10, cq11, cq12, cq13] at h57_11)
                                                  refine tr_seq ?_
                                                  refine tr_region (fun N67 hN => ?_)
                                                  refine lx (op_eql rfl rfl) rfl ?_
                                                  refine lx (op_assign rfl) rfl ?_
                                                  refine lx_end ⟨by kernel_rfl, ?_⟩
                                                  refine pe_then_normal ?_
                                                  refine tr_sub hC (.cons (t := 3) rfl (.cons (t := 69) rfl .nil)) .nil rfl ?_
                                                  refine tr_cond rfl (fun h69 => ?_) (fun h69 => ?_)
                                                  ·(try simp only [cq1, cq2, cq3, cq4, cq5, cq6, cq7, cq8, cq9, cq10, cq11, cq12, cq13] at h69)
                                                   refine tr_seq ?_
                                                   refine tr_region (fun N68 hN => ?_)
                                                   refine lx (op_assign rfl) rfl ?_
                                                   refine lx_end ⟨by kernel_rfl, ?_⟩
                                                   refine pe_then_normal ?_
                                                   refine tr_sub hC (.cons (t := 2) rfl .nil) .nil rfl ?_
                                                   refine tr_ret ?_
                                                   refine pe_block_ret ?_
                                                   refine pe_then_ret ?_
                                                   refine pe_ret1 rfl hO rfl (.tmp rfl .nil) ?_
                                                   rw [rolesF, if_neg h4, if_neg h6, if_neg h8, if_neg h8_2, if_neg h8_3, if_neg h8_4, if_neg h8_5, if_neg h8_6, if_neg h8_7, if_neg h8_8, if_neg h17, if_neg h17_2, if_neg h17_3, if_neg h17_4, if_neg h17_5, if_neg h17_6, if_neg h17_7, if_neg h17_8, if_neg h17_9, if_neg h17_10, if_neg h17_11, if_neg h17_12, if_neg h30, if_neg h32, if_neg h32_2, if_neg h35, if_neg h37, if_neg h39, if_neg h41, if_neg h43, if_neg h45, if_neg h47, if_neg h47_2, if_neg h50, if_neg h52, if_neg h52_2, if_neg h52_3, if_neg h52_4, if_neg h57, if_neg h57_2, if_neg h57_3, if_neg h57_4, if_neg h57_5, if_neg h57_6, if_neg h57_7, if_neg h57_8, if_neg h57_9, if_neg h57_10, if_neg h57_11, if_pos h69]
                                                   exact ent_auto
                                                  ·(try simp only [cq1, cq2, cq3, cq4, cq5, cq6, cq7, cq8, cq9, cq10, cq11, cq12, cq13] at h69)
                                                   refine tr_seq ?_
                                                   refine tr_region (fun N69 hN => ?_)
                                                   refine lx (op_eql rfl rfl) rfl ?_
                                                   refine lx (op_assign rfl) rfl ?_
                                                   refine lx_end ⟨by kernel_rfl, ?_⟩
                                                   refine pe_then_normal ?_
                                                   refine tr_sub hC (.cons (t := 3) rfl (.cons (t := 71) rfl .nil)) .nil rfl ?_
                                                   refine tr_cond rfl (fun h71 => ?_) (fun h71 => ?_)
                                                   ·(try simp only [cq1, cq2, cq3, cq4, cq5, cq6, cq7, cq8, cq9, cq10, cq11, cq12, cq13] at h71)
                                                    refine tr_seq ?_
                                                    refine tr_region (fun N70 hN => ?_)
                                                    refine lx (op_assign rfl) rfl ?_
                                                    refine lx_end ⟨by kernel_rfl, ?_⟩
                                                    refine pe_then_normal ?_
                                                    refine tr_sub hC (.cons (t := 2) rfl .nil) .nil rfl ?_
                                                    refine tr_ret ?_
                                                    refine pe_block_ret ?_
                                                    refine pe_then_ret ?_
                                                    refine pe_ret1 rfl hO rfl (.tmp rfl .nil) ?_
                                                    rw [rolesF, if_neg h4, if_neg h6, if_neg h8, if_neg h8_2, if_neg h8_3, if_neg h8_4, if_neg h8_5, if_neg h8_6, if_neg h8_7, if_neg h8_8, if_neg h17, if_neg h17_2, if_neg h17_3, if_neg h17_4, if_neg h17_5, if_neg h17_6, if_neg h17_7, if_neg h17_8, if_neg h17_9, if_neg h17_10, if_neg h17_11, if_neg h17_12, if_neg h30, if_neg h32, if_neg h32_2, if_neg h35, if_neg h37, if_neg h39, if_neg h41, if_neg h43, if_neg h45, if_neg h47, if_neg h47_2, if_neg h50, if_neg h52, if_neg h52_2, if_neg h52_3, if_neg h52_4, if_neg h57, if_neg h57_2, if_neg h57_3, if_neg h57_4, if_neg h57_5, if_neg h57_6, if_neg h57_7, if_neg h57_8, if_neg h57_9, if_neg h57_10, if_neg h57_11, if_neg h69, if_pos h71]
                                                    exact ent_auto
                                                   ·(try simp only [cq1, cq2, cq3, cq4, cq5, cq6, cq7, cq8, cq9, cq10, cq11, cq12, cq13] at h71)
                                                    refine tr_seq ?_
                                                    refine tr_region (fun N71 hN => ?_)
                                                    refine lx (op_eql rfl rfl) rfl ?_
                                                    refine lx (op_assign rfl) rfl ?_
                                                    refine lx_end ⟨by kernel_rfl, ?_⟩
                                                    refine pe_then_normal ?_
                                                    refine tr_sub hC (.cons (t := 73) rfl .nil) .nil rfl ?_
                                                    refine tr_cond rfl (fun h73 => ?_) (fun h73 => ?_)
                                                    ·(try simp only [cq1, cq2, cq3, cq4, cq5, cq6, cq7, cq8, cq9, cq10, cq11, cq12, cq13] at h73)
                                                     refine tr_seq ?_
                                                     refine tr_region (fun N72 hN => ?_)
                                                     refine lx (op_assign rfl) rfl ?_
                                                     refine lx_end ⟨by kernel_rfl, ?_⟩
                                                     refine pe_then_normal ?_
                                                     refine tr_sub hC (.cons (t := 2) rfl .nil) .nil rfl ?_
                                                     refine tr_ret ?_
                                                     refine pe_block_ret ?_
                                                     refine pe_then_ret ?_
                                                     refine pe_ret1 rfl hO rfl (.tmp rfl .nil) ?_
                                                     rw [rolesF, if_neg h4, if_neg h6, if_neg h8, if_neg h8_2, if_neg h8_3, if_neg h8_4, if_neg h8_5, if_neg h8_6, if_neg h8_7, if_neg h8_8, if_neg h17, if_neg h17_2, if_neg h17_3, if_neg h17_4, if_neg h17_5, if_neg h17_6, if_neg h17_7, if_neg h17_8, if_neg h17_9, if_neg h17_10, if_neg h17_11, if_neg h17_12, if_neg h30, if_neg h32, if_neg h32_2, if_neg h35, if_neg h37, if_neg h39, if_neg h41, if_neg h43, if_neg h45, if_neg h47, if_neg h47_2, if_neg h50, if_neg h52, if_neg h52_2, if_neg h52_3, if_neg h52_4, if_neg h57, if_neg h57_2, if_neg h57_3, if_neg h57_4, if_neg h57_5, if_neg h57_6, if_neg h57_7, if_neg h57_8, if_neg h57_9, if_neg h57_10, if_neg h57_11, if_neg h69, if_neg h71, if_pos h73]
                                                     exact ent_auto
                                                    ·(try simp only [cq1, cq2, cq3, cq4, cq5, cq6, cq7, cq8, cq9, cq10, cq11, cq12, cq13] at h73)
                                                     refine tr_skip ?_
                                                     refine pe_block_normal ?_
                                                     refine pe_then_normal ?_
                                                     refine tr_sub hC .nil .nil rfl ?_
                                                     refine tr_seq ?_
                                                     refine tr_region (fun N73 hN => ?_)
                                                     refine lx (op_assign rfl) rfl ?_
                                                     refine lx_end ⟨by kernel_rfl, ?_⟩
                                                     refine pe_then_normal ?_
                                                     refine tr_sub hC (.cons (t := 2) rfl .nil) .nil rfl ?_
                                                     refine tr_ret ?_
                                                     refine pe_ret1 rfl hO rfl (.tmp rfl .nil) ?_
                                                     rw [rolesF, if_neg h4, if_neg h6, if_neg h8, if_neg h8_2, if_neg h8_3, if_neg h8_4, if_neg h8_5, if_neg h8_6, if_neg h8_7, if_neg h8_8, if_neg h17, if_neg h17_2, if_neg h17_3, if_neg h17_4, if_neg h17_5, if_neg h17_6, if_neg h17_7, if_neg h17_8, if_neg h17_9, if_neg h17_10, if_neg h17_11, if_neg h17_12, if_neg h30, if_neg h32, if_neg h32_2, if_neg h35, if_neg h37, if_neg h39, if_neg h41, if_neg h43, if_neg h45, if_neg h47, if_neg h47_2, if_neg h50, if_neg h52, if_neg h52_2, if_neg h52_3, if_neg h52_4, if_neg h57, if_neg h57_2, if_neg h57_3, if_neg h57_4, if_neg h57_5, if_neg h57_6, if_neg h57_7, if_neg h57_8, if_neg h57_9, if_neg h57_10, if_neg h57_11, if_neg h69, if_neg h71, if_neg h73]
                                                     exact ent_auto
theorem operand_ok (p : Pg) (f : Fu) (i : In) (r x : Int) : FnP Try.prog 49 [aggP p.ps, aggP f.ps, aggP i.ps, eqP (.int .u8 r), eqP (.int .i64 x)] (eqP (.bool (operandF p f i r x))) := by
 refine fn_pure' Try.func49 rfl Try.ntmps49 rfl ?_
 intro σ0 M ex Rf R hC hO
 simp only [frameOf, tokOf]
 refine tr_seq ?_
 refine tr_region (fun N0 hN => ?_)
 refine lxn (op_box (m := 5) (k := 5) rfl (.agg rfl) (by first | exact hC.low _ (by decide) | rfl)) rfl ?_
 refine lxn (op_box (m := 6) (k := 6) rfl (.agg rfl) (by first | exact hC.low _ (by decide) | rfl)) rfl ?_
 refine lxn (op_box (m := 7) (k := 7) rfl (.agg rfl) (by first | exact hC.low _ (by decide) | rfl)) rfl ?_
 refine lx (op_assign rfl) rfl ?_
 refine lx_end ⟨by kernel_rfl, ?_⟩
 refine pe_then_normal ?_
 refine tr_sub hC (.cons (t := 3) rfl (.cons (t := 4) rfl (.cons (t := 5) rfl (.cons (t := 6) rfl (.cons (t := 7) rfl .nil))))) (.cons (t := 5) rfl (.cons (t := 6) rfl (.cons (t := 7) rfl .nil))) rfl ?_
 refine tr_seq ?_
 refine tr_seq ?_
 refine tr_region (fun N1 hN => ?_)
 refine lx (op_move rfl) rfl ?_
 refine lx_end ⟨by kernel_rfl, ?_⟩
 refine pe_then_normal ?_
 refine tr_sub hC (.cons (t := 4) rfl (.cons (t := 5) rfl (.cons (t := 6) rfl (.cons (t := 7) rfl (.cons (t := 11) rfl .nil))))) (.cons (t := 5) rfl (.cons (t := 6) rfl (.cons (t := 7) rfl .nil))) rfl ?_
 refine tr_block ?_
 refine tr_seq ?_
 refine tr_seq ?_
 refine tr_region (fun N2 hN => ?_)
 refine lx (op_eql rfl rfl) rfl ?_
 refine lx (op_assign rfl) rfl ?_
 refine lx_end ⟨by kernel_rfl, ?_⟩
 refine pe_then_normal ?_
 refine tr_sub hC (.cons (t := 4) rfl (.cons (t := 5) rfl (.cons (t := 6) rfl (.cons (t := 7) rfl (.cons (t := 11) rfl (.cons (t := 12) rfl .nil)))))) (.cons (t := 5) rfl (.cons (t := 6) rfl (.cons (t := 7) rfl .nil))) rfl ?_
 refine tr_cond2 rfl (fun h12 => ?_) (fun h12 => ?_)
 ·(try simp only [cq1, cq2, cq3, cq4, cq5, cq6, cq7, cq8, cq9, cq10, cq11, cq12, cq13] at h12)
  refine tr_skip ?_
  refine pe_then_normal ?_
  refine tr_sub hC (.cons (t := 4) rfl (.cons (t := 5) rfl (.cons (t := 6) rfl (.cons (t := 7) rfl (.cons (t := 11) rfl (.cons (t := 12) rfl .nil)))))) (.cons (t := 5) rfl (.cons (t := 6) rfl (.cons (t := 7) rfl .nil))) rfl ?_
  refine tr_cond_t rfl ?_
  refine tr_seq ?_
  refine tr_region (fun N4 hN => ?_)
  refine lx (op_move rfl) rfl ?_
  refine lx (op_geq rfl rfl) rfl ?_
  refine lx (op_move rfl) rfl ?_
  refine lxs rfl rfl rfl guard_eq (.cons (t := 4) rfl (fun _ => Ent.refl _) .nil) (op_move rfl) rfl ?_
  refine lxs rfl rfl rfl guard_eq (.cons (t := 6) rfl (fun _ => Ent.refl _) .nil) (op_fieldAddr rfl fl66_2 sz3) rfl ?_
  refine lxs rfl rfl rfl guard_eq (.cons (t := 19) rfl (fun h => entW h) .nil) (op_bload_one (m := 6) rfl rfl ag3 rfl) rfl ?_
  refine lxs rfl rfl rfl guard_eq (.cons (t := 18) rfl (fun h => entW h) (.cons (t := 20) rfl (fun h => entW h) .nil)) (op_lss rfl rfl) rfl ?_
  refine lx (op_pick_and rfl rfl) rfl ?_
  refine lx (op_assign rfl) rfl ?_
  refine lx_end ⟨by kernel_rfl, ?_⟩
  refine pe_then_normal ?_
  refine tr_sub hC (.cons (t := 10) rfl .nil) .nil rfl ?_
  refine tr_ret ?_
  refine pe_block_ret ?_
  refine pe_then_ret ?_
  refine pe_ret1 rfl hO rfl (.tmp rfl .nil) ?_
  rw [operandF, if_pos h12]
  exact ent_auto
 ·(try simp only [cq1, cq2, cq3, cq4, cq5, cq6, cq7, cq8, cq9, cq10, cq11, cq12, cq13] at h12)
  refine tr_region (fun N3 hN => ?_)
  refine lx (op_eql rfl rfl) rfl ?_
  refine lx (op_assign rfl) rfl ?_
  refine lx_end ⟨by kernel_rfl, ?_⟩
  refine pe_then_normal ?_
  refine tr_sub hC (.cons (t := 4) rfl (.cons (t := 5) rfl (.cons (t := 6) rfl (.cons (t := 7) rfl (.cons (t := 11) rfl (.cons (t := 12) rfl .nil)))))) (.cons (t := 5) rfl (.cons (t := 6) rfl (.cons (t := 7) rfl .nil))) rfl ?_
  refine tr_cond rfl (fun h12_2 => ?_) (fun h12_2 => ?_)
  ·(try simp only [cq1, cq2, cq3, cq4, cq5, cq6, cq7, cq8, cq9, cq10, cq11, cq12, cq13] at h12_2)
   refine tr_seq ?_
   refine tr_region (fun N4 hN => ?_)
   refine lx (op_move rfl) rfl ?_
   refine lx (op_geq rfl rfl) rfl ?_
   refine lx (op_move rfl) rfl ?_
   refine lxs rfl rfl rfl guard_eq (.cons (t := 4) rfl (fun _ => Ent.refl _) .nil) (op_move rfl) rfl ?_
   refine lxs rfl rfl rfl guard_eq (.cons (t := 6) rfl (fun _ => Ent.refl _) .nil) (op_fieldAddr rfl fl66_2 sz3) rfl ?_
   refine lxs rfl rfl rfl guard_eq (.cons (t := 19) rfl (fun h => entW h) .nil) (op_bload_one (m := 6) rfl rfl ag3 rfl) rfl ?_
   refine lxs rfl rfl rfl guard_eq (.cons (t := 18) rfl (fun h => entW h) (.cons (t := 20) rfl (fun h => entW h) .nil)) (op_lss rfl rfl) rfl ?_
   refine lx (op_pick_and rfl rfl) rfl ?_
   refine lx (op_assign rfl) rfl ?_
   refine lx_end ⟨by kernel_rfl, ?_⟩
   refine pe_then_normal ?_
   refine tr_sub hC (.cons (t := 10) rfl .nil) .nil rfl ?_
   refine tr_ret ?_
   refine pe_block_ret ?_
   refine pe_then_ret ?_
   refine pe_ret1 rfl hO rfl (.tmp rfl .nil) ?_
   rw [operandF, if_neg h12, if_pos h12_2]
   exact ent_auto
  ·(try simp only [cq1, cq2, cq3, cq4, cq5, cq6, cq7, cq8, cq9, cq10, cq11, cq12, cq13] at h12_2)
   refine tr_seq ?_
   refine tr_seq ?_
   refine tr_region (fun N5 hN => ?_)
   refine lx (op_eql rfl rfl) rfl ?_
   refine lx (op_assign rfl) rfl ?_
   refine lx_end ⟨by kernel_rfl, ?_⟩
   refine pe_then_normal ?_
   refine tr_sub hC (.cons (t := 4) rfl (.cons (t := 5) rfl (.cons (t := 6) rfl (.cons (t := 7) rfl (.cons (t := 11) rfl (.cons (t := 23) rfl .nil)))))) (.cons (t := 5) rfl (.cons (t := 6) rfl (.cons (t := 7) rfl .nil))) rfl ?_
   refine tr_cond2 rfl (fun h23 => ?_) (fun h23 => ?_)
   ·(try simp only [cq1, cq2, cq3, cq4, cq5, cq6, cq7, cq8, cq9, cq10, cq11, cq12, cq13] at h23)
    refine tr_skip ?_
    refine pe_then_normal ?_
    refine tr_sub hC (.cons (t := 4) rfl (.cons (t := 5) rfl (.cons (t := 6) rfl (.cons (t := 7) rfl (.cons (t := 11) rfl (.cons (t := 23) rfl .nil)))))) (.cons (t := 5) rfl (.cons (t := 6) rfl (.cons (t := 7) rfl .nil))) rfl ?_
    refine tr_cond_t rfl ?_
    refine tr_seq ?_
    refine tr_region (fun N7 hN => ?_)
    refine lx (op_move rfl) rfl ?_
    refine lx (op_geq rfl rfl) rfl ?_
    refine lx (op_move rfl) rfl ?_
    refine lxs rfl rfl rfl guard_eq (.cons (t := 4) rfl (fun _ => Ent.refl _) .nil) (op_move rfl) rfl ?_
    refine lxs rfl rfl rfl guard_eq (.cons (t := 6) rfl (fun _ => Ent.refl _) .nil) (op_fieldAddr rfl fl66_2 sz3) rfl ?_
    refine lxs rfl rfl rfl guard_eq (.cons (t := 30) rfl (fun h => entW h) .nil) (op_bload_one (m := 6) rfl rfl ag3 rfl) rfl ?_
    refine lxs rfl rfl rfl guard_eq (.cons (t := 29) rfl (fun h => entW h) (.cons (t := 31) rfl (fun h => entW h) .nil)) (op_lss rfl rfl) rfl ?_
    refine lx (op_pick_and rfl rfl) rfl ?_
    refine lx (op_assign rfl) rfl ?_
    refine lx_end ⟨by kernel_rfl, ?_⟩
    refine pe_then_normal ?_
    refine tr_sub hC (.cons (t := 10) rfl .nil) .nil rfl ?_
    refine tr_ret ?_
    refine pe_block_ret ?_
    refine pe_then_ret ?_
    refine pe_ret1 rfl hO rfl (.tmp rfl .nil) ?_
    rw [operandF, if_neg h12, if_neg h12_2, if_pos h23]
    exact ent_auto
   ·(try simp only [cq1, cq2, cq3, cq4, cq5, cq6, cq7, cq8, cq9, cq10, cq11, cq12, cq13] at h23)
    refine tr_region (fun N6 hN => ?_)
    refine lx (op_eql rfl rfl) rfl ?_
    refine lx (op_assign rfl) rfl ?_
    refine lx_end ⟨by kernel_rfl, ?_⟩
    refine pe_then_normal ?_
    refine tr_sub hC (.cons (t := 4) rfl (.cons (t := 5) rfl (.cons (t := 6) rfl (.cons (t := 7) rfl (.cons (t := 11) rfl (.cons (t := 23) rfl .nil)))))) (.cons (t := 5) rfl (.cons (t := 6) rfl (.cons (t := 7) rfl .nil))) rfl ?_
    refine tr_cond rfl (fun h23_2 => ?_) (fun h23_2 => ?_)
    ·(try simp only [cq1, cq2, cq3, cq4, cq5, cq6, cq7, cq8, cq9, cq10, cq11, cq12, cq13] at h23_2)
     refine tr_seq ?_
     refine tr_region (fun N7 hN => ?_)
     refine lx (op_move rfl) rfl ?_
     refine lx (op_geq rfl rfl) rfl ?_
     refine lx (op_move rfl) rfl ?_
     refine lxs rfl rfl rfl guard_eq (.cons (t := 4) rfl (fun _ => Ent.refl _) .nil) (op_move rfl) rfl ?_
     refine lxs rfl rfl rfl guard_eq (.cons (t := 6) rfl (fun _ => Ent.refl _) .nil) (op_fieldAddr rfl fl66_2 sz3) rfl ?_
     refine lxs rfl rfl rfl guard_eq (.cons (t := 30) rfl (fun h => entW h) .nil) (op_bload_one (m := 6) rfl rfl ag3 rfl) rfl ?_
     refine lxs rfl rfl rfl guard_eq (.cons (t := 29) rfl (fun h => entW h) (.cons (t := 31) rfl (fun h => entW h) .nil)) (op_lss rfl rfl) rfl ?_
     refine lx (op_pick_and rfl rfl) rfl ?_
     refine lx (op_assign rfl) rfl ?_
     refine lx_end ⟨by kernel_rfl, ?_⟩
     refine pe_then_normal ?_
     refine tr_sub hC (.cons (t := 10) rfl .nil) .nil rfl ?_
     refine tr_ret ?_
     refine pe_block_ret ?_
     refine pe_then_ret ?_
     refine pe_ret1 rfl hO rfl (.tmp rfl .nil) ?_
     rw [operandF, if_neg h12, if_neg h12_2, if_neg h23, if_pos h23_2]
     exact ent_auto
    ·(try simp only [cq1, cq2, cq3, cq4, cq5, cq6, cq7, cq8, cq9, cq10, cq11, cq12, cq13] at h23_2)
     refine tr_seq ?_
     refine tr_region (fun N8 hN => ?_)
     refine lx (op_eql rfl rfl) rfl ?_
     refine lx (op_assign rfl) rfl ?_
     refine lx_end ⟨by kernel_rfl, ?_⟩
     refine pe_then_normal ?_
     refine tr_sub hC (.cons (t := 4) rfl (.cons (t := 5) rfl (.cons (t := 6) rfl (.cons (t := 7) rfl (.cons (t := 11) rfl (.cons (t := 34) rfl .nil)))))) (.cons (t := 5) rfl (.cons (t := 6) rfl (.cons (t := 7) rfl .nil))) rfl ?_
     refine tr_cond rfl (fun h34 => ?_) (fun h34 => ?_)
     ·(try simp only [cq1, cq2, cq3, cq4, cq5, cq6, cq7, cq8, cq9, cq10, cq11, cq12, cq13] at h34)
      refine tr_seq ?_
      refine tr_region (fun N9 hN => ?_)
      refine lx (op_move rfl) rfl ?_
      refine lx (op_geq rfl rfl) rfl ?_
      refine lx (op_move rfl) rfl ?_
      refine lxs rfl rfl rfl guard_eq (.cons (t := 4) rfl (fun _ => Ent.refl _) .nil) (op_move rfl) rfl ?_
      refine lxs rfl rfl rfl guard_eq (.cons (t := 39) rfl (fun h => entW h) .nil) (op_leq rfl rfl) rfl ?_
      refine lx (op_pick_and rfl rfl) rfl ?_
      refine lx (op_assign rfl) rfl ?_
      refine lx_end ⟨by kernel_rfl, ?_⟩
      refine pe_then_normal ?_
      refine tr_sub hC (.cons (t := 10) rfl .nil) .nil rfl ?_
      refine tr_ret ?_
      refine pe_block_ret ?_
      refine pe_then_ret ?_
      refine pe_ret1 rfl hO rfl (.tmp rfl .nil) ?_
      rw [operandF, if_neg h12, if_neg h12_2, if_neg h23, if_neg h23_2, if_pos h34]
      exact ent_auto
     ·(try simp only [cq1, cq2, cq3, cq4, cq5, cq6, cq7, cq8, cq9, cq10, cq11, cq12, cq13] at h34)
      refine tr_seq ?_
      refine tr_region (fun N10 hN => ?_)
      refine lx (op_eql rfl rfl) rfl ?_
      refine lx (op_assign rfl) rfl ?_
      refine lx_end ⟨by kernel_rfl, ?_⟩
      refine pe_then_normal ?_
      refine tr_sub hC (.cons (t := 4) rfl (.cons (t := 5) rfl (.cons (t := 6) rfl (.cons (t := 7) rfl (.cons (t := 11) rfl (.cons (t := 42) rfl .nil)))))) (.cons (t := 5) rfl (.cons (t := 6) rfl (.cons (t := 7) rfl .nil))) rfl ?_
      refine tr_cond rfl (fun h42 => ?_) (fun h42 => ?_)
      ·(try simp only [cq1, cq2, cq3, cq4, cq5, cq6, cq7, cq8, cq9, cq10, cq11, cq12, cq13] at h42)
       refine tr_seq ?_
       refine tr_region (fun N11 hN => ?_)
       refine lx (op_move rfl) rfl ?_
       refine lx (op_geq rfl rfl) rfl ?_
       refine lx (op_move rfl) rfl ?_
       refine lxs rfl rfl rfl guard_eq (.cons (t := 4) rfl (fun _ => Ent.refl _) .nil) (op_move rfl) rfl ?_
       refine lxs rfl rfl rfl guard_eq (.cons (t := 6) rfl (fun _ => Ent.refl _) .nil) (op_fieldAddr rfl fl66_3 sz64) rfl ?_
       refine lxs rfl rfl rfl guard_eq (.cons (t := 48) rfl (fun h => entW h) .nil) (op_bload_one (m := 6) rfl rfl ag64 rfl) rfl ?_
       first | refine lxs rfl rfl rfl guard_eq (.cons (t := 49) rfl (fun h => entW h) .nil) (op_len rfl el64) rfl ?_ | refine lxs rfl rfl rfl guard_eq (.cons (t := 49) rfl (fun h => entW h) .nil) (op_len_row rfl el64) rfl ?_ | refine lxs rfl rfl rfl guard_eq (.cons (t := 49) rfl (fun h => entW h) .nil) (op_len_mv rfl el64) rfl ?_ | refine lxs rfl rfl rfl guard_eq (.cons (t := 49) rfl (fun h => entW h) .nil) (op_len_nil rfl el64) rfl ?_
       refine lxs rfl rfl rfl guard_eq (.cons (t := 47) rfl (fun h => entW h) (.cons (t := 50) rfl (fun h => entW h) .nil)) (op_lss rfl rfl) rfl ?_
       refine lx (op_pick_and rfl rfl) rfl ?_
       refine lx (op_move rfl) rfl ?_
       refine lxs rfl rfl rfl guard_eq (.cons (t := 6) rfl (fun _ => Ent.refl _) .nil) (op_fieldAddr rfl fl66_3 sz64) rfl ?_
       refine lxs rfl rfl rfl guard_eq (.cons (t := 54) rfl (fun h => entW h) .nil) (op_bload_one (m := 6) rfl rfl ag64 rfl) rfl ?_
       refine lxs rfl rfl rfl guard_eq (.cons (t := 4) rfl (fun _ => Ent.refl _) .nil) (op_move rfl) rfl ?_
       refine lxsc (rd := [(55, slP In.ps 5 f.code), (56, eqP (.int .i64 x))]) (φ := cellsP (gt in0 f.code x.toNat).ps) rfl rfl rfl guard_eq (.cons (t := 55) rfl (fun h => entW h) (.cons (t := 56) rfl (fun h => entW h) .nil)) (fun hgd => ?_) rfl rfl ?_
       ·have hq0 : 0 ≤ x ∧ x < (f.code.length : Int) := by
         simp at hgd
         omega
        exact op_index rfl rfl el64 sz80 (by omega : x = ((x.toNat : Nat) : Int)) (gt_at (d := in0) (by omega))
       first | refine lxs rfl rfl rfl guard_eq (.cons (t := 57) rfl (fun h => entW h) .nil) (op_fieldAddr rfl fl80_0 sz3) rfl ?_ | refine lxs rfl rfl rfl guard_eq (.cons (t := 57) rfl (fun h => entW h) .nil) (op_fieldCells rfl fl80_0 sz3) rfl ?_
       first | refine lxs rfl rfl rfl guard_eq (.cons (t := 58) rfl (fun h => entW h) .nil) (op_load_one rfl ag3 rfl) rfl ?_ | refine lxs rfl rfl rfl guard_eq (.cons (t := 58) rfl (fun h => entW h) .nil) (op_bload_one (m := 5) rfl rfl ag3 rfl) rfl ?_ | refine lxs rfl rfl rfl guard_eq (.cons (t := 58) rfl (fun h => entW h) .nil) (op_bload_one (m := 6) rfl rfl ag3 rfl) rfl ?_ | refine lxs rfl rfl rfl guard_eq (.cons (t := 58) rfl (fun h => entW h) .nil) (op_bload_one (m := 7) rfl rfl ag3 rfl) rfl ?_
       refine lxs rfl rfl rfl guard_eq (.cons (t := 59) rfl (fun h => entW h) .nil) (op_neq rfl rfl) rfl ?_
       refine lx (op_pick_and rfl rfl) rfl ?_
       refine lx (op_assign rfl) rfl ?_
       refine lx_end ⟨by kernel_rfl, ?_⟩
       refine pe_then_normal ?_
       refine tr_sub hC (.cons (t := 10) rfl .nil) .nil rfl ?_
       refine tr_ret ?_
       refine pe_block_ret ?_
       refine pe_then_ret ?_
       refine pe_ret1 rfl hO rfl (.tmp rfl .nil) ?_
       rw [operandF, if_neg h12, if_neg h12_2, if_neg h23, if_neg h23_2, if_neg h34, if_pos h42]
       exact ent_auto
      ·(try simp only [cq1, cq2, cq3, cq4, cq5, cq6, cq7, cq8, cq9, cq10, cq11, cq12, cq13] at h42)
       refine tr_seq ?_
       refine tr_region (fun N12 hN => ?_)
       refine lx (op_eql rfl rfl) rfl ?_
       refine lx (op_assign rfl) rfl ?_
       refine lx_end ⟨by kernel_rfl, ?_⟩
       refine pe_then_normal ?_
       refine tr_sub hC (.cons (t := 4) rfl (.cons (t := 5) rfl (.cons (t := 6) rfl (.cons (t := 7) rfl (.cons (t := 11) rfl (.cons (t := 62) rfl .nil)))))) (.cons (t := 5) rfl (.cons (t := 6) rfl (.cons (t := 7) rfl .nil))) rfl ?_
       refine tr_cond rfl (fun h62 => ?_) (fun h62 => ?_)
       ·(try simp only [cq1, cq2, cq3, cq4, cq5, cq6, cq7, cq8, cq9, cq10, cq11, cq12, cq13] at h62)
        refine tr_seq ?_
        refine tr_region (fun N13 hN => ?_)
        refine lx (op_move rfl) rfl ?_
        refine lx (op_geq rfl rfl) rfl ?_
        refine lx (op_move rfl) rfl ?_
        refine lxs rfl rfl rfl guard_eq (.cons (t := 4) rfl (fun _ => Ent.refl _) .nil) (op_move rfl) rfl ?_
        refine lxs rfl rfl rfl guard_eq (.cons (t := 5) rfl (fun _ => Ent.refl _) .nil) (op_fieldAddr rfl fl26_1 sz23) rfl ?_
        refine lxs rfl rfl rfl guard_eq (.cons (t := 68) rfl (fun h => entW h) .nil) (op_bload_one (m := 5) rfl rfl ag23 rfl) rfl ?_
        first | refine lxs rfl rfl rfl guard_eq (.cons (t := 69) rfl (fun h => entW h) .nil) (op_len rfl el23) rfl ?_ | refine lxs rfl rfl rfl guard_eq (.cons (t := 69) rfl (fun h => entW h) .nil) (op_len_row rfl el23) rfl ?_ | refine lxs rfl rfl rfl guard_eq (.cons (t := 69) rfl (fun h => entW h) .nil) (op_len_mv rfl el23) rfl ?_ | refine lxs rfl rfl rfl guard_eq (.cons (t := 69) rfl (fun h => entW h) .nil) (op_len_nil rfl el23) rfl ?_
        refine lxs rfl rfl rfl guard_eq (.cons (t := 67) rfl (fun h => entW h) (.cons (t := 70) rfl (fun h => entW h) .nil)) (op_lss rfl rfl) rfl ?_
        refine lx (op_pick_and rfl rfl) rfl ?_
        refine lx (op_assign rfl) rfl ?_
        refine lx_end ⟨by kernel_rfl, ?_⟩
        refine pe_then_normal ?_
        refine tr_sub hC (.cons (t := 10) rfl .nil) .nil rfl ?_
        refine tr_ret ?_
        refine pe_block_ret ?_
        refine pe_then_ret ?_
        refine pe_ret1 rfl hO rfl (.tmp rfl .nil) ?_
        rw [operandF, if_neg h12, if_neg h12_2, if_neg h23, if_neg h23_2, if_neg h34, if_neg h42, if_pos h62]
        exact ent_auto
       ·(try simp only [cq1, cq2, cq3, cq4, cq5, cq6, cq7, cq8, cq9, cq10, cq11, cq12, cq13] at h62)
        refine tr_seq ?_
        refine tr_region (fun N14 hN => ?_)
        refine lx (op_eql rfl rfl) rfl ?_
        refine lx (op_assign rfl) rfl ?_
        refine lx_end ⟨by kernel_rfl, ?_⟩
        refine pe_then_normal ?_
        refine tr_sub hC (.cons (t := 4) rfl (.cons (t := 5) rfl (.cons (t := 6) rfl (.cons (t := 7) rfl (.cons (t := 11) rfl (.cons (t := 73) rfl .nil)))))) (.cons (t := 5) rfl (.cons (t := 6) rfl (.cons (t := 7) rfl .nil))) rfl ?_
        refine tr_cond rfl (fun h73 => ?_) (fun h73 => ?_)
        ·(try simp only [cq1, cq2, cq3, cq4, cq5, cq6, cq7, cq8, cq9, cq10, cq11, cq12, cq13] at h73)
         refine tr_seq ?_
         refine tr_region (fun N15 hN => ?_)
         refine lx (op_move rfl) rfl ?_
         refine lx (op_geq rfl rfl) rfl ?_
         refine lx (op_move rfl) rfl ?_
         refine lxs rfl rfl rfl guard_eq (.cons (t := 4) rfl (fun _ => Ent.refl _) .nil) (op_move rfl) rfl ?_
         refine lxs rfl rfl rfl guard_eq (.cons (t := 5) rfl (fun _ => Ent.refl _) .nil) (op_fieldAddr rfl fl26_2 sz24) rfl ?_
         refine lxs rfl rfl rfl guard_eq (.cons (t := 79) rfl (fun h => entW h) .nil) (op_bload_one (m := 5) rfl rfl ag24 rfl) rfl ?_
         first | refine lxs rfl rfl rfl guard_eq (.cons (t := 80) rfl (fun h => entW h) .nil) (op_len rfl el24) rfl ?_ | refine lxs rfl rfl rfl guard_eq (.cons (t := 80) rfl (fun h => entW h) .nil) (op_len_row rfl el24) rfl ?_ | refine lxs rfl rfl rfl guard_eq (.cons (t := 80) rfl (fun h => entW h) .nil) (op_len_mv rfl el24) rfl ?_ | refine lxs rfl rfl rfl guard_eq (.cons (t := 80) rfl (fun h => entW h) .nil) (op_len_nil rfl el24) rfl ?_
         refine lxs rfl rfl rfl guard_eq (.cons (t := 78) rfl (fun h => entW h) (.cons (t := 81) rfl (fun h => entW h) .nil)) (op_lss rfl rfl) rfl ?_
         refine lx (op_pick_and rfl rfl) rfl ?_
         refine lx (op_assign rfl) rfl ?_
         refine lx_end ⟨by kernel_rfl, ?_⟩
         refine pe_then_normal ?_
         refine tr_sub hC (.cons (t := 10) rfl .nil) .nil rfl ?_
         refine tr_ret ?_
         refine pe_block_ret ?_
         refine pe_then_ret ?_
         refine pe_ret1 rfl hO rfl (.tmp rfl .nil) ?_
         rw [operandF, if_neg h12, if_neg h12_2, if_neg h23, if_neg h23_2, if_neg h34, if_neg h42, if_neg h62, if_pos h73]
         exact ent_auto
        ·(try simp only [cq1, cq2, cq3, cq4, cq5, cq6, cq7, cq8, cq9, cq10, cq11, cq12, cq13] at h73)
         refine tr_seq ?_
         refine tr_region (fun N16 hN => ?_)
         refine lx (op_eql rfl rfl) rfl ?_
         refine lx (op_assign rfl) rfl ?_
         refine lx_end ⟨by kernel_rfl, ?_⟩
         refine pe_then_normal ?_
         refine tr_sub hC (.cons (t := 4) rfl (.cons (t := 5) rfl (.cons (t := 6) rfl (.cons (t := 7) rfl (.cons (t := 11) rfl (.cons (t := 84) rfl .nil)))))) (.cons (t := 5) rfl (.cons (t := 6) rfl (.cons (t := 7) rfl .nil))) rfl ?_
         refine tr_cond rfl (fun h84 => ?_) (fun h84 => ?_)
         ·(try simp only [cq1, cq2, cq3, cq4, cq5, cq6, cq7, cq8, cq9, cq10, cq11, cq12, cq13] at h84)
          refine tr_seq ?_
          refine tr_drawn mixed (fun N17 hN => ?_)
          refine lx (op_move rfl) rfl ?_
          refine lx (op_geq rfl rfl) rfl ?_
          refine lx (op_move rfl) rfl ?_
          refine lxs rfl rfl rfl guard_eq (.cons (t := 4) rfl (fun _ => Ent.refl _) .nil) (op_move rfl) rfl ?_
          refine lxs rfl rfl rfl guard_eq (.cons (t := 5) rfl (fun _ => Ent.refl _) .nil) (op_fieldAddr rfl fl26_0 sz22) rfl ?_
          refine lxs rfl rfl rfl guard_eq (.cons (t := 90) rfl (fun h => entW h) .nil) (op_bload_one (m := 5) rfl rfl ag22 rfl) rfl ?_
          first | refine lxs rfl rfl rfl guard_eq (.cons (t := 91) rfl (fun h => entW h) .nil) (op_len rfl el22) rfl ?_ | refine lxs rfl rfl rfl guard_eq (.cons (t := 91) rfl (fun h => entW h) .nil) (op_len_row rfl el22) rfl ?_ | refine lxs rfl rfl rfl guard_eq (.cons (t := 91) rfl (fun h => entW h) .nil) (op_len_mv rfl el22) rfl ?_ | refine lxs rfl rfl rfl guard_eq (.cons (t := 91) rfl (fun h => entW h) .nil) (op_len_nil rfl el22) rfl ?_
          refine lxs rfl rfl rfl guard_eq (.cons (t := 89) rfl (fun h => entW h) (.cons (t := 92) rfl (fun h => entW h) .nil)) (op_lss rfl rfl) rfl ?_
          refine lx (op_pick_and rfl rfl) rfl ?_
          refine lx (op_move rfl) rfl ?_
          refine lxs rfl rfl rfl guard_eq (.cons (t := 7) rfl (fun _ => Ent.refl _) .nil) (op_fieldAddr rfl fl80_3 sz3) rfl ?_
          refine lxs rfl rfl rfl guard_eq (.cons (t := 96) rfl (fun h => entW h) .nil) (op_bload_one (m := 7) rfl rfl ag3 rfl) rfl ?_
          refine lxs rfl rfl rfl guard_eq (.cons (t := 97) rfl (fun h => entW h) .nil) (op_geq rfl rfl) rfl ?_
          refine lx (op_pick_and rfl rfl) rfl ?_
          refine lx (op_move rfl) rfl ?_
          refine lxs rfl rfl rfl guard_eq (.cons (t := 7) rfl (fun _ => Ent.refl _) .nil) (op_fieldAddr rfl fl80_3 sz3) rfl ?_
          refine lxs rfl rfl rfl guard_eq (.cons (t := 101) rfl (fun h => entW h) .nil) (op_bload_one (m := 7) rfl rfl ag3 rfl) rfl ?_
          refine lxs rfl rfl rfl guard_eq (.cons (t := 6) rfl (fun _ => Ent.refl _) .nil) (op_fieldAddr rfl fl66_2 sz3) rfl ?_
          refine lxs rfl rfl rfl guard_eq (.cons (t := 103) rfl (fun h => entW h) .nil) (op_bload_one (m := 6) rfl rfl ag3 rfl) rfl ?_
          refine lxs rfl rfl rfl guard_eq (.cons (t := 5) rfl (fun _ => Ent.refl _) .nil) (op_fieldAddr rfl fl26_0 sz22) rfl ?_
          refine lxs rfl rfl rfl guard_eq (.cons (t := 105) rfl (fun h => entW h) .nil) (op_bload_one (m := 5) rfl rfl ag22 rfl) rfl ?_
          refine lxs rfl rfl rfl guard_eq (.cons (t := 4) rfl (fun _ => Ent.refl _) .nil) (op_move rfl) rfl ?_
          refine lxsc (rd := [(106, slP Fu.ps 4 p.funcs), (107, eqP (.int .i64 x))]) (φ := cellsP (pfn p x).ps) rfl rfl rfl guard_eq (.cons (t := 106) rfl (fun h => entW h) (.cons (t := 107) rfl (fun h => entW h) .nil)) (fun hgd => ?_) rfl rfl ?_
          ·have hq0 : 0 ≤ x ∧ x < (p.funcs.length : Int) := by
            simp at hgd
            omega
           exact op_index rfl rfl el22 sz66 (by omega : x = ((x.toNat : Nat) : Int)) (pfn_at (by omega) (by omega))
          first | refine lxs rfl rfl rfl guard_eq (.cons (t := 108) rfl (fun h => entW h) .nil) (op_fieldAddr rfl fl66_1 sz3) rfl ?_ | refine lxs rfl rfl rfl guard_eq (.cons (t := 108) rfl (fun h => entW h) .nil) (op_fieldCells rfl fl66_1 sz3) rfl ?_
          first | refine lxs rfl rfl rfl guard_eq (.cons (t := 109) rfl (fun h => entW h) .nil) (op_load_one rfl ag3 rfl) rfl ?_ | refine lxs rfl rfl rfl guard_eq (.cons (t := 109) rfl (fun h => entW h) .nil) (op_bload_one (m := 5) rfl rfl ag3 rfl) rfl ?_ | refine lxs rfl rfl rfl guard_eq (.cons (t := 109) rfl (fun h => entW h) .nil) (op_bload_one (m := 6) rfl rfl ag3 rfl) rfl ?_ | refine lxs rfl rfl rfl guard_eq (.cons (t := 109) rfl (fun h => entW h) .nil) (op_bload_one (m := 7) rfl rfl ag3 rfl) rfl ?_
          refine lxs rfl rfl rfl guard_eq (.cons (t := 104) rfl (fun h => entW h) (.cons (t := 110) rfl (fun h => entW h) .nil)) (op_sub_w rfl rfl) rfl ?_
          refine lxs rfl rfl rfl guard_eq (.cons (t := 102) rfl (fun h => entW h) (.cons (t := 111) rfl (fun h => entW h) .nil)) (op_leq rfl rfl) rfl ?_
          refine lx (op_pick_and rfl rfl) rfl ?_
          refine lx (op_assign rfl) rfl ?_
          refine lx_end ⟨by kernel_rfl, ?_⟩
          refine pe_then_normal ?_
          refine tr_sub hC (.cons (t := 10) rfl .nil) .nil rfl ?_
          refine tr_ret ?_
          refine pe_block_ret ?_
          refine pe_then_ret ?_
          refine pe_ret1 rfl hO rfl (.tmp rfl .nil) ?_
          rw [operandF, if_neg h12, if_neg h12_2, if_neg h23, if_neg h23_2, if_neg h34, if_neg h42, if_neg h62, if_neg h73, if_pos h84]
          exact ent_auto
         ·(try simp only [cq1, cq2, cq3, cq4, cq5, cq6, cq7, cq8, cq9, cq10, cq11, cq12, cq13] at h84)
          refine tr_seq ?_
          refine tr_region (fun N18 hN => ?_)
          refine lx (op_eql rfl rfl) rfl ?_
          refine lx (op_assign rfl) rfl ?_
          refine lx_end ⟨by kernel_rfl, ?_⟩
          refine pe_then_normal ?_
          refine tr_sub hC (.cons (t := 4) rfl (.cons (t := 5) rfl (.cons (t := 6) rfl (.cons (t := 7) rfl (.cons (t := 11) rfl (.cons (t := 114) rfl .nil)))))) (.cons (t := 5) rfl (.cons (t := 6) rfl (.cons (t := 7) rfl .nil))) rfl ?_
          refine tr_cond rfl (fun h114 => ?_) (fun h114 => ?_)
          ·(try simp only [cq1, cq2, cq3, cq4, cq5, cq6, cq7, cq8, cq9, cq10, cq11, cq12, cq13] at h114)
           refine tr_seq ?_
           refine tr_region (fun N19 hN => ?_)
           refine lx (op_move rfl) rfl ?_
           refine lx (op_geq rfl rfl) rfl ?_
           refine lx (op_move rfl) rfl ?_
           refine lxs rfl rfl rfl guard_eq (.cons (t := 4) rfl (fun _ => Ent.refl _) .nil) (op_move rfl) rfl ?_
           refine lxs rfl rfl rfl guard_eq (.cons (t := 5) rfl (fun _ => Ent.refl _) .nil) (op_fieldAddr rfl fl26_0 sz22) rfl ?_
           refine lxs rfl rfl rfl guard_eq (.cons (t := 120) rfl (fun h => entW h) .nil) (op_bload_one (m := 5) rfl rfl ag22 rfl) rfl ?_
           first | refine lxs rfl rfl rfl guard_eq (.cons (t := 121) rfl (fun h => entW h) .nil) (op_len rfl el22) rfl ?_ | refine lxs rfl rfl rfl guard_eq (.cons (t := 121) rfl (fun h => entW h) .nil) (op_len_row rfl el22) rfl ?_ | refine lxs rfl rfl rfl guard_eq (.cons (t := 121) rfl (fun h => entW h) .nil) (op_len_mv rfl el22) rfl ?_ | refine lxs rfl rfl rfl guard_eq (.cons (t := 121) rfl (fun h => entW h) .nil) (op_len_nil rfl el22) rfl ?_
           refine lxs rfl rfl rfl guard_eq (.cons (t := 119) rfl (fun h => entW h) (.cons (t := 122) rfl (fun h => entW h) .nil)) (op_lss rfl rfl) rfl ?_
           refine lx (op_pick_and rfl rfl) rfl ?_
           refine lx (op_move rfl) rfl ?_
           refine lxs rfl rfl rfl guard_eq (.cons (t := 5) rfl (fun _ => Ent.refl _) .nil) (op_fieldAddr rfl fl26_0 sz22) rfl ?_
           refine lxs rfl rfl rfl guard_eq (.cons (t := 126) rfl (fun h => entW h) .nil) (op_bload_one (m := 5) rfl rfl ag22 rfl) rfl ?_
           refine lxs rfl rfl rfl guard_eq (.cons (t := 4) rfl (fun _ => Ent.refl _) .nil) (op_move rfl) rfl ?_
           refine lxsc (rd := [(127, slP Fu.ps 4 p.funcs), (128, eqP (.int .i64 x))]) (φ := cellsP (pfn p x).ps) rfl rfl rfl guard_eq (.cons (t := 127) rfl (fun h => entW h) (.cons (t := 128) rfl (fun h => entW h) .nil)) (fun hgd => ?_) rfl rfl ?_
           ·have hq0 : 0 ≤ x ∧ x < (p.funcs.length : Int) := by
             simp at hgd
             omega
            exact op_index rfl rfl el22 sz66 (by omega : x = ((x.toNat : Nat) : Int)) (pfn_at (by omega) (by omega))
           first | refine lxs rfl rfl rfl guard_eq (.cons (t := 129) rfl (fun h => entW h) .nil) (op_fieldAddr rfl fl66_1 sz3) rfl ?_ | refine lxs rfl rfl rfl guard_eq (.cons (t := 129) rfl (fun h => entW h) .nil) (op_fieldCells rfl fl66_1 sz3) rfl ?_
           first | refine lxs rfl rfl rfl guard_eq (.cons (t := 130) rfl (fun h => entW h) .nil) (op_load_one rfl ag3 rfl) rfl ?_ | refine lxs rfl rfl rfl guard_eq (.cons (t := 130) rfl (fun h => entW h) .nil) (op_bload_one (m := 5) rfl rfl ag3 rfl) rfl ?_ | refine lxs rfl rfl rfl guard_eq (.cons (t := 130) rfl (fun h => entW h) .nil) (op_bload_one (m := 6) rfl rfl ag3 rfl) rfl ?_ | refine lxs rfl rfl rfl guard_eq (.cons (t := 130) rfl (fun h => entW h) .nil) (op_bload_one (m := 7) rfl rfl ag3 rfl) rfl ?_
           refine lxs rfl rfl rfl guard_eq (.cons (t := 131) rfl (fun h => entW h) .nil) (op_eql rfl rfl) rfl ?_
           refine lx (op_pick_and rfl rfl) rfl ?_
           refine lx (op_assign rfl) rfl ?_
           refine lx_end ⟨by kernel_rfl, ?_⟩
           refine pe_then_normal ?_
           refine tr_sub hC (.cons (t := 10) rfl .nil) .nil rfl ?_
           refine tr_ret ?_
           refine pe_block_ret ?_
           refine pe_then_ret ?_
           refine pe_ret1 rfl hO rfl (.tmp rfl .nil) ?_
           rw [operandF, if_neg h12, if_neg h12_2, if_neg h23, if_neg h23_2, if_neg h34, if_neg h42, if_neg h62, if_neg h73, if_neg h84, if_pos h114]
           exact ent_auto
          ·(try simp only [cq1, cq2, cq3, cq4, cq5, cq6, cq7, cq8, cq9, cq10, cq11, cq12, cq13] at h114)
           refine tr_seq ?_
           refine tr_region (fun N20 hN => ?_)
           refine lx (op_eql rfl rfl) rfl ?_
           refine lx (op_assign rfl) rfl ?_
           refine lx_end ⟨by kernel_rfl, ?_⟩
           refine pe_then_normal ?_
           refine tr_sub hC (.cons (t := 4) rfl (.cons (t := 6) rfl (.cons (t := 7) rfl (.cons (t := 11) rfl (.cons (t := 134) rfl .nil))))) (.cons (t := 6) rfl (.cons (t := 7) rfl .nil)) rfl ?_
           refine tr_cond rfl (fun h134 => ?_) (fun h134 => ?_)
           ·(try simp only [cq1, cq2, cq3, cq4, cq5, cq6, cq7, cq8, cq9, cq10, cq11, cq12, cq13] at h134)
            refine tr_seq ?_
            refine tr_region (fun N21 hN => ?_)
            refine lx (op_move rfl) rfl ?_
            refine lx (op_geq rfl rfl) rfl ?_
            refine lx (op_assign rfl) rfl ?_
            refine lx_end ⟨by kernel_rfl, ?_⟩
            refine pe_then_normal ?_
            refine tr_sub hC (.cons (t := 10) rfl .nil) .nil rfl ?_
            refine tr_ret ?_
            refine pe_block_ret ?_
            refine pe_then_ret ?_
            refine pe_ret1 rfl hO rfl (.tmp rfl .nil) ?_
            rw [operandF, if_neg h12, if_neg h12_2, if_neg h23, if_neg h23_2, if_neg h34, if_neg h42, if_neg h62, if_neg h73, if_neg h84, if_neg h114, if_pos h134]
            exact ent_auto
           ·(try simp only [cq1, cq2, cq3, cq4, cq5, cq6, cq7, cq8, cq9, cq10, cq11, cq12, cq13] at h134)
            refine tr_seq ?_
            refine tr_region (fun N22 hN => ?_)
            refine lx (op_eql rfl rfl) rfl ?_
            refine lx (op_assign rfl) rfl ?_
            refine lx_end ⟨by kernel_rfl, ?_⟩
            refine pe_then_normal ?_
            refine tr_sub hC (.cons (t := 4) rfl (.cons (t := 6) rfl (.cons (t := 7) rfl (.cons (t := 11) rfl (.cons (t := 138) rfl .nil))))) (.cons (t := 6) rfl (.cons (t := 7) rfl .nil)) rfl ?_
            refine tr_cond rfl (fun h138 => ?_) (fun h138 => ?_)
            ·(try simp only [cq1, cq2, cq3, cq4, cq5, cq6, cq7, cq8, cq9, cq10, cq11, cq12, cq13] at h138)
             refine tr_seq ?_
             refine tr_region (fun N23 hN => ?_)
             refine lx (op_move rfl) rfl ?_
             refine lx (op_geq rfl rfl) rfl ?_
             refine lx (op_move rfl) rfl ?_
             refine lxs rfl rfl rfl guard_eq (.cons (t := 4) rfl (fun _ => Ent.refl _) .nil) (op_move rfl) rfl ?_
             refine lxs rfl rfl rfl guard_eq (.cons (t := 143) rfl (fun h => entW h) .nil) (op_leq rfl rfl) rfl ?_
             refine lx (op_pick_and rfl rfl) rfl ?_
             refine lx (op_assign rfl) rfl ?_
             refine lx_end ⟨by kernel_rfl, ?_⟩
             refine pe_then_normal ?_
             refine tr_sub hC (.cons (t := 10) rfl .nil) .nil rfl ?_
             refine tr_ret ?_
             refine pe_block_ret ?_
             refine pe_then_ret ?_
             refine pe_ret1 rfl hO rfl (.tmp rfl .nil) ?_
             rw [operandF, if_neg h12, if_neg h12_2, if_neg h23, if_neg h23_2, if_neg h34, if_neg h42, if_neg h62, if_neg h73, if_neg h84, if_neg h114, if_neg h134, if_pos h138]
             exact ent_auto
            ·(try simp only [cq1, cq2, cq3, cq4, cq5, cq6, cq7, cq8, cq9, cq10, cq11, cq12, cq13] at h138)
             refine tr_seq ?_
             refine tr_region (fun N24 hN => ?_)
             refine lx (op_eql rfl rfl) rfl ?_
             refine lx (op_assign rfl) rfl ?_
             refine lx_end ⟨by kernel_rfl, ?_⟩
             refine pe_then_normal ?_
             refine tr_sub hC (.cons (t := 4) rfl (.cons (t := 6) rfl (.cons (t := 7) rfl (.cons (t := 11) rfl (.cons (t := 146) rfl .nil))))) (.cons (t := 6) rfl (.cons (t := 7) rfl .nil)) rfl ?_
             refine tr_cond rfl (fun h146 => ?_) (fun h146 => ?_)
             ·(try simp only [cq1, cq2, cq3, cq4, cq5, cq6, cq7, cq8, cq9, cq10, cq11, cq12, cq13] at h146)
              refine tr_seq ?_
              refine tr_region (fun N25 hN => ?_)
              refine lx (op_move rfl) rfl ?_
              refine lx (op_eql rfl rfl) rfl ?_
              refine lx (op_move rfl) rfl ?_
              refine lxs rfl rfl rfl guard_eq (.cons (t := 4) rfl (fun _ => Ent.refl _) .nil) (op_move rfl) rfl ?_
              refine lxs rfl rfl rfl guard_eq (.cons (t := 151) rfl (fun h => entW h) .nil) (op_eql rfl rfl) rfl ?_
              refine lx (op_pick_or rfl rfl) rfl ?_
              refine lx (op_assign rfl) rfl ?_
              refine lx_end ⟨by kernel_rfl, ?_⟩
              refine pe_then_normal ?_
              refine tr_sub hC (.cons (t := 10) rfl .nil) .nil rfl ?_
              refine tr_ret ?_
              refine pe_block_ret ?_
              refine pe_then_ret ?_
              refine pe_ret1 rfl hO rfl (.tmp rfl .nil) ?_
              rw [operandF, if_neg h12, if_neg h12_2, if_neg h23, if_neg h23_2, if_neg h34, if_neg h42, if_neg h62, if_neg h73, if_neg h84, if_neg h114, if_neg h134, if_neg h138, if_pos h146]
              exact ent_auto
             ·(try simp only [cq1, cq2, cq3, cq4, cq5, cq6, cq7, cq8, cq9, cq10, cq11, cq12, cq13] at h146)
              refine tr_seq ?_
              refine tr_region (fun N26 hN => ?_)
              refine lx (op_eql rfl rfl) rfl ?_
              refine lx (op_assign rfl) rfl ?_
              refine lx_end ⟨by kernel_rfl, ?_⟩
              refine pe_then_normal ?_
              refine tr_sub hC (.cons (t := 4) rfl (.cons (t := 6) rfl (.cons (t := 7) rfl (.cons (t := 11) rfl (.cons (t := 154) rfl .nil))))) (.cons (t := 6) rfl (.cons (t := 7) rfl .nil)) rfl ?_
              refine tr_cond rfl (fun h154 => ?_) (fun h154 => ?_)
              ·(try simp only [cq1, cq2, cq3, cq4, cq5, cq6, cq7, cq8, cq9, cq10, cq11, cq12, cq13] at h154)
               refine tr_seq ?_
               refine tr_region (fun N27 hN => ?_)
               refine lx (op_move rfl) rfl ?_
               refine lx (op_geq rfl rfl) rfl ?_
               refine lx (op_move rfl) rfl ?_
               refine lxs rfl rfl rfl guard_eq (.cons (t := 4) rfl (fun _ => Ent.refl _) .nil) (op_move rfl) rfl ?_
               refine lxs rfl rfl rfl guard_eq (.cons (t := 6) rfl (fun _ => Ent.refl _) .nil) (op_fieldAddr rfl fl66_2 sz3) rfl ?_
               refine lxs rfl rfl rfl guard_eq (.cons (t := 160) rfl (fun h => entW h) .nil) (op_bload_one (m := 6) rfl rfl ag3 rfl) rfl ?_
               refine lxs rfl rfl rfl guard_eq (.cons (t := 159) rfl (fun h => entW h) (.cons (t := 161) rfl (fun h => entW h) .nil)) (op_lss rfl rfl) rfl ?_
               refine lx (op_pick_and rfl rfl) rfl ?_
               refine lx (op_move rfl) rfl ?_
               refine lxs rfl rfl rfl guard_eq (.cons (t := 7) rfl (fun _ => Ent.refl _) .nil) (op_fieldAddr rfl fl80_2 sz3) rfl ?_
               refine lxs rfl rfl rfl guard_eq (.cons (t := 165) rfl (fun h => entW h) .nil) (op_bload_one (m := 7) rfl rfl ag3 rfl) rfl ?_
               refine lxs rfl rfl rfl guard_eq (.cons (t := 166) rfl (fun h => entW h) .nil) (op_eql rfl rfl) rfl ?_
               refine lxs rfl rfl rfl guard_eq (.cons (t := 167) rfl (fun h => entW h) .nil) (op_move rfl) rfl ?_
               refine lxs rfl rfl rfl guard_w (.cons (t := 4) rfl (fun _ => Ent.refl _) .nil) (op_move rfl) rfl ?_
               refine lxs rfl rfl rfl guard_w (.cons (t := 169) rfl (fun h => entW h) .nil) (op_geq rfl rfl) rfl ?_
               refine lxs rfl rfl rfl guard_eq (.cons (t := 168) rfl (fun h => entW h) (.cons (t := 170) rfl (fun h => entS h) .nil)) (op_pick_or rfl rfl) rfl ?_
               refine lx (op_pick_and rfl rfl) rfl ?_
               refine lx (op_assign rfl) rfl ?_
               refine lx_end ⟨by kernel_rfl, ?_⟩
               refine pe_then_normal ?_
               refine tr_sub hC (.cons (t := 10) rfl .nil) .nil rfl ?_
               refine tr_ret ?_
               refine pe_block_ret ?_
               refine pe_then_ret ?_
               refine pe_ret1 rfl hO rfl (.tmp rfl .nil) ?_
               rw [operandF, if_neg h12, if_neg h12_2, if_neg h23, if_neg h23_2, if_neg h34, if_neg h42, if_neg h62, if_neg h73, if_neg h84, if_neg h114, if_neg h134, if_neg h138, if_neg h146, if_pos h154]
               exact ent_auto
              ·(try simp only [cq1, cq2, cq3, cq4, cq5, cq6, cq7, cq8, cq9, cq10, cq11, cq12, cq13] at h154)
               refine tr_seq ?_
               refine tr_region (fun N28 hN => ?_)
               refine lx (op_eql rfl rfl) rfl ?_
               refine lx (op_assign rfl) rfl ?_
               refine lx_end ⟨by kernel_rfl, ?_⟩
               refine pe_then_normal ?_
               refine tr_sub hC (.cons (t := 4) rfl (.cons (t := 173) rfl .nil)) .nil rfl ?_
               refine tr_cond rfl (fun h173 => ?_) (fun h173 => ?_)
               ·(try simp only [cq1, cq2, cq3, cq4, cq5, cq6, cq7, cq8, cq9, cq10, cq11, cq12, cq13] at h173)
                refine tr_seq ?_
                refine tr_region (fun N29 hN => ?_)
                refine lx (op_move rfl) rfl ?_
                refine lx (op_eql rfl rfl) rfl ?_
                refine lx (op_assign rfl) rfl ?_
                refine lx_end ⟨by kernel_rfl, ?_⟩
                refine pe_then_normal ?_
                refine tr_sub hC (.cons (t := 10) rfl .nil) .nil rfl ?_
                refine tr_ret ?_
                refine pe_block_ret ?_
                refine pe_then_ret ?_
                refine pe_ret1 rfl hO rfl (.tmp rfl .nil) ?_
                rw [operandF, if_neg h12, if_neg h12_2, if_neg h23, if_neg h23_2, if_neg h34, if_neg h42, if_neg h62, if_neg h73, if_neg h84, if_neg h114, if_neg h134, if_neg h138, if_neg h146, if_neg h154, if_pos h173]
                exact ent_auto
               ·(try simp only [cq1, cq2, cq3, cq4, cq5, cq6, cq7, cq8, cq9, cq10, cq11, cq12, cq13] at h173)
                refine tr_skip ?_
                refine pe_block_normal ?_
                refine pe_then_normal ?_
                refine tr_sub hC .nil .nil rfl ?_
                refine tr_seq ?_
                refine tr_region (fun N30 hN => ?_)
                refine lx (op_assign rfl) rfl ?_
                refine lx_end ⟨by kernel_rfl, ?_⟩
                refine pe_then_normal ?_
                refine tr_sub hC (.cons (t := 10) rfl .nil) .nil rfl ?_
                refine tr_ret ?_
                refine pe_ret1 rfl hO rfl (.tmp rfl .nil) ?_
                rw [operandF, if_neg h12, if_neg h12_2, if_neg h23, if_neg h23_2, if_neg h34, if_neg h42, if_neg h62, if_neg h73, if_neg h84, if_neg h114, if_neg h134, if_neg h138, if_neg h146, if_neg h154, if_neg h173]
                exact ent_auto
def instrF (p : Pg) (f : Fu) (i : In) : Bool := instrG (rolesF i.op) p f i
theorem instr_ok (p : Pg) (f : Fu) (i : In) : FnP Try.prog 43 [aggP p.ps, aggP f.ps, aggP i.ps] (eqP (.bool (instrF p f i))) := by
 refine fn_pure' Try.func43 rfl Try.ntmps43 rfl ?_
 intro σ0 M ex Rf R hC hO
 simp only [frameOf, tokOf]
 refine tr_seq ?_
 refine tr_region (fun N0 hN => ?_)
 refine lxn (op_box (m := 3) (k := 3) rfl (.agg rfl) (by first | exact hC.low _ (by decide) | rfl)) rfl ?_
 refine lxn (op_box (m := 4) (k := 4) rfl (.agg rfl) (by first | exact hC.low _ (by decide) | rfl)) rfl ?_
 refine lxn (op_box (m := 5) (k := 5) rfl (.agg rfl) (by first | exact hC.low _ (by decide) | rfl)) rfl ?_
 refine lx (op_assign rfl) rfl ?_
 refine lx_end ⟨by kernel_rfl, ?_⟩
 refine pe_then_normal ?_
 refine tr_sub hC (.cons (t := 3) rfl (.cons (t := 4) rfl (.cons (t := 5) rfl .nil))) (.cons (t := 3) rfl (.cons (t := 4) rfl (.cons (t := 5) rfl .nil))) rfl ?_
 refine tr_seq ?_
 refine tr_region (fun N1 hN => ?_)
 refine lx (op_fieldAddr rfl fl80_0 sz3) rfl ?_
 refine lx (op_bload_one (m := 5) rfl rfl ag3 rfl) rfl ?_
 first | refine lx (op_call (l := [(Go.Operand.tmp 9)]) (Roles_ok i.op) (.cons rfl .nil) fn48) rfl ?_ | refine lx (op_call (l := [(Go.Operand.tmp 9)]) (Roles_ok i.op) (.ent rfl (by exact ent_auto) .nil) fn48) rfl ?_
 refine lx (op_assign rfl) rfl ?_
 refine lx_end ⟨by kernel_rfl, ?_⟩
 refine pe_then_normal ?_
 refine tr_sub hC (.cons (t := 3) rfl (.cons (t := 4) rfl (.cons (t := 5) rfl (.cons (t := 7) rfl .nil)))) (.cons (t := 3) rfl (.cons (t := 4) rfl (.cons (t := 5) rfl .nil))) rfl ?_
 refine tr_seq ?_
 refine tr_seq ?_
 refine tr_drawn mixed (fun N2 hN => ?_)
 refine lx (op_move rfl) rfl ?_
 refine lx (op_eql_str st9 rfl rfl) rfl ?_
 refine lx (op_move rfl) rfl ?_
 refine lxs rfl rfl rfl guard_eq (.cons (t := 5) rfl (fun _ => Ent.refl _) .nil) (op_fieldAddr rfl fl80_4 sz3) rfl ?_
 refine lxs rfl rfl rfl guard_eq (.cons (t := 14) rfl (fun h => entW h) .nil) (op_bload_one (m := 5) rfl rfl ag3 rfl) rfl ?_
 refine lxs rfl rfl rfl guard_eq (.cons (t := 15) rfl (fun h => entW h) .nil) (op_lss rfl rfl) rfl ?_
 refine lx (op_pick_or rfl rfl) rfl ?_
 refine lx (op_move rfl) rfl ?_
 refine lxs rfl rfl rfl guard_eq (.cons (t := 3) rfl (fun _ => Ent.refl _) .nil) (op_bload (m := 3) rfl rfl ag26 sz26) rfl ?_
 refine lxs rfl rfl rfl guard_eq (.cons (t := 4) rfl (fun _ => Ent.refl _) .nil) (op_bload (m := 4) rfl rfl ag66 sz66) rfl ?_
 refine lxs rfl rfl rfl guard_eq (.cons (t := 5) rfl (fun _ => Ent.refl _) .nil) (op_bload (m := 5) rfl rfl ag80 sz80) rfl ?_
 refine lxs rfl rfl rfl guard_eq (.cons (t := 7) rfl (fun _ => Ent.refl _) .nil) (op_move rfl) rfl ?_
 refine lxsc (rd := [(22, eqP (.string (rolesF i.op)))]) (φ := eqP (.int .u8 ((roleAt (rolesF i.op) 0).toNat : Int))) rfl rfl rfl guard_eq (.cons (t := 22) rfl (fun h => entW h) .nil) (fun hgd => ?_) rfl rfl ?_
 ·have h3 : 3 ≤ (rolesF i.op).size := roles_sz (by
   cases e : ((rolesF i.op).toList == es.toList) with
   | false => rfl
   | true => rw [e] at hgd; simp at hgd)
  exact op_index_str rfl rfl (show (0 : Int) = ((0 : Nat) : Int) from rfl) (roleAt_eq (by omega)) st9
 refine lxs rfl rfl rfl guard_eq (.cons (t := 5) rfl (fun _ => Ent.refl _) .nil) (op_fieldAddr rfl fl80_1 sz3) rfl ?_
 refine lxs rfl rfl rfl guard_eq (.cons (t := 24) rfl (fun h => entW h) .nil) (op_bload_one (m := 5) rfl rfl ag3 rfl) rfl ?_
 first | refine lxs rfl rfl rfl guard_eq (.cons (t := 19) rfl (fun h => entW h) (.cons (t := 20) rfl (fun h => entW h) (.cons (t := 21) rfl (fun h => entW h) (.cons (t := 23) rfl (fun h => entW h) (.cons (t := 25) rfl (fun h => entW h) .nil))))) (op_call (l := [(Go.Operand.tmp 19), (Go.Operand.tmp 20), (Go.Operand.tmp 21), (Go.Operand.tmp 23), (Go.Operand.tmp 25)]) (operand_ok p f i ((roleAt (rolesF i.op) 0).toNat : Int) i.a) (.cons rfl (.cons rfl (.cons rfl (.cons rfl (.cons rfl .nil))))) fn49) rfl ?_ | refine lxs rfl rfl rfl guard_eq (.cons (t := 19) rfl (fun h => entW h) (.cons (t := 20) rfl (fun h => entW h) (.cons (t := 21) rfl (fun h => entW h) (.cons (t := 23) rfl (fun h => entW h) (.cons (t := 25) rfl (fun h => entW h) .nil))))) (op_call (l := [(Go.Operand.tmp 19), (Go.Operand.tmp 20), (Go.Operand.tmp 21), (Go.Operand.tmp 23), (Go.Operand.tmp 25)]) (operand_ok p f i ((roleAt (rolesF i.op) 0).toNat : Int) i.a) (.ent rfl (by exact ent_auto) (.ent rfl (by exact ent_auto) (.ent rfl (by exact ent_auto) (.ent rfl (by exact ent_auto) (.ent rfl (by exact ent_auto) .nil))))) fn49) rfl ?_
 first | refine lxs rfl rfl rfl guard_eq (.cons (t := 26) rfl (fun h => entW h) .nil) (op_not rfl) rfl ?_ | refine lxs rfl rfl rfl guard_eq (.cons (t := 26) rfl (fun h => entW h) .nil) (op_not_b rfl) rfl ?_
 refine lx (op_pick_or rfl rfl) rfl ?_
 refine lx (op_move rfl) rfl ?_
 refine lxs rfl rfl rfl guard_eq (.cons (t := 3) rfl (fun _ => Ent.refl _) .nil) (op_bload (m := 3) rfl rfl ag26 sz26) rfl ?_
 refine lxs rfl rfl rfl guard_eq (.cons (t := 4) rfl (fun _ => Ent.refl _) .nil) (op_bload (m := 4) rfl rfl ag66 sz66) rfl ?_
 refine lxs rfl rfl rfl guard_eq (.cons (t := 5) rfl (fun _ => Ent.refl _) .nil) (op_bload (m := 5) rfl rfl ag80 sz80) rfl ?_
 refine lxs rfl rfl rfl guard_eq (.cons (t := 7) rfl (fun _ => Ent.refl _) .nil) (op_move rfl) rfl ?_
 refine lxsc (rd := [(33, eqP (.string (rolesF i.op)))]) (φ := eqP (.int .u8 ((roleAt (rolesF i.op) 1).toNat : Int))) rfl rfl rfl guard_eq (.cons (t := 33) rfl (fun h => entW h) .nil) (fun hgd => ?_) rfl rfl ?_
 ·have h3 : 3 ≤ (rolesF i.op).size := roles_sz (by
   cases e : ((rolesF i.op).toList == es.toList) with
   | false => rfl
   | true => rw [e] at hgd; simp at hgd)
  exact op_index_str rfl rfl (show (1 : Int) = ((1 : Nat) : Int) from rfl) (roleAt_eq (by omega)) st9
 refine lxs rfl rfl rfl guard_eq (.cons (t := 5) rfl (fun _ => Ent.refl _) .nil) (op_fieldAddr rfl fl80_2 sz3) rfl ?_
 refine lxs rfl rfl rfl guard_eq (.cons (t := 35) rfl (fun h => entW h) .nil) (op_bload_one (m := 5) rfl rfl ag3 rfl) rfl ?_
 first | refine lxs rfl rfl rfl guard_eq (.cons (t := 30) rfl (fun h => entW h) (.cons (t := 31) rfl (fun h => entW h) (.cons (t := 32) rfl (fun h => entW h) (.cons (t := 34) rfl (fun h => entW h) (.cons (t := 36) rfl (fun h => entW h) .nil))))) (op_call (l := [(Go.Operand.tmp 30), (Go.Operand.tmp 31), (Go.Operand.tmp 32), (Go.Operand.tmp 34), (Go.Operand.tmp 36)]) (operand_ok p f i ((roleAt (rolesF i.op) 1).toNat : Int) i.b) (.cons rfl (.cons rfl (.cons rfl (.cons rfl (.cons rfl .nil))))) fn49) rfl ?_ | refine lxs rfl rfl rfl guard_eq (.cons (t := 30) rfl (fun h => entW h) (.cons (t := 31) rfl (fun h => entW h) (.cons (t := 32) rfl (fun h => entW h) (.cons (t := 34) rfl (fun h => entW h) (.cons (t := 36) rfl (fun h => entW h) .nil))))) (op_call (l := [(Go.Operand.tmp 30), (Go.Operand.tmp 31), (Go.Operand.tmp 32), (Go.Operand.tmp 34), (Go.Operand.tmp 36)]) (operand_ok p f i ((roleAt (rolesF i.op) 1).toNat : Int) i.b) (.ent rfl (by exact ent_auto) (.ent rfl (by exact ent_auto) (.ent rfl (by exact ent_auto) (.ent rfl (by exact ent_auto) (.ent rfl (by exact ent_auto) .nil))))) fn49) rfl ?_
 first | refine lxs rfl rfl rfl guard_eq (.cons (t := 37) rfl (fun h => entW h) .nil) (op_not rfl) rfl ?_ | refine lxs rfl rfl rfl guard_eq (.cons (t := 37) rfl (fun h => entW h) .nil) (op_not_b rfl) rfl ?_
 refine lx (op_pick_or rfl rfl) rfl ?_
 refine lx (op_move rfl) rfl ?_
 refine lxs rfl rfl rfl guard_eq (.cons (t := 3) rfl (fun _ => Ent.refl _) .nil) (op_bload (m := 3) rfl rfl ag26 sz26) rfl ?_
 refine lxs rfl rfl rfl guard_eq (.cons (t := 4) rfl (fun _ => Ent.refl _) .nil) (op_bload (m := 4) rfl rfl ag66 sz66) rfl ?_
 refine lxs rfl rfl rfl guard_eq (.cons (t := 5) rfl (fun _ => Ent.refl _) .nil) (op_bload (m := 5) rfl rfl ag80 sz80) rfl ?_
 refine lxs rfl rfl rfl guard_eq (.cons (t := 7) rfl (fun _ => Ent.refl _) .nil) (op_move rfl) rfl ?_
 refine lxsc (rd := [(44, eqP (.string (rolesF i.op)))]) (φ := eqP (.int .u8 ((roleAt (rolesF i.op) 2).toNat : Int))) rfl rfl rfl guard_eq (.cons (t := 44) rfl (fun h => entW h) .nil) (fun hgd => ?_) rfl rfl ?_
 ·have h3 : 3 ≤ (rolesF i.op).size := roles_sz (by
   cases e : ((rolesF i.op).toList == es.toList) with
   | false => rfl
   | true => rw [e] at hgd; simp at hgd)
  exact op_index_str rfl rfl (show (2 : Int) = ((2 : Nat) : Int) from rfl) (roleAt_eq (by omega)) st9
 refine lxs rfl rfl rfl guard_eq (.cons (t := 5) rfl (fun _ => Ent.refl _) .nil) (op_fieldAddr rfl fl80_3 sz3) rfl ?_
 refine lxs rfl rfl rfl guard_eq (.cons (t := 46) rfl (fun h => entW h) .nil) (op_bload_one (m := 5) rfl rfl ag3 rfl) rfl ?_
 first | refine lxs rfl rfl rfl guard_eq (.cons (t := 41) rfl (fun h => entW h) (.cons (t := 42) rfl (fun h => entW h) (.cons (t := 43) rfl (fun h => entW h) (.cons (t := 45) rfl (fun h => entW h) (.cons (t := 47) rfl (fun h => entW h) .nil))))) (op_call (l := [(Go.Operand.tmp 41), (Go.Operand.tmp 42), (Go.Operand.tmp 43), (Go.Operand.tmp 45), (Go.Operand.tmp 47)]) (operand_ok p f i ((roleAt (rolesF i.op) 2).toNat : Int) i.c) (.cons rfl (.cons rfl (.cons rfl (.cons rfl (.cons rfl .nil))))) fn49) rfl ?_ | refine lxs rfl rfl rfl guard_eq (.cons (t := 41) rfl (fun h => entW h) (.cons (t := 42) rfl (fun h => entW h) (.cons (t := 43) rfl (fun h => entW h) (.cons (t := 45) rfl (fun h => entW h) (.cons (t := 47) rfl (fun h => entW h) .nil))))) (op_call (l := [(Go.Operand.tmp 41), (Go.Operand.tmp 42), (Go.Operand.tmp 43), (Go.Operand.tmp 45), (Go.Operand.tmp 47)]) (operand_ok p f i ((roleAt (rolesF i.op) 2).toNat : Int) i.c) (.ent rfl (by exact ent_auto) (.ent rfl (by exact ent_auto) (.ent rfl (by exact ent_auto) (.ent rfl (by exact ent_auto) (.ent rfl (by exact ent_auto) .nil))))) fn49) rfl ?_
 first | refine lxs rfl rfl rfl guard_eq (.cons (t := 48) rfl (fun h => entW h) .nil) (op_not rfl) rfl ?_ | refine lxs rfl rfl rfl guard_eq (.cons (t := 48) rfl (fun h => entW h) .nil) (op_not_b rfl) rfl ?_
 refine lx (op_pick_or rfl rfl) rfl ?_
 refine lx_end ⟨by kernel_rfl, ?_⟩
 refine pe_then_normal ?_
 refine tr_sub hC (.cons (t := 4) rfl (.cons (t := 5) rfl (.cons (t := 50) rfl .nil))) (.cons (t := 4) rfl (.cons (t := 5) rfl .nil)) rfl ?_
 refine tr_cond rfl (fun h50 => ?_) (fun h50 => ?_)
 ·have hh : hdrI (rolesF i.op) p f i = true := h50
  refine tr_seq ?_
  refine tr_region (fun N3 hN => ?_)
  refine lx (op_assign rfl) rfl ?_
  refine lx_end ⟨by kernel_rfl, ?_⟩
  refine pe_then_normal ?_
  refine tr_sub hC (.cons (t := 6) rfl .nil) .nil rfl ?_
  refine tr_ret ?_
  refine pe_then_ret ?_
  refine pe_ret1 rfl hO rfl (.tmp rfl .nil) ?_
  rw [instrF, instrG, if_pos hh]
  exact ent_auto
 ·have hh : ¬ hdrI (rolesF i.op) p f i = true := by
   have h := h50
   intro he
   have h2 : hdrI (rolesF i.op) p f i = false := h
   rw [h2] at he
   cases he
  refine tr_skip ?_
  refine pe_then_normal ?_
  refine tr_sub hC (.cons (t := 4) rfl (.cons (t := 5) rfl .nil)) (.cons (t := 4) rfl (.cons (t := 5) rfl .nil)) rfl ?_
  refine tr_seq ?_
  refine tr_seq ?_
  refine tr_region (fun N4 hN => ?_)
  refine lx (op_fieldAddr rfl fl80_0 sz3) rfl ?_
  refine lx (op_bload_one (m := 5) rfl rfl ag3 rfl) rfl ?_
  refine lx (op_eql rfl rfl) rfl ?_
  refine lx_end ⟨by kernel_rfl, ?_⟩
  refine pe_then_normal ?_
  refine tr_sub hC (.cons (t := 4) rfl (.cons (t := 5) rfl (.cons (t := 53) rfl .nil))) (.cons (t := 4) rfl (.cons (t := 5) rfl .nil)) rfl ?_
  refine tr_cond rfl (fun h53 => ?_) (fun h53 => ?_)
  ·(try simp only [cq1, cq2, cq3, cq4, cq5, cq6, cq7, cq8, cq9, cq10, cq11, cq12, cq13] at h53)
   refine tr_seq ?_
   refine tr_region (fun N5 hN => ?_)
   refine lx (op_fieldAddr rfl fl80_1 sz3) rfl ?_
   refine lx (op_bload_one (m := 5) rfl rfl ag3 rfl) rfl ?_
   refine lx (op_fieldAddr rfl fl80_3 sz3) rfl ?_
   refine lx (op_bload_one (m := 5) rfl rfl ag3 rfl) rfl ?_
   refine lx (op_add_w rfl rfl) rfl ?_
   refine lx (op_fieldAddr rfl fl66_2 sz3) rfl ?_
   refine lx (op_bload_one (m := 4) rfl rfl ag3 rfl) rfl ?_
   refine lx (op_lss rfl rfl) rfl ?_
   refine lx (op_move rfl) rfl ?_
   refine lxs rfl rfl rfl guard_eq (.cons (t := 5) rfl (fun _ => Ent.refl _) .nil) (op_fieldAddr rfl fl80_3 sz3) rfl ?_
   refine lxs rfl rfl rfl guard_eq (.cons (t := 63) rfl (fun h => entW h) .nil) (op_bload_one (m := 5) rfl rfl ag3 rfl) rfl ?_
   refine lxs rfl rfl rfl guard_eq (.cons (t := 64) rfl (fun h => entW h) .nil) (op_lss rfl rfl) rfl ?_
   refine lx (op_pick_and rfl rfl) rfl ?_
   refine lx (op_assign rfl) rfl ?_
   refine lx_end ⟨by kernel_rfl, ?_⟩
   refine pe_then_normal ?_
   refine tr_sub hC (.cons (t := 6) rfl .nil) .nil rfl ?_
   refine tr_ret ?_
   refine pe_then_ret ?_
   refine pe_ret1 rfl hO rfl (.tmp rfl .nil) ?_
   rw [instrF, instrG, if_neg hh, if_pos h53]
   exact ent_auto
  ·(try simp only [cq1, cq2, cq3, cq4, cq5, cq6, cq7, cq8, cq9, cq10, cq11, cq12, cq13] at h53)
   refine tr_skip ?_
   refine pe_then_normal ?_
   refine tr_sub hC (.cons (t := 4) rfl (.cons (t := 5) rfl .nil)) (.cons (t := 4) rfl (.cons (t := 5) rfl .nil)) rfl ?_
   refine tr_seq ?_
   refine tr_seq ?_
   refine tr_region (fun N6 hN => ?_)
   refine lx (op_fieldAddr rfl fl80_0 sz3) rfl ?_
   refine lx (op_bload_one (m := 5) rfl rfl ag3 rfl) rfl ?_
   refine lx (op_eql rfl rfl) rfl ?_
   refine lx_end ⟨by kernel_rfl, ?_⟩
   refine pe_then_normal ?_
   refine tr_sub hC (.cons (t := 4) rfl (.cons (t := 5) rfl (.cons (t := 69) rfl .nil))) (.cons (t := 4) rfl (.cons (t := 5) rfl .nil)) rfl ?_
   refine tr_cond rfl (fun h69 => ?_) (fun h69 => ?_)
   ·(try simp only [cq1, cq2, cq3, cq4, cq5, cq6, cq7, cq8, cq9, cq10, cq11, cq12, cq13] at h69)
    refine tr_seq ?_
    refine tr_region (fun N7 hN => ?_)
    refine lx (op_fieldAddr rfl fl80_2 sz3) rfl ?_
    refine lx (op_bload_one (m := 5) rfl rfl ag3 rfl) rfl ?_
    refine lx (op_lss rfl rfl) rfl ?_
    refine lx (op_move rfl) rfl ?_
    refine lxs rfl rfl rfl guard_eq (.cons (t := 4) rfl (fun _ => Ent.refl _) .nil) (op_fieldAddr rfl fl66_2 sz3) rfl ?_
    refine lxs rfl rfl rfl guard_eq (.cons (t := 74) rfl (fun h => entW h) .nil) (op_bload_one (m := 4) rfl rfl ag3 rfl) rfl ?_
    refine lxs rfl rfl rfl guard_eq (.cons (t := 75) rfl (fun h => entW h) .nil) (op_gtr rfl rfl) rfl ?_
    refine lx (op_pick_and rfl rfl) rfl ?_
    refine lx (op_assign rfl) rfl ?_
    refine lx_end ⟨by kernel_rfl, ?_⟩
    refine pe_then_normal ?_
    refine tr_sub hC (.cons (t := 6) rfl .nil) .nil rfl ?_
    refine tr_ret ?_
    refine pe_then_ret ?_
    refine pe_ret1 rfl hO rfl (.tmp rfl .nil) ?_
    rw [instrF, instrG, if_neg hh, if_neg h53, if_pos h69]
    exact ent_auto
   ·(try simp only [cq1, cq2, cq3, cq4, cq5, cq6, cq7, cq8, cq9, cq10, cq11, cq12, cq13] at h69)
    refine tr_skip ?_
    refine pe_then_normal ?_
    refine tr_sub hC (.cons (t := 4) rfl (.cons (t := 5) rfl .nil)) (.cons (t := 4) rfl (.cons (t := 5) rfl .nil)) rfl ?_
    refine tr_seq ?_
    refine tr_region (fun N8 hN => ?_)
    refine lx (op_fieldAddr rfl fl80_0 sz3) rfl ?_
    refine lx (op_bload_one (m := 5) rfl rfl ag3 rfl) rfl ?_
    refine lx (op_neq rfl rfl) rfl ?_
    refine lx (op_move rfl) rfl ?_
    refine lxs rfl rfl rfl guard_eq (.cons (t := 5) rfl (fun _ => Ent.refl _) .nil) (op_fieldAddr rfl fl80_3 sz3) rfl ?_
    refine lxs rfl rfl rfl guard_eq (.cons (t := 82) rfl (fun h => entW h) .nil) (op_bload_one (m := 5) rfl rfl ag3 rfl) rfl ?_
    refine lxs rfl rfl rfl guard_eq (.cons (t := 83) rfl (fun h => entW h) .nil) (op_add_w rfl rfl) rfl ?_
    refine lxs rfl rfl rfl guard_eq (.cons (t := 4) rfl (fun _ => Ent.refl _) .nil) (op_fieldAddr rfl fl66_2 sz3) rfl ?_
    refine lxs rfl rfl rfl guard_eq (.cons (t := 85) rfl (fun h => entW h) .nil) (op_bload_one (m := 4) rfl rfl ag3 rfl) rfl ?_
    refine lxs rfl rfl rfl guard_eq (.cons (t := 84) rfl (fun h => entW h) (.cons (t := 86) rfl (fun h => entW h) .nil)) (op_lss rfl rfl) rfl ?_
    refine lx (op_pick_or rfl rfl) rfl ?_
    refine lx (op_assign rfl) rfl ?_
    refine lx_end ⟨by kernel_rfl, ?_⟩
    refine pe_then_normal ?_
    refine tr_sub hC (.cons (t := 6) rfl .nil) .nil rfl ?_
    refine tr_ret ?_
    refine pe_ret1 rfl hO rfl (.tmp rfl .nil) ?_
    rw [instrF, instrG, if_neg hh, if_neg h53, if_neg h69]
    exact ent_auto
end Go.Proofs.Ythiknhmoefbanaa


set_option linter.unusedVariables false
set_option linter.unusedSimpArgs false
namespace Go.Proofs.Ythiknhmoefbanaa
open Go.AL Go.Ch Go.Hp Go.RowKit
theorem ag9 : aggB Try.prog 9 = some false := by kernel_rfl
theorem fl66_0 : fldB Try.prog 66 0 = some (0, 9) := by kernel_rfl
theorem fn43 : fnB Try.prog 43 = true := by kernel_rfl
theorem sz9 : sizeB Try.prog 9 = some 1 := by kernel_rfl
theorem ze80 : zeroB Try.prog 80 = some (some (.agg #[.int .i64 0, .int .i64 0, .int .i64 0, .int .i64 0, .int .i64 0])) := by kernel_rfl
theorem function_ok (p : Pg) (f : Fu) (hc : f.code.length ≤ 9223372036854775807) : FnP Try.prog 36 [aggP p.ps, aggP f.ps] (eqP (.bool (functionF instrF p f))) := by
 refine fn_pure' Try.func36 rfl Try.ntmps36 rfl ?_
 intro σ0 M ex Rf R hC hO
 simp only [frameOf, tokOf]
 refine tr_seq ?_
 refine tr_region (fun N0 hN => ?_)
 refine lxn (op_box (m := 2) (k := 2) rfl (.agg rfl) (by first | exact hC.low _ (by decide) | rfl)) rfl ?_
 refine lxn (op_box (m := 3) (k := 3) rfl (.agg rfl) (by first | exact hC.low _ (by decide) | rfl)) rfl ?_
 refine lx (op_assign rfl) rfl ?_
 refine lx_end ⟨by kernel_rfl, ?_⟩
 refine pe_then_normal ?_
 refine tr_sub hC (.cons (t := 2) rfl (.cons (t := 3) rfl .nil)) (.cons (t := 2) rfl (.cons (t := 3) rfl .nil)) rfl ?_
 refine tr_seq ?_
 refine tr_seq ?_
 refine tr_region (fun N1 hN => ?_)
 refine lx (op_fieldAddr rfl fl66_0 sz9) rfl ?_
 refine lx (op_bload_one (m := 3) rfl rfl ag9 rfl) rfl ?_
 refine lx (op_eql_str st9 rfl rfl) rfl ?_
 refine lx (op_move rfl) rfl ?_
 refine lxs rfl rfl rfl guard_eq (.cons (t := 3) rfl (fun _ => Ent.refl _) .nil) (op_fieldAddr rfl fl66_1 sz3) rfl ?_
 refine lxs rfl rfl rfl guard_eq (.cons (t := 13) rfl (fun h => entW h) .nil) (op_bload_one (m := 3) rfl rfl ag3 rfl) rfl ?_
 refine lxs rfl rfl rfl guard_eq (.cons (t := 14) rfl (fun h => entW h) .nil) (op_lss rfl rfl) rfl ?_
 refine lx (op_pick_or rfl rfl) rfl ?_
 refine lx (op_move rfl) rfl ?_
 refine lxs rfl rfl rfl guard_eq (.cons (t := 3) rfl (fun _ => Ent.refl _) .nil) (op_fieldAddr rfl fl66_1 sz3) rfl ?_
 refine lxs rfl rfl rfl guard_eq (.cons (t := 18) rfl (fun h => entW h) .nil) (op_bload_one (m := 3) rfl rfl ag3 rfl) rfl ?_
 refine lxs rfl rfl rfl guard_eq (.cons (t := 3) rfl (fun _ => Ent.refl _) .nil) (op_fieldAddr rfl fl66_2 sz3) rfl ?_
 refine lxs rfl rfl rfl guard_eq (.cons (t := 20) rfl (fun h => entW h) .nil) (op_bload_one (m := 3) rfl rfl ag3 rfl) rfl ?_
 refine lxs rfl rfl rfl guard_eq (.cons (t := 19) rfl (fun h => entW h) (.cons (t := 21) rfl (fun h => entW h) .nil)) (op_gtr rfl rfl) rfl ?_
 refine lx (op_pick_or rfl rfl) rfl ?_
 refine lx (op_move rfl) rfl ?_
 refine lxs rfl rfl rfl guard_eq (.cons (t := 3) rfl (fun _ => Ent.refl _) .nil) (op_fieldAddr rfl fl66_2 sz3) rfl ?_
 refine lxs rfl rfl rfl guard_eq (.cons (t := 25) rfl (fun h => entW h) .nil) (op_bload_one (m := 3) rfl rfl ag3 rfl) rfl ?_
 refine lxs rfl rfl rfl guard_eq (.cons (t := 26) rfl (fun h => entW h) .nil) (op_gtr rfl rfl) rfl ?_
 refine lx (op_pick_or rfl rfl) rfl ?_
 refine lx (op_move rfl) rfl ?_
 refine lxs rfl rfl rfl guard_eq (.cons (t := 3) rfl (fun _ => Ent.refl _) .nil) (op_fieldAddr rfl fl66_3 sz64) rfl ?_
 refine lxs rfl rfl rfl guard_eq (.cons (t := 30) rfl (fun h => entW h) .nil) (op_bload_one (m := 3) rfl rfl ag64 rfl) rfl ?_
 first | refine lxs rfl rfl rfl guard_eq (.cons (t := 31) rfl (fun h => entW h) .nil) (op_len rfl el64) rfl ?_ | refine lxs rfl rfl rfl guard_eq (.cons (t := 31) rfl (fun h => entW h) .nil) (op_len_row rfl el64) rfl ?_ | refine lxs rfl rfl rfl guard_eq (.cons (t := 31) rfl (fun h => entW h) .nil) (op_len_mv rfl el64) rfl ?_ | refine lxs rfl rfl rfl guard_eq (.cons (t := 31) rfl (fun h => entW h) .nil) (op_len_nil rfl el64) rfl ?_
 refine lxs rfl rfl rfl guard_eq (.cons (t := 32) rfl (fun h => entW h) .nil) (op_eql rfl rfl) rfl ?_
 refine lx (op_pick_or rfl rfl) rfl ?_
 refine lx (op_move rfl) rfl ?_
 refine lxs rfl rfl rfl guard_eq (.cons (t := 3) rfl (fun _ => Ent.refl _) .nil) (op_fieldAddr rfl fl66_3 sz64) rfl ?_
 refine lxs rfl rfl rfl guard_eq (.cons (t := 36) rfl (fun h => entW h) .nil) (op_bload_one (m := 3) rfl rfl ag64 rfl) rfl ?_
 first | refine lxs rfl rfl rfl guard_eq (.cons (t := 37) rfl (fun h => entW h) .nil) (op_len rfl el64) rfl ?_ | refine lxs rfl rfl rfl guard_eq (.cons (t := 37) rfl (fun h => entW h) .nil) (op_len_row rfl el64) rfl ?_ | refine lxs rfl rfl rfl guard_eq (.cons (t := 37) rfl (fun h => entW h) .nil) (op_len_mv rfl el64) rfl ?_ | refine lxs rfl rfl rfl guard_eq (.cons (t := 37) rfl (fun h => entW h) .nil) (op_len_nil rfl el64) rfl ?_
 refine lxs rfl rfl rfl guard_eq (.cons (t := 38) rfl (fun h => entW h) .nil) (op_gtr rfl rfl) rfl ?_
 refine lx (op_pick_or rfl rfl) rfl ?_
 refine lx_end ⟨by kernel_rfl, ?_⟩
 refine pe_then_normal ?_
 refine tr_sub hC (.cons (t := 2) rfl (.cons (t := 3) rfl (.cons (t := 40) rfl .nil))) (.cons (t := 2) rfl (.cons (t := 3) rfl .nil)) rfl ?_
 refine tr_cond rfl (fun h40 => ?_) (fun h40 => ?_)
 ·have hh : hdrF f = true := h40
  have hno := fun_1 (ins := instrF) (p := p) hh
  refine tr_seq ?_
  refine tr_region (fun N2 hN => ?_)
  refine lx (op_assign rfl) rfl ?_
  refine lx_end ⟨by kernel_rfl, ?_⟩
  refine pe_then_normal ?_
  refine tr_sub hC (.cons (t := 4) rfl .nil) .nil rfl ?_
  refine tr_ret ?_
  refine pe_then_ret ?_
  refine pe_ret1 rfl hO rfl (.tmp rfl .nil) ?_
  rw [hno]
  exact ent_auto
 ·have hh : hdrF f = false := h40
  have hlen : 0 < f.code.length ∧ f.code.length ≤ 1000 := by
   unfold hdrF at hh
   simp only [Bool.or_eq_false_iff, decide_eq_false_iff_not] at hh
   omega
  refine tr_skip ?_
  refine pe_then_normal ?_
  refine tr_sub hC (.cons (t := 2) rfl (.cons (t := 3) rfl .nil)) (.cons (t := 2) rfl (.cons (t := 3) rfl .nil)) rfl ?_
  refine tr_seq ?_
  refine tr_region (fun N3 hN => ?_)
  refine lx (op_fieldAddr rfl fl66_3 sz64) rfl ?_
  refine lx (op_bload_one (m := 3) rfl rfl ag64 rfl) rfl ?_
  refine lx (op_fieldAddr rfl fl66_3 sz64) rfl ?_
  refine lx (op_bload_one (m := 3) rfl rfl ag64 rfl) rfl ?_
  first | refine lx (op_len rfl el64) rfl ?_ | refine lx (op_len_row rfl el64) rfl ?_ | refine lx (op_len_mv rfl el64) rfl ?_ | refine lx (op_len_nil rfl el64) rfl ?_
  refine lx (op_sub rfl rfl (by omega)) rfl ?_
  refine lx (op_index rfl rfl el64 sz80 (by omega : (f.code.length : Int) - 1 = ((f.code.length - 1 : Nat) : Int)) (gt_at (d := in0) (by omega))) rfl ?_
  first | refine lx (op_fieldAddr rfl fl80_0 sz3) rfl ?_ | refine lx (op_fieldCells rfl fl80_0 sz3) rfl ?_
  first | refine lx (op_load_one rfl ag3 rfl) rfl ?_ | refine lx (op_bload_one (m := 2) rfl rfl ag3 rfl) rfl ?_ | refine lx (op_bload_one (m := 3) rfl rfl ag3 rfl) rfl ?_
  refine lx (op_assign rfl) rfl ?_
  refine lx_end ⟨by kernel_rfl, ?_⟩
  refine pe_then_normal ?_
  refine tr_sub hC (.cons (t := 2) rfl (.cons (t := 3) rfl (.cons (t := 5) rfl .nil))) (.cons (t := 2) rfl (.cons (t := 3) rfl .nil)) rfl ?_
  refine tr_seq ?_
  refine tr_seq ?_
  refine tr_region (fun N4 hN => ?_)
  refine lx (op_move rfl) rfl ?_
  refine lx (op_neq rfl rfl) rfl ?_
  refine lx (op_move rfl) rfl ?_
  refine lxs rfl rfl rfl guard_eq (.cons (t := 5) rfl (fun _ => Ent.refl _) .nil) (op_move rfl) rfl ?_
  refine lxs rfl rfl rfl guard_eq (.cons (t := 53) rfl (fun h => entW h) .nil) (op_neq rfl rfl) rfl ?_
  refine lx (op_pick_and rfl rfl) rfl ?_
  refine lx_end ⟨by kernel_rfl, ?_⟩
  refine pe_then_normal ?_
  refine tr_sub hC (.cons (t := 2) rfl (.cons (t := 3) rfl (.cons (t := 55) rfl .nil))) (.cons (t := 2) rfl (.cons (t := 3) rfl .nil)) rfl ?_
  refine tr_cond rfl (fun h55 => ?_) (fun h55 => ?_)
  ·(try simp only [cq1, cq2, cq3, cq4, cq5, cq6, cq7, cq8, cq9, cq10, cq11, cq12, cq13] at h55)
   have hno := fun_2 (ins := instrF) (p := p) hh (by unfold lastOp; omega)
   refine tr_seq ?_
   refine tr_region (fun N5 hN => ?_)
   refine lx (op_assign rfl) rfl ?_
   refine lx_end ⟨by kernel_rfl, ?_⟩
   refine pe_then_normal ?_
   refine tr_sub hC (.cons (t := 4) rfl .nil) .nil rfl ?_
   refine tr_ret ?_
   refine pe_then_ret ?_
   refine pe_ret1 rfl hO rfl (.tmp rfl .nil) ?_
   rw [hno]
   exact ent_auto
  ·(try simp only [cq1, cq2, cq3, cq4, cq5, cq6, cq7, cq8, cq9, cq10, cq11, cq12, cq13] at h55)
   have hgo := fun_3 (ins := instrF) (p := p) hh (by unfold lastOp; omega)
   refine tr_skip ?_
   refine pe_then_normal ?_
   refine tr_sub hC (.cons (t := 2) rfl (.cons (t := 3) rfl .nil)) (.cons (t := 2) rfl (.cons (t := 3) rfl .nil)) rfl ?_
   refine tr_seq ?_
   refine tr_region (fun N6 hN => ?_)
   refine lx (op_assign rfl) rfl ?_
   refine lx_end ⟨by kernel_rfl, ?_⟩
   refine pe_then_normal ?_
   refine tr_sub hC (.cons (t := 2) rfl (.cons (t := 3) rfl (.cons (t := 6) rfl .nil))) (.cons (t := 2) rfl (.cons (t := 3) rfl .nil)) rfl ?_
   refine tr_seq ?_
   refine tr_seq ?_
   refine tr_region (fun N7 hN => ?_)
   refine lx (op_assign rfl) rfl ?_
   refine lx_end ⟨by kernel_rfl, ?_⟩
   refine pe_then_normal ?_
   refine tr_sub hC (.cons (t := 2) rfl (.cons (t := 3) rfl (.cons (t := 6) rfl (.cons (t := 7) rfl .nil)))) (.cons (t := 2) rfl (.cons (t := 3) rfl .nil)) rfl ?_
   refine tr_block ?_
   refine tr_loopK (α := {zz : Nat × Int // zz.1 ≤ f.code.length ∧ codeF instrF p f zz.2 (f.code.drop zz.1) = codeF instrF p f 0 f.code}) (⟨(0, 0), Nat.zero_le _, rfl⟩) (fun zz => [(6, eqP (.int .i64 zz.1.2)), (7, eqP (.int .i64 (zz.1.1 : Int)))]) (fun zz => []) (fun zz => f.code.length - zz.1.1) hC (.cons (t := 2) rfl (.cons (t := 3) rfl .nil)) (.cons (t := 2) rfl (.cons (t := 3) rfl .nil)) rfl ?_ ?_ (fun zz => ?_)
   ·try dsimp only [List.cons_append, List.nil_append]
    first | refine SubF.cons rfl ?_ | (refine SubF.ent rfl ?_ ?_; · exact ent_auto)
    first | refine SubF.cons rfl ?_ | (refine SubF.ent rfl ?_ ?_; · exact ent_auto)
    exact SubF.nil
   ·try dsimp only [List.cons_append, List.nil_append]
    repeat (first | exact SubL.nil | refine SubL.cons rfl ?_)
   ·obtain ⟨⟨k, s⟩, hk1, hk2⟩ := zz
    try dsimp only at hk1
    try dsimp only at hk2
    dsimp only [List.cons_append, List.nil_append]
    refine tr_seq ?_
    refine tr_seq ?_
    refine tr_region (fun N8 hN => ?_)
    refine lx (op_move rfl) rfl ?_
    refine lx (op_fieldAddr rfl fl66_3 sz64) rfl ?_
    refine lx (op_bload_one (m := 3) rfl rfl ag64 rfl) rfl ?_
    first | refine lx (op_len rfl el64) rfl ?_ | refine lx (op_len_row rfl el64) rfl ?_ | refine lx (op_len_mv rfl el64) rfl ?_ | refine lx (op_len_nil rfl el64) rfl ?_
    refine lx (op_lss rfl rfl) rfl ?_
    refine lx_end ⟨by kernel_rfl, ?_⟩
    refine pe_then_normal ?_
    refine tr_sub hC (.cons (t := 2) rfl (.cons (t := 3) rfl (.cons (t := 6) rfl (.cons (t := 7) rfl (.cons (t := 60) rfl .nil))))) (.cons (t := 2) rfl (.cons (t := 3) rfl .nil)) rfl ?_
    refine tr_cond rfl (fun h60 => ?_) (fun h60 => ?_)
    ·(try simp only [cq1, cq2, cq3, cq4, cq5, cq6, cq7, cq8, cq9, cq10, cq11, cq12, cq13] at h60)
     refine tr_skip ?_
     refine pe_then_normal ?_
     refine tr_sub hC (.cons (t := 2) rfl (.cons (t := 3) rfl (.cons (t := 6) rfl (.cons (t := 7) rfl .nil)))) (.cons (t := 2) rfl (.cons (t := 3) rfl .nil)) rfl ?_
     refine tr_seq ?_
     refine tr_block ?_
     refine tr_seq ?_
     refine tr_region (fun N10 hN => ?_)
     refine lx (op_fieldAddr rfl fl66_3 sz64) rfl ?_
     refine lx (op_bload_one (m := 3) rfl rfl ag64 rfl) rfl ?_
     refine lx (op_move rfl) rfl ?_
     refine lx (op_index rfl rfl el64 sz80 rfl (gt_at (d := in0) (by omega))) rfl ?_
     first | refine lx (op_load_all rfl ag80 sz80) rfl ?_ | refine lx (op_load_agg rfl ag80 sz80 rfl) rfl ?_ | refine lx (op_bload (m := 2) rfl rfl ag80 sz80) rfl ?_ | refine lx (op_bload (m := 3) rfl rfl ag80 sz80) rfl ?_ | refine lx (op_bload_part (m := 2) (qs := [_, _, _, _, _]) rfl rfl ag80 sz80 rfl rfl) rfl ?_ | refine lx (op_bload_part (m := 3) (qs := [_, _, _, _, _]) rfl rfl ag80 sz80 rfl rfl) rfl ?_
     refine lxn (op_alloc (m := 8) (k := 8) (ps := [eqP (.int .i64 0), eqP (.int .i64 0), eqP (.int .i64 0), eqP (.int .i64 0), eqP (.int .i64 0)]) ze80 rfl rfl (by first | exact hC.low _ (by decide) | rfl)) rfl ?_
     refine lxr (op_store_all (m := 8) rfl rfl rfl (.agg rfl) sz80 rfl) rfl ?_
     refine lx_end ⟨by kernel_rfl, ?_⟩
     refine pe_then_normal ?_
     refine tr_sub hC (.cons (t := 2) rfl (.cons (t := 3) rfl (.cons (t := 6) rfl (.cons (t := 7) rfl (.cons (t := 8) rfl .nil))))) (.cons (t := 2) rfl (.cons (t := 3) rfl (.cons (t := 8) rfl .nil))) rfl ?_
     refine tr_seq ?_
     refine tr_seq ?_
     refine tr_region (fun N11 hN => ?_)
     refine lx (op_move rfl) rfl ?_
     refine lx (op_gtr rfl rfl) rfl ?_
     refine lx (op_fieldAddr rfl fl80_0 sz3) rfl ?_
     refine lx (op_bload_one (m := 8) rfl rfl ag3 rfl) rfl ?_
     refine lx (op_eql rfl rfl) rfl ?_
     refine lx (op_neq_bool bo4 rfl rfl) rfl ?_
     refine lx (op_move rfl) rfl ?_
     refine lxs rfl rfl rfl guard_eq (.cons (t := 2) rfl (fun _ => Ent.refl _) .nil) (op_bload (m := 2) rfl rfl ag26 sz26) rfl ?_
     refine lxs rfl rfl rfl guard_eq (.cons (t := 3) rfl (fun _ => Ent.refl _) .nil) (op_bload (m := 3) rfl rfl ag66 sz66) rfl ?_
     refine lxs rfl rfl rfl guard_eq (.cons (t := 8) rfl (fun _ => Ent.refl _) .nil) (op_bload (m := 8) rfl rfl ag80 sz80) rfl ?_
     first | refine lxs rfl rfl rfl guard_eq (.cons (t := 75) rfl (fun h => entW h) (.cons (t := 76) rfl (fun h => entW h) (.cons (t := 77) rfl (fun h => entW h) .nil))) (op_call (l := [(Go.Operand.tmp 75), (Go.Operand.tmp 76), (Go.Operand.tmp 77)]) (instr_ok p f (gt in0 f.code k)) (.cons rfl (.cons rfl (.cons rfl .nil))) fn43) rfl ?_ | refine lxs rfl rfl rfl guard_eq (.cons (t := 75) rfl (fun h => entW h) (.cons (t := 76) rfl (fun h => entW h) (.cons (t := 77) rfl (fun h => entW h) .nil))) (op_call (l := [(Go.Operand.tmp 75), (Go.Operand.tmp 76), (Go.Operand.tmp 77)]) (instr_ok p f (gt in0 f.code k)) (.ent rfl (by exact ent_auto) (.ent rfl (by exact ent_auto) (.ent rfl (by exact ent_auto) .nil))) fn43) rfl ?_
     first | refine lxs rfl rfl rfl guard_eq (.cons (t := 78) rfl (fun h => entW h) .nil) (op_not rfl) rfl ?_ | refine lxs rfl rfl rfl guard_eq (.cons (t := 78) rfl (fun h => entW h) .nil) (op_not_b rfl) rfl ?_
     refine lx (op_pick_or rfl rfl) rfl ?_
     refine lx_end ⟨by kernel_rfl, ?_⟩
     refine pe_then_normal ?_
     refine tr_sub hC (.cons (t := 2) rfl (.cons (t := 3) rfl (.cons (t := 6) rfl (.cons (t := 7) rfl (.cons (t := 8) rfl (.cons (t := 80) rfl .nil)))))) (.cons (t := 2) rfl (.cons (t := 3) rfl (.cons (t := 8) rfl .nil))) rfl ?_
     refine tr_cond rfl (fun h80 => ?_) (fun h80 => ?_)
     ·have hno := hgo.trans (code_bad (by omega) hk2 h80)
      refine tr_seq ?_
      refine tr_region (fun N12 hN => ?_)
      refine lx (op_assign rfl) rfl ?_
      refine lx_end ⟨by kernel_rfl, ?_⟩
      refine pe_then_normal ?_
      refine tr_sub hC (.cons (t := 4) rfl .nil) .nil rfl ?_
      refine tr_ret ?_
      refine pe_then_ret ?_
      refine pe_block_ret ?_
      refine pe_then_ret ?_
      refine pe_then_ret ?_
      refine pe_block_ret ?_
      refine pe_then_ret ?_
      refine pe_ret1 rfl hO rfl (.tmp rfl .nil) ?_
      rw [hno]
      exact ent_auto
     ·have hnb : badI instrF p f (gt in0 f.code k) s = false := h80
      refine tr_skip ?_
      refine pe_then_normal ?_
      refine tr_sub hC (.cons (t := 2) rfl (.cons (t := 3) rfl (.cons (t := 6) rfl (.cons (t := 7) rfl (.cons (t := 8) rfl .nil))))) (.cons (t := 2) rfl (.cons (t := 3) rfl (.cons (t := 8) rfl .nil))) rfl ?_
      refine tr_seq ?_
      refine tr_seq ?_
      refine tr_region (fun N13 hN => ?_)
      refine lx (op_move rfl) rfl ?_
      refine lx (op_gtr rfl rfl) rfl ?_
      refine lx_end ⟨by kernel_rfl, ?_⟩
      refine pe_then_normal ?_
      refine tr_sub hC (.cons (t := 2) rfl (.cons (t := 3) rfl (.cons (t := 6) rfl (.cons (t := 7) rfl (.cons (t := 8) rfl (.cons (t := 82) rfl .nil)))))) (.cons (t := 2) rfl (.cons (t := 3) rfl (.cons (t := 8) rfl .nil))) rfl ?_
      refine tr_cond rfl (fun h82 => ?_) (fun h82 => ?_)
      ·(try simp only [cq1, cq2, cq3, cq4, cq5, cq6, cq7, cq8, cq9, cq10, cq11, cq12, cq13] at h82)
       refine tr_region (fun N14 hN => ?_)
       refine lx (op_move rfl) rfl ?_
       refine lx (op_sub_w rfl rfl) rfl ?_
       refine lx (op_assign rfl) rfl ?_
       refine lx_end ⟨by kernel_rfl, ?_⟩
       refine pe_then_normal ?_
       refine tr_sub hC (.cons (t := 2) rfl (.cons (t := 3) rfl (.cons (t := 6) rfl (.cons (t := 7) rfl (.cons (t := 8) rfl .nil))))) (.cons (t := 2) rfl (.cons (t := 3) rfl (.cons (t := 8) rfl .nil))) rfl ?_
       refine tr_seq ?_
       refine tr_region (fun N15 hN => ?_)
       refine lx (op_fieldAddr rfl fl80_0 sz3) rfl ?_
       refine lx (op_bload_one (m := 8) rfl rfl ag3 rfl) rfl ?_
       refine lx (op_eql rfl rfl) rfl ?_
       refine lx_end ⟨by kernel_rfl, ?_⟩
       refine pe_then_normal ?_
       refine tr_sub hC (.cons (t := 2) rfl (.cons (t := 3) rfl (.cons (t := 6) rfl (.cons (t := 7) rfl (.cons (t := 8) rfl (.cons (t := 87) rfl .nil)))))) (.cons (t := 2) rfl (.cons (t := 3) rfl (.cons (t := 8) rfl .nil))) rfl ?_
       refine tr_cond rfl (fun h87 => ?_) (fun h87 => ?_)
       ·(try simp only [cq1, cq2, cq3, cq4, cq5, cq6, cq7, cq8, cq9, cq10, cq11, cq12, cq13] at h87)
        have hnx := code_next (by omega) hk2 hnb (nxt_1 h87)
        refine tr_region (fun N16 hN => ?_)
        refine lx (op_fieldAddr rfl fl80_2 sz3) rfl ?_
        refine lx (op_bload_one (m := 8) rfl rfl ag3 rfl) rfl ?_
        refine lx (op_assign rfl) rfl ?_
        refine lx_end ⟨by kernel_rfl, ?_⟩
        refine pe_block_normal ?_
        refine pe_then_normal ?_
        refine tr_sub hC (.cons (t := 2) rfl (.cons (t := 3) rfl (.cons (t := 6) rfl (.cons (t := 7) rfl .nil)))) (.cons (t := 2) rfl (.cons (t := 3) rfl .nil)) rfl ?_
        refine tr_region (fun N9 hN => ?_)
        refine lx (op_move rfl) rfl ?_
        refine lx (op_add rfl rfl (by omega)) rfl ?_
        refine lx (op_assign rfl) rfl ?_
        refine lx_end ⟨by kernel_rfl, ?_⟩
        refine pe_round (⟨(k + 1, (gt in0 f.code k).b), by dsimp only; omega, hnx⟩) (by dsimp only; omega) (pe_st hC ?_ ?_ rfl)
        ·try dsimp only [List.cons_append, List.nil_append]
         first | refine SubF.cons rfl ?_ | (refine SubF.ent rfl ?_ ?_; · exact ent_auto)
         first | refine SubF.cons rfl ?_ | (refine SubF.ent rfl ?_ ?_; · exact ent_auto)
         first | refine SubF.cons rfl ?_ | (refine SubF.ent rfl ?_ ?_; · exact ent_auto)
         first | refine SubF.cons rfl ?_ | (refine SubF.ent rfl ?_ ?_; · exact ent_auto)
         exact SubF.nil
        ·try dsimp only [List.cons_append, List.nil_append]
         repeat (first | exact SubL.nil | refine SubL.cons rfl ?_)
       ·(try simp only [cq1, cq2, cq3, cq4, cq5, cq6, cq7, cq8, cq9, cq10, cq11, cq12, cq13] at h87)
        have hnx := code_next (by omega) hk2 hnb (by first | exact nxt_2 h87 h82 | exact nxt_3 h87 (by omega))
        refine tr_skip ?_
        refine pe_block_normal ?_
        refine pe_then_normal ?_
        refine tr_sub hC (.cons (t := 2) rfl (.cons (t := 3) rfl (.cons (t := 6) rfl (.cons (t := 7) rfl .nil)))) (.cons (t := 2) rfl (.cons (t := 3) rfl .nil)) rfl ?_
        refine tr_region (fun N9 hN => ?_)
        refine lx (op_move rfl) rfl ?_
        refine lx (op_add rfl rfl (by omega)) rfl ?_
        refine lx (op_assign rfl) rfl ?_
        refine lx_end ⟨by kernel_rfl, ?_⟩
        refine pe_round (⟨(k + 1, IntKind.i64.wrap (s - 1)), by dsimp only; omega, hnx⟩) (by dsimp only; omega) (pe_st hC ?_ ?_ rfl)
        ·try dsimp only [List.cons_append, List.nil_append]
         first | refine SubF.cons rfl ?_ | (refine SubF.ent rfl ?_ ?_; · exact ent_auto)
         first | refine SubF.cons rfl ?_ | (refine SubF.ent rfl ?_ ?_; · exact ent_auto)
         first | refine SubF.cons rfl ?_ | (refine SubF.ent rfl ?_ ?_; · exact ent_auto)
         first | refine SubF.cons rfl ?_ | (refine SubF.ent rfl ?_ ?_; · exact ent_auto)
         exact SubF.nil
        ·try dsimp only [List.cons_append, List.nil_append]
         repeat (first | exact SubL.nil | refine SubL.cons rfl ?_)
      ·(try simp only [cq1, cq2, cq3, cq4, cq5, cq6, cq7, cq8, cq9, cq10, cq11, cq12, cq13] at h82)
       refine tr_skip ?_
       refine pe_then_normal ?_
       refine tr_sub hC (.cons (t := 2) rfl (.cons (t := 3) rfl (.cons (t := 6) rfl (.cons (t := 7) rfl (.cons (t := 8) rfl .nil))))) (.cons (t := 2) rfl (.cons (t := 3) rfl (.cons (t := 8) rfl .nil))) rfl ?_
       refine tr_seq ?_
       refine tr_region (fun N15 hN => ?_)
       refine lx (op_fieldAddr rfl fl80_0 sz3) rfl ?_
       refine lx (op_bload_one (m := 8) rfl rfl ag3 rfl) rfl ?_
       refine lx (op_eql rfl rfl) rfl ?_
       refine lx_end ⟨by kernel_rfl, ?_⟩
       refine pe_then_normal ?_
       refine tr_sub hC (.cons (t := 2) rfl (.cons (t := 3) rfl (.cons (t := 6) rfl (.cons (t := 7) rfl (.cons (t := 8) rfl (.cons (t := 87) rfl .nil)))))) (.cons (t := 2) rfl (.cons (t := 3) rfl (.cons (t := 8) rfl .nil))) rfl ?_
       refine tr_cond rfl (fun h87 => ?_) (fun h87 => ?_)
       ·(try simp only [cq1, cq2, cq3, cq4, cq5, cq6, cq7, cq8, cq9, cq10, cq11, cq12, cq13] at h87)
        have hnx := code_next (by omega) hk2 hnb (nxt_1 h87)
        refine tr_region (fun N16 hN => ?_)
        refine lx (op_fieldAddr rfl fl80_2 sz3) rfl ?_
        refine lx (op_bload_one (m := 8) rfl rfl ag3 rfl) rfl ?_
        refine lx (op_assign rfl) rfl ?_
        refine lx_end ⟨by kernel_rfl, ?_⟩
        refine pe_block_normal ?_
        refine pe_then_normal ?_
        refine tr_sub hC (.cons (t := 2) rfl (.cons (t := 3) rfl (.cons (t := 6) rfl (.cons (t := 7) rfl .nil)))) (.cons (t := 2) rfl (.cons (t := 3) rfl .nil)) rfl ?_
        refine tr_region (fun N9 hN => ?_)
        refine lx (op_move rfl) rfl ?_
        refine lx (op_add rfl rfl (by omega)) rfl ?_
        refine lx (op_assign rfl) rfl ?_
        refine lx_end ⟨by kernel_rfl, ?_⟩
        refine pe_round (⟨(k + 1, (gt in0 f.code k).b), by dsimp only; omega, hnx⟩) (by dsimp only; omega) (pe_st hC ?_ ?_ rfl)
        ·try dsimp only [List.cons_append, List.nil_append]
         first | refine SubF.cons rfl ?_ | (refine SubF.ent rfl ?_ ?_; · exact ent_auto)
         first | refine SubF.cons rfl ?_ | (refine SubF.ent rfl ?_ ?_; · exact ent_auto)
         first | refine SubF.cons rfl ?_ | (refine SubF.ent rfl ?_ ?_; · exact ent_auto)
         first | refine SubF.cons rfl ?_ | (refine SubF.ent rfl ?_ ?_; · exact ent_auto)
         exact SubF.nil
        ·try dsimp only [List.cons_append, List.nil_append]
         repeat (first | exact SubL.nil | refine SubL.cons rfl ?_)
       ·(try simp only [cq1, cq2, cq3, cq4, cq5, cq6, cq7, cq8, cq9, cq10, cq11, cq12, cq13] at h87)
        have hnx := code_next (by omega) hk2 hnb (by first | exact nxt_2 h87 h82 | exact nxt_3 h87 (by omega))
        refine tr_skip ?_
        refine pe_block_normal ?_
        refine pe_then_normal ?_
        refine tr_sub hC (.cons (t := 2) rfl (.cons (t := 3) rfl (.cons (t := 6) rfl (.cons (t := 7) rfl .nil)))) (.cons (t := 2) rfl (.cons (t := 3) rfl .nil)) rfl ?_
        refine tr_region (fun N9 hN => ?_)
        refine lx (op_move rfl) rfl ?_
        refine lx (op_add rfl rfl (by omega)) rfl ?_
        refine lx (op_assign rfl) rfl ?_
        refine lx_end ⟨by kernel_rfl, ?_⟩
        refine pe_round (⟨(k + 1, s), by dsimp only; omega, hnx⟩) (by dsimp only; omega) (pe_st hC ?_ ?_ rfl)
        ·try dsimp only [List.cons_append, List.nil_append]
         first | refine SubF.cons rfl ?_ | (refine SubF.ent rfl ?_ ?_; · exact ent_auto)
         first | refine SubF.cons rfl ?_ | (refine SubF.ent rfl ?_ ?_; · exact ent_auto)
         first | refine SubF.cons rfl ?_ | (refine SubF.ent rfl ?_ ?_; · exact ent_auto)
         first | refine SubF.cons rfl ?_ | (refine SubF.ent rfl ?_ ?_; · exact ent_auto)
         exact SubF.nil
        ·try dsimp only [List.cons_append, List.nil_append]
         repeat (first | exact SubL.nil | refine SubL.cons rfl ?_)
    ·(try simp only [cq1, cq2, cq3, cq4, cq5, cq6, cq7, cq8, cq9, cq10, cq11, cq12, cq13] at h60)
     have hfin := hgo.trans (code_end (by omega) hk2)
     refine tr_exit ?_
     refine pe_then_exit ?_
     refine pe_then_exit ?_
     refine pe_block_eq ?_
     refine pe_then_normal ?_
     refine tr_sub hC .nil .nil rfl ?_
     refine tr_seq ?_
     refine tr_region (fun N17 hN => ?_)
     refine lx (op_assign rfl) rfl ?_
     refine lx_end ⟨by kernel_rfl, ?_⟩
     refine pe_then_normal ?_
     refine tr_sub hC (.cons (t := 4) rfl .nil) .nil rfl ?_
     refine tr_ret ?_
     refine pe_ret1 rfl hO rfl (.tmp rfl .nil) ?_
     rw [hfin]
     exact ent_auto
end Go.Proofs.Ythiknhmoefbanaa
