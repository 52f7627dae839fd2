/- Parts of a proof that share one text: StWalk16, StWalk17, StWalk18, StRead, StBulk, StKeep, StRev, StWalk20, StWalk19, StWalk21. -/
import Derived.Test.YthiknhmoefbanaaCLb
import Derived.Test.YthiknhmoefbanaaCLe
import Derived.Test.YthiknhmoefbanaaCLc
import Derived.Test.YthiknhmoefbanaaChecked
import Derived.Test.YthiknhmoefbanaaRows

set_option linter.unusedVariables false
set_option linter.unusedSimpArgs false
namespace Go.Proofs.Ythiknhmoefbanaa
open Go.AL Go.Ch Go.Hp Go.RowKit
theorem ag71 : aggB Try.prog 71 = some true := by kernel_rfl
theorem ag81 : aggB Try.prog 81 = some false := by kernel_rfl
theorem el81 : elemB Try.prog 81 = some 3 := by kernel_rfl
theorem fl26_3 : fldB Try.prog 26 3 = some (3, 3) := by kernel_rfl
theorem fl71_0 : fldB Try.prog 71 0 = some (0, 9) := by kernel_rfl
theorem fl71_1 : fldB Try.prog 71 1 = some (1, 3) := by kernel_rfl
theorem fn35 : fnB Try.prog 35 = true := by kernel_rfl
theorem fn36 : fnB Try.prog 36 = true := by kernel_rfl
theorem sz71 : sizeB Try.prog 71 = some 2 := by kernel_rfl
theorem sz81 : sizeB Try.prog 81 = some 1 := by kernel_rfl
theorem ze71 : zeroB Try.prog 71 = some (some (.agg #[.string ⟨#[]⟩, .int .i64 0])) := by kernel_rfl
theorem layouts_ok (xs : List (List Int)) (hx : xs.length ≤ 9223372036854775807) (hl : ∀ l ∈ xs, l.length ≤ 9223372036854775807) : FnP Try.prog 35 [slP lyp 1 xs] (eqP (.bool (layoutsF xs))) := by
 refine fn_pure' Try.func35 rfl Try.ntmps35 rfl ?_
 intro σ0 M ex Rf R hC hO
 simp only [frameOf, tokOf]
 refine tr_seq ?_
 refine tr_region (fun N0 hN => ?_)
 refine lx (op_assign rfl) rfl ?_
 refine lx_end ⟨by kernel_rfl, ?_⟩
 refine pe_then_normal ?_
 refine tr_sub hC (.cons (t := 0) rfl .nil) .nil rfl ?_
 refine tr_seq ?_
 refine tr_seq ?_
 refine tr_region (fun N1 hN => ?_)
 refine lx (op_assign rfl) rfl ?_
 refine lx_end ⟨by kernel_rfl, ?_⟩
 refine pe_then_normal ?_
 refine tr_sub hC (.cons (t := 0) rfl (.cons (t := 3) rfl .nil)) .nil rfl ?_
 refine tr_block ?_
 refine tr_loopK (α := {zz : Nat // zz ≤ xs.length ∧ allI zz (fun a => lay1 (gt [] xs a)) = true}) (⟨(0), Nat.zero_le _, rfl⟩) (fun zz => [(3, eqP (.int .i64 (zz.1 : Int)))]) (fun zz => []) (fun zz => xs.length - zz.1) hC (.cons (t := 0) rfl .nil) .nil rfl ?_ ?_ (fun zz => ?_)
 ·try dsimp only [List.cons_append, List.nil_append]
  first | refine SubF.cons rfl ?_ | (refine SubF.ent rfl ?_ ?_; · exact ent_auto)
  exact SubF.nil
 ·try dsimp only [List.cons_append, List.nil_append]
  repeat (first | exact SubL.nil | refine SubL.cons rfl ?_)
 ·obtain ⟨k, hk1, hk2⟩ := zz
  dsimp only [List.cons_append, List.nil_append]
  refine tr_seq ?_
  refine tr_seq ?_
  refine tr_region (fun N2 hN => ?_)
  refine lx (op_move rfl) rfl ?_
  refine lx (op_move rfl) rfl ?_
  first | refine lx (op_len rfl el24) rfl ?_ | refine lx (op_len_row rfl el24) rfl ?_ | refine lx (op_len_mv rfl el24) rfl ?_ | refine lx (op_len_nil rfl el24) rfl ?_
  refine lx (op_lss rfl rfl) rfl ?_
  refine lx_end ⟨by kernel_rfl, ?_⟩
  refine pe_then_normal ?_
  refine tr_sub hC (.cons (t := 0) rfl (.cons (t := 3) rfl (.cons (t := 8) rfl .nil))) .nil rfl ?_
  refine tr_cond rfl (fun h8 => ?_) (fun h8 => ?_)
  ·(try simp only [cq1, cq2, cq3, cq4, cq5, cq6, cq7, cq8, cq9, cq10, cq11, cq12, cq13] at h8)
   have hlk := hl _ (gt_mem (d := []) (by omega : k < xs.length))
   refine tr_skip ?_
   refine pe_then_normal ?_
   refine tr_sub hC (.cons (t := 0) rfl (.cons (t := 3) rfl .nil)) .nil rfl ?_
   refine tr_seq ?_
   refine tr_block ?_
   refine tr_seq ?_
   refine tr_seq ?_
   refine tr_region (fun N4 hN => ?_)
   refine lx (op_assign rfl) rfl ?_
   refine lx_end ⟨by kernel_rfl, ?_⟩
   refine pe_then_normal ?_
   refine tr_sub hC (.cons (t := 0) rfl (.cons (t := 3) rfl (.cons (t := 4) rfl .nil))) .nil rfl ?_
   refine tr_block ?_
   refine tr_loopK (α := {zz : Nat // zz ≤ (gt [] xs k).length ∧ allI zz (fun b => !(decide (gt 0 (gt [] xs k) b ≠ 0) && decide (gt 0 (gt [] xs k) b ≠ 1))) = true}) (⟨(0), Nat.zero_le _, rfl⟩) (fun zz => [(4, eqP (.int .i64 (zz.1 : Int)))]) (fun zz => []) (fun zz => (gt [] xs k).length - zz.1) hC (.cons (t := 0) rfl (.cons (t := 3) rfl .nil)) .nil rfl ?_ ?_ (fun zz => ?_)
   ·try dsimp only [List.cons_append, List.nil_append]
    first | refine SubF.cons rfl ?_ | (refine SubF.ent rfl ?_ ?_; · exact ent_auto)
    exact SubF.nil
   ·try dsimp only [List.cons_append, List.nil_append]
    repeat (first | exact SubL.nil | refine SubL.cons rfl ?_)
   ·obtain ⟨j, hj1, hj2⟩ := zz
    dsimp only [List.cons_append, List.nil_append]
    refine tr_seq ?_
    refine tr_seq ?_
    refine tr_region (fun N5 hN => ?_)
    refine lx (op_move rfl) rfl ?_
    refine lx (op_move rfl) rfl ?_
    refine lx (op_move rfl) rfl ?_
    refine lx (op_index rfl rfl el24 sz81 rfl (gt_at (d := []) (by omega))) rfl ?_
    refine lx (op_load_one rfl ag81 rfl) rfl ?_
    first | refine lx (op_len rfl el81) rfl ?_ | refine lx (op_len_row rfl el81) rfl ?_ | refine lx (op_len_mv rfl el81) rfl ?_ | refine lx (op_len_nil rfl el81) rfl ?_
    refine lx (op_lss rfl rfl) rfl ?_
    refine lx_end ⟨by kernel_rfl, ?_⟩
    refine pe_then_normal ?_
    refine tr_sub hC (.cons (t := 0) rfl (.cons (t := 3) rfl (.cons (t := 4) rfl (.cons (t := 17) rfl .nil)))) .nil rfl ?_
    refine tr_cond rfl (fun h17 => ?_) (fun h17 => ?_)
    ·(try simp only [cq1, cq2, cq3, cq4, cq5, cq6, cq7, cq8, cq9, cq10, cq11, cq12, cq13] at h17)
     refine tr_skip ?_
     refine pe_then_normal ?_
     refine tr_sub hC (.cons (t := 0) rfl (.cons (t := 3) rfl (.cons (t := 4) rfl .nil))) .nil rfl ?_
     refine tr_seq ?_
     refine tr_block ?_
     refine tr_seq ?_
     refine tr_region (fun N7 hN => ?_)
     refine lx (op_move rfl) rfl ?_
     refine lx (op_move rfl) rfl ?_
     refine lx (op_index rfl rfl el24 sz81 rfl (gt_at (d := []) (by omega))) rfl ?_
     refine lx (op_load_one rfl ag81 rfl) rfl ?_
     refine lx (op_move rfl) rfl ?_
     refine lx (op_index rfl rfl el81 sz3 rfl (gt_at (d := (0 : Int)) (by omega))) rfl ?_
     refine lx (op_load_one rfl ag3 rfl) rfl ?_
     refine lx (op_neq rfl rfl) rfl ?_
     refine lx (op_move rfl) rfl ?_
     refine lxs rfl rfl rfl guard_eq (.cons (t := 0) rfl (fun _ => Ent.refl _) .nil) (op_move rfl) rfl ?_
     refine lxs rfl rfl rfl guard_eq (.cons (t := 3) rfl (fun _ => Ent.refl _) .nil) (op_move rfl) rfl ?_
     refine lxs rfl rfl rfl guard_eq (.cons (t := 29) rfl (fun h => entW h) (.cons (t := 30) rfl (fun h => entW h) .nil)) (op_index rfl rfl el24 sz81 rfl (gt_at (d := []) (by omega))) rfl ?_
     refine lxs rfl rfl rfl guard_eq (.cons (t := 31) rfl (fun h => entW h) .nil) (op_load_one rfl ag81 rfl) rfl ?_
     refine lxs rfl rfl rfl guard_eq (.cons (t := 4) rfl (fun _ => Ent.refl _) .nil) (op_move rfl) rfl ?_
     refine lxs rfl rfl rfl guard_eq (.cons (t := 32) rfl (fun h => entW h) (.cons (t := 33) rfl (fun h => entW h) .nil)) (op_index rfl rfl el81 sz3 rfl (gt_at (d := (0 : Int)) (by omega))) rfl ?_
     refine lxs rfl rfl rfl guard_eq (.cons (t := 34) rfl (fun h => entW h) .nil) (op_load_one rfl ag3 rfl) rfl ?_
     refine lxs rfl rfl rfl guard_eq (.cons (t := 35) rfl (fun h => entW h) .nil) (op_neq rfl rfl) rfl ?_
     refine lx (op_pick_and rfl rfl) rfl ?_
     refine lx_end ⟨by kernel_rfl, ?_⟩
     refine pe_then_normal ?_
     refine tr_sub hC (.cons (t := 0) rfl (.cons (t := 3) rfl (.cons (t := 4) rfl (.cons (t := 37) rfl .nil)))) .nil rfl ?_
     refine tr_cond rfl (fun h37 => ?_) (fun h37 => ?_)
     ·have hno := lays_no (by omega) (lay_no1 (by omega) h37)
      refine tr_seq ?_
      refine tr_region (fun N8 hN => ?_)
      refine lx (op_assign rfl) rfl ?_
      refine lx_end ⟨by kernel_rfl, ?_⟩
      refine pe_then_normal ?_
      refine tr_sub hC (.cons (t := 2) rfl .nil) .nil rfl ?_
      refine tr_ret ?_
      refine pe_block_ret ?_
      refine pe_then_ret ?_
      refine pe_then_ret ?_
      refine pe_block_ret ?_
      refine pe_then_ret ?_
      refine pe_block_ret ?_
      refine pe_then_ret ?_
      refine pe_then_ret ?_
      refine pe_block_ret ?_
      refine pe_then_ret ?_
      refine pe_ret1 rfl hO rfl (.tmp rfl .nil) ?_
      rw [hno]
      exact ent_auto
     ·have hst : (fun b => !(decide (gt 0 (gt [] xs k) b ≠ 0) && decide (gt 0 (gt [] xs k) b ≠ 1))) j = true := by
       dsimp only
       rw [h37]
       rfl
      refine tr_skip ?_
      refine pe_block_normal ?_
      refine pe_then_normal ?_
      refine tr_sub hC (.cons (t := 0) rfl (.cons (t := 3) rfl (.cons (t := 4) rfl .nil))) .nil rfl ?_
      refine tr_region (fun N6 hN => ?_)
      refine lx (op_move rfl) rfl ?_
      refine lx (op_add rfl rfl (by omega)) rfl ?_
      refine lx (op_assign rfl) rfl ?_
      refine lx_end ⟨by kernel_rfl, ?_⟩
      refine pe_round (⟨(j + 1), by omega, allI_step hj2 hst⟩) (by dsimp only; omega) (pe_st hC ?_ ?_ rfl)
      ·try dsimp only [List.cons_append, List.nil_append]
       first | refine SubF.cons rfl ?_ | (refine SubF.ent rfl ?_ ?_; · exact ent_auto)
       first | refine SubF.cons rfl ?_ | (refine SubF.ent rfl ?_ ?_; · exact ent_auto)
       first | refine SubF.cons rfl ?_ | (refine SubF.ent rfl ?_ ?_; · exact ent_auto)
       exact SubF.nil
      ·try dsimp only [List.cons_append, List.nil_append]
       repeat (first | exact SubL.nil | refine SubL.cons rfl ?_)
    ·(try simp only [cq1, cq2, cq3, cq4, cq5, cq6, cq7, cq8, cq9, cq10, cq11, cq12, cq13] at h17)
     have hin := allI_end hj2 (by omega : (gt [] xs k).length ≤ j)
     refine tr_exit ?_
     refine pe_then_exit ?_
     refine pe_then_exit ?_
     refine pe_block_eq ?_
     refine pe_then_normal ?_
     refine tr_sub hC (.cons (t := 0) rfl (.cons (t := 3) rfl .nil)) .nil rfl ?_
     refine tr_seq ?_
     refine tr_region (fun N9 hN => ?_)
     refine lx (op_move rfl) rfl ?_
     refine lx (op_move rfl) rfl ?_
     refine lx (op_index rfl rfl el24 sz81 rfl (gt_at (d := []) (by omega))) rfl ?_
     refine lx (op_load_one rfl ag81 rfl) rfl ?_
     first | refine lx (op_len rfl el81) rfl ?_ | refine lx (op_len_row rfl el81) rfl ?_ | refine lx (op_len_mv rfl el81) rfl ?_ | refine lx (op_len_nil rfl el81) rfl ?_
     refine lx (op_gtr rfl rfl) rfl ?_
     refine lx_end ⟨by kernel_rfl, ?_⟩
     refine pe_then_normal ?_
     refine tr_sub hC (.cons (t := 0) rfl (.cons (t := 3) rfl (.cons (t := 43) rfl .nil))) .nil rfl ?_
     refine tr_cond rfl (fun h43 => ?_) (fun h43 => ?_)
     ·(try simp only [cq1, cq2, cq3, cq4, cq5, cq6, cq7, cq8, cq9, cq10, cq11, cq12, cq13] at h43)
      have hno := lays_no (k := k) (ls := xs) (by omega) (lay_no2 (l := gt [] xs k) (by omega))
      refine tr_seq ?_
      refine tr_region (fun N10 hN => ?_)
      refine lx (op_assign rfl) rfl ?_
      refine lx_end ⟨by kernel_rfl, ?_⟩
      refine pe_then_normal ?_
      refine tr_sub hC (.cons (t := 2) rfl .nil) .nil rfl ?_
      refine tr_ret ?_
      refine pe_block_ret ?_
      refine pe_then_ret ?_
      refine pe_then_ret ?_
      refine pe_block_ret ?_
      refine pe_then_ret ?_
      refine pe_ret1 rfl hO rfl (.tmp rfl .nil) ?_
      rw [hno]
      exact ent_auto
     ·(try simp only [cq1, cq2, cq3, cq4, cq5, cq6, cq7, cq8, cq9, cq10, cq11, cq12, cq13] at h43)
      have hyes := lay_yes hin (by omega)
      refine tr_skip ?_
      refine pe_block_normal ?_
      refine pe_then_normal ?_
      refine tr_sub hC (.cons (t := 0) rfl (.cons (t := 3) rfl .nil)) .nil rfl ?_
      refine tr_region (fun N3 hN => ?_)
      refine lx (op_move rfl) rfl ?_
      refine lx (op_add rfl rfl (by omega)) rfl ?_
      refine lx (op_assign rfl) rfl ?_
      refine lx_end ⟨by kernel_rfl, ?_⟩
      refine pe_round (⟨(k + 1), by omega, allI_step (φ := fun a => lay1 (gt [] xs a)) hk2 hyes⟩) (by dsimp only; omega) (pe_st hC ?_ ?_ rfl)
      ·try dsimp only [List.cons_append, List.nil_append]
       first | refine SubF.cons rfl ?_ | (refine SubF.ent rfl ?_ ?_; · exact ent_auto)
       first | refine SubF.cons rfl ?_ | (refine SubF.ent rfl ?_ ?_; · exact ent_auto)
       exact SubF.nil
      ·try dsimp only [List.cons_append, List.nil_append]
       repeat (first | exact SubL.nil | refine SubL.cons rfl ?_)
  ·(try simp only [cq1, cq2, cq3, cq4, cq5, cq6, cq7, cq8, cq9, cq10, cq11, cq12, cq13] at h8)
   have hfin := lays_fin (allI_end hk2 (by omega))
   refine tr_exit ?_
   refine pe_then_exit ?_
   refine pe_then_exit ?_
   refine pe_block_eq ?_
   refine pe_then_normal ?_
   refine tr_sub hC (.cons (t := 0) rfl .nil) .nil rfl ?_
   refine tr_seq ?_
   refine tr_region (fun N11 hN => ?_)
   refine lx (op_move rfl) rfl ?_
   first | refine lx (op_len rfl el24) rfl ?_ | refine lx (op_len_row rfl el24) rfl ?_ | refine lx (op_len_mv rfl el24) rfl ?_ | refine lx (op_len_nil rfl el24) rfl ?_
   refine lx (op_leq rfl rfl) rfl ?_
   refine lx (op_assign rfl) rfl ?_
   refine lx_end ⟨by kernel_rfl, ?_⟩
   refine pe_then_normal ?_
   refine tr_sub hC (.cons (t := 2) rfl .nil) .nil rfl ?_
   refine tr_ret ?_
   refine pe_ret1 rfl hO rfl (.tmp rfl .nil) ?_
   rw [hfin]
   exact ent_auto
theorem Prog_ok (p : Pg) (hb : BdPg 9223372036854775807 p) : FnP Try.prog 13 [aggP p.ps] (eqP (.bool (progF instrF p))) := by
 have hbf := hb.funcs
 have hbg := hb.globals
 refine fn_pure' Try.func13 rfl Try.ntmps13 rfl ?_
 intro σ0 M ex Rf R hC hO
 simp only [frameOf, tokOf]
 refine tr_seq ?_
 refine tr_region (fun N0 hN => ?_)
 refine lxn (op_box (m := 1) (k := 1) rfl (.agg rfl) (by first | exact hC.low _ (by decide) | rfl)) rfl ?_
 refine lx (op_assign rfl) rfl ?_
 refine lx_end ⟨by kernel_rfl, ?_⟩
 refine pe_then_normal ?_
 refine tr_sub hC (.cons (t := 1) rfl .nil) (.cons (t := 1) rfl .nil) rfl ?_
 refine tr_seq ?_
 refine tr_seq ?_
 refine tr_region (fun N1 hN => ?_)
 refine lx (op_fieldAddr rfl fl26_0 sz22) rfl ?_
 refine lx (op_bload_one (m := 1) rfl rfl ag22 rfl) rfl ?_
 first | refine lx (op_len rfl el22) rfl ?_ | refine lx (op_len_row rfl el22) rfl ?_ | refine lx (op_len_mv rfl el22) rfl ?_ | refine lx (op_len_nil rfl el22) rfl ?_
 refine lx (op_gtr rfl rfl) rfl ?_
 refine lx (op_move rfl) rfl ?_
 refine lxs rfl rfl rfl guard_eq (.cons (t := 1) rfl (fun _ => Ent.refl _) .nil) (op_fieldAddr rfl fl26_1 sz23) rfl ?_
 refine lxs rfl rfl rfl guard_eq (.cons (t := 13) rfl (fun h => entW h) .nil) (op_bload_one (m := 1) rfl rfl ag23 rfl) rfl ?_
 first | refine lxs rfl rfl rfl guard_eq (.cons (t := 14) rfl (fun h => entW h) .nil) (op_len rfl el23) rfl ?_ | refine lxs rfl rfl rfl guard_eq (.cons (t := 14) rfl (fun h => entW h) .nil) (op_len_row rfl el23) rfl ?_ | refine lxs rfl rfl rfl guard_eq (.cons (t := 14) rfl (fun h => entW h) .nil) (op_len_mv rfl el23) rfl ?_ | refine lxs rfl rfl rfl guard_eq (.cons (t := 14) rfl (fun h => entW h) .nil) (op_len_nil rfl el23) rfl ?_
 refine lxs rfl rfl rfl guard_eq (.cons (t := 15) rfl (fun h => entW h) .nil) (op_gtr rfl rfl) rfl ?_
 refine lx (op_pick_or rfl rfl) rfl ?_
 refine lx (op_move rfl) rfl ?_
 refine lxs rfl rfl rfl guard_eq (.cons (t := 1) rfl (fun _ => Ent.refl _) .nil) (op_fieldAddr rfl fl26_2 sz24) rfl ?_
 refine lxs rfl rfl rfl guard_eq (.cons (t := 19) rfl (fun h => entW h) .nil) (op_bload_one (m := 1) rfl rfl ag24 rfl) rfl ?_
 first | refine lxs rfl rfl rfl guard_eq (.cons (t := 20) rfl (fun h => entW h) .nil) (op_call (l := [(Go.Operand.tmp 20)]) (layouts_ok p.layouts hb.layouts hb.lays) (.cons rfl .nil) fn35) rfl ?_ | refine lxs rfl rfl rfl guard_eq (.cons (t := 20) rfl (fun h => entW h) .nil) (op_call (l := [(Go.Operand.tmp 20)]) (layouts_ok p.layouts hb.layouts hb.lays) (.ent rfl (by exact ent_auto) .nil) fn35) rfl ?_
 first | refine lxs rfl rfl rfl guard_eq (.cons (t := 21) rfl (fun h => entW h) .nil) (op_not rfl) rfl ?_ | refine lxs rfl rfl rfl guard_eq (.cons (t := 21) rfl (fun h => entW h) .nil) (op_not_b rfl) rfl ?_
 refine lx (op_pick_or rfl rfl) rfl ?_
 refine lx (op_move rfl) rfl ?_
 refine lxs rfl rfl rfl guard_eq (.cons (t := 1) rfl (fun _ => Ent.refl _) .nil) (op_fieldAddr rfl fl26_3 sz3) rfl ?_
 refine lxs rfl rfl rfl guard_eq (.cons (t := 25) rfl (fun h => entW h) .nil) (op_bload_one (m := 1) rfl rfl ag3 rfl) rfl ?_
 refine lxs rfl rfl rfl guard_eq (.cons (t := 26) rfl (fun h => entW h) .nil) (op_lss rfl rfl) rfl ?_
 refine lx (op_pick_or rfl rfl) rfl ?_
 refine lx (op_move rfl) rfl ?_
 refine lxs rfl rfl rfl guard_eq (.cons (t := 1) rfl (fun _ => Ent.refl _) .nil) (op_fieldAddr rfl fl26_3 sz3) rfl ?_
 refine lxs rfl rfl rfl guard_eq (.cons (t := 30) rfl (fun h => entW h) .nil) (op_bload_one (m := 1) rfl rfl ag3 rfl) rfl ?_
 refine lxs rfl rfl rfl guard_eq (.cons (t := 1) rfl (fun _ => Ent.refl _) .nil) (op_fieldAddr rfl fl26_0 sz22) rfl ?_
 refine lxs rfl rfl rfl guard_eq (.cons (t := 32) rfl (fun h => entW h) .nil) (op_bload_one (m := 1) rfl rfl ag22 rfl) rfl ?_
 first | refine lxs rfl rfl rfl guard_eq (.cons (t := 33) rfl (fun h => entW h) .nil) (op_len rfl el22) rfl ?_ | refine lxs rfl rfl rfl guard_eq (.cons (t := 33) rfl (fun h => entW h) .nil) (op_len_row rfl el22) rfl ?_ | refine lxs rfl rfl rfl guard_eq (.cons (t := 33) rfl (fun h => entW h) .nil) (op_len_mv rfl el22) rfl ?_ | refine lxs rfl rfl rfl guard_eq (.cons (t := 33) rfl (fun h => entW h) .nil) (op_len_nil rfl el22) rfl ?_
 refine lxs rfl rfl rfl guard_eq (.cons (t := 31) rfl (fun h => entW h) (.cons (t := 34) rfl (fun h => entW h) .nil)) (op_geq rfl rfl) rfl ?_
 refine lx (op_pick_or rfl rfl) rfl ?_
 refine lx (op_move rfl) rfl ?_
 refine lxs rfl rfl rfl guard_eq (.cons (t := 1) rfl (fun _ => Ent.refl _) .nil) (op_fieldAddr rfl fl26_0 sz22) rfl ?_
 refine lxs rfl rfl rfl guard_eq (.cons (t := 38) rfl (fun h => entW h) .nil) (op_bload_one (m := 1) rfl rfl ag22 rfl) rfl ?_
 refine lxs rfl rfl rfl guard_eq (.cons (t := 1) rfl (fun _ => Ent.refl _) .nil) (op_fieldAddr rfl fl26_3 sz3) rfl ?_
 refine lxs rfl rfl rfl guard_eq (.cons (t := 40) rfl (fun h => entW h) .nil) (op_bload_one (m := 1) rfl rfl ag3 rfl) rfl ?_
 refine lxsc (rd := [(39, slP Fu.ps 4 p.funcs), (41, eqP (.int .i64 p.main))]) (φ := cellsP (pfn p p.main).ps) rfl rfl rfl guard_eq (.cons (t := 39) rfl (fun h => entW h) (.cons (t := 41) rfl (fun h => entW h) .nil)) (fun hgd => ?_) rfl rfl ?_
 ·have hq0 : 0 ≤ p.main ∧ p.main < (p.funcs.length : Int) := by
   simp at hgd
   omega
  exact op_index rfl rfl el22 sz66 (by omega : p.main = ((p.main.toNat : Nat) : Int)) (pfn_at (by omega) (by omega))
 first | refine lxs rfl rfl rfl guard_eq (.cons (t := 42) rfl (fun h => entW h) .nil) (op_fieldAddr rfl fl66_1 sz3) rfl ?_ | refine lxs rfl rfl rfl guard_eq (.cons (t := 42) rfl (fun h => entW h) .nil) (op_fieldCells rfl fl66_1 sz3) rfl ?_
 first | refine lxs rfl rfl rfl guard_eq (.cons (t := 43) rfl (fun h => entW h) .nil) (op_load_one rfl ag3 rfl) rfl ?_ | refine lxs rfl rfl rfl guard_eq (.cons (t := 43) rfl (fun h => entW h) .nil) (op_bload_one (m := 1) rfl rfl ag3 rfl) rfl ?_
 refine lxs rfl rfl rfl guard_eq (.cons (t := 44) rfl (fun h => entW h) .nil) (op_neq rfl rfl) rfl ?_
 refine lx (op_pick_or rfl rfl) rfl ?_
 refine lx_end ⟨by kernel_rfl, ?_⟩
 refine pe_then_normal ?_
 refine tr_sub hC (.cons (t := 1) rfl (.cons (t := 46) rfl .nil)) (.cons (t := 1) rfl .nil) rfl ?_
 refine tr_cond rfl (fun h46 => ?_) (fun h46 => ?_)
 ·have hh : hdrP p = true := h46
  have hno := prog_no (ins := instrF) hh
  refine tr_seq ?_
  refine tr_region (fun N2 hN => ?_)
  refine lx (op_assign rfl) rfl ?_
  refine lx_end ⟨by kernel_rfl, ?_⟩
  refine pe_then_normal ?_
  refine tr_sub hC (.cons (t := 2) rfl .nil) .nil rfl ?_
  refine tr_ret ?_
  refine pe_then_ret ?_
  refine pe_ret1 rfl hO rfl (.tmp rfl .nil) ?_
  rw [hno]
  exact ent_auto
 ·have hh : hdrP p = false := h46
  refine tr_skip ?_
  refine pe_then_normal ?_
  refine tr_sub hC (.cons (t := 1) rfl .nil) (.cons (t := 1) rfl .nil) rfl ?_
  refine tr_seq ?_
  refine tr_seq ?_
  refine tr_region (fun N3 hN => ?_)
  refine lx (op_assign rfl) rfl ?_
  refine lx_end ⟨by kernel_rfl, ?_⟩
  refine pe_then_normal ?_
  refine tr_sub hC (.cons (t := 1) rfl (.cons (t := 3) rfl .nil)) (.cons (t := 1) rfl .nil) rfl ?_
  refine tr_block ?_
  refine tr_loopK (α := {zz : Nat // zz ≤ p.globals.length ∧ allI zz (glOK p.globals) = true}) (⟨(0), Nat.zero_le _, rfl⟩) (fun zz => [(3, eqP (.int .i64 (zz.1 : Int)))]) (fun zz => []) (fun zz => p.globals.length - zz.1) hC (.cons (t := 1) rfl .nil) (.cons (t := 1) rfl .nil) rfl ?_ ?_ (fun zz => ?_)
  ·try dsimp only [List.cons_append, List.nil_append]
   first | refine SubF.cons rfl ?_ | (refine SubF.ent rfl ?_ ?_; · exact ent_auto)
   exact SubF.nil
  ·try dsimp only [List.cons_append, List.nil_append]
   repeat (first | exact SubL.nil | refine SubL.cons rfl ?_)
  ·obtain ⟨k, hk1, hk2⟩ := zz
   dsimp only [List.cons_append, List.nil_append]
   refine tr_seq ?_
   refine tr_seq ?_
   refine tr_region (fun N4 hN => ?_)
   refine lx (op_move rfl) rfl ?_
   refine lx (op_fieldAddr rfl fl26_1 sz23) rfl ?_
   refine lx (op_bload_one (m := 1) rfl rfl ag23 rfl) rfl ?_
   first | refine lx (op_len rfl el23) rfl ?_ | refine lx (op_len_row rfl el23) rfl ?_ | refine lx (op_len_mv rfl el23) rfl ?_ | refine lx (op_len_nil rfl el23) rfl ?_
   refine lx (op_lss rfl rfl) rfl ?_
   refine lx_end ⟨by kernel_rfl, ?_⟩
   refine pe_then_normal ?_
   refine tr_sub hC (.cons (t := 1) rfl (.cons (t := 3) rfl (.cons (t := 51) rfl .nil))) (.cons (t := 1) rfl .nil) rfl ?_
   refine tr_cond rfl (fun h51 => ?_) (fun h51 => ?_)
   ·(try simp only [cq1, cq2, cq3, cq4, cq5, cq6, cq7, cq8, cq9, cq10, cq11, cq12, cq13] at h51)
    refine tr_skip ?_
    refine pe_then_normal ?_
    refine tr_sub hC (.cons (t := 1) rfl (.cons (t := 3) rfl .nil)) (.cons (t := 1) rfl .nil) rfl ?_
    refine tr_seq ?_
    refine tr_block ?_
    refine tr_seq ?_
    refine tr_region (fun N6 hN => ?_)
    refine lx (op_fieldAddr rfl fl26_1 sz23) rfl ?_
    refine lx (op_bload_one (m := 1) rfl rfl ag23 rfl) rfl ?_
    refine lx (op_move rfl) rfl ?_
    refine lx (op_index rfl rfl el23 sz71 rfl (gt_at (d := gl0) (by omega))) rfl ?_
    first | refine lx (op_load_all rfl ag71 sz71) rfl ?_ | refine lx (op_load_agg rfl ag71 sz71 rfl) rfl ?_ | refine lx (op_bload (m := 1) rfl rfl ag71 sz71) rfl ?_ | refine lx (op_bload_part (m := 1) (qs := [_, _]) rfl rfl ag71 sz71 rfl rfl) rfl ?_
    refine lxn (op_alloc (m := 4) (k := 4) (ps := [eqP (.string ⟨#[]⟩), eqP (.int .i64 0)]) ze71 rfl rfl (by first | exact hC.low _ (by decide) | rfl)) rfl ?_
    refine lxr (op_store_all (m := 4) rfl rfl rfl (.agg rfl) sz71 rfl) rfl ?_
    refine lx_end ⟨by kernel_rfl, ?_⟩
    refine pe_then_normal ?_
    refine tr_sub hC (.cons (t := 1) rfl (.cons (t := 3) rfl (.cons (t := 4) rfl .nil))) (.cons (t := 1) rfl (.cons (t := 4) rfl .nil)) rfl ?_
    refine tr_seq ?_
    refine tr_seq ?_
    refine tr_region (fun N7 hN => ?_)
    refine lx (op_fieldAddr rfl fl71_0 sz9) rfl ?_
    refine lx (op_bload_one (m := 4) rfl rfl ag9 rfl) rfl ?_
    refine lx (op_eql_str st9 rfl rfl) rfl ?_
    refine lx (op_move rfl) rfl ?_
    refine lxs rfl rfl rfl guard_eq (.cons (t := 4) rfl (fun _ => Ent.refl _) .nil) (op_fieldAddr rfl fl71_1 sz3) rfl ?_
    refine lxs rfl rfl rfl guard_eq (.cons (t := 63) rfl (fun h => entW h) .nil) (op_bload_one (m := 4) rfl rfl ag3 rfl) rfl ?_
    refine lxs rfl rfl rfl guard_eq (.cons (t := 64) rfl (fun h => entW h) .nil) (op_neq rfl rfl) rfl ?_
    refine lxs rfl rfl rfl guard_eq (.cons (t := 65) rfl (fun h => entW h) .nil) (op_move rfl) rfl ?_
    refine lxs rfl rfl rfl guard_w (.cons (t := 4) rfl (fun _ => Ent.refl _) .nil) (op_fieldAddr rfl fl71_1 sz3) rfl ?_
    refine lxs rfl rfl rfl guard_w (.cons (t := 67) rfl (fun h => entW h) .nil) (op_bload_one (m := 4) rfl rfl ag3 rfl) rfl ?_
    refine lxs rfl rfl rfl guard_w (.cons (t := 68) rfl (fun h => entW h) .nil) (op_neq rfl rfl) rfl ?_
    refine lxs rfl rfl rfl guard_eq (.cons (t := 66) rfl (fun h => entW h) (.cons (t := 69) rfl (fun h => entS h) .nil)) (op_pick_and rfl rfl) rfl ?_
    refine lx (op_pick_or rfl rfl) rfl ?_
    refine lx_end ⟨by kernel_rfl, ?_⟩
    refine pe_then_normal ?_
    refine tr_sub hC (.cons (t := 1) rfl (.cons (t := 3) rfl (.cons (t := 4) rfl (.cons (t := 71) rfl .nil)))) (.cons (t := 1) rfl (.cons (t := 4) rfl .nil)) rfl ?_
    refine tr_cond rfl (fun h71 => ?_) (fun h71 => ?_)
    ·have hno := prog_g (ins := instrF) hh (gl_no1 (by omega) h71)
     refine tr_seq ?_
     refine tr_region (fun N8 hN => ?_)
     refine lx (op_assign rfl) rfl ?_
     refine lx_end ⟨by kernel_rfl, ?_⟩
     refine pe_then_normal ?_
     refine tr_sub hC (.cons (t := 2) rfl .nil) .nil rfl ?_
     refine tr_ret ?_
     refine pe_then_ret ?_
     refine pe_block_ret ?_
     refine pe_then_ret ?_
     refine pe_then_ret ?_
     refine pe_block_ret ?_
     refine pe_then_ret ?_
     refine pe_ret1 rfl hO rfl (.tmp rfl .nil) ?_
     rw [hno]
     exact ent_auto
    ·have hg1 := h71
     refine tr_skip ?_
     refine pe_then_normal ?_
     refine tr_sub hC (.cons (t := 1) rfl (.cons (t := 3) rfl (.cons (t := 4) rfl .nil))) (.cons (t := 1) rfl (.cons (t := 4) rfl .nil)) rfl ?_
     refine tr_seq ?_
     refine tr_region (fun N9 hN => ?_)
     refine lx (op_assign rfl) rfl ?_
     refine lx_end ⟨by kernel_rfl, ?_⟩
     refine pe_then_normal ?_
     refine tr_sub hC (.cons (t := 1) rfl (.cons (t := 3) rfl (.cons (t := 4) rfl (.cons (t := 5) rfl .nil)))) (.cons (t := 1) rfl (.cons (t := 4) rfl .nil)) rfl ?_
     refine tr_block ?_
     refine tr_loopK (α := {zz : Nat // zz ≤ k ∧ allI zz (fun zz => !((gt gl0 p.globals zz).name.toList == (gt gl0 p.globals k).name.toList)) = true}) (⟨(0), Nat.zero_le _, rfl⟩) (fun zz => [(5, eqP (.int .i64 (zz.1 : Int)))]) (fun zz => []) (fun zz => k - zz.1) hC (.cons (t := 1) rfl (.cons (t := 3) rfl (.cons (t := 4) rfl .nil))) (.cons (t := 1) rfl (.cons (t := 4) rfl .nil)) rfl ?_ ?_ (fun zz => ?_)
     ·try dsimp only [List.cons_append, List.nil_append]
      first | refine SubF.cons rfl ?_ | (refine SubF.ent rfl ?_ ?_; · exact ent_auto)
      exact SubF.nil
     ·try dsimp only [List.cons_append, List.nil_append]
      repeat (first | exact SubL.nil | refine SubL.cons rfl ?_)
     ·obtain ⟨j, hj1, hj2⟩ := zz
      dsimp only [List.cons_append, List.nil_append]
      refine tr_seq ?_
      refine tr_seq ?_
      refine tr_region (fun N10 hN => ?_)
      refine lx (op_move rfl) rfl ?_
      refine lx (op_move rfl) rfl ?_
      refine lx (op_lss rfl rfl) rfl ?_
      refine lx_end ⟨by kernel_rfl, ?_⟩
      refine pe_then_normal ?_
      refine tr_sub hC (.cons (t := 1) rfl (.cons (t := 3) rfl (.cons (t := 4) rfl (.cons (t := 5) rfl (.cons (t := 74) rfl .nil))))) (.cons (t := 1) rfl (.cons (t := 4) rfl .nil)) rfl ?_
      refine tr_cond rfl (fun h74 => ?_) (fun h74 => ?_)
      ·(try simp only [cq1, cq2, cq3, cq4, cq5, cq6, cq7, cq8, cq9, cq10, cq11, cq12, cq13] at h74)
       refine tr_skip ?_
       refine pe_then_normal ?_
       refine tr_sub hC (.cons (t := 1) rfl (.cons (t := 3) rfl (.cons (t := 4) rfl (.cons (t := 5) rfl .nil)))) (.cons (t := 1) rfl (.cons (t := 4) rfl .nil)) rfl ?_
       refine tr_seq ?_
       refine tr_block ?_
       refine tr_seq ?_
       refine tr_drawn mixed (fun N12 hN => ?_)
       refine lx (op_fieldAddr rfl fl26_1 sz23) rfl ?_
       refine lx (op_bload_one (m := 1) rfl rfl ag23 rfl) rfl ?_
       refine lx (op_move rfl) rfl ?_
       refine lx (op_index rfl rfl el23 sz71 rfl (gt_at (d := gl0) (by omega))) rfl ?_
       first | refine lx (op_fieldAddr rfl fl71_0 sz9) rfl ?_ | refine lx (op_fieldCells rfl fl71_0 sz9) rfl ?_
       first | refine lx (op_load_one rfl ag9 rfl) rfl ?_ | refine lx (op_bload_one (m := 1) rfl rfl ag9 rfl) rfl ?_ | refine lx (op_bload_one (m := 4) rfl rfl ag9 rfl) rfl ?_
       refine lx (op_fieldAddr rfl fl71_0 sz9) rfl ?_
       refine lx (op_bload_one (m := 4) rfl rfl ag9 rfl) rfl ?_
       refine lx (op_eql_str st9 rfl rfl) rfl ?_
       refine lx_end ⟨by kernel_rfl, ?_⟩
       refine pe_then_normal ?_
       refine tr_sub hC (.cons (t := 1) rfl (.cons (t := 3) rfl (.cons (t := 4) rfl (.cons (t := 5) rfl (.cons (t := 85) rfl .nil))))) (.cons (t := 1) rfl (.cons (t := 4) rfl .nil)) rfl ?_
       refine tr_cond rfl (fun h85 => ?_) (fun h85 => ?_)
       ·have hno := prog_g (ins := instrF) hh (gl_no2 (by omega) (by omega) h85)
        refine tr_seq ?_
        refine tr_region (fun N13 hN => ?_)
        refine lx (op_assign rfl) rfl ?_
        refine lx_end ⟨by kernel_rfl, ?_⟩
        refine pe_then_normal ?_
        refine tr_sub hC (.cons (t := 2) rfl .nil) .nil rfl ?_
        refine tr_ret ?_
        refine pe_block_ret ?_
        refine pe_then_ret ?_
        refine pe_then_ret ?_
        refine pe_block_ret ?_
        refine pe_block_ret ?_
        refine pe_then_ret ?_
        refine pe_then_ret ?_
        refine pe_block_ret ?_
        refine pe_then_ret ?_
        refine pe_ret1 rfl hO rfl (.tmp rfl .nil) ?_
        rw [hno]
        exact ent_auto
       ·have hst : (fun j => !((gt gl0 p.globals j).name.toList == (gt gl0 p.globals k).name.toList)) j = true := by
         dsimp only
         rw [h85]
         rfl
        refine tr_skip ?_
        refine pe_block_normal ?_
        refine pe_then_normal ?_
        refine tr_sub hC (.cons (t := 1) rfl (.cons (t := 3) rfl (.cons (t := 4) rfl (.cons (t := 5) rfl .nil)))) (.cons (t := 1) rfl (.cons (t := 4) rfl .nil)) rfl ?_
        refine tr_region (fun N11 hN => ?_)
        refine lx (op_move rfl) rfl ?_
        refine lx (op_add rfl rfl (by omega)) rfl ?_
        refine lx (op_assign rfl) rfl ?_
        refine lx_end ⟨by kernel_rfl, ?_⟩
        refine pe_round (⟨(j + 1), by omega, allI_step hj2 hst⟩) (by dsimp only; omega) (pe_st hC ?_ ?_ rfl)
        ·try dsimp only [List.cons_append, List.nil_append]
         first | refine SubF.cons rfl ?_ | (refine SubF.ent rfl ?_ ?_; · exact ent_auto)
         first | refine SubF.cons rfl ?_ | (refine SubF.ent rfl ?_ ?_; · exact ent_auto)
         first | refine SubF.cons rfl ?_ | (refine SubF.ent rfl ?_ ?_; · exact ent_auto)
         first | refine SubF.cons rfl ?_ | (refine SubF.ent rfl ?_ ?_; · exact ent_auto)
         exact SubF.nil
        ·try dsimp only [List.cons_append, List.nil_append]
         repeat (first | exact SubL.nil | refine SubL.cons rfl ?_)
      ·(try simp only [cq1, cq2, cq3, cq4, cq5, cq6, cq7, cq8, cq9, cq10, cq11, cq12, cq13] at h74)
       have hyes := gl_yes hg1 (allI_end hj2 (by omega : k ≤ j))
       refine tr_exit ?_
       refine pe_then_exit ?_
       refine pe_then_exit ?_
       refine pe_block_eq ?_
       refine pe_block_normal ?_
       refine pe_then_normal ?_
       refine tr_sub hC (.cons (t := 1) rfl (.cons (t := 3) rfl .nil)) (.cons (t := 1) rfl .nil) rfl ?_
       refine tr_region (fun N5 hN => ?_)
       refine lx (op_move rfl) rfl ?_
       refine lx (op_add rfl rfl (by omega)) rfl ?_
       refine lx (op_assign rfl) rfl ?_
       refine lx_end ⟨by kernel_rfl, ?_⟩
       refine pe_round (⟨(k + 1), by omega, allI_step hk2 hyes⟩) (by dsimp only; omega) (pe_st hC ?_ ?_ rfl)
       ·try dsimp only [List.cons_append, List.nil_append]
        first | refine SubF.cons rfl ?_ | (refine SubF.ent rfl ?_ ?_; · exact ent_auto)
        first | refine SubF.cons rfl ?_ | (refine SubF.ent rfl ?_ ?_; · exact ent_auto)
        exact SubF.nil
       ·try dsimp only [List.cons_append, List.nil_append]
        repeat (first | exact SubL.nil | refine SubL.cons rfl ?_)
   ·(try simp only [cq1, cq2, cq3, cq4, cq5, cq6, cq7, cq8, cq9, cq10, cq11, cq12, cq13] at h51)
    have hgl := allI_end hk2 (by omega : p.globals.length ≤ k)
    refine tr_exit ?_
    refine pe_then_exit ?_
    refine pe_then_exit ?_
    refine pe_block_eq ?_
    refine pe_then_normal ?_
    refine tr_sub hC (.cons (t := 1) rfl .nil) (.cons (t := 1) rfl .nil) rfl ?_
    refine tr_seq ?_
    refine tr_seq ?_
    refine tr_region (fun N14 hN => ?_)
    refine lx (op_assign rfl) rfl ?_
    refine lx_end ⟨by kernel_rfl, ?_⟩
    refine pe_then_normal ?_
    refine tr_sub hC (.cons (t := 1) rfl (.cons (t := 6) rfl .nil)) (.cons (t := 1) rfl .nil) rfl ?_
    refine tr_block ?_
    refine tr_loopK (α := {zz : Nat // zz ≤ p.funcs.length ∧ allI zz (fnK instrF p) = true}) (⟨(0), Nat.zero_le _, rfl⟩) (fun zz => [(6, eqP (.int .i64 (zz.1 : Int)))]) (fun zz => []) (fun zz => p.funcs.length - zz.1) hC (.cons (t := 1) rfl .nil) (.cons (t := 1) rfl .nil) rfl ?_ ?_ (fun zz => ?_)
    ·try dsimp only [List.cons_append, List.nil_append]
     first | refine SubF.cons rfl ?_ | (refine SubF.ent rfl ?_ ?_; · exact ent_auto)
     exact SubF.nil
    ·try dsimp only [List.cons_append, List.nil_append]
     repeat (first | exact SubL.nil | refine SubL.cons rfl ?_)
    ·obtain ⟨k, hk1, hk2⟩ := zz
     dsimp only [List.cons_append, List.nil_append]
     refine tr_seq ?_
     refine tr_seq ?_
     refine tr_region (fun N15 hN => ?_)
     refine lx (op_move rfl) rfl ?_
     refine lx (op_fieldAddr rfl fl26_0 sz22) rfl ?_
     refine lx (op_bload_one (m := 1) rfl rfl ag22 rfl) rfl ?_
     first | refine lx (op_len rfl el22) rfl ?_ | refine lx (op_len_row rfl el22) rfl ?_ | refine lx (op_len_mv rfl el22) rfl ?_ | refine lx (op_len_nil rfl el22) rfl ?_
     refine lx (op_lss rfl rfl) rfl ?_
     refine lx_end ⟨by kernel_rfl, ?_⟩
     refine pe_then_normal ?_
     refine tr_sub hC (.cons (t := 1) rfl (.cons (t := 6) rfl (.cons (t := 90) rfl .nil))) (.cons (t := 1) rfl .nil) rfl ?_
     refine tr_cond rfl (fun h90 => ?_) (fun h90 => ?_)
     ·(try simp only [cq1, cq2, cq3, cq4, cq5, cq6, cq7, cq8, cq9, cq10, cq11, cq12, cq13] at h90)
      refine tr_skip ?_
      refine pe_then_normal ?_
      refine tr_sub hC (.cons (t := 1) rfl (.cons (t := 6) rfl .nil)) (.cons (t := 1) rfl .nil) rfl ?_
      refine tr_seq ?_
      refine tr_block ?_
      refine tr_seq ?_
      refine tr_seq ?_
      refine tr_drawn mixed (fun N17 hN => ?_)
      refine lx (op_bload (m := 1) rfl rfl ag26 sz26) rfl ?_
      refine lx (op_fieldAddr rfl fl26_0 sz22) rfl ?_
      refine lx (op_bload_one (m := 1) rfl rfl ag22 rfl) rfl ?_
      refine lx (op_move rfl) rfl ?_
      refine lx (op_index rfl rfl el22 sz66 rfl (gt_at (d := fu0) (by omega))) rfl ?_
      first | refine lx (op_load_all rfl ag66 sz66) rfl ?_ | refine lx (op_load_agg rfl ag66 sz66 rfl) rfl ?_ | refine lx (op_bload (m := 1) rfl rfl ag66 sz66) rfl ?_ | refine lx (op_bload_part (m := 1) (qs := [_, _, _, _]) rfl rfl ag66 sz66 rfl rfl) rfl ?_
      first | refine lx (op_call (l := [(Go.Operand.tmp 93), (Go.Operand.tmp 98)]) (function_ok p (gt fu0 p.funcs k) (hb.codes _ (gt_mem (by omega)))) (.cons rfl (.cons rfl .nil)) fn36) rfl ?_ | refine lx (op_call (l := [(Go.Operand.tmp 93), (Go.Operand.tmp 98)]) (function_ok p (gt fu0 p.funcs k) (hb.codes _ (gt_mem (by omega)))) (.ent rfl (by exact ent_auto) (.ent rfl (by exact ent_auto) .nil)) fn36) rfl ?_
      first | refine lx (op_not rfl) rfl ?_ | refine lx (op_not_b rfl) rfl ?_
      refine lx_end ⟨by kernel_rfl, ?_⟩
      refine pe_then_normal ?_
      refine tr_sub hC (.cons (t := 1) rfl (.cons (t := 6) rfl (.cons (t := 100) rfl .nil))) (.cons (t := 1) rfl .nil) rfl ?_
      refine tr_cond rfl (fun h100 => ?_) (fun h100 => ?_)
      ·have hno := prog_f hh (fn_no1 (ins := instrF) (k := k) (by omega) (by simpa using h100))
       refine tr_seq ?_
       refine tr_region (fun N18 hN => ?_)
       refine lx (op_assign rfl) rfl ?_
       refine lx_end ⟨by kernel_rfl, ?_⟩
       refine pe_then_normal ?_
       refine tr_sub hC (.cons (t := 2) rfl .nil) .nil rfl ?_
       refine tr_ret ?_
       refine pe_then_ret ?_
       refine pe_block_ret ?_
       refine pe_then_ret ?_
       refine pe_then_ret ?_
       refine pe_block_ret ?_
       refine pe_then_ret ?_
       refine pe_ret1 rfl hO rfl (.tmp rfl .nil) ?_
       rw [hno]
       exact ent_auto
      ·have hf1 : functionF instrF p (gt fu0 p.funcs k) = true := by simpa using h100
       refine tr_skip ?_
       refine pe_then_normal ?_
       refine tr_sub hC (.cons (t := 1) rfl (.cons (t := 6) rfl .nil)) (.cons (t := 1) rfl .nil) rfl ?_
       refine tr_seq ?_
       refine tr_region (fun N19 hN => ?_)
       refine lx (op_assign rfl) rfl ?_
       refine lx_end ⟨by kernel_rfl, ?_⟩
       refine pe_then_normal ?_
       refine tr_sub hC (.cons (t := 1) rfl (.cons (t := 6) rfl (.cons (t := 7) rfl .nil))) (.cons (t := 1) rfl .nil) rfl ?_
       refine tr_block ?_
       refine tr_loopK (α := {zz : Nat // zz ≤ k ∧ allI zz (fun zz => !((gt fu0 p.funcs zz).name.toList == (gt fu0 p.funcs k).name.toList)) = true}) (⟨(0), Nat.zero_le _, rfl⟩) (fun zz => [(7, eqP (.int .i64 (zz.1 : Int)))]) (fun zz => []) (fun zz => k - zz.1) hC (.cons (t := 1) rfl (.cons (t := 6) rfl .nil)) (.cons (t := 1) rfl .nil) rfl ?_ ?_ (fun zz => ?_)
       ·try dsimp only [List.cons_append, List.nil_append]
        first | refine SubF.cons rfl ?_ | (refine SubF.ent rfl ?_ ?_; · exact ent_auto)
        exact SubF.nil
       ·try dsimp only [List.cons_append, List.nil_append]
        repeat (first | exact SubL.nil | refine SubL.cons rfl ?_)
       ·obtain ⟨j, hj1, hj2⟩ := zz
        dsimp only [List.cons_append, List.nil_append]
        refine tr_seq ?_
        refine tr_seq ?_
        refine tr_region (fun N20 hN => ?_)
        refine lx (op_move rfl) rfl ?_
        refine lx (op_move rfl) rfl ?_
        refine lx (op_lss rfl rfl) rfl ?_
        refine lx_end ⟨by kernel_rfl, ?_⟩
        refine pe_then_normal ?_
        refine tr_sub hC (.cons (t := 1) rfl (.cons (t := 6) rfl (.cons (t := 7) rfl (.cons (t := 103) rfl .nil)))) (.cons (t := 1) rfl .nil) rfl ?_
        refine tr_cond rfl (fun h103 => ?_) (fun h103 => ?_)
        ·(try simp only [cq1, cq2, cq3, cq4, cq5, cq6, cq7, cq8, cq9, cq10, cq11, cq12, cq13] at h103)
         refine tr_skip ?_
         refine pe_then_normal ?_
         refine tr_sub hC (.cons (t := 1) rfl (.cons (t := 6) rfl (.cons (t := 7) rfl .nil))) (.cons (t := 1) rfl .nil) rfl ?_
         refine tr_seq ?_
         refine tr_block ?_
         refine tr_seq ?_
         refine tr_drawn mixed (fun N22 hN => ?_)
         refine lx (op_fieldAddr rfl fl26_0 sz22) rfl ?_
         refine lx (op_bload_one (m := 1) rfl rfl ag22 rfl) rfl ?_
         refine lx (op_move rfl) rfl ?_
         refine lx (op_index rfl rfl el22 sz66 rfl (gt_at (d := fu0) (by omega))) rfl ?_
         first | refine lx (op_fieldAddr rfl fl66_0 sz9) rfl ?_ | refine lx (op_fieldCells rfl fl66_0 sz9) rfl ?_
         first | refine lx (op_load_one rfl ag9 rfl) rfl ?_ | refine lx (op_bload_one (m := 1) rfl rfl ag9 rfl) rfl ?_
         refine lx (op_fieldAddr rfl fl26_0 sz22) rfl ?_
         refine lx (op_bload_one (m := 1) rfl rfl ag22 rfl) rfl ?_
         refine lx (op_move rfl) rfl ?_
         refine lx (op_index rfl rfl el22 sz66 rfl (gt_at (d := fu0) (by omega))) rfl ?_
         first | refine lx (op_fieldAddr rfl fl66_0 sz9) rfl ?_ | refine lx (op_fieldCells rfl fl66_0 sz9) rfl ?_
         first | refine lx (op_load_one rfl ag9 rfl) rfl ?_ | refine lx (op_bload_one (m := 1) rfl rfl ag9 rfl) rfl ?_
         refine lx (op_eql_str st9 rfl rfl) rfl ?_
         refine lx_end ⟨by kernel_rfl, ?_⟩
         refine pe_then_normal ?_
         refine tr_sub hC (.cons (t := 1) rfl (.cons (t := 6) rfl (.cons (t := 7) rfl (.cons (t := 118) rfl .nil)))) (.cons (t := 1) rfl .nil) rfl ?_
         refine tr_cond rfl (fun h118 => ?_) (fun h118 => ?_)
         ·have hno := prog_f hh (fn_no2 (ins := instrF) (j := j) (k := k) (by omega) (by omega) h118)
          refine tr_seq ?_
          refine tr_region (fun N23 hN => ?_)
          refine lx (op_assign rfl) rfl ?_
          refine lx_end ⟨by kernel_rfl, ?_⟩
          refine pe_then_normal ?_
          refine tr_sub hC (.cons (t := 2) rfl .nil) .nil rfl ?_
          refine tr_ret ?_
          refine pe_block_ret ?_
          refine pe_then_ret ?_
          refine pe_then_ret ?_
          refine pe_block_ret ?_
          refine pe_block_ret ?_
          refine pe_then_ret ?_
          refine pe_then_ret ?_
          refine pe_block_ret ?_
          refine pe_then_ret ?_
          refine pe_ret1 rfl hO rfl (.tmp rfl .nil) ?_
          rw [hno]
          exact ent_auto
         ·have hst : (fun j => !((gt fu0 p.funcs j).name.toList == (gt fu0 p.funcs k).name.toList)) j = true := by
           dsimp only
           rw [h118]
           rfl
          refine tr_skip ?_
          refine pe_block_normal ?_
          refine pe_then_normal ?_
          refine tr_sub hC (.cons (t := 1) rfl (.cons (t := 6) rfl (.cons (t := 7) rfl .nil))) (.cons (t := 1) rfl .nil) rfl ?_
          refine tr_region (fun N21 hN => ?_)
          refine lx (op_move rfl) rfl ?_
          refine lx (op_add rfl rfl (by omega)) rfl ?_
          refine lx (op_assign rfl) rfl ?_
          refine lx_end ⟨by kernel_rfl, ?_⟩
          refine pe_round (⟨(j + 1), by omega, allI_step hj2 hst⟩) (by dsimp only; omega) (pe_st hC ?_ ?_ rfl)
          ·try dsimp only [List.cons_append, List.nil_append]
           first | refine SubF.cons rfl ?_ | (refine SubF.ent rfl ?_ ?_; · exact ent_auto)
           first | refine SubF.cons rfl ?_ | (refine SubF.ent rfl ?_ ?_; · exact ent_auto)
           first | refine SubF.cons rfl ?_ | (refine SubF.ent rfl ?_ ?_; · exact ent_auto)
           exact SubF.nil
          ·try dsimp only [List.cons_append, List.nil_append]
           repeat (first | exact SubL.nil | refine SubL.cons rfl ?_)
        ·(try simp only [cq1, cq2, cq3, cq4, cq5, cq6, cq7, cq8, cq9, cq10, cq11, cq12, cq13] at h103)
         have hyes := fn_yes hf1 (allI_end hj2 (by omega : k ≤ j))
         refine tr_exit ?_
         refine pe_then_exit ?_
         refine pe_then_exit ?_
         refine pe_block_eq ?_
         refine pe_block_normal ?_
         refine pe_then_normal ?_
         refine tr_sub hC (.cons (t := 1) rfl (.cons (t := 6) rfl .nil)) (.cons (t := 1) rfl .nil) rfl ?_
         refine tr_region (fun N16 hN => ?_)
         refine lx (op_move rfl) rfl ?_
         refine lx (op_add rfl rfl (by omega)) rfl ?_
         refine lx (op_assign rfl) rfl ?_
         refine lx_end ⟨by kernel_rfl, ?_⟩
         refine pe_round (⟨(k + 1), by omega, allI_step hk2 hyes⟩) (by dsimp only; omega) (pe_st hC ?_ ?_ rfl)
         ·try dsimp only [List.cons_append, List.nil_append]
          first | refine SubF.cons rfl ?_ | (refine SubF.ent rfl ?_ ?_; · exact ent_auto)
          first | refine SubF.cons rfl ?_ | (refine SubF.ent rfl ?_ ?_; · exact ent_auto)
          exact SubF.nil
         ·try dsimp only [List.cons_append, List.nil_append]
          repeat (first | exact SubL.nil | refine SubL.cons rfl ?_)
     ·(try simp only [cq1, cq2, cq3, cq4, cq5, cq6, cq7, cq8, cq9, cq10, cq11, cq12, cq13] at h90)
      have hfin := prog_y hh hgl (allI_end hk2 (by omega : p.funcs.length ≤ k))
      refine tr_exit ?_
      refine pe_then_exit ?_
      refine pe_then_exit ?_
      refine pe_block_eq ?_
      refine pe_then_normal ?_
      refine tr_sub hC .nil .nil rfl ?_
      refine tr_seq ?_
      refine tr_region (fun N24 hN => ?_)
      refine lx (op_assign rfl) rfl ?_
      refine lx_end ⟨by kernel_rfl, ?_⟩
      refine pe_then_normal ?_
      refine tr_sub hC (.cons (t := 2) rfl .nil) .nil rfl ?_
      refine tr_ret ?_
      refine pe_ret1 rfl hO rfl (.tmp rfl .nil) ?_
      rw [hfin]
      exact ent_auto
end Go.Proofs.Ythiknhmoefbanaa


set_option linter.unusedVariables false
set_option linter.unusedSimpArgs false
namespace Go.Proofs.Ythiknhmoefbanaa
open Go.AL Go.Ch Go.Hp Go.RowKit
theorem fn13 : fnB Try.prog 13 = true := by kernel_rfl
theorem fn14 : fnB Try.prog 14 = true := by kernel_rfl
theorem fn15 : fnB Try.prog 15 = true := by kernel_rfl
theorem fn21 : fnB Try.prog 21 = true := by kernel_rfl
theorem fn23 : fnB Try.prog 23 = true := by kernel_rfl
theorem fn25 : fnB Try.prog 25 = true := by kernel_rfl
theorem fn27 : fnB Try.prog 27 = true := by kernel_rfl
theorem fn29 : fnB Try.prog 29 = true := by kernel_rfl
theorem fn34 : fnB Try.prog 34 = true := by kernel_rfl
theorem fs26 : sizesB Try.prog 26 = true := by kernel_rfl
theorem fs66 : sizesB Try.prog 66 = true := by kernel_rfl
theorem fs80 : sizesB Try.prog 80 = true := by kernel_rfl
theorem ze26 : zeroB Try.prog 26 = some (some (.agg #[.slice none 0 0, .slice none 0 0, .slice none 0 0, .int .i64 0])) := by kernel_rfl
abbrev exI : In := ⟨30, -1, 0, 0, 0⟩
abbrev exM : Fu := ⟨⟨#[109, 97, 105, 110]⟩, 0, 1, [exI]⟩
abbrev exF : Fu := ⟨⟨#[102]⟩, 2, 3, [exI]⟩
abbrev exP : Pg := ⟨[exM, exF], [], [], 0⟩
abbrev aF (l : Bool) (r : V) (ds : List Df) (z : V) : Fm := ⟨1, 0, [⟨0, 5, 0⟩, ⟨0, 6, 0⟩, z], -1, ds, l, r⟩
abbrev aG1 : Gr := ⟨0, 0, 0, [aF false v0 [] v0]⟩
abbrev aG2 : Gr := ⟨0, 0, 0, [aF false v0 [⟨0, []⟩] v0]⟩
abbrev aG3 : Gr := ⟨0, 0, 0, [aF true ⟨0, 1, 0⟩ [] v0, ⟨0, 0, [v0], -1, [], false, v0⟩]⟩
abbrev aG4 : Gr := ⟨2, 0, 0, []⟩
abbrev aG5 : Gr := ⟨0, 0, 0, [aF false v0 [] ⟨0, 9, 0⟩]⟩
theorem bdG_ble {n : Nat} {g : Gr} (h : (Nat.ble g.frames.length n && g.frames.all (fun f => Nat.ble f.regs.length n && Nat.ble f.defers.length n && f.defers.all fun d => Nat.ble d.args.length n)) = true) : BdG n g := by
 simp only [Bool.and_eq_true, Nat.ble_eq, List.all_eq_true] at h
 exact ⟨h.1, fun f hf => ⟨(h.2 f hf).1.1, (h.2 f hf).1.2, (h.2 f hf).2⟩⟩
theorem exPOK : POK exP := by
 intro f hf
 simp only [exP, List.mem_cons, List.not_mem_nil, or_false] at hf
 rcases hf with rfl | rfl <;> decide
theorem Enter_a : FnP Try.prog 17 [aggP exP.ps, aggP gr0.ps, eqP (.int .i64 1), slP vp 3 [⟨0, 5, 0⟩, ⟨0, 6, 0⟩], eqP (.int .i64 (-1))] (tupP [aggP aG1.ps, eqP (.int .i64 0)]) := by
 have := Enter_ok exP exPOK gr0 (bdG_ble rfl) (by decide) 1 [⟨0, 5, 0⟩, ⟨0, 6, 0⟩] (-1)
 rwa [show enterF exP gr0 1 [⟨0, 5, 0⟩, ⟨0, 6, 0⟩] (-1) = (aG1, 0) by decide] at this
theorem Reg_a (g : Gr) (r : Int) (v : V) (hb : BdG 1048576 g) (hn : g.frames.length ≤ 100000) (h : regF g r = v) : FnP Try.prog 27 [aggP g.ps, eqP (.int .i64 r)] (aggP (vp v)) := by
 have := Reg_ok g hb hn r
 rwa [h] at this
theorem Defer_a : FnP Try.prog 23 [aggP aG1.ps, aggP (Df.ps ⟨0, []⟩)] (aggP aG2.ps) := by
 have := Defer_ok aG1 (bdG_ble rfl) (by decide) ⟨0, []⟩ (by decide)
 rwa [show deferF aG1 ⟨0, []⟩ = aG2 by decide] at this
theorem Leave_a (g g' : Gr) (v : V) (hb : BdG 1048576 g) (hn : g.frames.length ≤ 100000) (h : leaveF exP g v = g') : FnP Try.prog 21 [aggP exP.ps, aggP g.ps, aggP (vp v)] (aggP g'.ps) := by
 have := Leave_ok exP exPOK g hb hn v
 rwa [h] at this
theorem Set_a : FnP Try.prog 25 [aggP aG1.ps, eqP (.int .i64 2), aggP (vp ⟨0, 9, 0⟩)] (aggP aG5.ps) := by
 have := Set_ok aG1 (bdG_ble rfl) (by decide) 2 ⟨0, 9, 0⟩
 rwa [show setF aG1 2 ⟨0, 9, 0⟩ = aG5 by decide] at this
theorem example_ok  : FnP Try.prog 34 [] (aggP exP.ps) := by
 refine fn_pure' Try.func34 rfl Try.ntmps34 rfl ?_
 intro σ0 M ex Rf R hC hO
 simp only [frameOf, tokOf]
 refine tr_seq ?_
 refine tr_region (fun N0 hN => ?_)
 refine lxn (op_alloc (m := 0) (k := 0) (ps := [eqP (.slice none 0 0), eqP (.slice none 0 0), eqP (.slice none 0 0), eqP (.int .i64 0)]) ze26 rfl rfl (by first | exact hC.low _ (by decide) | rfl)) rfl ?_
 refine lx_end ⟨by kernel_rfl, ?_⟩
 refine pe_then_normal ?_
 refine tr_sub hC (.cons (t := 0) rfl .nil) (.cons (t := 0) rfl .nil) rfl ?_
 refine tr_seq ?_
 refine tr_region (fun N1 hN => ?_)
 refine lx (OpJ.ent (op_build (qs := [_, _, _, _, _]) (parts := [(0, (Go.Operand.const (Go.Value.int Go.IntKind.i64 30))), (1, (Go.Operand.const (Go.Value.int Go.IntKind.i64 (-1))))]) ze80 rfl rfl fs80 (.cons rfl (.one (by (first | exact One.eq rfl | exact One.mv _ _ _ _ _ | exact One.cl _ _ _ | exact One.map _ | exact One.sl _ _ _ | exact One.row _ _ _ _ | exact One.msl _ _ _ _ | exact One.ptr _ _ | exact One.b _ | exact One.cells _))) fl80_0 sz3 rfl (.cons rfl (.one (by (first | exact One.eq rfl | exact One.mv _ _ _ _ _ | exact One.cl _ _ _ | exact One.map _ | exact One.sl _ _ _ | exact One.row _ _ _ _ | exact One.msl _ _ _ _ | exact One.ptr _ _ | exact One.b _ | exact One.cells _))) fl80_1 sz3 rfl .nil)) rfl rfl) (show Ent _ (aggP (In.ps exI)) from (by exact ent_auto))) rfl ?_
 refine lx (op_buildSlice (f := In.ps) (xs := [exI]) (l := [(0, (Go.Operand.tmp 2))]) ze80 rfl rfl (by decide) el64 sz80 In.len (.cons rfl (.agg rfl) .nil) rfl (by decide)) rfl ?_
 refine lx (op_assign rfl) rfl ?_
 refine lx_end ⟨by kernel_rfl, ?_⟩
 refine pe_then_normal ?_
 refine tr_sub hC (.cons (t := 0) rfl (.cons (t := 1) rfl .nil)) (.cons (t := 0) rfl .nil) rfl ?_
 refine tr_seq ?_
 refine tr_region (fun N2 hN => ?_)
 refine lx (op_move rfl) rfl ?_
 refine lx (OpJ.ent (op_build (qs := [_, _, _, _]) (parts := [(0, (Go.Operand.const (Go.Value.string (ByteArray.mk #[109, 97, 105, 110])))), (2, (Go.Operand.const (Go.Value.int Go.IntKind.i64 1))), (3, (Go.Operand.tmp 4))]) ze66 rfl rfl fs66 (.cons rfl (.one (by (first | exact One.eq rfl | exact One.mv _ _ _ _ _ | exact One.cl _ _ _ | exact One.map _ | exact One.sl _ _ _ | exact One.row _ _ _ _ | exact One.msl _ _ _ _ | exact One.ptr _ _ | exact One.b _ | exact One.cells _))) fl66_0 sz9 rfl (.cons rfl (.one (by (first | exact One.eq rfl | exact One.mv _ _ _ _ _ | exact One.cl _ _ _ | exact One.map _ | exact One.sl _ _ _ | exact One.row _ _ _ _ | exact One.msl _ _ _ _ | exact One.ptr _ _ | exact One.b _ | exact One.cells _))) fl66_2 sz3 rfl (.cons rfl (.one (by (first | exact One.eq rfl | exact One.mv _ _ _ _ _ | exact One.cl _ _ _ | exact One.map _ | exact One.sl _ _ _ | exact One.row _ _ _ _ | exact One.msl _ _ _ _ | exact One.ptr _ _ | exact One.b _ | exact One.cells _))) fl66_3 sz64 rfl .nil))) rfl rfl) (show Ent _ (aggP (Fu.ps exM)) from (by exact ent_auto))) rfl ?_
 refine lx (op_move rfl) rfl ?_
 refine lx (OpJ.ent (op_build (qs := [_, _, _, _]) (parts := [(0, (Go.Operand.const (Go.Value.string (ByteArray.mk #[102])))), (1, (Go.Operand.const (Go.Value.int Go.IntKind.i64 2))), (2, (Go.Operand.const (Go.Value.int Go.IntKind.i64 3))), (3, (Go.Operand.tmp 6))]) ze66 rfl rfl fs66 (.cons rfl (.one (by (first | exact One.eq rfl | exact One.mv _ _ _ _ _ | exact One.cl _ _ _ | exact One.map _ | exact One.sl _ _ _ | exact One.row _ _ _ _ | exact One.msl _ _ _ _ | exact One.ptr _ _ | exact One.b _ | exact One.cells _))) fl66_0 sz9 rfl (.cons rfl (.one (by (first | exact One.eq rfl | exact One.mv _ _ _ _ _ | exact One.cl _ _ _ | exact One.map _ | exact One.sl _ _ _ | exact One.row _ _ _ _ | exact One.msl _ _ _ _ | exact One.ptr _ _ | exact One.b _ | exact One.cells _))) fl66_1 sz3 rfl (.cons rfl (.one (by (first | exact One.eq rfl | exact One.mv _ _ _ _ _ | exact One.cl _ _ _ | exact One.map _ | exact One.sl _ _ _ | exact One.row _ _ _ _ | exact One.msl _ _ _ _ | exact One.ptr _ _ | exact One.b _ | exact One.cells _))) fl66_2 sz3 rfl (.cons rfl (.one (by (first | exact One.eq rfl | exact One.mv _ _ _ _ _ | exact One.cl _ _ _ | exact One.map _ | exact One.sl _ _ _ | exact One.row _ _ _ _ | exact One.msl _ _ _ _ | exact One.ptr _ _ | exact One.b _ | exact One.cells _))) fl66_3 sz64 rfl .nil)))) rfl rfl) (show Ent _ (aggP (Fu.ps exF)) from (by exact ent_auto))) rfl ?_
 refine lx (op_buildSlice (f := Fu.ps) (xs := [exM, exF]) (l := [(0, (Go.Operand.tmp 5)), (1, (Go.Operand.tmp 7))]) ze66 rfl rfl (by decide) el22 sz66 Fu.len (.cons rfl (.agg rfl) (.cons rfl (.agg rfl) .nil)) rfl (by decide)) rfl ?_
 refine lx (OpJ.ent (op_build (qs := [_, _, _, _]) (parts := [(0, (Go.Operand.tmp 8))]) ze26 rfl rfl fs26 (.cons rfl (.one (by (first | exact One.eq rfl | exact One.mv _ _ _ _ _ | exact One.cl _ _ _ | exact One.map _ | exact One.sl _ _ _ | exact One.row _ _ _ _ | exact One.msl _ _ _ _ | exact One.ptr _ _ | exact One.b _ | exact One.cells _))) fl26_0 sz22 rfl .nil) rfl rfl) (show Ent _ (aggP exP.ps) from (by exact ent_auto))) rfl ?_
 refine lxr (op_store_all (m := 0) rfl rfl rfl (.agg rfl) sz26 rfl) rfl ?_
 refine lx_end ⟨by kernel_rfl, ?_⟩
 refine pe_then_normal ?_
 refine tr_sub hC (.cons (t := 0) rfl .nil) (.cons (t := 0) rfl .nil) rfl ?_
 refine tr_ret ?_
 refine pe_ret1 rfl hO rfl (.cell (m := 0) rfl rfl ag26 sz26 .nil) ?_
 exact ent_auto
theorem awake_ok  : FnP Try.prog 12 [] (eqP (.bool true)) := by
 refine fn_pure' Try.func12 rfl Try.ntmps12 rfl ?_
 intro σ0 M ex Rf R hC hO
 simp only [frameOf, tokOf]
 refine tr_seq ?_
 refine tr_region (fun N0 hN => ?_)
 refine lx (op_assign rfl) rfl ?_
 refine lx_end ⟨by kernel_rfl, ?_⟩
 refine pe_then_normal ?_
 refine tr_sub hC .nil .nil rfl ?_
 refine tr_seq ?_
 refine tr_region (fun N1 hN => ?_)
 first | refine lx (op_call (l := []) (example_ok) .nil fn34) rfl ?_ | refine lx (op_call (l := []) (example_ok) .nil fn34) rfl ?_
 refine lxn (op_alloc (m := 1) (k := 1) (ps := [eqP (.slice none 0 0), eqP (.slice none 0 0), eqP (.slice none 0 0), eqP (.int .i64 0)]) ze26 rfl rfl (by first | exact hC.low _ (by decide) | rfl)) rfl ?_
 refine lxr (op_store_all (m := 1) rfl rfl rfl (.agg rfl) sz26 rfl) rfl ?_
 refine lx_end ⟨by kernel_rfl, ?_⟩
 refine pe_then_normal ?_
 refine tr_sub hC (.cons (t := 1) rfl .nil) (.cons (t := 1) rfl .nil) rfl ?_
 refine tr_seq ?_
 refine tr_region (fun N2 hN => ?_)
 refine lx (op_bload (m := 1) rfl rfl ag26 sz26) rfl ?_
 refine lx (OpJ.ent (op_build (qs := [_, _, _, _]) (parts := []) ze29 rfl rfl fs29 .nil rfl rfl) (show Ent _ (aggP gr0.ps) from (by exact ent_auto))) rfl ?_
 refine lx (OpJ.ent (op_build (qs := [_, _, _]) (parts := [(1, (Go.Operand.const (Go.Value.int Go.IntKind.i64 5)))]) ze43 rfl rfl fs43 (.cons rfl (.one (by (first | exact One.eq rfl | exact One.mv _ _ _ _ _ | exact One.cl _ _ _ | exact One.map _ | exact One.sl _ _ _ | exact One.row _ _ _ _ | exact One.msl _ _ _ _ | exact One.ptr _ _ | exact One.b _ | exact One.cells _))) fl43_1 sz3 rfl .nil) rfl rfl) (show Ent _ (aggP (vp ⟨0, 5, 0⟩)) from (by exact ent_auto))) rfl ?_
 refine lx (OpJ.ent (op_build (qs := [_, _, _]) (parts := [(1, (Go.Operand.const (Go.Value.int Go.IntKind.i64 6)))]) ze43 rfl rfl fs43 (.cons rfl (.one (by (first | exact One.eq rfl | exact One.mv _ _ _ _ _ | exact One.cl _ _ _ | exact One.map _ | exact One.sl _ _ _ | exact One.row _ _ _ _ | exact One.msl _ _ _ _ | exact One.ptr _ _ | exact One.b _ | exact One.cells _))) fl43_1 sz3 rfl .nil) rfl rfl) (show Ent _ (aggP (vp ⟨0, 6, 0⟩)) from (by exact ent_auto))) rfl ?_
 refine lx (op_buildSlice (f := vp) (xs := [⟨0, 5, 0⟩, ⟨0, 6, 0⟩]) (l := [(0, (Go.Operand.tmp 10)), (1, (Go.Operand.tmp 11))]) ze43 rfl rfl (by decide) el33 sz43 vp_len (.cons rfl (.agg rfl) (.cons rfl (.agg rfl) .nil)) rfl (by decide)) rfl ?_
 first | refine lx (op_call (l := [(Go.Operand.tmp 8), (Go.Operand.tmp 9), (Go.Operand.const (Go.Value.int Go.IntKind.i64 1)), (Go.Operand.tmp 12), (Go.Operand.const (Go.Value.int Go.IntKind.i64 (-1)))]) (Enter_a) (.cons rfl (.cons rfl (.cons rfl (.cons rfl (.cons rfl .nil))))) fn17) rfl ?_ | refine lx (op_call (l := [(Go.Operand.tmp 8), (Go.Operand.tmp 9), (Go.Operand.const (Go.Value.int Go.IntKind.i64 1)), (Go.Operand.tmp 12), (Go.Operand.const (Go.Value.int Go.IntKind.i64 (-1)))]) (Enter_a) (.ent rfl (by exact ent_auto) (.ent rfl (by exact ent_auto) (.ent rfl (by exact ent_auto) (.ent rfl (by exact ent_auto) (.ent rfl (by exact ent_auto) .nil))))) fn17) rfl ?_
 refine lx (op_move rfl) rfl ?_
 refine lx (op_extract rfl rfl) rfl ?_
 refine lx (op_extract rfl rfl) rfl ?_
 refine lxn (op_alloc (m := 2) (k := 2) (ps := [eqP (.int .i64 0), eqP (.int .i64 0), eqP (.int .i64 0), eqP (.slice none 0 0)]) ze29 rfl rfl (by first | exact hC.low _ (by decide) | rfl)) rfl ?_
 refine lxr (op_store_all (m := 2) rfl rfl rfl (.agg rfl) sz29 rfl) rfl ?_
 refine lx (op_assign rfl) rfl ?_
 refine lx_end ⟨by kernel_rfl, ?_⟩
 refine pe_then_normal ?_
 refine tr_sub hC (.cons (t := 1) rfl (.cons (t := 2) rfl (.cons (t := 3) rfl .nil))) (.cons (t := 1) rfl (.cons (t := 2) rfl .nil)) rfl ?_
 refine tr_seq ?_
 refine tr_seq ?_
 refine tr_region (fun N3 hN => ?_)
 refine lx (op_move rfl) rfl ?_
 refine lx (op_neq rfl rfl) rfl ?_
 refine lx (op_move rfl) rfl ?_
 refine lxs rfl rfl rfl guard_eq (.cons (t := 2) rfl (fun _ => Ent.refl _) .nil) (op_fieldAddr rfl fl29_3 sz27) rfl ?_
 refine lxs rfl rfl rfl guard_eq (.cons (t := 19) rfl (fun h => entW h) .nil) (op_bload_one (m := 2) rfl rfl ag27 rfl) rfl ?_
 first | refine lxs rfl rfl rfl guard_eq (.cons (t := 20) rfl (fun h => entW h) .nil) (op_len rfl el27) rfl ?_ | refine lxs rfl rfl rfl guard_eq (.cons (t := 20) rfl (fun h => entW h) .nil) (op_len_row rfl el27) rfl ?_ | refine lxs rfl rfl rfl guard_eq (.cons (t := 20) rfl (fun h => entW h) .nil) (op_len_mv rfl el27) rfl ?_ | refine lxs rfl rfl rfl guard_eq (.cons (t := 20) rfl (fun h => entW h) .nil) (op_len_nil rfl el27) rfl ?_
 refine lxs rfl rfl rfl guard_eq (.cons (t := 21) rfl (fun h => entW h) .nil) (op_neq rfl rfl) rfl ?_
 refine lx (op_pick_or rfl rfl) rfl ?_
 refine lx (op_move rfl) rfl ?_
 refine lxs rfl rfl rfl guard_eq (.cons (t := 2) rfl (fun _ => Ent.refl _) .nil) (op_bload (m := 2) rfl rfl ag29 sz29) rfl ?_
 first | refine lxs rfl rfl rfl guard_eq (.cons (t := 25) rfl (fun h => entW h) .nil) (op_call (l := [(Go.Operand.tmp 25), (Go.Operand.const (Go.Value.int Go.IntKind.i64 0))]) (Reg_a aG1 0 ⟨0, 5, 0⟩ (bdG_ble rfl) (by decide) (by decide)) (.cons rfl (.cons rfl .nil)) fn27) rfl ?_ | refine lxs rfl rfl rfl guard_eq (.cons (t := 25) rfl (fun h => entW h) .nil) (op_call (l := [(Go.Operand.tmp 25), (Go.Operand.const (Go.Value.int Go.IntKind.i64 0))]) (Reg_a aG1 0 ⟨0, 5, 0⟩ (bdG_ble rfl) (by decide) (by decide)) (.ent rfl (by exact ent_auto) (.ent rfl (by exact ent_auto) .nil)) fn27) rfl ?_
 refine lxs rfl rfl rfl guard_eq (.cons (t := 26) rfl (fun h => entW h) .nil) (op_field_one rfl fl43_1 ag3 rfl) rfl ?_
 refine lxs rfl rfl rfl guard_eq (.cons (t := 27) rfl (fun h => entW h) .nil) (op_neq rfl rfl) rfl ?_
 refine lx (op_pick_or rfl rfl) rfl ?_
 refine lx (op_move rfl) rfl ?_
 refine lxs rfl rfl rfl guard_eq (.cons (t := 2) rfl (fun _ => Ent.refl _) .nil) (op_bload (m := 2) rfl rfl ag29 sz29) rfl ?_
 first | refine lxs rfl rfl rfl guard_eq (.cons (t := 31) rfl (fun h => entW h) .nil) (op_call (l := [(Go.Operand.tmp 31), (Go.Operand.const (Go.Value.int Go.IntKind.i64 1))]) (Reg_a aG1 1 ⟨0, 6, 0⟩ (bdG_ble rfl) (by decide) (by decide)) (.cons rfl (.cons rfl .nil)) fn27) rfl ?_ | refine lxs rfl rfl rfl guard_eq (.cons (t := 31) rfl (fun h => entW h) .nil) (op_call (l := [(Go.Operand.tmp 31), (Go.Operand.const (Go.Value.int Go.IntKind.i64 1))]) (Reg_a aG1 1 ⟨0, 6, 0⟩ (bdG_ble rfl) (by decide) (by decide)) (.ent rfl (by exact ent_auto) (.ent rfl (by exact ent_auto) .nil)) fn27) rfl ?_
 refine lxs rfl rfl rfl guard_eq (.cons (t := 32) rfl (fun h => entW h) .nil) (op_field_one rfl fl43_1 ag3 rfl) rfl ?_
 refine lxs rfl rfl rfl guard_eq (.cons (t := 33) rfl (fun h => entW h) .nil) (op_neq rfl rfl) rfl ?_
 refine lx (op_pick_or rfl rfl) rfl ?_
 refine lx (op_move rfl) rfl ?_
 refine lxs rfl rfl rfl guard_eq (.cons (t := 2) rfl (fun _ => Ent.refl _) .nil) (op_bload (m := 2) rfl rfl ag29 sz29) rfl ?_
 first | refine lxs rfl rfl rfl guard_eq (.cons (t := 37) rfl (fun h => entW h) .nil) (op_call (l := [(Go.Operand.tmp 37), (Go.Operand.const (Go.Value.int Go.IntKind.i64 2))]) (Reg_a aG1 2 v0 (bdG_ble rfl) (by decide) (by decide)) (.cons rfl (.cons rfl .nil)) fn27) rfl ?_ | refine lxs rfl rfl rfl guard_eq (.cons (t := 37) rfl (fun h => entW h) .nil) (op_call (l := [(Go.Operand.tmp 37), (Go.Operand.const (Go.Value.int Go.IntKind.i64 2))]) (Reg_a aG1 2 v0 (bdG_ble rfl) (by decide) (by decide)) (.ent rfl (by exact ent_auto) (.ent rfl (by exact ent_auto) .nil)) fn27) rfl ?_
 refine lxs rfl rfl rfl guard_eq (.cons (t := 38) rfl (fun h => entW h) .nil) (op_field_one rfl fl43_1 ag3 rfl) rfl ?_
 refine lxs rfl rfl rfl guard_eq (.cons (t := 39) rfl (fun h => entW h) .nil) (op_neq rfl rfl) rfl ?_
 refine lx (op_pick_or rfl rfl) rfl ?_
 refine lx (op_move rfl) rfl ?_
 refine lxs rfl rfl rfl guard_eq (.cons (t := 1) rfl (fun _ => Ent.refl _) .nil) (op_bload (m := 1) rfl rfl ag26 sz26) rfl ?_
 refine lxs rfl rfl rfl guard_eq (.cons (t := 2) rfl (fun _ => Ent.refl _) .nil) (op_bload (m := 2) rfl rfl ag29 sz29) rfl ?_
 first | refine lxs rfl rfl rfl guard_eq (.cons (t := 43) rfl (fun h => entW h) (.cons (t := 44) rfl (fun h => entW h) .nil)) (op_call (l := [(Go.Operand.tmp 43), (Go.Operand.tmp 44)]) (Valid_ok exP aG1 (bdG_ble rfl)) (.cons rfl (.cons rfl .nil)) fn14) rfl ?_ | refine lxs rfl rfl rfl guard_eq (.cons (t := 43) rfl (fun h => entW h) (.cons (t := 44) rfl (fun h => entW h) .nil)) (op_call (l := [(Go.Operand.tmp 43), (Go.Operand.tmp 44)]) (Valid_ok exP aG1 (bdG_ble rfl)) (.ent rfl (by exact ent_auto) (.ent rfl (by exact ent_auto) .nil)) fn14) rfl ?_
 first | refine lxs rfl rfl rfl guard_eq (.cons (t := 45) rfl (fun h => entW h) .nil) (op_not rfl) rfl ?_ | refine lxs rfl rfl rfl guard_eq (.cons (t := 45) rfl (fun h => entW h) .nil) (op_not_b rfl) rfl ?_
 refine lx (op_pick_or rfl rfl) rfl ?_
 refine lx_end ⟨by kernel_rfl, ?_⟩
 refine pe_then_normal ?_
 refine tr_sub hC (.cons (t := 1) rfl (.cons (t := 2) rfl (.cons (t := 47) rfl .nil))) (.cons (t := 1) rfl (.cons (t := 2) rfl .nil)) rfl ?_
 refine tr_cond rfl (fun h47 => ?_) (fun h47 => ?_)
 ·exact absurd h47 (by decide)
 ·(try simp only [cq1, cq2, cq3, cq4, cq5, cq6, cq7, cq8, cq9, cq10, cq11, cq12, cq13] at h47)
  refine tr_skip ?_
  refine pe_then_normal ?_
  refine tr_sub hC (.cons (t := 1) rfl (.cons (t := 2) rfl .nil)) (.cons (t := 1) rfl (.cons (t := 2) rfl .nil)) rfl ?_
  refine tr_seq ?_
  refine tr_drawn mixed (fun N5 hN => ?_)
  refine lx (op_bload (m := 1) rfl rfl ag26 sz26) rfl ?_
  refine lx (op_bload (m := 2) rfl rfl ag29 sz29) rfl ?_
  refine lx (OpJ.ent (op_build (qs := [_, _]) (parts := []) ze47 rfl rfl fs47 .nil rfl rfl) (show Ent _ (aggP (Df.ps ⟨0, []⟩)) from (by exact ent_auto))) rfl ?_
  first | refine lx (op_call (l := [(Go.Operand.tmp 49), (Go.Operand.tmp 50)]) (Defer_a) (.cons rfl (.cons rfl .nil)) fn23) rfl ?_ | refine lx (op_call (l := [(Go.Operand.tmp 49), (Go.Operand.tmp 50)]) (Defer_a) (.ent rfl (by exact ent_auto) (.ent rfl (by exact ent_auto) .nil)) fn23) rfl ?_
  refine lx (OpJ.ent (op_build (qs := [_, _, _]) (parts := [(1, (Go.Operand.const (Go.Value.int Go.IntKind.i64 1)))]) ze43 rfl rfl fs43 (.cons rfl (.one (by (first | exact One.eq rfl | exact One.mv _ _ _ _ _ | exact One.cl _ _ _ | exact One.map _ | exact One.sl _ _ _ | exact One.row _ _ _ _ | exact One.msl _ _ _ _ | exact One.ptr _ _ | exact One.b _ | exact One.cells _))) fl43_1 sz3 rfl .nil) rfl rfl) (show Ent _ (aggP (vp ⟨0, 1, 0⟩)) from (by exact ent_auto))) rfl ?_
  first | refine lx (op_call (l := [(Go.Operand.tmp 48), (Go.Operand.tmp 51), (Go.Operand.tmp 52)]) (Leave_a aG2 aG3 ⟨0, 1, 0⟩ (bdG_ble rfl) (by decide) (by decide)) (.cons rfl (.cons rfl (.cons rfl .nil))) fn21) rfl ?_ | refine lx (op_call (l := [(Go.Operand.tmp 48), (Go.Operand.tmp 51), (Go.Operand.tmp 52)]) (Leave_a aG2 aG3 ⟨0, 1, 0⟩ (bdG_ble rfl) (by decide) (by decide)) (.ent rfl (by exact ent_auto) (.ent rfl (by exact ent_auto) (.ent rfl (by exact ent_auto) .nil))) fn21) rfl ?_
  refine lxn (op_alloc (m := 4) (k := 4) (ps := [eqP (.int .i64 0), eqP (.int .i64 0), eqP (.int .i64 0), eqP (.slice none 0 0)]) ze29 rfl rfl (by first | exact hC.low _ (by decide) | rfl)) rfl ?_
  refine lxr (op_store_all (m := 4) rfl rfl rfl (.agg rfl) sz29 rfl) rfl ?_
  refine lx_end ⟨by kernel_rfl, ?_⟩
  refine pe_then_normal ?_
  refine tr_sub hC (.cons (t := 1) rfl (.cons (t := 2) rfl (.cons (t := 4) rfl .nil))) (.cons (t := 1) rfl (.cons (t := 2) rfl (.cons (t := 4) rfl .nil))) rfl ?_
  refine tr_seq ?_
  refine tr_region (fun N6 hN => ?_)
  refine lx (op_bload (m := 1) rfl rfl ag26 sz26) rfl ?_
  refine lx (op_bload (m := 4) rfl rfl ag29 sz29) rfl ?_
  refine lx (OpJ.ent (op_build (qs := [_, _, _]) (parts := []) ze43 rfl rfl fs43 .nil rfl rfl) (show Ent _ (aggP (vp v0)) from (by exact ent_auto))) rfl ?_
  first | refine lx (op_call (l := [(Go.Operand.tmp 54), (Go.Operand.tmp 55), (Go.Operand.tmp 56)]) (Leave_a aG3 aG4 v0 (bdG_ble rfl) (by decide) (by decide)) (.cons rfl (.cons rfl (.cons rfl .nil))) fn21) rfl ?_ | refine lx (op_call (l := [(Go.Operand.tmp 54), (Go.Operand.tmp 55), (Go.Operand.tmp 56)]) (Leave_a aG3 aG4 v0 (bdG_ble rfl) (by decide) (by decide)) (.ent rfl (by exact ent_auto) (.ent rfl (by exact ent_auto) (.ent rfl (by exact ent_auto) .nil))) fn21) rfl ?_
  refine lxn (op_alloc (m := 5) (k := 5) (ps := [eqP (.int .i64 0), eqP (.int .i64 0), eqP (.int .i64 0), eqP (.slice none 0 0)]) ze29 rfl rfl (by first | exact hC.low _ (by decide) | rfl)) rfl ?_
  refine lxr (op_store_all (m := 5) rfl rfl rfl (.agg rfl) sz29 rfl) rfl ?_
  refine lx_end ⟨by kernel_rfl, ?_⟩
  refine pe_then_normal ?_
  refine tr_sub hC (.cons (t := 2) rfl (.cons (t := 4) rfl (.cons (t := 5) rfl .nil))) (.cons (t := 2) rfl (.cons (t := 4) rfl (.cons (t := 5) rfl .nil))) rfl ?_
  refine tr_seq ?_
  refine tr_region (fun N7 hN => ?_)
  refine lx (op_fieldAddr rfl fl29_3 sz27) rfl ?_
  refine lx (op_bload_one (m := 4) rfl rfl ag27 rfl) rfl ?_
  first | refine lx (op_len rfl el27) rfl ?_ | refine lx (op_len_row rfl el27) rfl ?_ | refine lx (op_len_mv rfl el27) rfl ?_ | refine lx (op_len_nil rfl el27) rfl ?_
  refine lx (op_eql rfl rfl) rfl ?_
  refine lx (op_move rfl) rfl ?_
  refine lxs rfl rfl rfl guard_eq (.cons (t := 4) rfl (fun _ => Ent.refl _) .nil) (op_fieldAddr rfl fl29_3 sz27) rfl ?_
  refine lxs rfl rfl rfl guard_eq (.cons (t := 63) rfl (fun h => entW h) .nil) (op_bload_one (m := 4) rfl rfl ag27 rfl) rfl ?_
  refine lxs rfl rfl rfl guard_eq (.cons (t := 64) rfl (fun h => entW h) .nil) (op_index rfl rfl el27 sz60 (show (1 : Int) = ((1 : Nat) : Int) from rfl) (rfl : aG3.frames[1]? = some _)) rfl ?_
  first | refine lxs rfl rfl rfl guard_eq (.cons (t := 65) rfl (fun h => entW h) .nil) (op_fieldAddr rfl fl60_0 sz3) rfl ?_ | refine lxs rfl rfl rfl guard_eq (.cons (t := 65) rfl (fun h => entW h) .nil) (op_fieldCells rfl fl60_0 sz3) rfl ?_
  first | refine lxs rfl rfl rfl guard_eq (.cons (t := 66) rfl (fun h => entW h) .nil) (op_load_one rfl ag3 rfl) rfl ?_ | refine lxs rfl rfl rfl guard_eq (.cons (t := 66) rfl (fun h => entW h) .nil) (op_bload_one (m := 2) rfl rfl ag3 rfl) rfl ?_ | refine lxs rfl rfl rfl guard_eq (.cons (t := 66) rfl (fun h => entW h) .nil) (op_bload_one (m := 4) rfl rfl ag3 rfl) rfl ?_ | refine lxs rfl rfl rfl guard_eq (.cons (t := 66) rfl (fun h => entW h) .nil) (op_bload_one (m := 5) rfl rfl ag3 rfl) rfl ?_
  refine lxs rfl rfl rfl guard_eq (.cons (t := 67) rfl (fun h => entW h) .nil) (op_eql rfl rfl) rfl ?_
  refine lx (op_pick_and rfl rfl) rfl ?_
  refine lx (op_move rfl) rfl ?_
  refine lxs rfl rfl rfl guard_eq (.cons (t := 5) rfl (fun _ => Ent.refl _) .nil) (op_fieldAddr rfl fl29_0 sz3) rfl ?_
  refine lxs rfl rfl rfl guard_eq (.cons (t := 71) rfl (fun h => entW h) .nil) (op_bload_one (m := 5) rfl rfl ag3 rfl) rfl ?_
  refine lxs rfl rfl rfl guard_eq (.cons (t := 72) rfl (fun h => entW h) .nil) (op_eql rfl rfl) rfl ?_
  refine lx (op_pick_and rfl rfl) rfl ?_
  refine lx (op_move rfl) rfl ?_
  refine lxs rfl rfl rfl guard_eq (.cons (t := 4) rfl (fun _ => Ent.refl _) .nil) (op_bload (m := 4) rfl rfl ag29 sz29) rfl ?_
  first | refine lxs rfl rfl rfl guard_eq (.cons (t := 76) rfl (fun h => entW h) .nil) (op_call (l := [(Go.Operand.tmp 76)]) (Sites_ok aG3 (by decide)) (.cons rfl .nil) fn29) rfl ?_ | refine lxs rfl rfl rfl guard_eq (.cons (t := 76) rfl (fun h => entW h) .nil) (op_call (l := [(Go.Operand.tmp 76)]) (Sites_ok aG3 (by decide)) (.ent rfl (by exact ent_auto) .nil) fn29) rfl ?_
  first | refine lxs rfl rfl rfl guard_eq (.cons (t := 77) rfl (fun h => entW h) .nil) (op_len rfl el53) rfl ?_ | refine lxs rfl rfl rfl guard_eq (.cons (t := 77) rfl (fun h => entW h) .nil) (op_len_row rfl el53) rfl ?_ | refine lxs rfl rfl rfl guard_eq (.cons (t := 77) rfl (fun h => entW h) .nil) (op_len_mv rfl el53) rfl ?_ | refine lxs rfl rfl rfl guard_eq (.cons (t := 77) rfl (fun h => entW h) .nil) (op_len_nil rfl el53) rfl ?_
  refine lxs rfl rfl rfl guard_eq (.cons (t := 78) rfl (fun h => entW h) .nil) (op_eql rfl rfl) rfl ?_
  refine lx (op_pick_and rfl rfl) rfl ?_
  refine lx (op_move rfl) rfl ?_
  refine lxs rfl rfl rfl guard_eq (.cons (t := 2) rfl (fun _ => Ent.refl _) .nil) (op_bload (m := 2) rfl rfl ag29 sz29) rfl ?_
  refine lxs rfl rfl rfl guard_eq .nil (op_build (qs := [_, _, _]) (parts := [(1, (Go.Operand.const (Go.Value.int Go.IntKind.i64 9)))]) ze43 rfl rfl fs43 (.cons rfl (.one (by (first | exact One.eq rfl | exact One.mv _ _ _ _ _ | exact One.cl _ _ _ | exact One.map _ | exact One.sl _ _ _ | exact One.row _ _ _ _ | exact One.msl _ _ _ _ | exact One.ptr _ _ | exact One.b _ | exact One.cells _))) fl43_1 sz3 rfl .nil) rfl rfl) rfl ?_
  first | refine lxs rfl rfl rfl guard_eq (.cons (t := 82) rfl (fun h => entW h) (.cons (t := 83) rfl (fun h => entW h) .nil)) (op_call (l := [(Go.Operand.tmp 82), (Go.Operand.const (Go.Value.int Go.IntKind.i64 2)), (Go.Operand.tmp 83)]) (Set_a) (.cons rfl (.cons rfl (.cons rfl .nil))) fn25) rfl ?_ | refine lxs rfl rfl rfl guard_eq (.cons (t := 82) rfl (fun h => entW h) (.cons (t := 83) rfl (fun h => entW h) .nil)) (op_call (l := [(Go.Operand.tmp 82), (Go.Operand.const (Go.Value.int Go.IntKind.i64 2)), (Go.Operand.tmp 83)]) (Set_a) (.ent rfl (by exact ent_auto) (.ent rfl (by exact ent_auto) (.ent rfl (by exact ent_auto) .nil))) fn25) rfl ?_
  first | refine lxs rfl rfl rfl guard_eq (.cons (t := 84) rfl (fun h => entW h) .nil) (op_call (l := [(Go.Operand.tmp 84), (Go.Operand.const (Go.Value.int Go.IntKind.i64 2))]) (Reg_a aG5 2 ⟨0, 9, 0⟩ (bdG_ble rfl) (by decide) (by decide)) (.cons rfl (.cons rfl .nil)) fn27) rfl ?_ | refine lxs rfl rfl rfl guard_eq (.cons (t := 84) rfl (fun h => entW h) .nil) (op_call (l := [(Go.Operand.tmp 84), (Go.Operand.const (Go.Value.int Go.IntKind.i64 2))]) (Reg_a aG5 2 ⟨0, 9, 0⟩ (bdG_ble rfl) (by decide) (by decide)) (.ent rfl (by exact ent_auto) (.ent rfl (by exact ent_auto) .nil)) fn27) rfl ?_
  refine lxs rfl rfl rfl guard_eq (.cons (t := 85) rfl (fun h => entW h) .nil) (op_field_one rfl fl43_1 ag3 rfl) rfl ?_
  refine lxs rfl rfl rfl guard_eq (.cons (t := 86) rfl (fun h => entW h) .nil) (op_eql rfl rfl) rfl ?_
  refine lx (op_pick_and rfl rfl) rfl ?_
  refine lx (op_assign rfl) rfl ?_
  refine lx_end ⟨by kernel_rfl, ?_⟩
  refine pe_then_normal ?_
  refine tr_sub hC (.cons (t := 0) rfl .nil) .nil rfl ?_
  refine tr_ret ?_
  refine pe_ret1 rfl hO rfl (.tmp rfl .nil) ?_
  exact ent_auto
theorem possible_ok (p : Pg) (g : Gr) (hp : BdPg 9223372036854775807 p) (hb : BdG 9223372036854775807 g) : FnP Try.prog 20 [aggP p.ps, aggP g.ps] (eqP (.bool ((progF instrF p && validG p g) && (decide (g.state = 0) || decide (g.state = 1))))) := by
 refine fn_pure' Try.func20 rfl Try.ntmps20 rfl ?_
 intro σ0 M ex Rf R hC hO
 simp only [frameOf, tokOf]
 refine tr_seq ?_
 refine tr_region (fun N0 hN => ?_)
 refine lxn (op_box (m := 2) (k := 2) rfl (.agg rfl) (by first | exact hC.low _ (by decide) | rfl)) rfl ?_
 refine lxn (op_box (m := 3) (k := 3) rfl (.agg rfl) (by first | exact hC.low _ (by decide) | rfl)) rfl ?_
 refine lx (op_assign rfl) rfl ?_
 refine lx_end ⟨by kernel_rfl, ?_⟩
 refine pe_then_normal ?_
 refine tr_sub hC (.cons (t := 2) rfl (.cons (t := 3) rfl .nil)) (.cons (t := 2) rfl (.cons (t := 3) rfl .nil)) rfl ?_
 refine tr_seq ?_
 refine tr_region (fun N1 hN => ?_)
 refine lx (op_bload (m := 2) rfl rfl ag26 sz26) rfl ?_
 first | refine lx (op_call (l := [(Go.Operand.tmp 5)]) (Prog_ok p hp) (.cons rfl .nil) fn13) rfl ?_ | refine lx (op_call (l := [(Go.Operand.tmp 5)]) (Prog_ok p hp) (.ent rfl (by exact ent_auto) .nil) fn13) rfl ?_
 refine lx (op_move rfl) rfl ?_
 refine lxs rfl rfl rfl guard_eq (.cons (t := 2) rfl (fun _ => Ent.refl _) .nil) (op_bload (m := 2) rfl rfl ag26 sz26) rfl ?_
 refine lxs rfl rfl rfl guard_eq (.cons (t := 3) rfl (fun _ => Ent.refl _) .nil) (op_bload (m := 3) rfl rfl ag29 sz29) rfl ?_
 first | refine lxs rfl rfl rfl guard_eq (.cons (t := 8) rfl (fun h => entW h) (.cons (t := 9) rfl (fun h => entW h) .nil)) (op_call (l := [(Go.Operand.tmp 8), (Go.Operand.tmp 9)]) (rValid_ok p g hb) (.cons rfl (.cons rfl .nil)) fn15) rfl ?_ | refine lxs rfl rfl rfl guard_eq (.cons (t := 8) rfl (fun h => entW h) (.cons (t := 9) rfl (fun h => entW h) .nil)) (op_call (l := [(Go.Operand.tmp 8), (Go.Operand.tmp 9)]) (rValid_ok p g hb) (.ent rfl (by exact ent_auto) (.ent rfl (by exact ent_auto) .nil)) fn15) rfl ?_
 refine lx (op_pick_and rfl rfl) rfl ?_
 refine lx (op_move rfl) rfl ?_
 refine lxs rfl rfl rfl guard_eq (.cons (t := 3) rfl (fun _ => Ent.refl _) .nil) (op_fieldAddr rfl fl29_0 sz3) rfl ?_
 refine lxs rfl rfl rfl guard_eq (.cons (t := 13) rfl (fun h => entW h) .nil) (op_bload_one (m := 3) rfl rfl ag3 rfl) rfl ?_
 refine lxs rfl rfl rfl guard_eq (.cons (t := 14) rfl (fun h => entW h) .nil) (op_eql rfl rfl) rfl ?_
 refine lxs rfl rfl rfl guard_eq (.cons (t := 15) rfl (fun h => entW h) .nil) (op_move rfl) rfl ?_
 refine lxs rfl rfl rfl guard_w (.cons (t := 3) rfl (fun _ => Ent.refl _) .nil) (op_fieldAddr rfl fl29_0 sz3) rfl ?_
 refine lxs rfl rfl rfl guard_w (.cons (t := 17) rfl (fun h => entW h) .nil) (op_bload_one (m := 3) rfl rfl ag3 rfl) rfl ?_
 refine lxs rfl rfl rfl guard_w (.cons (t := 18) rfl (fun h => entW h) .nil) (op_eql rfl rfl) rfl ?_
 refine lxs rfl rfl rfl guard_eq (.cons (t := 16) rfl (fun h => entW h) (.cons (t := 19) rfl (fun h => entS h) .nil)) (op_pick_or rfl rfl) rfl ?_
 refine lx (op_pick_and rfl rfl) rfl ?_
 refine lx (op_assign rfl) rfl ?_
 refine lx_end ⟨by kernel_rfl, ?_⟩
 refine pe_then_normal ?_
 refine tr_sub hC (.cons (t := 4) rfl .nil) .nil rfl ?_
 refine tr_ret ?_
 refine pe_ret1 rfl hO rfl (.tmp rfl .nil) ?_
 exact ent_auto
end Go.Proofs.Ythiknhmoefbanaa


set_option linter.unusedVariables false
set_option linter.unusedSimpArgs false
namespace Go.Proofs.Ythiknhmoefbanaa
open Go.AL Go.Ch Go.Hp Go.RowKit
theorem fl35_0 : fldB Try.prog 35 0 = some (0, 26) := by kernel_rfl
theorem fl35_1 : fldB Try.prog 35 1 = some (4, 29) := by kernel_rfl
theorem fl35_2 : fldB Try.prog 35 2 = some (8, 3) := by kernel_rfl
theorem fl35_3 : fldB Try.prog 35 3 = some (9, 33) := by kernel_rfl
theorem fl35_4 : fldB Try.prog 35 4 = some (10, 3) := by kernel_rfl
theorem fn12 : fnB Try.prog 12 = true := by kernel_rfl
theorem fn19 : fnB Try.prog 19 = true := by kernel_rfl
theorem fn20 : fnB Try.prog 20 = true := by kernel_rfl
structure Cl where
 p : Pg
 g : Gr
 fn : Int
 args : List V
 dest : Int
def Cl.ps (c : Cl) : List Pred := [slP Fu.ps 4 c.p.funcs, slP Gl.ps 2 c.p.globals, slP lyp 1 c.p.layouts, eqP (.int .i64 c.p.main), eqP (.int .i64 c.g.state), eqP (.int .i64 c.g.fault), eqP (.int .i64 c.g.allocs), slP Fm.ps 9 c.g.frames, eqP (.int .i64 c.fn), slP vp 3 c.args, eqP (.int .i64 c.dest)]
theorem Cl.len (c : Cl) : c.ps.length = 11 := rfl
def sv (s : Int × Int) : List Value := [.int .i64 s.1, .int .i64 s.2]
end Go.Proofs.Ythiknhmoefbanaa


namespace Go.Proofs.Ythiknhmoefbanaa
open Go.AL Go.Ch Go.Hp Go.RowKit
section
variable {H : Type} {enc : TypeId × Value → H} {W : World} {base : Nat} {spare : Nat → Bool} {held : Bool} {bk : DataW H → Nat}
theorem rdS_string (hB : BulkOK bk) {P : Program} {t : TypeId} (ht : P.underlying t = some .string) : RdS enc P W base spare held bk t (fun b : ByteArray => [eqP (.string b)]) (fun _ => 1) (fun _ => True) := by
  intro fuel cs x hx
  obtain ⟨n, rfl, rfl, hs⟩ := DataW.trod_string ht hx
  refine ⟨n, ⟨trivial, hB.lit _⟩, rfl, fun j p u hp hu => ?_⟩
  cases j with
  | zero => simp at hp hu; subst hp; subst hu; exact ⟨rfl, rfl⟩
  | succ j => simp at hp
theorem rd_value (hB : BulkOK bk) : RdS enc Try.prog W base spare held bk 43 vp szV (fun _ => True) :=
  (rdS_struct hB (fs := [(0, 3, 1), (1, 3, 1), (2, 3, 1)]) (m := 3) (by kernel_rfl) (by kernel_rfl) (rdfS_cons (rdS_int hB Try.underlying3) (rdfS_cons (rdS_int hB Try.underlying3) (rdfS_cons (rdS_int hB Try.underlying3) rdfS_nil)))).map
    (fun x => ⟨x.1, x.2.1, x.2.2.1⟩) (fun _ => rfl) (fun _ => Nat.le_refl _) (fun _ _ => trivial)
theorem rd_values (hB : BulkOK bk) : RdS enc Try.prog W base spare held bk 33 (fun l => [slP vp 3 l]) (szL szV) (fun _ => True) :=
  (rdS_slice hB Try.underlying33 (rd_value hB) (by kernel_rfl) (by decide)).map (fun x => x) (fun _ => rfl) (fun _ => Nat.le_refl _) (fun _ _ => trivial)
theorem rd_deferred (hB : BulkOK bk) : RdS enc Try.prog W base spare held bk 47 Df.ps szD (fun _ => True) :=
  (rdS_struct hB (fs := [(0, 3, 1), (1, 33, 1)]) (m := 2) (by kernel_rfl) (by kernel_rfl) (rdfS_cons (rdS_int hB Try.underlying3) (rdfS_cons (rd_values hB) rdfS_nil))).map
    (fun x => ⟨x.1, x.2.1⟩) (fun _ => rfl) (fun _ => by simp only [szD]; omega) (fun _ _ => trivial)
theorem rd_defers (hB : BulkOK bk) : RdS enc Try.prog W base spare held bk 58 (fun l => [slP Df.ps 2 l]) (szL szD) (fun _ => True) :=
  (rdS_slice hB Try.underlying58 (rd_deferred hB) (by kernel_rfl) (by decide)).map (fun x => x) (fun _ => rfl) (fun _ => Nat.le_refl _) (fun _ _ => trivial)
theorem rd_frame (hB : BulkOK bk) : RdS enc Try.prog W base spare held bk 60 Fm.ps szFm (fun _ => True) :=
  (rdS_struct hB (fs := [(0, 3, 1), (1, 3, 1), (2, 33, 1), (3, 3, 1), (4, 58, 1), (5, 4, 1), (6, 43, 3)]) (m := 9) (by kernel_rfl) (by kernel_rfl) (rdfS_cons (rdS_int hB Try.underlying3) (rdfS_cons (rdS_int hB Try.underlying3) (rdfS_cons (rd_values hB) (rdfS_cons (rdS_int hB Try.underlying3) (rdfS_cons (rd_defers hB) (rdfS_cons (rdS_bool hB Try.underlying4) (rdfS_cons (rd_value hB) rdfS_nil)))))))).map
    (fun x => ⟨x.1, x.2.1, x.2.2.1, x.2.2.2.1, x.2.2.2.2.1, x.2.2.2.2.2.1, x.2.2.2.2.2.2.1⟩) (fun _ => rfl) (fun _ => by simp only [szFm, szV]; omega) (fun _ _ => trivial)
theorem rd_frames (hB : BulkOK bk) : RdS enc Try.prog W base spare held bk 27 (fun l => [slP Fm.ps 9 l]) (szL szFm) (fun _ => True) :=
  (rdS_slice hB Try.underlying27 (rd_frame hB) (by kernel_rfl) (by decide)).map (fun x => x) (fun _ => rfl) (fun _ => Nat.le_refl _) (fun _ _ => trivial)
theorem rd_goroutine (hB : BulkOK bk) : RdS enc Try.prog W base spare held bk 29 Gr.ps szGr (fun _ => True) :=
  (rdS_struct hB (fs := [(0, 3, 1), (1, 3, 1), (2, 3, 1), (3, 27, 1)]) (m := 4) (by kernel_rfl) (by kernel_rfl) (rdfS_cons (rdS_int hB Try.underlying3) (rdfS_cons (rdS_int hB Try.underlying3) (rdfS_cons (rdS_int hB Try.underlying3) (rdfS_cons (rd_frames hB) rdfS_nil))))).map
    (fun x => ⟨x.1, x.2.1, x.2.2.1, x.2.2.2.1⟩) (fun _ => rfl) (fun _ => by simp only [szGr]; omega) (fun _ _ => trivial)
theorem rd_instr (hB : BulkOK bk) : RdS enc Try.prog W base spare held bk 80 In.ps szIn (fun _ => True) :=
  (rdS_struct hB (fs := [(0, 3, 1), (1, 3, 1), (2, 3, 1), (3, 3, 1), (4, 3, 1)]) (m := 5) (by kernel_rfl) (by kernel_rfl) (rdfS_cons (rdS_int hB Try.underlying3) (rdfS_cons (rdS_int hB Try.underlying3) (rdfS_cons (rdS_int hB Try.underlying3) (rdfS_cons (rdS_int hB Try.underlying3) (rdfS_cons (rdS_int hB Try.underlying3) rdfS_nil)))))).map
    (fun x => ⟨x.1, x.2.1, x.2.2.1, x.2.2.2.1, x.2.2.2.2.1⟩) (fun _ => rfl) (fun _ => by simp only [szIn]; omega) (fun _ _ => trivial)
theorem rd_instrs (hB : BulkOK bk) : RdS enc Try.prog W base spare held bk 64 (fun l => [slP In.ps 5 l]) (szL szIn) (fun _ => True) :=
  (rdS_slice hB Try.underlying64 (rd_instr hB) (by kernel_rfl) (by decide)).map (fun x => x) (fun _ => rfl) (fun _ => Nat.le_refl _) (fun _ _ => trivial)
theorem rd_func (hB : BulkOK bk) : RdS enc Try.prog W base spare held bk 66 Fu.ps szFu (fun _ => True) :=
  (rdS_struct hB (fs := [(0, 9, 1), (1, 3, 1), (2, 3, 1), (3, 64, 1)]) (m := 4) (by kernel_rfl) (by kernel_rfl) (rdfS_cons (rdS_string hB Try.underlying9) (rdfS_cons (rdS_int hB Try.underlying3) (rdfS_cons (rdS_int hB Try.underlying3) (rdfS_cons (rd_instrs hB) rdfS_nil))))).map
    (fun x => ⟨x.1, x.2.1, x.2.2.1, x.2.2.2.1⟩) (fun _ => rfl) (fun _ => by simp only [szFu]; omega) (fun _ _ => trivial)
theorem rd_funcs (hB : BulkOK bk) : RdS enc Try.prog W base spare held bk 22 (fun l => [slP Fu.ps 4 l]) (szL szFu) (fun _ => True) :=
  (rdS_slice hB Try.underlying22 (rd_func hB) (by kernel_rfl) (by decide)).map (fun x => x) (fun _ => rfl) (fun _ => Nat.le_refl _) (fun _ _ => trivial)
theorem rd_global (hB : BulkOK bk) : RdS enc Try.prog W base spare held bk 71 Gl.ps szGl (fun _ => True) :=
  (rdS_struct hB (fs := [(0, 9, 1), (1, 3, 1)]) (m := 2) (by kernel_rfl) (by kernel_rfl) (rdfS_cons (rdS_string hB Try.underlying9) (rdfS_cons (rdS_int hB Try.underlying3) rdfS_nil))).map
    (fun x => ⟨x.1, x.2.1⟩) (fun _ => rfl) (fun _ => by simp only [szGl]; omega) (fun _ _ => trivial)
theorem rd_globals (hB : BulkOK bk) : RdS enc Try.prog W base spare held bk 23 (fun l => [slP Gl.ps 2 l]) (szL szGl) (fun _ => True) :=
  (rdS_slice hB Try.underlying23 (rd_global hB) (by kernel_rfl) (by decide)).map (fun x => x) (fun _ => rfl) (fun _ => Nat.le_refl _) (fun _ _ => trivial)
theorem rd_layout (hB : BulkOK bk) : RdS enc Try.prog W base spare held bk 81 lyp (szL szI) (fun _ => True) :=
  (rdS_slice hB Try.underlying81 (rdS_int hB Try.underlying3) (by kernel_rfl) (by decide)).map (fun x => x) (fun _ => rfl) (fun _ => Nat.le_refl _) (fun _ _ => trivial)
theorem rd_layouts (hB : BulkOK bk) : RdS enc Try.prog W base spare held bk 24 (fun l => [slP lyp 1 l]) (szL (szL szI)) (fun _ => True) :=
  (rdS_slice hB Try.underlying24 (rd_layout hB) (by kernel_rfl) (by decide)).map (fun x => x) (fun _ => rfl) (fun _ => Nat.le_refl _) (fun _ _ => trivial)
theorem rd_program (hB : BulkOK bk) : RdS enc Try.prog W base spare held bk 26 Pg.ps szP (fun _ => True) :=
  (rdS_struct hB (fs := [(0, 22, 1), (1, 23, 1), (2, 24, 1), (3, 3, 1)]) (m := 4) (by kernel_rfl) (by kernel_rfl) (rdfS_cons (rd_funcs hB) (rdfS_cons (rd_globals hB) (rdfS_cons (rd_layouts hB) (rdfS_cons (rdS_int hB Try.underlying3) rdfS_nil))))).map
    (fun x => ⟨x.1, x.2.1, x.2.2.1, x.2.2.2.1⟩) (fun _ => rfl) (fun _ => by simp only [szP]; omega) (fun _ _ => trivial)
def szCl (c : Cl) : Nat := szP c.p + szGr c.g + szL szV c.args
theorem rd_call (hB : BulkOK bk) : RdS enc Try.prog W base spare held bk 35 Cl.ps szCl (fun _ => True) :=
  (rdS_struct hB (fs := [(0, 26, 4), (4, 29, 4), (8, 3, 1), (9, 33, 1), (10, 3, 1)]) (m := 11) (by kernel_rfl) (by kernel_rfl) (rdfS_cons (rd_program hB) (rdfS_cons (rd_goroutine hB) (rdfS_cons (rdS_int hB Try.underlying3) (rdfS_cons (rd_values hB) (rdfS_cons (rdS_int hB Try.underlying3) rdfS_nil)))))).map
    (fun x => ⟨x.1, x.2.1, x.2.2.1, x.2.2.2.1, x.2.2.2.2.1⟩) (fun _ => rfl) (fun _ => by simp only [szCl]; omega) (fun _ _ => trivial)
end
end Go.Proofs.Ythiknhmoefbanaa


namespace Go.Proofs.Ythiknhmoefbanaa
open Go.AL
theorem bulkAll {H : Type} : ∀ l : List (DataW H), Rows.uptoBulkAll l = (l.map Rows.uptoBulk).sum
  | [] => rfl
  | d :: l => by
    rw [Rows.uptoBulkAll, bulkAll l, List.map_cons, List.sum_cons]
theorem bulkOK {H : Type} : BulkOK (H := H) Rows.uptoBulk where
  lit := fun l => by cases l <;> simp [Rows.uptoBulk]
  nil := by simp [Rows.uptoBulk]
  slice := fun e s => by rw [Rows.uptoBulk, bulkAll, bulkAll]; omega
  agg := fun l => by rw [Rows.uptoBulk, bulkAll]; omega
end Go.Proofs.Ythiknhmoefbanaa


namespace Go.Hp
open Go.AL Go.Ch
def lastO (b : Option Fm) : List Fm → Option Fm
  | [] => b
  | x :: l => lastO (some x) l
section
variable {p : Pg} {g : Gr} {f f' h : Fm} {b : Option Fm} {l : List Fm} {d : Df} {v : V} {r x dest : Int} {args : List V} {q t : Nat} {ins : Pg → Fu → In → Bool}
theorem frs_app : ∀ (l : List Fm) (b : Option Fm), frsOK p b (l ++ [f]) = (frsOK p b l && frmOK p (lastO b l) f)
  | [], b => by simp [frsOK, lastO]
  | y :: l, b => by
    show (frmOK p b y && frsOK p (some y) (l ++ [f])) = (frmOK p b y && frsOK p (some y) l && frmOK p (lastO (some y) l) f)
    rw [frs_app l (some y), Bool.and_assoc]
theorem lastO_app : ∀ (l : List Fm) (b : Option Fm), lastO b (l ++ [f]) = some f
  | [], b => rfl
  | y :: l, b => lastO_app l (some y)
theorem frm_parts : frmOK p b f = true ↔ (0 ≤ f.fn ∧ f.fn < (p.funcs.length : Int)) ∧ ((f.regs.length : Int) = (pfn p f.fn).regs ∧ 0 ≤ f.pc ∧ f.pc < ((pfn p f.fn).code.length : Int) ∧ -1 ≤ f.dest) ∧ f.regs.all vval = true ∧ vval f.result = true ∧ destOK b f = true ∧ f.defers.all (defOK p) = true := by
  unfold frmOK fnOK' midOK
  simp only [Bool.and_eq_true, decide_eq_true_eq]
  exact ⟨fun ⟨⟨⟨a, ⟨c, d⟩, e⟩, i⟩, j⟩ => ⟨a, c, d, e, i, j⟩, fun ⟨a, c, d, e, i, j⟩ => ⟨⟨⟨a, ⟨c, d⟩, e⟩, i⟩, j⟩⟩
theorem valid_iff : validG p g = true ↔ (0 ≤ g.state ∧ g.state ≤ 3 ∧ 0 ≤ g.fault ∧ g.fault ≤ 9 ∧ (g.state = 3 ↔ g.fault ≠ 0) ∧ (g.state = 2 ↔ (g.frames.length : Int) = 0) ∧ 0 ≤ g.allocs ∧ g.allocs ≤ 200 ∧ (g.frames.length : Int) ≤ 32) ∧ frsOK p none g.frames = true := by
  unfold validG hdrOK
  rw [Bool.and_eq_true, decide_eq_true_eq]
def Poss (p : Pg) (g : Gr) : Prop := validG p g = true ∧ (g.state = 0 ∨ g.state = 1)
theorem poss_top (h : Poss p g) : ∃ q f, g.frames[q]? = some f ∧ g.frames.length = q + 1 := by
  have h1 := (valid_iff.1 h.1).1
  have h2 := h.2
  exact ⟨g.frames.length - 1, g.frames[g.frames.length - 1]'(by omega), List.getElem?_eq_getElem (by omega), by omega⟩
theorem frm_new (hp : progF ins p = true) (h0 : 0 ≤ x) (h1 : x < (p.funcs.length : Int)) (ha : (args.length : Int) = (pfn p x).params) (hv : args.all vval = true) (hd : -1 ≤ dest) (hb : destOK b (newF p x args dest) = true) : frmOK p b (newF p x args dest) = true := by
  have hk := (progF_POK hp).at_ h0 h1
  have hc := fun_hdr ((progF_mem hp).2 _ (List.mem_of_getElem? (pfn_at h0 h1)))
  have e : (newF p x args dest).regs = regsF args (pfn p x).regs.toNat := rfl
  refine frm_parts.2 ⟨⟨h0, h1⟩, ⟨?_, Int.le_refl _, ?_, hd⟩, ?_, rfl, hb, rfl⟩
  · rw [e, regs_len (by omega)]
    show ((pfn p x).regs.toNat : Int) = (pfn p x).regs
    omega
  · show (0 : Int) < ((pfn p x).code.length : Int)
    omega
  · rw [e]
    unfold regsF
    rw [List.all_append, hv]
    simp only [Bool.true_and, List.all_eq_true]
    intro y hy
    rw [(List.mem_replicate.1 hy).2]
    rfl
/-- a call that fits -/
theorem keep_enter (hp : progF ins p = true) (h : validG p g = true) (hs : g.state ≠ 2) (hn : g.frames.length < 32) (h0 : 0 ≤ x) (h1 : x < (p.funcs.length : Int)) (ha : (args.length : Int) = (pfn p x).params) (hv : args.all vval = true) (hd : -1 ≤ dest)
    (hb : destOK (lastO none g.frames) (newF p x args dest) = true) : enterF p g x args dest = ({ g with frames := g.frames ++ [newF p x args dest] }, 0) ∧ validG p (enterF p g x args dest).1 = true := by
  have e : enterF p g x args dest = ({ g with frames := g.frames ++ [newF p x args dest] }, 0) := by
    unfold enterF
    rw [if_neg (by omega), if_neg (by omega)]
  refine ⟨e, ?_⟩
  rw [e]
  have h2 := valid_iff.1 h
  refine valid_iff.2 ⟨?_, by rw [frs_app, h2.2, frm_new hp h0 h1 ha hv hd hb]; rfl⟩
  have e2 : (g.frames ++ [newF p x args dest]).length = g.frames.length + 1 := by simp
  simp only [e2]
  omega
def OutOK (p : Pg) (n : Nat) : Out → Prop
  | .stop rs => frsOK p none rs.reverse = true ∧ rs.length ≤ n
  | .call rs d => frsOK p none rs.reverse = true ∧ rs.length ≤ n ∧ 0 < rs.length ∧ defOK p d = true
end
end Go.Hp


namespace Go.Hp
open Go.AL Go.Ch
/-- what is left when the frame u leaves over the first t frames -/
def leaveAt (p : Pg) (g : Gr) (t : Nat) (u : Fm) : Gr := match lst g.frames (t + 1) u with
  | .stop rs => { g with frames := rs.reverse, state := if rs.length = 0 then 2 else g.state }
  | .call rs d => if (enterF p { g with frames := rs.reverse } d.fn d.args (-1)).2 = 0 then (enterF p { g with frames := rs.reverse } d.fn d.args (-1)).1 else { g with frames := rs.reverse, state := 3, fault := 9 }
def topM (f : Fm) (v : V) (m : Nat) : Fm := { f with leaving := true, result := v, defers := f.defers.take m }
def revF (p : Pg) (g : Gr) (f : Fm) (n : Nat) (v : V) (m : Nat) : Gr := leaveAt p g n (topM f v m)
section
variable {p : Pg} {g : Gr} {f h : Fm} {v w : V} {n k m : Nat} {d : Df}
theorem leaveF_at (hq : g.frames[n]? = some f) (hl : g.frames.length = n + 1) : leaveF p g v = leaveAt p g n (topL f v) := leaveF_some hq hl
end
end Go.Hp
namespace Go.Hp
open Go.AL Go.Ch
/-- a call that returns leaves its result where it was asked for -/
theorem calls_eq {p : Pg} {g : Gr} {f : Fm} {q : Nat} {x dest : Int} {args : List V} {v : V} (hq : g.frames[q]? = some f) (hl : g.frames.length = q + 1) (hf : f.leaving = false) :
    leaveF p { g with frames := g.frames ++ [newF p x args dest] } v = setF g dest v := by
  obtain ⟨hlt, _⟩ := List.getElem?_eq_some_iff.1 hq
  have e1 : ({ g with frames := g.frames ++ [newF p x args dest] } : Gr).frames[q + 1]? = some (newF p x args dest) := by
    simp only
    rw [List.getElem?_append_right (by omega), hl, Nat.sub_self]
    rfl
  have e3 : (g.frames ++ [newF p x args dest])[q]? = some f := by rw [List.getElem?_append_left hlt, hq]
  have e4 : (g.frames ++ [newF p x args dest]).take q = g.frames.take q := List.take_append_of_le_length (by omega)
  have e5 : (ret1 (topL (newF p x args dest) v) f).leaving = false := by
    unfold ret1
    split
    · exact hf
    · exact hf
  rw [leaveF_at e1 (by simp; omega)]
  unfold leaveAt
  simp only
  rw [leave_pop rfl rfl e3, leave_stop e5, e4]
  simp only [List.reverse_cons, List.reverse_reverse, List.length_cons, Nat.succ_ne_zero, if_false]
  have e6 : (topL (newF p x args dest) v).dest = dest := rfl
  have e7 : (topL (newF p x args dest) v).result = v := rfl
  by_cases h : 0 ≤ dest ∧ dest < (f.regs.length : Int)
  · rw [ret1_in (by rw [e6]; exact h), set_in hq hl h, e6, e7]
  · rw [ret1_out (by rw [e6]; exact h), set_out hq hl h]
end Go.Hp


set_option linter.unusedVariables false
set_option linter.unusedSimpArgs false
namespace Go.Proofs.Ythiknhmoefbanaa
open Go.AL Go.Ch Go.Hp Go.RowKit
end Go.Proofs.Ythiknhmoefbanaa


set_option linter.unusedVariables false
set_option linter.unusedSimpArgs false
namespace Go.Proofs.Ythiknhmoefbanaa
open Go.AL Go.Ch Go.Hp Go.RowKit
theorem ag35 : aggB Try.prog 35 = some true := by kernel_rfl
theorem fn31 : fnB Try.prog 31 = true := by kernel_rfl
theorem sz35 : sizeB Try.prog 35 = some 11 := by kernel_rfl
def topR (g : Gr) : List V := match topF g.frames with | none => [] | some f => f.regs
theorem topR_eq {g : Gr} {q : Nat} {f : Fm} (hq : g.frames[q]? = some f) (hl : g.frames.length = q + 1) : topR g = f.regs := by
 unfold topR topF
 rw [hl, Nat.add_sub_cancel, hq]
theorem lastO_top {l : List Fm} {q : Nat} {f : Fm} (hq : l[q]? = some f) (hl : l.length = q + 1) : lastO none l = some f := by
 have e : l.take q ++ [f] = l := by
  obtain ⟨hlt, rfl⟩ := List.getElem?_eq_some_iff.1 hq
  rw [← take_at hlt, List.take_of_length_le (by omega)]
 have h := lastO_app (f := f) (l.take q) none
 rwa [e] at h
def fitBad (c : Cl) : Bool := ((((((!((progF instrF c.p && validG c.p c.g) && (decide (c.g.state = 0) || decide (c.g.state = 1))) || decide ((c.g.frames.length : Int) ≥ 32)) || decide (c.fn < 0)) || decide (c.fn ≥ (c.p.funcs.length : Int))) || decide ((c.args.length : Int) ≠ (pfn c.p c.fn).params)) || !(c.args.all vval)) || decide (c.dest < -1))
def fitsF (c : Cl) : Bool := if fitBad c = true then false else decide (c.dest < ((topR c.g).length : Int))
theorem fit_bad {c : Cl} (h : fitBad c = false) : progF instrF c.p = true ∧ Poss c.p c.g ∧ c.g.frames.length < 32 ∧ 0 ≤ c.fn ∧ c.fn < (c.p.funcs.length : Int) ∧ (c.args.length : Int) = (pfn c.p c.fn).params ∧ c.args.all vval = true ∧ -1 ≤ c.dest := by
 unfold fitBad at h
 simp only [Bool.or_eq_false_iff, Bool.not_eq_false', Bool.and_eq_true, Bool.or_eq_true, decide_eq_true_eq, decide_eq_false_iff_not] at h
 obtain ⟨⟨⟨⟨⟨⟨⟨⟨h1, h2⟩, h3⟩, h4⟩, h5⟩, h6⟩, h7⟩, h8⟩, h9⟩ := h
 exact ⟨h1, ⟨h2, h3⟩, by omega, by omega, by omega, by omega, h8, by omega⟩
theorem fits_ex {c : Cl} (h : fitsF c = true) : fitBad c = false ∧ c.dest < ((topR c.g).length : Int) := by
 unfold fitsF at h
 cases e : fitBad c with
 | true => rw [e] at h; simp at h
 | false => rw [e] at h; simpa using h
theorem keeps_enter {c : Cl} (h : fitsF c = true) : enterF c.p c.g c.fn c.args c.dest = ({ c.g with frames := c.g.frames ++ [newF c.p c.fn c.args c.dest] }, 0) ∧ validG c.p (enterF c.p c.g c.fn c.args c.dest).1 = true := by
 obtain ⟨h1, h2⟩ := fits_ex h
 obtain ⟨hp, hs, hn, h3, h4, h5, h6, h7⟩ := fit_bad h1
 obtain ⟨q, f, hq, hl⟩ := poss_top hs
 have hs2 := hs.2
 refine keep_enter hp hs.1 (by omega) hn h3 h4 h5 h6 h7 ?_
 rw [lastO_top hq hl]
 rw [topR_eq hq hl] at h2
 exact decide_eq_true h2
theorem fits_ok (c : Cl) (hp : BdPg 9223372036854775807 c.p) (hb : BdG 9223372036854775807 c.g) (ha : c.args.length ≤ 9223372036854775807) : FnP Try.prog 31 [aggP c.ps] (eqP (.bool (fitsF c))) := by
 refine fn_pure' Try.func31 rfl Try.ntmps31 rfl ?_
 intro σ0 M ex Rf R hC hO
 simp only [frameOf, tokOf]
 refine tr_seq ?_
 refine tr_region (fun N0 hN => ?_)
 refine lxn (op_box (m := 1) (k := 1) rfl (.agg rfl) (by first | exact hC.low _ (by decide) | rfl)) rfl ?_
 refine lx (op_assign rfl) rfl ?_
 refine lx_end ⟨by kernel_rfl, ?_⟩
 refine pe_then_normal ?_
 refine tr_sub hC (.cons (t := 1) rfl .nil) (.cons (t := 1) rfl .nil) rfl ?_
 refine tr_seq ?_
 refine tr_seq ?_
 refine tr_drawn mixed (fun N1 hN => ?_)
 refine lx (op_fieldAddr rfl fl35_0 sz26) rfl ?_
 refine lx (op_bload_part (m := 1) (qs := [_, _, _, _]) rfl rfl ag26 sz26 rfl rfl) rfl ?_
 refine lx (op_fieldAddr rfl fl35_1 sz29) rfl ?_
 refine lx (op_bload_part (m := 1) (qs := [_, _, _, _]) rfl rfl ag29 sz29 rfl rfl) rfl ?_
 first | refine lx (op_call (l := [(Go.Operand.tmp 4), (Go.Operand.tmp 6)]) (possible_ok c.p c.g hp hb) (.cons rfl (.cons rfl .nil)) fn20) rfl ?_ | refine lx (op_call (l := [(Go.Operand.tmp 4), (Go.Operand.tmp 6)]) (possible_ok c.p c.g hp hb) (.ent rfl (by exact ent_auto) (.ent rfl (by exact ent_auto) .nil)) fn20) rfl ?_
 first | refine lx (op_not rfl) rfl ?_ | refine lx (op_not_b rfl) rfl ?_
 refine lx (op_move rfl) rfl ?_
 refine lxs rfl rfl rfl guard_eq (.cons (t := 1) rfl (fun _ => Ent.refl _) .nil) (op_fieldAddr rfl fl35_1 sz29) rfl ?_
 refine lxs rfl rfl rfl guard_eq (.cons (t := 10) rfl (fun h => entW h) .nil) (op_fieldAddr rfl fl29_3 sz27) rfl ?_
 refine lxs rfl rfl rfl guard_eq (.cons (t := 11) rfl (fun h => entW h) .nil) (op_bload_one (m := 1) rfl rfl ag27 rfl) rfl ?_
 first | refine lxs rfl rfl rfl guard_eq (.cons (t := 12) rfl (fun h => entW h) .nil) (op_len rfl el27) rfl ?_ | refine lxs rfl rfl rfl guard_eq (.cons (t := 12) rfl (fun h => entW h) .nil) (op_len_row rfl el27) rfl ?_ | refine lxs rfl rfl rfl guard_eq (.cons (t := 12) rfl (fun h => entW h) .nil) (op_len_mv rfl el27) rfl ?_ | refine lxs rfl rfl rfl guard_eq (.cons (t := 12) rfl (fun h => entW h) .nil) (op_len_nil rfl el27) rfl ?_
 refine lxs rfl rfl rfl guard_eq (.cons (t := 13) rfl (fun h => entW h) .nil) (op_geq rfl rfl) rfl ?_
 refine lx (op_pick_or rfl rfl) rfl ?_
 refine lx (op_move rfl) rfl ?_
 refine lxs rfl rfl rfl guard_eq (.cons (t := 1) rfl (fun _ => Ent.refl _) .nil) (op_fieldAddr rfl fl35_2 sz3) rfl ?_
 refine lxs rfl rfl rfl guard_eq (.cons (t := 17) rfl (fun h => entW h) .nil) (op_bload_one (m := 1) rfl rfl ag3 rfl) rfl ?_
 refine lxs rfl rfl rfl guard_eq (.cons (t := 18) rfl (fun h => entW h) .nil) (op_lss rfl rfl) rfl ?_
 refine lx (op_pick_or rfl rfl) rfl ?_
 refine lx (op_move rfl) rfl ?_
 refine lxs rfl rfl rfl guard_eq (.cons (t := 1) rfl (fun _ => Ent.refl _) .nil) (op_fieldAddr rfl fl35_2 sz3) rfl ?_
 refine lxs rfl rfl rfl guard_eq (.cons (t := 22) rfl (fun h => entW h) .nil) (op_bload_one (m := 1) rfl rfl ag3 rfl) rfl ?_
 refine lxs rfl rfl rfl guard_eq (.cons (t := 1) rfl (fun _ => Ent.refl _) .nil) (op_fieldAddr rfl fl35_0 sz26) rfl ?_
 refine lxs rfl rfl rfl guard_eq (.cons (t := 24) rfl (fun h => entW h) .nil) (op_fieldAddr rfl fl26_0 sz22) rfl ?_
 refine lxs rfl rfl rfl guard_eq (.cons (t := 25) rfl (fun h => entW h) .nil) (op_bload_one (m := 1) rfl rfl ag22 rfl) rfl ?_
 first | refine lxs rfl rfl rfl guard_eq (.cons (t := 26) rfl (fun h => entW h) .nil) (op_len rfl el22) rfl ?_ | refine lxs rfl rfl rfl guard_eq (.cons (t := 26) rfl (fun h => entW h) .nil) (op_len_row rfl el22) rfl ?_ | refine lxs rfl rfl rfl guard_eq (.cons (t := 26) rfl (fun h => entW h) .nil) (op_len_mv rfl el22) rfl ?_ | refine lxs rfl rfl rfl guard_eq (.cons (t := 26) rfl (fun h => entW h) .nil) (op_len_nil rfl el22) rfl ?_
 refine lxs rfl rfl rfl guard_eq (.cons (t := 23) rfl (fun h => entW h) (.cons (t := 27) rfl (fun h => entW h) .nil)) (op_geq rfl rfl) rfl ?_
 refine lx (op_pick_or rfl rfl) rfl ?_
 refine lx (op_move rfl) rfl ?_
 refine lxs rfl rfl rfl guard_eq (.cons (t := 1) rfl (fun _ => Ent.refl _) .nil) (op_fieldAddr rfl fl35_3 sz33) rfl ?_
 refine lxs rfl rfl rfl guard_eq (.cons (t := 31) rfl (fun h => entW h) .nil) (op_bload_one (m := 1) rfl rfl ag33 rfl) rfl ?_
 first | refine lxs rfl rfl rfl guard_eq (.cons (t := 32) rfl (fun h => entW h) .nil) (op_len rfl el33) rfl ?_ | refine lxs rfl rfl rfl guard_eq (.cons (t := 32) rfl (fun h => entW h) .nil) (op_len_row rfl el33) rfl ?_ | refine lxs rfl rfl rfl guard_eq (.cons (t := 32) rfl (fun h => entW h) .nil) (op_len_mv rfl el33) rfl ?_ | refine lxs rfl rfl rfl guard_eq (.cons (t := 32) rfl (fun h => entW h) .nil) (op_len_nil rfl el33) rfl ?_
 refine lxs rfl rfl rfl guard_eq (.cons (t := 1) rfl (fun _ => Ent.refl _) .nil) (op_fieldAddr rfl fl35_0 sz26) rfl ?_
 refine lxs rfl rfl rfl guard_eq (.cons (t := 34) rfl (fun h => entW h) .nil) (op_fieldAddr rfl fl26_0 sz22) rfl ?_
 refine lxs rfl rfl rfl guard_eq (.cons (t := 35) rfl (fun h => entW h) .nil) (op_bload_one (m := 1) rfl rfl ag22 rfl) rfl ?_
 refine lxs rfl rfl rfl guard_eq (.cons (t := 1) rfl (fun _ => Ent.refl _) .nil) (op_fieldAddr rfl fl35_2 sz3) rfl ?_
 refine lxs rfl rfl rfl guard_eq (.cons (t := 37) rfl (fun h => entW h) .nil) (op_bload_one (m := 1) rfl rfl ag3 rfl) rfl ?_
 refine lxsc (rd := [(36, slP Fu.ps 4 c.p.funcs), (38, eqP (.int .i64 c.fn))]) (φ := cellsP (pfn c.p (c.fn)).ps) rfl rfl rfl guard_eq (.cons (t := 36) rfl (fun h => entW h) (.cons (t := 38) rfl (fun h => entW h) .nil)) (fun hgd => ?_) rfl rfl ?_
 ·have hq0 : 0 ≤ c.fn ∧ c.fn < (c.p.funcs.length : Int) := by
   simp at hgd
   omega
  exact op_index rfl rfl el22 sz66 (by omega : c.fn = ((c.fn.toNat : Nat) : Int)) (pfn_at (by omega) (by omega))
 first | refine lxs rfl rfl rfl guard_eq (.cons (t := 39) rfl (fun h => entW h) .nil) (op_fieldAddr rfl fl66_1 sz3) rfl ?_ | refine lxs rfl rfl rfl guard_eq (.cons (t := 39) rfl (fun h => entW h) .nil) (op_fieldCells rfl fl66_1 sz3) rfl ?_
 first | refine lxs rfl rfl rfl guard_eq (.cons (t := 40) rfl (fun h => entW h) .nil) (op_load_one rfl ag3 rfl) rfl ?_ | refine lxs rfl rfl rfl guard_eq (.cons (t := 40) rfl (fun h => entW h) .nil) (op_bload_one (m := 1) rfl rfl ag3 rfl) rfl ?_
 refine lxs rfl rfl rfl guard_eq (.cons (t := 33) rfl (fun h => entW h) (.cons (t := 41) rfl (fun h => entW h) .nil)) (op_neq rfl rfl) rfl ?_
 refine lx (op_pick_or rfl rfl) rfl ?_
 refine lx (op_move rfl) rfl ?_
 refine lxs rfl rfl rfl guard_eq (.cons (t := 1) rfl (fun _ => Ent.refl _) .nil) (op_fieldAddr rfl fl35_3 sz33) rfl ?_
 refine lxs rfl rfl rfl guard_eq (.cons (t := 45) rfl (fun h => entW h) .nil) (op_bload_one (m := 1) rfl rfl ag33 rfl) rfl ?_
 first | refine lxs rfl rfl rfl guard_eq (.cons (t := 46) rfl (fun h => entW h) .nil) (op_call (l := [(Go.Operand.tmp 46)]) (rvvals_ok c.args ha) (.cons rfl .nil) fn33) rfl ?_ | refine lxs rfl rfl rfl guard_eq (.cons (t := 46) rfl (fun h => entW h) .nil) (op_call (l := [(Go.Operand.tmp 46)]) (rvvals_ok c.args ha) (.ent rfl (by exact ent_auto) .nil) fn33) rfl ?_
 first | refine lxs rfl rfl rfl guard_eq (.cons (t := 47) rfl (fun h => entW h) .nil) (op_not rfl) rfl ?_ | refine lxs rfl rfl rfl guard_eq (.cons (t := 47) rfl (fun h => entW h) .nil) (op_not_b rfl) rfl ?_
 refine lx (op_pick_or rfl rfl) rfl ?_
 refine lx (op_move rfl) rfl ?_
 refine lxs rfl rfl rfl guard_eq (.cons (t := 1) rfl (fun _ => Ent.refl _) .nil) (op_fieldAddr rfl fl35_4 sz3) rfl ?_
 refine lxs rfl rfl rfl guard_eq (.cons (t := 51) rfl (fun h => entW h) .nil) (op_bload_one (m := 1) rfl rfl ag3 rfl) rfl ?_
 refine lxs rfl rfl rfl guard_eq (.cons (t := 52) rfl (fun h => entW h) .nil) (op_lss rfl rfl) rfl ?_
 refine lx (op_pick_or rfl rfl) rfl ?_
 refine lx_end ⟨by kernel_rfl, ?_⟩
 refine pe_then_normal ?_
 refine tr_sub hC (.cons (t := 1) rfl (.cons (t := 54) rfl .nil)) (.cons (t := 1) rfl .nil) rfl ?_
 refine tr_cond rfl (fun h54 => ?_) (fun h54 => ?_)
 ·have hbad : fitBad c = true := h54
  refine tr_seq ?_
  refine tr_region (fun N2 hN => ?_)
  refine lx (op_assign rfl) rfl ?_
  refine lx_end ⟨by kernel_rfl, ?_⟩
  refine pe_then_normal ?_
  refine tr_sub hC (.cons (t := 2) rfl .nil) .nil rfl ?_
  refine tr_ret ?_
  refine pe_then_ret ?_
  refine pe_ret1 rfl hO rfl (.tmp rfl .nil) ?_
  rw [fitsF, if_pos hbad]
  exact ent_auto
 ·have hok : fitBad c = false := h54
  obtain ⟨q, f, hq, hl⟩ := poss_top (fit_bad hok).2.1
  have hq32 := (fit_bad hok).2.2.1
  refine tr_skip ?_
  refine pe_then_normal ?_
  refine tr_sub hC (.cons (t := 1) rfl .nil) (.cons (t := 1) rfl .nil) rfl ?_
  refine tr_seq ?_
  refine tr_drawn mixed (fun N3 hN => ?_)
  refine lx (op_fieldAddr rfl fl35_4 sz3) rfl ?_
  refine lx (op_bload_one (m := 1) rfl rfl ag3 rfl) rfl ?_
  refine lx (op_fieldAddr rfl fl35_1 sz29) rfl ?_
  refine lx (op_fieldAddr rfl fl29_3 sz27) rfl ?_
  refine lx (op_bload_one (m := 1) rfl rfl ag27 rfl) rfl ?_
  refine lx (op_fieldAddr rfl fl35_1 sz29) rfl ?_
  refine lx (op_fieldAddr rfl fl29_3 sz27) rfl ?_
  refine lx (op_bload_one (m := 1) rfl rfl ag27 rfl) rfl ?_
  first | refine lx (op_len rfl el27) rfl ?_ | refine lx (op_len_row rfl el27) rfl ?_ | refine lx (op_len_mv rfl el27) rfl ?_ | refine lx (op_len_nil rfl el27) rfl ?_
  refine lx (op_sub rfl rfl (by omega)) rfl ?_
  refine lx (op_index rfl rfl el27 sz60 (by omega : (c.g.frames.length : Int) - 1 = ((q : Nat) : Int)) hq) rfl ?_
  first | refine lx (op_fieldAddr rfl fl60_2 sz33) rfl ?_ | refine lx (op_fieldCells rfl fl60_2 sz33) rfl ?_
  first | refine lx (op_load_one rfl ag33 rfl) rfl ?_ | refine lx (op_bload_one (m := 1) rfl rfl ag33 rfl) rfl ?_
  first | refine lx (op_len rfl el33) rfl ?_ | refine lx (op_len_row rfl el33) rfl ?_ | refine lx (op_len_mv rfl el33) rfl ?_ | refine lx (op_len_nil rfl el33) rfl ?_
  refine lx (op_lss rfl rfl) rfl ?_
  refine lx (op_assign rfl) rfl ?_
  refine lx_end ⟨by kernel_rfl, ?_⟩
  refine pe_then_normal ?_
  refine tr_sub hC (.cons (t := 2) rfl .nil) .nil rfl ?_
  refine tr_ret ?_
  refine pe_ret1 rfl hO rfl (.tmp rfl .nil) ?_
  rw [fitsF, if_neg (by rw [hok]; simp), topR_eq hq hl]
  exact ent_auto
end Go.Proofs.Ythiknhmoefbanaa


set_option linter.unusedVariables false
set_option linter.unusedSimpArgs false
namespace Go.Proofs.Ythiknhmoefbanaa
open Go.AL Go.Ch Go.Hp Go.RowKit
theorem bd_push {n : Nat} {g : Gr} {f : Fm} (hb : BdG n g) (hl : g.frames.length < n) (hf : BdF n f) : BdG n { g with frames := g.frames ++ [f] } :=
 ⟨by simp; omega, fun x hx => by
  rcases List.mem_append.1 hx with hx | hx
  ·exact hb.each x hx
  ·rw [List.mem_singleton] at hx
   subst hx
   exact hf⟩
theorem nodup_two (b K k : Nat) (h : k < b) : nodupB (rng b K ++ ([k] ++ [])) = true := by
 refine nodupB_of (List.nodup_append.2 ⟨rng_nodup b K, by simp, fun x hx y hy => ?_⟩)
 unfold rng at hx
 obtain ⟨j, _, rfl⟩ := List.mem_map.1 hx
 simp at hy
 omega
theorem calls_ex {p : Pg} {g : Gr} {x dest : Int} {args : List V} (h : ((!true || !(fitsF (Cl.mk p g x args dest))) || (gt (default : Fm) g.frames (g.frames.length - 1)).leaving) = false) : fitsF (Cl.mk p g x args dest) = true ∧ (gt (default : Fm) g.frames (g.frames.length - 1)).leaving = false := by
 simp only [Bool.or_eq_false_iff, Bool.not_eq_false', Bool.not_true, true_and] at h
 exact h
set_option maxHeartbeats 2000000 in
theorem law_calls_ (p : Pg) (hp : BdPg 1048576 p) (g : Gr) (hb : BdG 1048576 g) (hn : g.frames.length ≤ 100000) (x : Int) (args : List V) (dest : Int) (ha : args.length ≤ 1048576) (v : V) : FnP Try.prog 9 [aggP [slP Fu.ps 4 p.funcs, slP Gl.ps 2 p.globals, slP lyp 1 p.layouts, eqP (.int .i64 p.main), eqP (.int .i64 g.state), eqP (.int .i64 g.fault), eqP (.int .i64 g.allocs), slP Fm.ps 9 g.frames, eqP (.int .i64 x), slP vp 3 args, eqP (.int .i64 dest)], aggP (vp v)] (eqP (.bool true)) := by
 have hb4 : BdG 4000000 g := hb.mono (by decide)
 have hbN : BdG 9223372036854775807 g := hb.mono (by decide)
 have hp4 : BdPg 9223372036854775807 p := ⟨Nat.le_trans hp.funcs (by decide), Nat.le_trans hp.globals (by decide), Nat.le_trans hp.layouts (by decide), fun l hl => Nat.le_trans (hp.lays l hl) (by decide), fun f hf => Nat.le_trans (hp.codes f hf) (by decide)⟩
 refine fn_pure' Try.func9 rfl Try.ntmps9 rfl ?_
 intro σ0 M ex Rf R hC hO
 have hC0 := hC
 simp only [frameOf, tokOf]
 refine tr_seq ?_
 refine tr_region (fun N0 hN => ?_)
 refine lxn (op_box (m := 2) (k := 2) rfl (.agg rfl) (by first | exact hC.low _ (by decide) | rfl)) rfl ?_
 refine lxn (op_box (m := 3) (k := 3) rfl (.agg rfl) (by first | exact hC.low _ (by decide) | rfl)) rfl ?_
 refine lx (op_assign rfl) rfl ?_
 refine lx_end ⟨by kernel_rfl, ?_⟩
 refine pe_then_normal ?_
 refine tr_sub hC (.cons (t := 2) rfl (.cons (t := 3) rfl .nil)) (.cons (t := 2) rfl (.cons (t := 3) rfl .nil)) rfl ?_
 refine tr_seq ?_
 refine tr_seq ?_
 refine tr_region (fun N1 hN => ?_)
 first | refine lx (op_call (l := []) (awake_ok) .nil fn12) rfl ?_ | refine lx (op_call (l := []) (awake_ok) .nil fn12) rfl ?_
 first | refine lx (op_not rfl) rfl ?_ | refine lx (op_not_b rfl) rfl ?_
 refine lx (op_move rfl) rfl ?_
 refine lxs rfl rfl rfl guard_eq (.cons (t := 2) rfl (fun _ => Ent.refl _) .nil) (op_bload (m := 2) rfl rfl ag35 sz35) rfl ?_
 first | refine lxs rfl rfl rfl guard_eq (.cons (t := 11) rfl (fun h => entW h) .nil) (op_call (l := [(Go.Operand.tmp 11)]) (fits_ok (Cl.mk p g x args dest) hp4 hbN (Nat.le_trans ha (by decide))) (.cons rfl .nil) fn31) rfl ?_ | refine lxs rfl rfl rfl guard_eq (.cons (t := 11) rfl (fun h => entW h) .nil) (op_call (l := [(Go.Operand.tmp 11)]) (fits_ok (Cl.mk p g x args dest) hp4 hbN (Nat.le_trans ha (by decide))) (.ent rfl (by exact ent_auto) .nil) fn31) rfl ?_
 first | refine lxs rfl rfl rfl guard_eq (.cons (t := 12) rfl (fun h => entW h) .nil) (op_not rfl) rfl ?_ | refine lxs rfl rfl rfl guard_eq (.cons (t := 12) rfl (fun h => entW h) .nil) (op_not_b rfl) rfl ?_
 refine lx (op_pick_or rfl rfl) rfl ?_
 refine lx (op_move rfl) rfl ?_
 refine lxs rfl rfl rfl guard_eq (.cons (t := 2) rfl (fun _ => Ent.refl _) .nil) (op_fieldAddr rfl fl35_1 sz29) rfl ?_
 refine lxs rfl rfl rfl guard_eq (.cons (t := 16) rfl (fun h => entW h) .nil) (op_fieldAddr rfl fl29_3 sz27) rfl ?_
 refine lxs rfl rfl rfl guard_eq (.cons (t := 17) rfl (fun h => entW h) .nil) (op_bload_one (m := 2) rfl rfl ag27 rfl) rfl ?_
 refine lxs rfl rfl rfl guard_eq (.cons (t := 2) rfl (fun _ => Ent.refl _) .nil) (op_fieldAddr rfl fl35_1 sz29) rfl ?_
 refine lxs rfl rfl rfl guard_eq (.cons (t := 19) rfl (fun h => entW h) .nil) (op_fieldAddr rfl fl29_3 sz27) rfl ?_
 refine lxs rfl rfl rfl guard_eq (.cons (t := 20) rfl (fun h => entW h) .nil) (op_bload_one (m := 2) rfl rfl ag27 rfl) rfl ?_
 first | refine lxs rfl rfl rfl guard_eq (.cons (t := 21) rfl (fun h => entW h) .nil) (op_len rfl el27) rfl ?_ | refine lxs rfl rfl rfl guard_eq (.cons (t := 21) rfl (fun h => entW h) .nil) (op_len_row rfl el27) rfl ?_ | refine lxs rfl rfl rfl guard_eq (.cons (t := 21) rfl (fun h => entW h) .nil) (op_len_mv rfl el27) rfl ?_ | refine lxs rfl rfl rfl guard_eq (.cons (t := 21) rfl (fun h => entW h) .nil) (op_len_nil rfl el27) rfl ?_
 refine lxs rfl rfl rfl guard_eq (.cons (t := 22) rfl (fun h => entW h) .nil) (op_sub rfl rfl (by omega)) rfl ?_
 refine lxsc (rd := [(18, slP Fm.ps 9 g.frames), (23, eqP (.int .i64 ((g.frames.length : Int) - 1)))]) (φ := cellsP (gt (default : Fm) g.frames (g.frames.length - 1)).ps) rfl rfl rfl guard_eq (.cons (t := 18) rfl (fun h => entW h) (.cons (t := 23) rfl (fun h => entW h) .nil)) (fun hgd => ?_) rfl rfl ?_
 ·have hq0 : 0 < g.frames.length := by
   have hft : fitsF (Cl.mk p g x args dest) = true := by simpa using hgd
   obtain ⟨q, f, hq, hl⟩ := poss_top (fit_bad (fits_ex hft).1).2.1
   have hl2 : g.frames.length = q + 1 := hl
   omega
  exact op_index rfl rfl el27 sz60 (by omega : (g.frames.length : Int) - 1 = ((g.frames.length - 1 : Nat) : Int)) (gt_at (d := (default : Fm)) (by omega))
 first | refine lxs rfl rfl rfl guard_eq (.cons (t := 24) rfl (fun h => entW h) .nil) (op_fieldAddr rfl fl60_5 sz4) rfl ?_ | refine lxs rfl rfl rfl guard_eq (.cons (t := 24) rfl (fun h => entW h) .nil) (op_fieldCells rfl fl60_5 sz4) rfl ?_
 first | refine lxs rfl rfl rfl guard_eq (.cons (t := 25) rfl (fun h => entW h) .nil) (op_load_one rfl ag4 rfl) rfl ?_ | refine lxs rfl rfl rfl guard_eq (.cons (t := 25) rfl (fun h => entW h) .nil) (op_bload_one (m := 2) rfl rfl ag4 rfl) rfl ?_ | refine lxs rfl rfl rfl guard_eq (.cons (t := 25) rfl (fun h => entW h) .nil) (op_bload_one (m := 3) rfl rfl ag4 rfl) rfl ?_
 refine lx (op_pick_or rfl rfl) rfl ?_
 refine lx_end ⟨by kernel_rfl, ?_⟩
 refine pe_then_normal ?_
 refine tr_sub hC (.cons (t := 2) rfl (.cons (t := 3) rfl (.cons (t := 27) rfl .nil))) (.cons (t := 2) rfl (.cons (t := 3) rfl .nil)) rfl ?_
 refine tr_cond rfl (fun h27 => ?_) (fun h27 => ?_)
 ·(try simp only [cq1, cq2, cq3, cq4, cq5, cq6, cq7, cq8, cq9, cq10, cq11, cq12, cq13] at h27)
  refine tr_seq ?_
  refine tr_region (fun N2 hN => ?_)
  first | refine lx (op_call (l := []) (awake_ok) .nil fn12) rfl ?_ | refine lx (op_call (l := []) (awake_ok) .nil fn12) rfl ?_
  refine lx (op_assign rfl) rfl ?_
  refine lx_end ⟨by kernel_rfl, ?_⟩
  refine pe_then_normal ?_
  refine tr_sub hC (.cons (t := 4) rfl .nil) .nil rfl ?_
  refine tr_ret ?_
  refine pe_then_ret ?_
  refine pe_ret1 rfl hO rfl (.tmp rfl .nil) ?_
  exact ent_auto
 ·obtain ⟨hfit, hlv⟩ := calls_ex (p := p) (g := g) (x := x) (args := args) (dest := dest) h27
  have hfb := fit_bad (fits_ex hfit).1
  have hdl := (fits_ex hfit).2
  have hke := keeps_enter hfit
  have hpo := progF_POK hfb.1
  have hln : 0 < g.frames.length := by
   obtain ⟨q, f, hq, hl⟩ := poss_top hfb.2.1
   have hl2 : g.frames.length = q + 1 := hl
   omega
  have h32 : g.frames.length < 32 := hfb.2.2.1
  have hbe : BdG 1048576 ({ g with frames := g.frames ++ [newF p x args dest] }) := bd_push hb (by omega) (bdF_newF hpo hfb.2.2.2.1 hfb.2.2.2.2.1 hfb.2.2.2.2.2.1 (by decide))
  refine tr_skip ?_
  refine pe_then_normal ?_
  refine tr_sub hC (.cons (t := 2) rfl (.cons (t := 3) rfl .nil)) (.cons (t := 2) rfl (.cons (t := 3) rfl .nil)) rfl ?_
  refine tr_seq ?_
  refine tr_region (fun N3 hN => ?_)
  refine lx (op_fieldAddr rfl fl35_0 sz26) rfl ?_
  refine lx (op_bload_part (m := 2) (qs := [_, _, _, _]) rfl rfl ag26 sz26 rfl rfl) rfl ?_
  refine lx (op_fieldAddr rfl fl35_1 sz29) rfl ?_
  refine lx (op_bload_part (m := 2) (qs := [_, _, _, _]) rfl rfl ag29 sz29 rfl rfl) rfl ?_
  refine lx (op_fieldAddr rfl fl35_2 sz3) rfl ?_
  refine lx (op_bload_one (m := 2) rfl rfl ag3 rfl) rfl ?_
  refine lx (op_fieldAddr rfl fl35_3 sz33) rfl ?_
  refine lx (op_bload_one (m := 2) rfl rfl ag33 rfl) rfl ?_
  refine lx (op_fieldAddr rfl fl35_4 sz3) rfl ?_
  refine lx (op_bload_one (m := 2) rfl rfl ag3 rfl) rfl ?_
  first | refine lx (OpJ.ent (op_call (l := [(Go.Operand.tmp 31), (Go.Operand.tmp 33), (Go.Operand.tmp 35), (Go.Operand.tmp 37), (Go.Operand.tmp 39)]) (Enter_ok p hpo g hb hn x args dest) (.cons rfl (.cons rfl (.cons rfl (.cons rfl (.cons rfl .nil))))) fn17) (show Ent _ (tupP [aggP (Gr.ps ({ g with frames := g.frames ++ [newF p x args dest] })), eqP (.int .i64 0)]) from (by rw [hke.1]; exact Ent.refl _))) rfl ?_ | refine lx (OpJ.ent (op_call (l := [(Go.Operand.tmp 31), (Go.Operand.tmp 33), (Go.Operand.tmp 35), (Go.Operand.tmp 37), (Go.Operand.tmp 39)]) (Enter_ok p hpo g hb hn x args dest) (.ent rfl (by exact ent_auto) (.ent rfl (by exact ent_auto) (.ent rfl (by exact ent_auto) (.ent rfl (by exact ent_auto) (.ent rfl (by exact ent_auto) .nil))))) fn17) (show Ent _ (tupP [aggP (Gr.ps ({ g with frames := g.frames ++ [newF p x args dest] })), eqP (.int .i64 0)]) from (by rw [hke.1]; exact Ent.refl _))) rfl ?_
  refine lx (op_move rfl) rfl ?_
  refine lx (op_extract rfl rfl) rfl ?_
  refine lx (op_extract rfl rfl) rfl ?_
  refine lxn (op_alloc (m := 5) (k := 5) (ps := [eqP (.int .i64 0), eqP (.int .i64 0), eqP (.int .i64 0), eqP (.slice none 0 0)]) ze29 rfl rfl (by first | exact hC.low _ (by decide) | rfl)) rfl ?_
  refine lxr (op_store_all (m := 5) rfl rfl rfl (.agg rfl) sz29 rfl) rfl ?_
  refine lx (op_assign rfl) rfl ?_
  refine lx_end ⟨by kernel_rfl, ?_⟩
  refine pe_then_normal ?_
  refine tr_sub hC (.cons (t := 2) rfl (.cons (t := 3) rfl (.cons (t := 5) rfl (.cons (t := 6) rfl .nil)))) (.cons (t := 2) rfl (.cons (t := 3) rfl (.cons (t := 5) rfl .nil))) rfl ?_
  refine tr_seq ?_
  refine tr_seq ?_
  refine tr_region (fun N4 hN => ?_)
  refine lx (op_move rfl) rfl ?_
  refine lx (op_neq rfl rfl) rfl ?_
  refine lx (op_move rfl) rfl ?_
  refine lxs rfl rfl rfl guard_eq (.cons (t := 5) rfl (fun _ => Ent.refl _) .nil) (op_fieldAddr rfl fl29_3 sz27) rfl ?_
  refine lxs rfl rfl rfl guard_eq (.cons (t := 46) rfl (fun h => entW h) .nil) (op_bload_one (m := 5) rfl rfl ag27 rfl) rfl ?_
  first | refine lxs rfl rfl rfl guard_eq (.cons (t := 47) rfl (fun h => entW h) .nil) (op_len rfl el27) rfl ?_ | refine lxs rfl rfl rfl guard_eq (.cons (t := 47) rfl (fun h => entW h) .nil) (op_len_row rfl el27) rfl ?_ | refine lxs rfl rfl rfl guard_eq (.cons (t := 47) rfl (fun h => entW h) .nil) (op_len_mv rfl el27) rfl ?_ | refine lxs rfl rfl rfl guard_eq (.cons (t := 47) rfl (fun h => entW h) .nil) (op_len_nil rfl el27) rfl ?_
  refine lxs rfl rfl rfl guard_eq (.cons (t := 2) rfl (fun _ => Ent.refl _) .nil) (op_fieldAddr rfl fl35_1 sz29) rfl ?_
  refine lxs rfl rfl rfl guard_eq (.cons (t := 49) rfl (fun h => entW h) .nil) (op_fieldAddr rfl fl29_3 sz27) rfl ?_
  refine lxs rfl rfl rfl guard_eq (.cons (t := 50) rfl (fun h => entW h) .nil) (op_bload_one (m := 2) rfl rfl ag27 rfl) rfl ?_
  first | refine lxs rfl rfl rfl guard_eq (.cons (t := 51) rfl (fun h => entW h) .nil) (op_len rfl el27) rfl ?_ | refine lxs rfl rfl rfl guard_eq (.cons (t := 51) rfl (fun h => entW h) .nil) (op_len_row rfl el27) rfl ?_ | refine lxs rfl rfl rfl guard_eq (.cons (t := 51) rfl (fun h => entW h) .nil) (op_len_mv rfl el27) rfl ?_ | refine lxs rfl rfl rfl guard_eq (.cons (t := 51) rfl (fun h => entW h) .nil) (op_len_nil rfl el27) rfl ?_
  refine lxs rfl rfl rfl guard_eq (.cons (t := 52) rfl (fun h => entW h) .nil) (op_add rfl rfl (by omega)) rfl ?_
  refine lxs rfl rfl rfl guard_eq (.cons (t := 48) rfl (fun h => entW h) (.cons (t := 53) rfl (fun h => entW h) .nil)) (op_neq rfl rfl) rfl ?_
  refine lx (op_pick_or rfl rfl) rfl ?_
  refine lx_end ⟨by kernel_rfl, ?_⟩
  refine pe_then_normal ?_
  refine tr_sub hC (.cons (t := 2) rfl (.cons (t := 3) rfl (.cons (t := 5) rfl (.cons (t := 55) rfl .nil)))) (.cons (t := 2) rfl (.cons (t := 3) rfl (.cons (t := 5) rfl .nil))) rfl ?_
  refine tr_cond rfl (fun h55 => ?_) (fun h55 => ?_)
  ·exact absurd h55 (by simp)
  ·(try simp only [cq1, cq2, cq3, cq4, cq5, cq6, cq7, cq8, cq9, cq10, cq11, cq12, cq13] at h55)
   refine tr_skip ?_
   refine pe_then_normal ?_
   refine tr_sub hC (.cons (t := 2) rfl (.cons (t := 3) rfl (.cons (t := 5) rfl .nil))) (.cons (t := 2) rfl (.cons (t := 3) rfl (.cons (t := 5) rfl .nil))) rfl ?_
   refine tr_seq ?_
   refine tr_region (fun N6 hN => ?_)
   refine lx (op_fieldAddr rfl fl35_1 sz29) rfl ?_
   refine lx (op_bload_part (m := 2) (qs := [_, _, _, _]) rfl rfl ag29 sz29 rfl rfl) rfl ?_
   first | refine lx_any rfl (op_callFam (l := [(Go.Operand.tmp 57)]) (K := 2 * g.frames.length) 602 200 (copyG_fam g hb4 hn) (fun ι => rfl) (.cons rfl .nil) fn16 (by omega) rfl (by first | exact hC.low _ (by decide) | rfl) (fam_free hC (by omega) rfl)) (dOK_spec rfl) ?_ | refine lx_any rfl (op_callFam (l := [(Go.Operand.tmp 57)]) (K := 2 * g.frames.length) 602 200 (copyG_fam g hb4 hn) (fun ι => rfl) (.ent rfl (by exact ent_auto) .nil) fn16 (by omega) rfl (by first | exact hC.low _ (by decide) | rfl) (fam_free hC (by omega) rfl)) (dOK_spec rfl) ?_
   refine lx_tail _ (fam_upd rfl) (fun _ _ _ _ e h => ⟨h.1, post_congr e h.2⟩) ?_
   refine lxn (op_alloc (m := 7) (k := 7) (ps := [eqP (.int .i64 0), eqP (.int .i64 0), eqP (.int .i64 0), eqP (.slice none 0 0)]) ze29 rfl rfl (by rw [tkf_none (by rw [lk_app, lk_famT_none (fun j _ => by omega)]; rfl)]; exact hC.low _ (by decide))) rfl ?_
   refine lxr (op_store_all (m := 7) rfl rfl rfl (.agg rfl) sz29 rfl) rfl ?_
   refine lx_end ⟨nodup_two _ _ 7 (by decide), ?_⟩
   refine pe_then_normal ?_
   refine tr_post (fun X hX => post_famIn2 (K := 2 * g.frames.length) (ids := fun j => fid N6 (200) (2 * g.frames.length) (j + 1)) (r := famR 43 47 g.frames) hC (by omega) (.cons (t := 2) rfl (.cons (t := 3) rfl (.cons (t := 5) rfl (.cons (t := 602) rfl (.cons (t := 7) rfl .nil))))) rfl (fun j hj => by simp only [updL, addL, delL, List.cons_append, List.nil_append, lk_cons]; (repeat (rw [if_neg (by omega)])); exact lk_famT_at hj) (fun n hn => by simp only [updL, addL, delL, List.cons_append, List.nil_append, lk_cons]; (repeat (rw [if_neg (by omega)])); exact lk_famT_none (fun j hj => by omega)) hX) ?_
   have hC : CxOK (famC ⟨σ0, M, ex, Rf, 82⟩ (2 * g.frames.length) (fun j => fid N6 (200) (2 * g.frames.length) (j + 1)) (famR 43 47 g.frames)) := famC_ok
   refine tr_sub hC (.cons (t := 2) rfl (.cons (t := 3) rfl (.cons (t := 5) rfl (.cons (t := 7) rfl .nil)))) (.cons (t := 2) rfl (.cons (t := 3) rfl (.cons (t := 5) rfl (.cons (t := 602) rfl (.cons (t := 7) rfl .nil))))) rfl ?_
   rcases hl : g.frames.length with _ | q; exact absurd hl (by omega)
   ·have hC : CxOK (famC ⟨σ0, M, ex, Rf, 82⟩ (2 * (q + 1)) (fun j => fid N6 (200) (2 * (q + 1)) (j + 1)) (famR 43 47 g.frames)) := famC_ok
    obtain ⟨f, hq⟩ : ∃ f, g.frames[q]? = some f := ⟨_, List.getElem?_eq_getElem (by omega)⟩
    have hbf := hb.each f (List.mem_of_getElem? hq)
    have hbr := hbf.regs
    have hbd := hbf.defers
    refine tr_post (fun X hX => post_rowEq (n := 602) rfl (rowE_first hq hl) hX) ?_
    refine tr_post (fun X hX => post_famK (show 2 * (q + 1) = 2 * q + 2 by omega) hX) ?_
    have hC : CxOK (famC ⟨σ0, M, ex, Rf, 82⟩ (2 * q + 2) (fun j => fid N6 (200) (2 * (q + 1)) (j + 1)) (famR 43 47 g.frames)) := famC_ok
    refine tr_post (fun X hX => post_take2 605 606 hq rfl rfl (by omega) rfl (.inl rfl) (.inl rfl) hX) ?_
    have hC : CxOK (famC ⟨σ0, M, ex, Rf, 82⟩ (2 * q) (fun j => fid N6 (200) (2 * (q + 1)) (j + 1)) (famR 43 47 g.frames)) := famC_ok
    refine tr_seq ?_
    refine tr_seq ?_
    refine tr_region (fun N7 hN => ?_)
    refine lx (op_fieldAddr rfl fl35_4 sz3) rfl ?_
    refine lx (op_bload_one (m := 2) rfl rfl ag3 rfl) rfl ?_
    refine lx (op_geq rfl rfl) rfl ?_
    refine lx_end ⟨by kernel_rfl, ?_⟩
    refine pe_then_normal ?_
    refine tr_sub hC (.cons (t := 2) rfl (.cons (t := 3) rfl (.cons (t := 5) rfl (.cons (t := 7) rfl (.cons (t := 61) rfl .nil))))) (.cons (t := 2) rfl (.cons (t := 3) rfl (.cons (t := 5) rfl (.cons (t := 602) rfl (.cons (t := 7) rfl (.cons (t := 605) rfl (.cons (t := 606) rfl .nil))))))) rfl ?_
    refine tr_cond rfl (fun h61 => ?_) (fun h61 => ?_)
    ·(try simp only [cq1, cq2, cq3, cq4, cq5, cq6, cq7, cq8, cq9, cq10, cq11, cq12, cq13] at h61)
     have hfl : f.leaving = false := by
      have hgt : gt (default : Fm) g.frames (g.frames.length - 1) = f := by
       unfold gt
       rw [hl, Nat.add_sub_cancel, hq]
       rfl
      rw [← hgt]
      exact hlv
     have hdr : dest < (f.regs.length : Int) := by
      have h1 : topR g = f.regs := topR_eq hq hl
      have h2 : dest < ((topR g).length : Int) := hdl
      rw [h1] at h2
      exact h2
     have hs := set_in (r := dest) (v := v) hq hl (by omega)
     refine tr_drawn mixed (fun N8 hN => ?_)
     refine lx (op_fieldAddr rfl fl29_3 sz27) rfl ?_
     refine lx (op_bload_one (m := 7) rfl rfl ag27 rfl) rfl ?_
     refine lx (op_fieldAddr rfl fl29_3 sz27) rfl ?_
     refine lx (op_bload_one (m := 7) rfl rfl ag27 rfl) rfl ?_
     first | refine lx (op_len rfl el27) rfl ?_ | refine lx (op_len_row rfl el27) rfl ?_ | refine lx (op_len_mv rfl el27) rfl ?_ | refine lx (op_len_nil rfl el27) rfl ?_
     refine lx (op_sub rfl rfl (by omega)) rfl ?_
     refine lx (op_index_mv rfl rfl el27 sz60 (by omega : ((q + 1 : Nat) : Int) - 1 = ((q : Nat) : Int)) (by omega)) rfl ?_
     refine lx (op_fieldAddr rfl fl60_2 sz33) rfl ?_
     refine lx (op_tload_one (m := 602) (j := q) (fo := 2) rfl rfl ag33 fmE_len (by omega) (rowE_top (by omega)) rfl) rfl ?_
     refine lx (op_fieldAddr rfl fl35_4 sz3) rfl ?_
     refine lx (op_bload_one (m := 2) rfl rfl ag3 rfl) rfl ?_
     refine lx (op_bload (m := 3) rfl rfl ag43 sz43) rfl ?_
     refine lx (op_index_mv rfl rfl el33 sz43 (by omega : dest = ((dest.toNat : Nat) : Int)) (show dest.toNat < f.regs.length by omega)) rfl ?_
     refine lxr (op_tstore (m := 605) (j := dest.toNat) (fo := 0) (z' := v) rfl rfl rfl (.agg rfl) sz43 rfl vp_len (by omega) (List.getElem?_eq_getElem (by omega : dest.toNat < f.regs.length)) rfl rfl) rfl ?_
     refine lx_end ⟨by kernel_rfl, ?_⟩
     refine pe_then_normal ?_
     refine tr_sub hC (.cons (t := 2) rfl (.cons (t := 3) rfl (.cons (t := 5) rfl (.cons (t := 7) rfl .nil)))) (.cons (t := 2) rfl (.cons (t := 3) rfl (.cons (t := 5) rfl (.cons (t := 602) rfl (.cons (t := 7) rfl (.cons (t := 605) rfl (.cons (t := 606) rfl .nil))))))) rfl ?_
     refine tr_post (fun X hX => post_seal (m := 605) (n := 602) rfl rfl (by decide) (seal_regs (by simp)) hX) ?_
     refine tr_post (fun X hX => post_seal (m := 606) (n := 602) rfl rfl (by decide) (seal_defs (by simp)) hX) ?_
     refine tr_post (fun X hX => post_sealFm (n := 602) (t := 699) hC0 rfl (by omega) (by omega) rfl (.inl rfl) rfl hX) ?_
     have hC := hC0
     refine tr_post (fun X hX => post_rowPs (n := 602) rfl rowPure1 hX) ?_
     refine tr_bound 698 (m := 602) rfl ?_
     refine tr_freeze (m := 602) rfl (.cons (t := 2) rfl (.cons (t := 3) rfl (.cons (t := 5) rfl (.cons (t := 7) rfl (.ent (t := 698) rfl FEnt.frz_bound .nil))))) ?_
     refine tr_thaw (t := 698) (n := 7) (qs' := _) rfl (.cons (t := 2) rfl (.cons (t := 3) rfl (.cons (t := 5) rfl (.cons (t := 7) rfl .nil)))) rfl (.cons (.of (Ent.refl _)) (.cons (.of (Ent.refl _)) (.cons (.of (Ent.refl _)) (.cons (fment_row Fm.len (take_app_len hl)) .nil)))) ?_
     refine tr_seq ?_
     refine tr_drawn mixed (fun N9 hN => ?_)
     refine lx (op_fieldAddr rfl fl35_0 sz26) rfl ?_
     refine lx (op_bload_part (m := 2) (qs := [_, _, _, _]) rfl rfl ag26 sz26 rfl rfl) rfl ?_
     refine lx (op_bload (m := 5) rfl rfl ag29 sz29) rfl ?_
     refine lx (op_bload (m := 3) rfl rfl ag43 sz43) rfl ?_
     first | refine lx (op_call (l := [(Go.Operand.tmp 76), (Go.Operand.tmp 77), (Go.Operand.tmp 78)]) (Leave_ok p hpo ({ g with frames := g.frames ++ [newF p x args dest] }) hbe (by simp; omega) v) (.cons rfl (.cons rfl (.cons rfl .nil))) fn21) rfl ?_ | refine lx (op_call (l := [(Go.Operand.tmp 76), (Go.Operand.tmp 77), (Go.Operand.tmp 78)]) (Leave_ok p hpo ({ g with frames := g.frames ++ [newF p x args dest] }) hbe (by simp; omega) v) (.ent rfl (by exact ent_auto) (.ent rfl (by exact ent_auto) (.ent rfl (by exact ent_auto) .nil))) fn21) rfl ?_
     refine lx (OpJ.ent (op_bload (m := 7) rfl rfl ag29 sz29) (show Ent _ (aggP (setF g dest v).ps) from (by rw [hs]; exact Ent.refl _))) rfl ?_
     first | refine lx (op_call (l := [(Go.Operand.tmp 79), (Go.Operand.tmp 80)]) (sameG_ok (leaveF p ({ g with frames := g.frames ++ [newF p x args dest] }) v) (setF g dest v) ((bdG_leaveF hpo hbe (by decide)).mono (by decide))) (.cons rfl (.cons rfl .nil)) fn19) rfl ?_ | refine lx (op_call (l := [(Go.Operand.tmp 79), (Go.Operand.tmp 80)]) (sameG_ok (leaveF p ({ g with frames := g.frames ++ [newF p x args dest] }) v) (setF g dest v) ((bdG_leaveF hpo hbe (by decide)).mono (by decide))) (.ent rfl (by exact ent_auto) (.ent rfl (by exact ent_auto) .nil)) fn19) rfl ?_
     refine lx (op_assign rfl) rfl ?_
     refine lx_end ⟨by kernel_rfl, ?_⟩
     refine pe_then_normal ?_
     refine tr_sub hC (.cons (t := 4) rfl .nil) .nil rfl ?_
     refine tr_ret ?_
     refine pe_ret1 rfl hO rfl (.tmp rfl .nil) ?_
     exact entB (by rw [calls_eq hq hl hfl]; simp)
    ·(try simp only [cq1, cq2, cq3, cq4, cq5, cq6, cq7, cq8, cq9, cq10, cq11, cq12, cq13] at h61)
     have hfl : f.leaving = false := by
      have hgt : gt (default : Fm) g.frames (g.frames.length - 1) = f := by
       unfold gt
       rw [hl, Nat.add_sub_cancel, hq]
       rfl
      rw [← hgt]
      exact hlv
     have hs := set_out (r := dest) (v := v) hq hl (by omega)
     refine tr_skip ?_
     refine pe_then_normal ?_
     refine tr_sub hC (.cons (t := 2) rfl (.cons (t := 3) rfl (.cons (t := 5) rfl (.cons (t := 7) rfl .nil)))) (.cons (t := 2) rfl (.cons (t := 3) rfl (.cons (t := 5) rfl (.cons (t := 602) rfl (.cons (t := 7) rfl (.cons (t := 605) rfl (.cons (t := 606) rfl .nil))))))) rfl ?_
     refine tr_post (fun X hX => post_seal (m := 605) (n := 602) rfl rfl (by decide) (seal_regs (by simp)) hX) ?_
     refine tr_post (fun X hX => post_seal (m := 606) (n := 602) rfl rfl (by decide) (seal_defs (by simp)) hX) ?_
     refine tr_post (fun X hX => post_sealFm (n := 602) (t := 699) hC0 rfl (by omega) (by omega) rfl (.inl rfl) rfl hX) ?_
     have hC := hC0
     refine tr_post (fun X hX => post_rowPs (n := 602) rfl rowPure1 hX) ?_
     refine tr_bound 698 (m := 602) rfl ?_
     refine tr_freeze (m := 602) rfl (.cons (t := 2) rfl (.cons (t := 3) rfl (.cons (t := 5) rfl (.cons (t := 7) rfl (.ent (t := 698) rfl FEnt.frz_bound .nil))))) ?_
     refine tr_thaw (t := 698) (n := 7) (qs' := _) rfl (.cons (t := 2) rfl (.cons (t := 3) rfl (.cons (t := 5) rfl (.cons (t := 7) rfl .nil)))) rfl (.cons (.of (Ent.refl _)) (.cons (.of (Ent.refl _)) (.cons (.of (Ent.refl _)) (.cons (fment_row Fm.len (take_app_len hl)) .nil)))) ?_
     refine tr_seq ?_
     refine tr_drawn mixed (fun N9 hN => ?_)
     refine lx (op_fieldAddr rfl fl35_0 sz26) rfl ?_
     refine lx (op_bload_part (m := 2) (qs := [_, _, _, _]) rfl rfl ag26 sz26 rfl rfl) rfl ?_
     refine lx (op_bload (m := 5) rfl rfl ag29 sz29) rfl ?_
     refine lx (op_bload (m := 3) rfl rfl ag43 sz43) rfl ?_
     first | refine lx (op_call (l := [(Go.Operand.tmp 76), (Go.Operand.tmp 77), (Go.Operand.tmp 78)]) (Leave_ok p hpo ({ g with frames := g.frames ++ [newF p x args dest] }) hbe (by simp; omega) v) (.cons rfl (.cons rfl (.cons rfl .nil))) fn21) rfl ?_ | refine lx (op_call (l := [(Go.Operand.tmp 76), (Go.Operand.tmp 77), (Go.Operand.tmp 78)]) (Leave_ok p hpo ({ g with frames := g.frames ++ [newF p x args dest] }) hbe (by simp; omega) v) (.ent rfl (by exact ent_auto) (.ent rfl (by exact ent_auto) (.ent rfl (by exact ent_auto) .nil))) fn21) rfl ?_
     refine lx (OpJ.ent (op_bload (m := 7) rfl rfl ag29 sz29) (show Ent _ (aggP (setF g dest v).ps) from (by rw [hs]; exact Ent.refl _))) rfl ?_
     first | refine lx (op_call (l := [(Go.Operand.tmp 79), (Go.Operand.tmp 80)]) (sameG_ok (leaveF p ({ g with frames := g.frames ++ [newF p x args dest] }) v) (setF g dest v) ((bdG_leaveF hpo hbe (by decide)).mono (by decide))) (.cons rfl (.cons rfl .nil)) fn19) rfl ?_ | refine lx (op_call (l := [(Go.Operand.tmp 79), (Go.Operand.tmp 80)]) (sameG_ok (leaveF p ({ g with frames := g.frames ++ [newF p x args dest] }) v) (setF g dest v) ((bdG_leaveF hpo hbe (by decide)).mono (by decide))) (.ent rfl (by exact ent_auto) (.ent rfl (by exact ent_auto) .nil)) fn19) rfl ?_
     refine lx (op_assign rfl) rfl ?_
     refine lx_end ⟨by kernel_rfl, ?_⟩
     refine pe_then_normal ?_
     refine tr_sub hC (.cons (t := 4) rfl .nil) .nil rfl ?_
     refine tr_ret ?_
     refine pe_ret1 rfl hO rfl (.tmp rfl .nil) ?_
     exact entB (by rw [calls_eq hq hl hfl]; simp)
theorem law_calls (c : Cl) (hp : BdPg 1048576 c.p) (hb : BdG 1048576 c.g) (hn : c.g.frames.length ≤ 100000) (ha : c.args.length ≤ 1048576) (v : V) : FnP Try.prog 9 [aggP c.ps, aggP (vp v)] (eqP (.bool true)) :=
 law_calls_ c.p hp c.g hb hn c.fn c.args c.dest ha v
end Go.Proofs.Ythiknhmoefbanaa
