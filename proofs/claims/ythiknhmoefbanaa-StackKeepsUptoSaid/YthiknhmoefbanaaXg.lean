/- Parts of a proof that share one text: StWalk16, StWalk17, StWalk18, StRead, StBulk, StKeep, StWalk19. -/
import Derived.Test.YthiknhmoefbanaaXb
import Derived.Test.YthiknhmoefbanaaXf
import Derived.Test.YthiknhmoefbanaaXc
import Derived.Test.YthiknhmoefbanaaChecked
import Derived.Test.YthiknhmoefbanaaRows

set_option linter.unusedVariables false
set_option linter.unusedSimpArgs false
namespace Go.Proofs.Ythiknhmoefbanaa
open Go.AL Go.Ch Go.Hp Go.RowKit
theorem ag71 : aggB Try.prog 71 = some true := by kernel_rfl
theorem ag81 : aggB Try.prog 81 = some false := by kernel_rfl
theorem el81 : elemB Try.prog 81 = some 3 := by kernel_rfl
theorem fl26_3 : fldB Try.prog 26 3 = some (3, 3) := by kernel_rfl
theorem fl71_0 : fldB Try.prog 71 0 = some (0, 9) := by kernel_rfl
theorem fl71_1 : fldB Try.prog 71 1 = some (1, 3) := by kernel_rfl
theorem fn35 : fnB Try.prog 35 = true := by kernel_rfl
theorem fn36 : fnB Try.prog 36 = true := by kernel_rfl
theorem sz71 : sizeB Try.prog 71 = some 2 := by kernel_rfl
theorem sz81 : sizeB Try.prog 81 = some 1 := by kernel_rfl
theorem ze71 : zeroB Try.prog 71 = some (some (.agg #[.string ⟨#[]⟩, .int .i64 0])) := by kernel_rfl
theorem layouts_ok (xs : List (List Int)) (hx : xs.length ≤ 9223372036854775807) (hl : ∀ l ∈ xs, l.length ≤ 9223372036854775807) : FnP Try.prog 35 [slP lyp 1 xs] (eqP (.bool (layoutsF xs))) := by
 refine fn_pure' Try.func35 rfl Try.ntmps35 rfl ?_
 intro σ0 M ex Rf R hC hO
 simp only [frameOf, tokOf]
 refine tr_seq ?_
 refine tr_region (fun N0 hN => ?_)
 refine lx (op_assign rfl) rfl ?_
 refine lx_end ⟨by kernel_rfl, ?_⟩
 refine pe_then_normal ?_
 refine tr_sub hC (.cons (t := 0) rfl .nil) .nil rfl ?_
 refine tr_seq ?_
 refine tr_seq ?_
 refine tr_region (fun N1 hN => ?_)
 refine lx (op_assign rfl) rfl ?_
 refine lx_end ⟨by kernel_rfl, ?_⟩
 refine pe_then_normal ?_
 refine tr_sub hC (.cons (t := 0) rfl (.cons (t := 3) rfl .nil)) .nil rfl ?_
 refine tr_block ?_
 refine tr_loopK (α := {zz : Nat // zz ≤ xs.length ∧ allI zz (fun a => lay1 (gt [] xs a)) = true}) (⟨(0), Nat.zero_le _, rfl⟩) (fun zz => [(3, eqP (.int .i64 (zz.1 : Int)))]) (fun zz => []) (fun zz => xs.length - zz.1) hC (.cons (t := 0) rfl .nil) .nil rfl ?_ ?_ (fun zz => ?_)
 ·try dsimp only [List.cons_append, List.nil_append]
  first | refine SubF.cons rfl ?_ | (refine SubF.ent rfl ?_ ?_; · exact ent_auto)
  exact SubF.nil
 ·try dsimp only [List.cons_append, List.nil_append]
  repeat (first | exact SubL.nil | refine SubL.cons rfl ?_)
 ·obtain ⟨k, hk1, hk2⟩ := zz
  dsimp only [List.cons_append, List.nil_append]
  refine tr_seq ?_
  refine tr_seq ?_
  refine tr_region (fun N2 hN => ?_)
  refine lx (op_move rfl) rfl ?_
  refine lx (op_move rfl) rfl ?_
  first | refine lx (op_len rfl el24) rfl ?_ | refine lx (op_len_row rfl el24) rfl ?_ | refine lx (op_len_mv rfl el24) rfl ?_ | refine lx (op_len_nil rfl el24) rfl ?_
  refine lx (op_lss rfl rfl) rfl ?_
  refine lx_end ⟨by kernel_rfl, ?_⟩
  refine pe_then_normal ?_
  refine tr_sub hC (.cons (t := 0) rfl (.cons (t := 3) rfl (.cons (t := 8) rfl .nil))) .nil rfl ?_
  refine tr_cond rfl (fun h8 => ?_) (fun h8 => ?_)
  ·(try simp only [cq1, cq2, cq3, cq4, cq5, cq6, cq7, cq8, cq9, cq10, cq11, cq12, cq13] at h8)
   have hlk := hl _ (gt_mem (d := []) (by omega : k < xs.length))
   refine tr_skip ?_
   refine pe_then_normal ?_
   refine tr_sub hC (.cons (t := 0) rfl (.cons (t := 3) rfl .nil)) .nil rfl ?_
   refine tr_seq ?_
   refine tr_block ?_
   refine tr_seq ?_
   refine tr_seq ?_
   refine tr_region (fun N4 hN => ?_)
   refine lx (op_assign rfl) rfl ?_
   refine lx_end ⟨by kernel_rfl, ?_⟩
   refine pe_then_normal ?_
   refine tr_sub hC (.cons (t := 0) rfl (.cons (t := 3) rfl (.cons (t := 4) rfl .nil))) .nil rfl ?_
   refine tr_block ?_
   refine tr_loopK (α := {zz : Nat // zz ≤ (gt [] xs k).length ∧ allI zz (fun b => !(decide (gt 0 (gt [] xs k) b ≠ 0) && decide (gt 0 (gt [] xs k) b ≠ 1))) = true}) (⟨(0), Nat.zero_le _, rfl⟩) (fun zz => [(4, eqP (.int .i64 (zz.1 : Int)))]) (fun zz => []) (fun zz => (gt [] xs k).length - zz.1) hC (.cons (t := 0) rfl (.cons (t := 3) rfl .nil)) .nil rfl ?_ ?_ (fun zz => ?_)
   ·try dsimp only [List.cons_append, List.nil_append]
    first | refine SubF.cons rfl ?_ | (refine SubF.ent rfl ?_ ?_; · exact ent_auto)
    exact SubF.nil
   ·try dsimp only [List.cons_append, List.nil_append]
    repeat (first | exact SubL.nil | refine SubL.cons rfl ?_)
   ·obtain ⟨j, hj1, hj2⟩ := zz
    dsimp only [List.cons_append, List.nil_append]
    refine tr_seq ?_
    refine tr_seq ?_
    refine tr_region (fun N5 hN => ?_)
    refine lx (op_move rfl) rfl ?_
    refine lx (op_move rfl) rfl ?_
    refine lx (op_move rfl) rfl ?_
    refine lx (op_index rfl rfl el24 sz81 rfl (gt_at (d := []) (by omega))) rfl ?_
    refine lx (op_load_one rfl ag81 rfl) rfl ?_
    first | refine lx (op_len rfl el81) rfl ?_ | refine lx (op_len_row rfl el81) rfl ?_ | refine lx (op_len_mv rfl el81) rfl ?_ | refine lx (op_len_nil rfl el81) rfl ?_
    refine lx (op_lss rfl rfl) rfl ?_
    refine lx_end ⟨by kernel_rfl, ?_⟩
    refine pe_then_normal ?_
    refine tr_sub hC (.cons (t := 0) rfl (.cons (t := 3) rfl (.cons (t := 4) rfl (.cons (t := 17) rfl .nil)))) .nil rfl ?_
    refine tr_cond rfl (fun h17 => ?_) (fun h17 => ?_)
    ·(try simp only [cq1, cq2, cq3, cq4, cq5, cq6, cq7, cq8, cq9, cq10, cq11, cq12, cq13] at h17)
     refine tr_skip ?_
     refine pe_then_normal ?_
     refine tr_sub hC (.cons (t := 0) rfl (.cons (t := 3) rfl (.cons (t := 4) rfl .nil))) .nil rfl ?_
     refine tr_seq ?_
     refine tr_block ?_
     refine tr_seq ?_
     refine tr_region (fun N7 hN => ?_)
     refine lx (op_move rfl) rfl ?_
     refine lx (op_move rfl) rfl ?_
     refine lx (op_index rfl rfl el24 sz81 rfl (gt_at (d := []) (by omega))) rfl ?_
     refine lx (op_load_one rfl ag81 rfl) rfl ?_
     refine lx (op_move rfl) rfl ?_
     refine lx (op_index rfl rfl el81 sz3 rfl (gt_at (d := (0 : Int)) (by omega))) rfl ?_
     refine lx (op_load_one rfl ag3 rfl) rfl ?_
     refine lx (op_neq rfl rfl) rfl ?_
     refine lx (op_move rfl) rfl ?_
     refine lxs rfl rfl rfl guard_eq (.cons (t := 0) rfl (fun _ => Ent.refl _) .nil) (op_move rfl) rfl ?_
     refine lxs rfl rfl rfl guard_eq (.cons (t := 3) rfl (fun _ => Ent.refl _) .nil) (op_move rfl) rfl ?_
     refine lxs rfl rfl rfl guard_eq (.cons (t := 29) rfl (fun h => entW h) (.cons (t := 30) rfl (fun h => entW h) .nil)) (op_index rfl rfl el24 sz81 rfl (gt_at (d := []) (by omega))) rfl ?_
     refine lxs rfl rfl rfl guard_eq (.cons (t := 31) rfl (fun h => entW h) .nil) (op_load_one rfl ag81 rfl) rfl ?_
     refine lxs rfl rfl rfl guard_eq (.cons (t := 4) rfl (fun _ => Ent.refl _) .nil) (op_move rfl) rfl ?_
     refine lxs rfl rfl rfl guard_eq (.cons (t := 32) rfl (fun h => entW h) (.cons (t := 33) rfl (fun h => entW h) .nil)) (op_index rfl rfl el81 sz3 rfl (gt_at (d := (0 : Int)) (by omega))) rfl ?_
     refine lxs rfl rfl rfl guard_eq (.cons (t := 34) rfl (fun h => entW h) .nil) (op_load_one rfl ag3 rfl) rfl ?_
     refine lxs rfl rfl rfl guard_eq (.cons (t := 35) rfl (fun h => entW h) .nil) (op_neq rfl rfl) rfl ?_
     refine lx (op_pick_and rfl rfl) rfl ?_
     refine lx_end ⟨by kernel_rfl, ?_⟩
     refine pe_then_normal ?_
     refine tr_sub hC (.cons (t := 0) rfl (.cons (t := 3) rfl (.cons (t := 4) rfl (.cons (t := 37) rfl .nil)))) .nil rfl ?_
     refine tr_cond rfl (fun h37 => ?_) (fun h37 => ?_)
     ·have hno := lays_no (by omega) (lay_no1 (by omega) h37)
      refine tr_seq ?_
      refine tr_region (fun N8 hN => ?_)
      refine lx (op_assign rfl) rfl ?_
      refine lx_end ⟨by kernel_rfl, ?_⟩
      refine pe_then_normal ?_
      refine tr_sub hC (.cons (t := 2) rfl .nil) .nil rfl ?_
      refine tr_ret ?_
      refine pe_block_ret ?_
      refine pe_then_ret ?_
      refine pe_then_ret ?_
      refine pe_block_ret ?_
      refine pe_then_ret ?_
      refine pe_block_ret ?_
      refine pe_then_ret ?_
      refine pe_then_ret ?_
      refine pe_block_ret ?_
      refine pe_then_ret ?_
      refine pe_ret1 rfl hO rfl (.tmp rfl .nil) ?_
      rw [hno]
      exact ent_auto
     ·have hst : (fun b => !(decide (gt 0 (gt [] xs k) b ≠ 0) && decide (gt 0 (gt [] xs k) b ≠ 1))) j = true := by
       dsimp only
       rw [h37]
       rfl
      refine tr_skip ?_
      refine pe_block_normal ?_
      refine pe_then_normal ?_
      refine tr_sub hC (.cons (t := 0) rfl (.cons (t := 3) rfl (.cons (t := 4) rfl .nil))) .nil rfl ?_
      refine tr_region (fun N6 hN => ?_)
      refine lx (op_move rfl) rfl ?_
      refine lx (op_add rfl rfl (by omega)) rfl ?_
      refine lx (op_assign rfl) rfl ?_
      refine lx_end ⟨by kernel_rfl, ?_⟩
      refine pe_round (⟨(j + 1), by omega, allI_step hj2 hst⟩) (by dsimp only; omega) (pe_st hC ?_ ?_ rfl)
      ·try dsimp only [List.cons_append, List.nil_append]
       first | refine SubF.cons rfl ?_ | (refine SubF.ent rfl ?_ ?_; · exact ent_auto)
       first | refine SubF.cons rfl ?_ | (refine SubF.ent rfl ?_ ?_; · exact ent_auto)
       first | refine SubF.cons rfl ?_ | (refine SubF.ent rfl ?_ ?_; · exact ent_auto)
       exact SubF.nil
      ·try dsimp only [List.cons_append, List.nil_append]
       repeat (first | exact SubL.nil | refine SubL.cons rfl ?_)
    ·(try simp only [cq1, cq2, cq3, cq4, cq5, cq6, cq7, cq8, cq9, cq10, cq11, cq12, cq13] at h17)
     have hin := allI_end hj2 (by omega : (gt [] xs k).length ≤ j)
     refine tr_exit ?_
     refine pe_then_exit ?_
     refine pe_then_exit ?_
     refine pe_block_eq ?_
     refine pe_then_normal ?_
     refine tr_sub hC (.cons (t := 0) rfl (.cons (t := 3) rfl .nil)) .nil rfl ?_
     refine tr_seq ?_
     refine tr_region (fun N9 hN => ?_)
     refine lx (op_move rfl) rfl ?_
     refine lx (op_move rfl) rfl ?_
     refine lx (op_index rfl rfl el24 sz81 rfl (gt_at (d := []) (by omega))) rfl ?_
     refine lx (op_load_one rfl ag81 rfl) rfl ?_
     first | refine lx (op_len rfl el81) rfl ?_ | refine lx (op_len_row rfl el81) rfl ?_ | refine lx (op_len_mv rfl el81) rfl ?_ | refine lx (op_len_nil rfl el81) rfl ?_
     refine lx (op_gtr rfl rfl) rfl ?_
     refine lx_end ⟨by kernel_rfl, ?_⟩
     refine pe_then_normal ?_
     refine tr_sub hC (.cons (t := 0) rfl (.cons (t := 3) rfl (.cons (t := 43) rfl .nil))) .nil rfl ?_
     refine tr_cond rfl (fun h43 => ?_) (fun h43 => ?_)
     ·(try simp only [cq1, cq2, cq3, cq4, cq5, cq6, cq7, cq8, cq9, cq10, cq11, cq12, cq13] at h43)
      have hno := lays_no (k := k) (ls := xs) (by omega) (lay_no2 (l := gt [] xs k) (by omega))
      refine tr_seq ?_
      refine tr_region (fun N10 hN => ?_)
      refine lx (op_assign rfl) rfl ?_
      refine lx_end ⟨by kernel_rfl, ?_⟩
      refine pe_then_normal ?_
      refine tr_sub hC (.cons (t := 2) rfl .nil) .nil rfl ?_
      refine tr_ret ?_
      refine pe_block_ret ?_
      refine pe_then_ret ?_
      refine pe_then_ret ?_
      refine pe_block_ret ?_
      refine pe_then_ret ?_
      refine pe_ret1 rfl hO rfl (.tmp rfl .nil) ?_
      rw [hno]
      exact ent_auto
     ·(try simp only [cq1, cq2, cq3, cq4, cq5, cq6, cq7, cq8, cq9, cq10, cq11, cq12, cq13] at h43)
      have hyes := lay_yes hin (by omega)
      refine tr_skip ?_
      refine pe_block_normal ?_
      refine pe_then_normal ?_
      refine tr_sub hC (.cons (t := 0) rfl (.cons (t := 3) rfl .nil)) .nil rfl ?_
      refine tr_region (fun N3 hN => ?_)
      refine lx (op_move rfl) rfl ?_
      refine lx (op_add rfl rfl (by omega)) rfl ?_
      refine lx (op_assign rfl) rfl ?_
      refine lx_end ⟨by kernel_rfl, ?_⟩
      refine pe_round (⟨(k + 1), by omega, allI_step (φ := fun a => lay1 (gt [] xs a)) hk2 hyes⟩) (by dsimp only; omega) (pe_st hC ?_ ?_ rfl)
      ·try dsimp only [List.cons_append, List.nil_append]
       first | refine SubF.cons rfl ?_ | (refine SubF.ent rfl ?_ ?_; · exact ent_auto)
       first | refine SubF.cons rfl ?_ | (refine SubF.ent rfl ?_ ?_; · exact ent_auto)
       exact SubF.nil
      ·try dsimp only [List.cons_append, List.nil_append]
       repeat (first | exact SubL.nil | refine SubL.cons rfl ?_)
  ·(try simp only [cq1, cq2, cq3, cq4, cq5, cq6, cq7, cq8, cq9, cq10, cq11, cq12, cq13] at h8)
   have hfin := lays_fin (allI_end hk2 (by omega))
   refine tr_exit ?_
   refine pe_then_exit ?_
   refine pe_then_exit ?_
   refine pe_block_eq ?_
   refine pe_then_normal ?_
   refine tr_sub hC (.cons (t := 0) rfl .nil) .nil rfl ?_
   refine tr_seq ?_
   refine tr_region (fun N11 hN => ?_)
   refine lx (op_move rfl) rfl ?_
   first | refine lx (op_len rfl el24) rfl ?_ | refine lx (op_len_row rfl el24) rfl ?_ | refine lx (op_len_mv rfl el24) rfl ?_ | refine lx (op_len_nil rfl el24) rfl ?_
   refine lx (op_leq rfl rfl) rfl ?_
   refine lx (op_assign rfl) rfl ?_
   refine lx_end ⟨by kernel_rfl, ?_⟩
   refine pe_then_normal ?_
   refine tr_sub hC (.cons (t := 2) rfl .nil) .nil rfl ?_
   refine tr_ret ?_
   refine pe_ret1 rfl hO rfl (.tmp rfl .nil) ?_
   rw [hfin]
   exact ent_auto
theorem Prog_ok (p : Pg) (hb : BdPg 9223372036854775807 p) : FnP Try.prog 13 [aggP p.ps] (eqP (.bool (progF instrF p))) := by
 have hbf := hb.funcs
 have hbg := hb.globals
 refine fn_pure' Try.func13 rfl Try.ntmps13 rfl ?_
 intro σ0 M ex Rf R hC hO
 simp only [frameOf, tokOf]
 refine tr_seq ?_
 refine tr_region (fun N0 hN => ?_)
 refine lxn (op_box (m := 1) (k := 1) rfl (.agg rfl) (by first | exact hC.low _ (by decide) | rfl)) rfl ?_
 refine lx (op_assign rfl) rfl ?_
 refine lx_end ⟨by kernel_rfl, ?_⟩
 refine pe_then_normal ?_
 refine tr_sub hC (.cons (t := 1) rfl .nil) (.cons (t := 1) rfl .nil) rfl ?_
 refine tr_seq ?_
 refine tr_seq ?_
 refine tr_region (fun N1 hN => ?_)
 refine lx (op_fieldAddr rfl fl26_0 sz22) rfl ?_
 refine lx (op_bload_one (m := 1) rfl rfl ag22 rfl) rfl ?_
 first | refine lx (op_len rfl el22) rfl ?_ | refine lx (op_len_row rfl el22) rfl ?_ | refine lx (op_len_mv rfl el22) rfl ?_ | refine lx (op_len_nil rfl el22) rfl ?_
 refine lx (op_gtr rfl rfl) rfl ?_
 refine lx (op_move rfl) rfl ?_
 refine lxs rfl rfl rfl guard_eq (.cons (t := 1) rfl (fun _ => Ent.refl _) .nil) (op_fieldAddr rfl fl26_1 sz23) rfl ?_
 refine lxs rfl rfl rfl guard_eq (.cons (t := 13) rfl (fun h => entW h) .nil) (op_bload_one (m := 1) rfl rfl ag23 rfl) rfl ?_
 first | refine lxs rfl rfl rfl guard_eq (.cons (t := 14) rfl (fun h => entW h) .nil) (op_len rfl el23) rfl ?_ | refine lxs rfl rfl rfl guard_eq (.cons (t := 14) rfl (fun h => entW h) .nil) (op_len_row rfl el23) rfl ?_ | refine lxs rfl rfl rfl guard_eq (.cons (t := 14) rfl (fun h => entW h) .nil) (op_len_mv rfl el23) rfl ?_ | refine lxs rfl rfl rfl guard_eq (.cons (t := 14) rfl (fun h => entW h) .nil) (op_len_nil rfl el23) rfl ?_
 refine lxs rfl rfl rfl guard_eq (.cons (t := 15) rfl (fun h => entW h) .nil) (op_gtr rfl rfl) rfl ?_
 refine lx (op_pick_or rfl rfl) rfl ?_
 refine lx (op_move rfl) rfl ?_
 refine lxs rfl rfl rfl guard_eq (.cons (t := 1) rfl (fun _ => Ent.refl _) .nil) (op_fieldAddr rfl fl26_2 sz24) rfl ?_
 refine lxs rfl rfl rfl guard_eq (.cons (t := 19) rfl (fun h => entW h) .nil) (op_bload_one (m := 1) rfl rfl ag24 rfl) rfl ?_
 first | refine lxs rfl rfl rfl guard_eq (.cons (t := 20) rfl (fun h => entW h) .nil) (op_call (l := [(Go.Operand.tmp 20)]) (layouts_ok p.layouts hb.layouts hb.lays) (.cons rfl .nil) fn35) rfl ?_ | refine lxs rfl rfl rfl guard_eq (.cons (t := 20) rfl (fun h => entW h) .nil) (op_call (l := [(Go.Operand.tmp 20)]) (layouts_ok p.layouts hb.layouts hb.lays) (.ent rfl (by exact ent_auto) .nil) fn35) rfl ?_
 first | refine lxs rfl rfl rfl guard_eq (.cons (t := 21) rfl (fun h => entW h) .nil) (op_not rfl) rfl ?_ | refine lxs rfl rfl rfl guard_eq (.cons (t := 21) rfl (fun h => entW h) .nil) (op_not_b rfl) rfl ?_
 refine lx (op_pick_or rfl rfl) rfl ?_
 refine lx (op_move rfl) rfl ?_
 refine lxs rfl rfl rfl guard_eq (.cons (t := 1) rfl (fun _ => Ent.refl _) .nil) (op_fieldAddr rfl fl26_3 sz3) rfl ?_
 refine lxs rfl rfl rfl guard_eq (.cons (t := 25) rfl (fun h => entW h) .nil) (op_bload_one (m := 1) rfl rfl ag3 rfl) rfl ?_
 refine lxs rfl rfl rfl guard_eq (.cons (t := 26) rfl (fun h => entW h) .nil) (op_lss rfl rfl) rfl ?_
 refine lx (op_pick_or rfl rfl) rfl ?_
 refine lx (op_move rfl) rfl ?_
 refine lxs rfl rfl rfl guard_eq (.cons (t := 1) rfl (fun _ => Ent.refl _) .nil) (op_fieldAddr rfl fl26_3 sz3) rfl ?_
 refine lxs rfl rfl rfl guard_eq (.cons (t := 30) rfl (fun h => entW h) .nil) (op_bload_one (m := 1) rfl rfl ag3 rfl) rfl ?_
 refine lxs rfl rfl rfl guard_eq (.cons (t := 1) rfl (fun _ => Ent.refl _) .nil) (op_fieldAddr rfl fl26_0 sz22) rfl ?_
 refine lxs rfl rfl rfl guard_eq (.cons (t := 32) rfl (fun h => entW h) .nil) (op_bload_one (m := 1) rfl rfl ag22 rfl) rfl ?_
 first | refine lxs rfl rfl rfl guard_eq (.cons (t := 33) rfl (fun h => entW h) .nil) (op_len rfl el22) rfl ?_ | refine lxs rfl rfl rfl guard_eq (.cons (t := 33) rfl (fun h => entW h) .nil) (op_len_row rfl el22) rfl ?_ | refine lxs rfl rfl rfl guard_eq (.cons (t := 33) rfl (fun h => entW h) .nil) (op_len_mv rfl el22) rfl ?_ | refine lxs rfl rfl rfl guard_eq (.cons (t := 33) rfl (fun h => entW h) .nil) (op_len_nil rfl el22) rfl ?_
 refine lxs rfl rfl rfl guard_eq (.cons (t := 31) rfl (fun h => entW h) (.cons (t := 34) rfl (fun h => entW h) .nil)) (op_geq rfl rfl) rfl ?_
 refine lx (op_pick_or rfl rfl) rfl ?_
 refine lx (op_move rfl) rfl ?_
 refine lxs rfl rfl rfl guard_eq (.cons (t := 1) rfl (fun _ => Ent.refl _) .nil) (op_fieldAddr rfl fl26_0 sz22) rfl ?_
 refine lxs rfl rfl rfl guard_eq (.cons (t := 38) rfl (fun h => entW h) .nil) (op_bload_one (m := 1) rfl rfl ag22 rfl) rfl ?_
 refine lxs rfl rfl rfl guard_eq (.cons (t := 1) rfl (fun _ => Ent.refl _) .nil) (op_fieldAddr rfl fl26_3 sz3) rfl ?_
 refine lxs rfl rfl rfl guard_eq (.cons (t := 40) rfl (fun h => entW h) .nil) (op_bload_one (m := 1) rfl rfl ag3 rfl) rfl ?_
 refine lxsc (rd := [(39, slP Fu.ps 4 p.funcs), (41, eqP (.int .i64 p.main))]) (φ := cellsP (pfn p p.main).ps) rfl rfl rfl guard_eq (.cons (t := 39) rfl (fun h => entW h) (.cons (t := 41) rfl (fun h => entW h) .nil)) (fun hgd => ?_) rfl rfl ?_
 ·have hq0 : 0 ≤ p.main ∧ p.main < (p.funcs.length : Int) := by
   simp at hgd
   omega
  exact op_index rfl rfl el22 sz66 (by omega : p.main = ((p.main.toNat : Nat) : Int)) (pfn_at (by omega) (by omega))
 first | refine lxs rfl rfl rfl guard_eq (.cons (t := 42) rfl (fun h => entW h) .nil) (op_fieldAddr rfl fl66_1 sz3) rfl ?_ | refine lxs rfl rfl rfl guard_eq (.cons (t := 42) rfl (fun h => entW h) .nil) (op_fieldCells rfl fl66_1 sz3) rfl ?_
 first | refine lxs rfl rfl rfl guard_eq (.cons (t := 43) rfl (fun h => entW h) .nil) (op_load_one rfl ag3 rfl) rfl ?_ | refine lxs rfl rfl rfl guard_eq (.cons (t := 43) rfl (fun h => entW h) .nil) (op_bload_one (m := 1) rfl rfl ag3 rfl) rfl ?_
 refine lxs rfl rfl rfl guard_eq (.cons (t := 44) rfl (fun h => entW h) .nil) (op_neq rfl rfl) rfl ?_
 refine lx (op_pick_or rfl rfl) rfl ?_
 refine lx_end ⟨by kernel_rfl, ?_⟩
 refine pe_then_normal ?_
 refine tr_sub hC (.cons (t := 1) rfl (.cons (t := 46) rfl .nil)) (.cons (t := 1) rfl .nil) rfl ?_
 refine tr_cond rfl (fun h46 => ?_) (fun h46 => ?_)
 ·have hh : hdrP p = true := h46
  have hno := prog_no (ins := instrF) hh
  refine tr_seq ?_
  refine tr_region (fun N2 hN => ?_)
  refine lx (op_assign rfl) rfl ?_
  refine lx_end ⟨by kernel_rfl, ?_⟩
  refine pe_then_normal ?_
  refine tr_sub hC (.cons (t := 2) rfl .nil) .nil rfl ?_
  refine tr_ret ?_
  refine pe_then_ret ?_
  refine pe_ret1 rfl hO rfl (.tmp rfl .nil) ?_
  rw [hno]
  exact ent_auto
 ·have hh : hdrP p = false := h46
  refine tr_skip ?_
  refine pe_then_normal ?_
  refine tr_sub hC (.cons (t := 1) rfl .nil) (.cons (t := 1) rfl .nil) rfl ?_
  refine tr_seq ?_
  refine tr_seq ?_
  refine tr_region (fun N3 hN => ?_)
  refine lx (op_assign rfl) rfl ?_
  refine lx_end ⟨by kernel_rfl, ?_⟩
  refine pe_then_normal ?_
  refine tr_sub hC (.cons (t := 1) rfl (.cons (t := 3) rfl .nil)) (.cons (t := 1) rfl .nil) rfl ?_
  refine tr_block ?_
  refine tr_loopK (α := {zz : Nat // zz ≤ p.globals.length ∧ allI zz (glOK p.globals) = true}) (⟨(0), Nat.zero_le _, rfl⟩) (fun zz => [(3, eqP (.int .i64 (zz.1 : Int)))]) (fun zz => []) (fun zz => p.globals.length - zz.1) hC (.cons (t := 1) rfl .nil) (.cons (t := 1) rfl .nil) rfl ?_ ?_ (fun zz => ?_)
  ·try dsimp only [List.cons_append, List.nil_append]
   first | refine SubF.cons rfl ?_ | (refine SubF.ent rfl ?_ ?_; · exact ent_auto)
   exact SubF.nil
  ·try dsimp only [List.cons_append, List.nil_append]
   repeat (first | exact SubL.nil | refine SubL.cons rfl ?_)
  ·obtain ⟨k, hk1, hk2⟩ := zz
   dsimp only [List.cons_append, List.nil_append]
   refine tr_seq ?_
   refine tr_seq ?_
   refine tr_region (fun N4 hN => ?_)
   refine lx (op_move rfl) rfl ?_
   refine lx (op_fieldAddr rfl fl26_1 sz23) rfl ?_
   refine lx (op_bload_one (m := 1) rfl rfl ag23 rfl) rfl ?_
   first | refine lx (op_len rfl el23) rfl ?_ | refine lx (op_len_row rfl el23) rfl ?_ | refine lx (op_len_mv rfl el23) rfl ?_ | refine lx (op_len_nil rfl el23) rfl ?_
   refine lx (op_lss rfl rfl) rfl ?_
   refine lx_end ⟨by kernel_rfl, ?_⟩
   refine pe_then_normal ?_
   refine tr_sub hC (.cons (t := 1) rfl (.cons (t := 3) rfl (.cons (t := 51) rfl .nil))) (.cons (t := 1) rfl .nil) rfl ?_
   refine tr_cond rfl (fun h51 => ?_) (fun h51 => ?_)
   ·(try simp only [cq1, cq2, cq3, cq4, cq5, cq6, cq7, cq8, cq9, cq10, cq11, cq12, cq13] at h51)
    refine tr_skip ?_
    refine pe_then_normal ?_
    refine tr_sub hC (.cons (t := 1) rfl (.cons (t := 3) rfl .nil)) (.cons (t := 1) rfl .nil) rfl ?_
    refine tr_seq ?_
    refine tr_block ?_
    refine tr_seq ?_
    refine tr_region (fun N6 hN => ?_)
    refine lx (op_fieldAddr rfl fl26_1 sz23) rfl ?_
    refine lx (op_bload_one (m := 1) rfl rfl ag23 rfl) rfl ?_
    refine lx (op_move rfl) rfl ?_
    refine lx (op_index rfl rfl el23 sz71 rfl (gt_at (d := gl0) (by omega))) rfl ?_
    first | refine lx (op_load_all rfl ag71 sz71) rfl ?_ | refine lx (op_load_agg rfl ag71 sz71 rfl) rfl ?_ | refine lx (op_bload (m := 1) rfl rfl ag71 sz71) rfl ?_ | refine lx (op_bload_part (m := 1) (qs := [_, _]) rfl rfl ag71 sz71 rfl rfl) rfl ?_
    refine lxn (op_alloc (m := 4) (k := 4) (ps := [eqP (.string ⟨#[]⟩), eqP (.int .i64 0)]) ze71 rfl rfl (by first | exact hC.low _ (by decide) | rfl)) rfl ?_
    refine lxr (op_store_all (m := 4) rfl rfl rfl (.agg rfl) sz71 rfl) rfl ?_
    refine lx_end ⟨by kernel_rfl, ?_⟩
    refine pe_then_normal ?_
    refine tr_sub hC (.cons (t := 1) rfl (.cons (t := 3) rfl (.cons (t := 4) rfl .nil))) (.cons (t := 1) rfl (.cons (t := 4) rfl .nil)) rfl ?_
    refine tr_seq ?_
    refine tr_seq ?_
    refine tr_region (fun N7 hN => ?_)
    refine lx (op_fieldAddr rfl fl71_0 sz9) rfl ?_
    refine lx (op_bload_one (m := 4) rfl rfl ag9 rfl) rfl ?_
    refine lx (op_eql_str st9 rfl rfl) rfl ?_
    refine lx (op_move rfl) rfl ?_
    refine lxs rfl rfl rfl guard_eq (.cons (t := 4) rfl (fun _ => Ent.refl _) .nil) (op_fieldAddr rfl fl71_1 sz3) rfl ?_
    refine lxs rfl rfl rfl guard_eq (.cons (t := 63) rfl (fun h => entW h) .nil) (op_bload_one (m := 4) rfl rfl ag3 rfl) rfl ?_
    refine lxs rfl rfl rfl guard_eq (.cons (t := 64) rfl (fun h => entW h) .nil) (op_neq rfl rfl) rfl ?_
    refine lxs rfl rfl rfl guard_eq (.cons (t := 65) rfl (fun h => entW h) .nil) (op_move rfl) rfl ?_
    refine lxs rfl rfl rfl guard_w (.cons (t := 4) rfl (fun _ => Ent.refl _) .nil) (op_fieldAddr rfl fl71_1 sz3) rfl ?_
    refine lxs rfl rfl rfl guard_w (.cons (t := 67) rfl (fun h => entW h) .nil) (op_bload_one (m := 4) rfl rfl ag3 rfl) rfl ?_
    refine lxs rfl rfl rfl guard_w (.cons (t := 68) rfl (fun h => entW h) .nil) (op_neq rfl rfl) rfl ?_
    refine lxs rfl rfl rfl guard_eq (.cons (t := 66) rfl (fun h => entW h) (.cons (t := 69) rfl (fun h => entS h) .nil)) (op_pick_and rfl rfl) rfl ?_
    refine lx (op_pick_or rfl rfl) rfl ?_
    refine lx_end ⟨by kernel_rfl, ?_⟩
    refine pe_then_normal ?_
    refine tr_sub hC (.cons (t := 1) rfl (.cons (t := 3) rfl (.cons (t := 4) rfl (.cons (t := 71) rfl .nil)))) (.cons (t := 1) rfl (.cons (t := 4) rfl .nil)) rfl ?_
    refine tr_cond rfl (fun h71 => ?_) (fun h71 => ?_)
    ·have hno := prog_g (ins := instrF) hh (gl_no1 (by omega) h71)
     refine tr_seq ?_
     refine tr_region (fun N8 hN => ?_)
     refine lx (op_assign rfl) rfl ?_
     refine lx_end ⟨by kernel_rfl, ?_⟩
     refine pe_then_normal ?_
     refine tr_sub hC (.cons (t := 2) rfl .nil) .nil rfl ?_
     refine tr_ret ?_
     refine pe_then_ret ?_
     refine pe_block_ret ?_
     refine pe_then_ret ?_
     refine pe_then_ret ?_
     refine pe_block_ret ?_
     refine pe_then_ret ?_
     refine pe_ret1 rfl hO rfl (.tmp rfl .nil) ?_
     rw [hno]
     exact ent_auto
    ·have hg1 := h71
     refine tr_skip ?_
     refine pe_then_normal ?_
     refine tr_sub hC (.cons (t := 1) rfl (.cons (t := 3) rfl (.cons (t := 4) rfl .nil))) (.cons (t := 1) rfl (.cons (t := 4) rfl .nil)) rfl ?_
     refine tr_seq ?_
     refine tr_region (fun N9 hN => ?_)
     refine lx (op_assign rfl) rfl ?_
     refine lx_end ⟨by kernel_rfl, ?_⟩
     refine pe_then_normal ?_
     refine tr_sub hC (.cons (t := 1) rfl (.cons (t := 3) rfl (.cons (t := 4) rfl (.cons (t := 5) rfl .nil)))) (.cons (t := 1) rfl (.cons (t := 4) rfl .nil)) rfl ?_
     refine tr_block ?_
     refine tr_loopK (α := {zz : Nat // zz ≤ k ∧ allI zz (fun zz => !((gt gl0 p.globals zz).name.toList == (gt gl0 p.globals k).name.toList)) = true}) (⟨(0), Nat.zero_le _, rfl⟩) (fun zz => [(5, eqP (.int .i64 (zz.1 : Int)))]) (fun zz => []) (fun zz => k - zz.1) hC (.cons (t := 1) rfl (.cons (t := 3) rfl (.cons (t := 4) rfl .nil))) (.cons (t := 1) rfl (.cons (t := 4) rfl .nil)) rfl ?_ ?_ (fun zz => ?_)
     ·try dsimp only [List.cons_append, List.nil_append]
      first | refine SubF.cons rfl ?_ | (refine SubF.ent rfl ?_ ?_; · exact ent_auto)
      exact SubF.nil
     ·try dsimp only [List.cons_append, List.nil_append]
      repeat (first | exact SubL.nil | refine SubL.cons rfl ?_)
     ·obtain ⟨j, hj1, hj2⟩ := zz
      dsimp only [List.cons_append, List.nil_append]
      refine tr_seq ?_
      refine tr_seq ?_
      refine tr_region (fun N10 hN => ?_)
      refine lx (op_move rfl) rfl ?_
      refine lx (op_move rfl) rfl ?_
      refine lx (op_lss rfl rfl) rfl ?_
      refine lx_end ⟨by kernel_rfl, ?_⟩
      refine pe_then_normal ?_
      refine tr_sub hC (.cons (t := 1) rfl (.cons (t := 3) rfl (.cons (t := 4) rfl (.cons (t := 5) rfl (.cons (t := 74) rfl .nil))))) (.cons (t := 1) rfl (.cons (t := 4) rfl .nil)) rfl ?_
      refine tr_cond rfl (fun h74 => ?_) (fun h74 => ?_)
      ·(try simp only [cq1, cq2, cq3, cq4, cq5, cq6, cq7, cq8, cq9, cq10, cq11, cq12, cq13] at h74)
       refine tr_skip ?_
       refine pe_then_normal ?_
       refine tr_sub hC (.cons (t := 1) rfl (.cons (t := 3) rfl (.cons (t := 4) rfl (.cons (t := 5) rfl .nil)))) (.cons (t := 1) rfl (.cons (t := 4) rfl .nil)) rfl ?_
       refine tr_seq ?_
       refine tr_block ?_
       refine tr_seq ?_
       refine tr_drawn mixed (fun N12 hN => ?_)
       refine lx (op_fieldAddr rfl fl26_1 sz23) rfl ?_
       refine lx (op_bload_one (m := 1) rfl rfl ag23 rfl) rfl ?_
       refine lx (op_move rfl) rfl ?_
       refine lx (op_index rfl rfl el23 sz71 rfl (gt_at (d := gl0) (by omega))) rfl ?_
       first | refine lx (op_fieldAddr rfl fl71_0 sz9) rfl ?_ | refine lx (op_fieldCells rfl fl71_0 sz9) rfl ?_
       first | refine lx (op_load_one rfl ag9 rfl) rfl ?_ | refine lx (op_bload_one (m := 1) rfl rfl ag9 rfl) rfl ?_ | refine lx (op_bload_one (m := 4) rfl rfl ag9 rfl) rfl ?_
       refine lx (op_fieldAddr rfl fl71_0 sz9) rfl ?_
       refine lx (op_bload_one (m := 4) rfl rfl ag9 rfl) rfl ?_
       refine lx (op_eql_str st9 rfl rfl) rfl ?_
       refine lx_end ⟨by kernel_rfl, ?_⟩
       refine pe_then_normal ?_
       refine tr_sub hC (.cons (t := 1) rfl (.cons (t := 3) rfl (.cons (t := 4) rfl (.cons (t := 5) rfl (.cons (t := 85) rfl .nil))))) (.cons (t := 1) rfl (.cons (t := 4) rfl .nil)) rfl ?_
       refine tr_cond rfl (fun h85 => ?_) (fun h85 => ?_)
       ·have hno := prog_g (ins := instrF) hh (gl_no2 (by omega) (by omega) h85)
        refine tr_seq ?_
        refine tr_region (fun N13 hN => ?_)
        refine lx (op_assign rfl) rfl ?_
        refine lx_end ⟨by kernel_rfl, ?_⟩
        refine pe_then_normal ?_
        refine tr_sub hC (.cons (t := 2) rfl .nil) .nil rfl ?_
        refine tr_ret ?_
        refine pe_block_ret ?_
        refine pe_then_ret ?_
        refine pe_then_ret ?_
        refine pe_block_ret ?_
        refine pe_block_ret ?_
        refine pe_then_ret ?_
        refine pe_then_ret ?_
        refine pe_block_ret ?_
        refine pe_then_ret ?_
        refine pe_ret1 rfl hO rfl (.tmp rfl .nil) ?_
        rw [hno]
        exact ent_auto
       ·have hst : (fun j => !((gt gl0 p.globals j).name.toList == (gt gl0 p.globals k).name.toList)) j = true := by
         dsimp only
         rw [h85]
         rfl
        refine tr_skip ?_
        refine pe_block_normal ?_
        refine pe_then_normal ?_
        refine tr_sub hC (.cons (t := 1) rfl (.cons (t := 3) rfl (.cons (t := 4) rfl (.cons (t := 5) rfl .nil)))) (.cons (t := 1) rfl (.cons (t := 4) rfl .nil)) rfl ?_
        refine tr_region (fun N11 hN => ?_)
        refine lx (op_move rfl) rfl ?_
        refine lx (op_add rfl rfl (by omega)) rfl ?_
        refine lx (op_assign rfl) rfl ?_
        refine lx_end ⟨by kernel_rfl, ?_⟩
        refine pe_round (⟨(j + 1), by omega, allI_step hj2 hst⟩) (by dsimp only; omega) (pe_st hC ?_ ?_ rfl)
        ·try dsimp only [List.cons_append, List.nil_append]
         first | refine SubF.cons rfl ?_ | (refine SubF.ent rfl ?_ ?_; · exact ent_auto)
         first | refine SubF.cons rfl ?_ | (refine SubF.ent rfl ?_ ?_; · exact ent_auto)
         first | refine SubF.cons rfl ?_ | (refine SubF.ent rfl ?_ ?_; · exact ent_auto)
         first | refine SubF.cons rfl ?_ | (refine SubF.ent rfl ?_ ?_; · exact ent_auto)
         exact SubF.nil
        ·try dsimp only [List.cons_append, List.nil_append]
         repeat (first | exact SubL.nil | refine SubL.cons rfl ?_)
      ·(try simp only [cq1, cq2, cq3, cq4, cq5, cq6, cq7, cq8, cq9, cq10, cq11, cq12, cq13] at h74)
       have hyes := gl_yes hg1 (allI_end hj2 (by omega : k ≤ j))
       refine tr_exit ?_
       refine pe_then_exit ?_
       refine pe_then_exit ?_
       refine pe_block_eq ?_
       refine pe_block_normal ?_
       refine pe_then_normal ?_
       refine tr_sub hC (.cons (t := 1) rfl (.cons (t := 3) rfl .nil)) (.cons (t := 1) rfl .nil) rfl ?_
       refine tr_region (fun N5 hN => ?_)
       refine lx (op_move rfl) rfl ?_
       refine lx (op_add rfl rfl (by omega)) rfl ?_
       refine lx (op_assign rfl) rfl ?_
       refine lx_end ⟨by kernel_rfl, ?_⟩
       refine pe_round (⟨(k + 1), by omega, allI_step hk2 hyes⟩) (by dsimp only; omega) (pe_st hC ?_ ?_ rfl)
       ·try dsimp only [List.cons_append, List.nil_append]
        first | refine SubF.cons rfl ?_ | (refine SubF.ent rfl ?_ ?_; · exact ent_auto)
        first | refine SubF.cons rfl ?_ | (refine SubF.ent rfl ?_ ?_; · exact ent_auto)
        exact SubF.nil
       ·try dsimp only [List.cons_append, List.nil_append]
        repeat (first | exact SubL.nil | refine SubL.cons rfl ?_)
   ·(try simp only [cq1, cq2, cq3, cq4, cq5, cq6, cq7, cq8, cq9, cq10, cq11, cq12, cq13] at h51)
    have hgl := allI_end hk2 (by omega : p.globals.length ≤ k)
    refine tr_exit ?_
    refine pe_then_exit ?_
    refine pe_then_exit ?_
    refine pe_block_eq ?_
    refine pe_then_normal ?_
    refine tr_sub hC (.cons (t := 1) rfl .nil) (.cons (t := 1) rfl .nil) rfl ?_
    refine tr_seq ?_
    refine tr_seq ?_
    refine tr_region (fun N14 hN => ?_)
    refine lx (op_assign rfl) rfl ?_
    refine lx_end ⟨by kernel_rfl, ?_⟩
    refine pe_then_normal ?_
    refine tr_sub hC (.cons (t := 1) rfl (.cons (t := 6) rfl .nil)) (.cons (t := 1) rfl .nil) rfl ?_
    refine tr_block ?_
    refine tr_loopK (α := {zz : Nat // zz ≤ p.funcs.length ∧ allI zz (fnK instrF p) = true}) (⟨(0), Nat.zero_le _, rfl⟩) (fun zz => [(6, eqP (.int .i64 (zz.1 : Int)))]) (fun zz => []) (fun zz => p.funcs.length - zz.1) hC (.cons (t := 1) rfl .nil) (.cons (t := 1) rfl .nil) rfl ?_ ?_ (fun zz => ?_)
    ·try dsimp only [List.cons_append, List.nil_append]
     first | refine SubF.cons rfl ?_ | (refine SubF.ent rfl ?_ ?_; · exact ent_auto)
     exact SubF.nil
    ·try dsimp only [List.cons_append, List.nil_append]
     repeat (first | exact SubL.nil | refine SubL.cons rfl ?_)
    ·obtain ⟨k, hk1, hk2⟩ := zz
     dsimp only [List.cons_append, List.nil_append]
     refine tr_seq ?_
     refine tr_seq ?_
     refine tr_region (fun N15 hN => ?_)
     refine lx (op_move rfl) rfl ?_
     refine lx (op_fieldAddr rfl fl26_0 sz22) rfl ?_
     refine lx (op_bload_one (m := 1) rfl rfl ag22 rfl) rfl ?_
     first | refine lx (op_len rfl el22) rfl ?_ | refine lx (op_len_row rfl el22) rfl ?_ | refine lx (op_len_mv rfl el22) rfl ?_ | refine lx (op_len_nil rfl el22) rfl ?_
     refine lx (op_lss rfl rfl) rfl ?_
     refine lx_end ⟨by kernel_rfl, ?_⟩
     refine pe_then_normal ?_
     refine tr_sub hC (.cons (t := 1) rfl (.cons (t := 6) rfl (.cons (t := 90) rfl .nil))) (.cons (t := 1) rfl .nil) rfl ?_
     refine tr_cond rfl (fun h90 => ?_) (fun h90 => ?_)
     ·(try simp only [cq1, cq2, cq3, cq4, cq5, cq6, cq7, cq8, cq9, cq10, cq11, cq12, cq13] at h90)
      refine tr_skip ?_
      refine pe_then_normal ?_
      refine tr_sub hC (.cons (t := 1) rfl (.cons (t := 6) rfl .nil)) (.cons (t := 1) rfl .nil) rfl ?_
      refine tr_seq ?_
      refine tr_block ?_
      refine tr_seq ?_
      refine tr_seq ?_
      refine tr_drawn mixed (fun N17 hN => ?_)
      refine lx (op_bload (m := 1) rfl rfl ag26 sz26) rfl ?_
      refine lx (op_fieldAddr rfl fl26_0 sz22) rfl ?_
      refine lx (op_bload_one (m := 1) rfl rfl ag22 rfl) rfl ?_
      refine lx (op_move rfl) rfl ?_
      refine lx (op_index rfl rfl el22 sz66 rfl (gt_at (d := fu0) (by omega))) rfl ?_
      first | refine lx (op_load_all rfl ag66 sz66) rfl ?_ | refine lx (op_load_agg rfl ag66 sz66 rfl) rfl ?_ | refine lx (op_bload (m := 1) rfl rfl ag66 sz66) rfl ?_ | refine lx (op_bload_part (m := 1) (qs := [_, _, _, _]) rfl rfl ag66 sz66 rfl rfl) rfl ?_
      first | refine lx (op_call (l := [(Go.Operand.tmp 93), (Go.Operand.tmp 98)]) (function_ok p (gt fu0 p.funcs k) (hb.codes _ (gt_mem (by omega)))) (.cons rfl (.cons rfl .nil)) fn36) rfl ?_ | refine lx (op_call (l := [(Go.Operand.tmp 93), (Go.Operand.tmp 98)]) (function_ok p (gt fu0 p.funcs k) (hb.codes _ (gt_mem (by omega)))) (.ent rfl (by exact ent_auto) (.ent rfl (by exact ent_auto) .nil)) fn36) rfl ?_
      first | refine lx (op_not rfl) rfl ?_ | refine lx (op_not_b rfl) rfl ?_
      refine lx_end ⟨by kernel_rfl, ?_⟩
      refine pe_then_normal ?_
      refine tr_sub hC (.cons (t := 1) rfl (.cons (t := 6) rfl (.cons (t := 100) rfl .nil))) (.cons (t := 1) rfl .nil) rfl ?_
      refine tr_cond rfl (fun h100 => ?_) (fun h100 => ?_)
      ·have hno := prog_f hh (fn_no1 (ins := instrF) (k := k) (by omega) (by simpa using h100))
       refine tr_seq ?_
       refine tr_region (fun N18 hN => ?_)
       refine lx (op_assign rfl) rfl ?_
       refine lx_end ⟨by kernel_rfl, ?_⟩
       refine pe_then_normal ?_
       refine tr_sub hC (.cons (t := 2) rfl .nil) .nil rfl ?_
       refine tr_ret ?_
       refine pe_then_ret ?_
       refine pe_block_ret ?_
       refine pe_then_ret ?_
       refine pe_then_ret ?_
       refine pe_block_ret ?_
       refine pe_then_ret ?_
       refine pe_ret1 rfl hO rfl (.tmp rfl .nil) ?_
       rw [hno]
       exact ent_auto
      ·have hf1 : functionF instrF p (gt fu0 p.funcs k) = true := by simpa using h100
       refine tr_skip ?_
       refine pe_then_normal ?_
       refine tr_sub hC (.cons (t := 1) rfl (.cons (t := 6) rfl .nil)) (.cons (t := 1) rfl .nil) rfl ?_
       refine tr_seq ?_
       refine tr_region (fun N19 hN => ?_)
       refine lx (op_assign rfl) rfl ?_
       refine lx_end ⟨by kernel_rfl, ?_⟩
       refine pe_then_normal ?_
       refine tr_sub hC (.cons (t := 1) rfl (.cons (t := 6) rfl (.cons (t := 7) rfl .nil))) (.cons (t := 1) rfl .nil) rfl ?_
       refine tr_block ?_
       refine tr_loopK (α := {zz : Nat // zz ≤ k ∧ allI zz (fun zz => !((gt fu0 p.funcs zz).name.toList == (gt fu0 p.funcs k).name.toList)) = true}) (⟨(0), Nat.zero_le _, rfl⟩) (fun zz => [(7, eqP (.int .i64 (zz.1 : Int)))]) (fun zz => []) (fun zz => k - zz.1) hC (.cons (t := 1) rfl (.cons (t := 6) rfl .nil)) (.cons (t := 1) rfl .nil) rfl ?_ ?_ (fun zz => ?_)
       ·try dsimp only [List.cons_append, List.nil_append]
        first | refine SubF.cons rfl ?_ | (refine SubF.ent rfl ?_ ?_; · exact ent_auto)
        exact SubF.nil
       ·try dsimp only [List.cons_append, List.nil_append]
        repeat (first | exact SubL.nil | refine SubL.cons rfl ?_)
       ·obtain ⟨j, hj1, hj2⟩ := zz
        dsimp only [List.cons_append, List.nil_append]
        refine tr_seq ?_
        refine tr_seq ?_
        refine tr_region (fun N20 hN => ?_)
        refine lx (op_move rfl) rfl ?_
        refine lx (op_move rfl) rfl ?_
        refine lx (op_lss rfl rfl) rfl ?_
        refine lx_end ⟨by kernel_rfl, ?_⟩
        refine pe_then_normal ?_
        refine tr_sub hC (.cons (t := 1) rfl (.cons (t := 6) rfl (.cons (t := 7) rfl (.cons (t := 103) rfl .nil)))) (.cons (t := 1) rfl .nil) rfl ?_
        refine tr_cond rfl (fun h103 => ?_) (fun h103 => ?_)
        ·(try simp only [cq1, cq2, cq3, cq4, cq5, cq6, cq7, cq8, cq9, cq10, cq11, cq12, cq13] at h103)
         refine tr_skip ?_
         refine pe_then_normal ?_
         refine tr_sub hC (.cons (t := 1) rfl (.cons (t := 6) rfl (.cons (t := 7) rfl .nil))) (.cons (t := 1) rfl .nil) rfl ?_
         refine tr_seq ?_
         refine tr_block ?_
         refine tr_seq ?_
         refine tr_drawn mixed (fun N22 hN => ?_)
         refine lx (op_fieldAddr rfl fl26_0 sz22) rfl ?_
         refine lx (op_bload_one (m := 1) rfl rfl ag22 rfl) rfl ?_
         refine lx (op_move rfl) rfl ?_
         refine lx (op_index rfl rfl el22 sz66 rfl (gt_at (d := fu0) (by omega))) rfl ?_
         first | refine lx (op_fieldAddr rfl fl66_0 sz9) rfl ?_ | refine lx (op_fieldCells rfl fl66_0 sz9) rfl ?_
         first | refine lx (op_load_one rfl ag9 rfl) rfl ?_ | refine lx (op_bload_one (m := 1) rfl rfl ag9 rfl) rfl ?_
         refine lx (op_fieldAddr rfl fl26_0 sz22) rfl ?_
         refine lx (op_bload_one (m := 1) rfl rfl ag22 rfl) rfl ?_
         refine lx (op_move rfl) rfl ?_
         refine lx (op_index rfl rfl el22 sz66 rfl (gt_at (d := fu0) (by omega))) rfl ?_
         first | refine lx (op_fieldAddr rfl fl66_0 sz9) rfl ?_ | refine lx (op_fieldCells rfl fl66_0 sz9) rfl ?_
         first | refine lx (op_load_one rfl ag9 rfl) rfl ?_ | refine lx (op_bload_one (m := 1) rfl rfl ag9 rfl) rfl ?_
         refine lx (op_eql_str st9 rfl rfl) rfl ?_
         refine lx_end ⟨by kernel_rfl, ?_⟩
         refine pe_then_normal ?_
         refine tr_sub hC (.cons (t := 1) rfl (.cons (t := 6) rfl (.cons (t := 7) rfl (.cons (t := 118) rfl .nil)))) (.cons (t := 1) rfl .nil) rfl ?_
         refine tr_cond rfl (fun h118 => ?_) (fun h118 => ?_)
         ·have hno := prog_f hh (fn_no2 (ins := instrF) (j := j) (k := k) (by omega) (by omega) h118)
          refine tr_seq ?_
          refine tr_region (fun N23 hN => ?_)
          refine lx (op_assign rfl) rfl ?_
          refine lx_end ⟨by kernel_rfl, ?_⟩
          refine pe_then_normal ?_
          refine tr_sub hC (.cons (t := 2) rfl .nil) .nil rfl ?_
          refine tr_ret ?_
          refine pe_block_ret ?_
          refine pe_then_ret ?_
          refine pe_then_ret ?_
          refine pe_block_ret ?_
          refine pe_block_ret ?_
          refine pe_then_ret ?_
          refine pe_then_ret ?_
          refine pe_block_ret ?_
          refine pe_then_ret ?_
          refine pe_ret1 rfl hO rfl (.tmp rfl .nil) ?_
          rw [hno]
          exact ent_auto
         ·have hst : (fun j => !((gt fu0 p.funcs j).name.toList == (gt fu0 p.funcs k).name.toList)) j = true := by
           dsimp only
           rw [h118]
           rfl
          refine tr_skip ?_
          refine pe_block_normal ?_
          refine pe_then_normal ?_
          refine tr_sub hC (.cons (t := 1) rfl (.cons (t := 6) rfl (.cons (t := 7) rfl .nil))) (.cons (t := 1) rfl .nil) rfl ?_
          refine tr_region (fun N21 hN => ?_)
          refine lx (op_move rfl) rfl ?_
          refine lx (op_add rfl rfl (by omega)) rfl ?_
          refine lx (op_assign rfl) rfl ?_
          refine lx_end ⟨by kernel_rfl, ?_⟩
          refine pe_round (⟨(j + 1), by omega, allI_step hj2 hst⟩) (by dsimp only; omega) (pe_st hC ?_ ?_ rfl)
          ·try dsimp only [List.cons_append, List.nil_append]
           first | refine SubF.cons rfl ?_ | (refine SubF.ent rfl ?_ ?_; · exact ent_auto)
           first | refine SubF.cons rfl ?_ | (refine SubF.ent rfl ?_ ?_; · exact ent_auto)
           first | refine SubF.cons rfl ?_ | (refine SubF.ent rfl ?_ ?_; · exact ent_auto)
           exact SubF.nil
          ·try dsimp only [List.cons_append, List.nil_append]
           repeat (first | exact SubL.nil | refine SubL.cons rfl ?_)
        ·(try simp only [cq1, cq2, cq3, cq4, cq5, cq6, cq7, cq8, cq9, cq10, cq11, cq12, cq13] at h103)
         have hyes := fn_yes hf1 (allI_end hj2 (by omega : k ≤ j))
         refine tr_exit ?_
         refine pe_then_exit ?_
         refine pe_then_exit ?_
         refine pe_block_eq ?_
         refine pe_block_normal ?_
         refine pe_then_normal ?_
         refine tr_sub hC (.cons (t := 1) rfl (.cons (t := 6) rfl .nil)) (.cons (t := 1) rfl .nil) rfl ?_
         refine tr_region (fun N16 hN => ?_)
         refine lx (op_move rfl) rfl ?_
         refine lx (op_add rfl rfl (by omega)) rfl ?_
         refine lx (op_assign rfl) rfl ?_
         refine lx_end ⟨by kernel_rfl, ?_⟩
         refine pe_round (⟨(k + 1), by omega, allI_step hk2 hyes⟩) (by dsimp only; omega) (pe_st hC ?_ ?_ rfl)
         ·try dsimp only [List.cons_append, List.nil_append]
          first | refine SubF.cons rfl ?_ | (refine SubF.ent rfl ?_ ?_; · exact ent_auto)
          first | refine SubF.cons rfl ?_ | (refine SubF.ent rfl ?_ ?_; · exact ent_auto)
          exact SubF.nil
         ·try dsimp only [List.cons_append, List.nil_append]
          repeat (first | exact SubL.nil | refine SubL.cons rfl ?_)
     ·(try simp only [cq1, cq2, cq3, cq4, cq5, cq6, cq7, cq8, cq9, cq10, cq11, cq12, cq13] at h90)
      have hfin := prog_y hh hgl (allI_end hk2 (by omega : p.funcs.length ≤ k))
      refine tr_exit ?_
      refine pe_then_exit ?_
      refine pe_then_exit ?_
      refine pe_block_eq ?_
      refine pe_then_normal ?_
      refine tr_sub hC .nil .nil rfl ?_
      refine tr_seq ?_
      refine tr_region (fun N24 hN => ?_)
      refine lx (op_assign rfl) rfl ?_
      refine lx_end ⟨by kernel_rfl, ?_⟩
      refine pe_then_normal ?_
      refine tr_sub hC (.cons (t := 2) rfl .nil) .nil rfl ?_
      refine tr_ret ?_
      refine pe_ret1 rfl hO rfl (.tmp rfl .nil) ?_
      rw [hfin]
      exact ent_auto
end Go.Proofs.Ythiknhmoefbanaa


set_option linter.unusedVariables false
set_option linter.unusedSimpArgs false
namespace Go.Proofs.Ythiknhmoefbanaa
open Go.AL Go.Ch Go.Hp Go.RowKit
theorem fn13 : fnB Try.prog 13 = true := by kernel_rfl
theorem fn14 : fnB Try.prog 14 = true := by kernel_rfl
theorem fn15 : fnB Try.prog 15 = true := by kernel_rfl
theorem fn21 : fnB Try.prog 21 = true := by kernel_rfl
theorem fn23 : fnB Try.prog 23 = true := by kernel_rfl
theorem fn25 : fnB Try.prog 25 = true := by kernel_rfl
theorem fn27 : fnB Try.prog 27 = true := by kernel_rfl
theorem fn29 : fnB Try.prog 29 = true := by kernel_rfl
theorem fn34 : fnB Try.prog 34 = true := by kernel_rfl
theorem fs26 : sizesB Try.prog 26 = true := by kernel_rfl
theorem fs66 : sizesB Try.prog 66 = true := by kernel_rfl
theorem fs80 : sizesB Try.prog 80 = true := by kernel_rfl
theorem ze26 : zeroB Try.prog 26 = some (some (.agg #[.slice none 0 0, .slice none 0 0, .slice none 0 0, .int .i64 0])) := by kernel_rfl
theorem copyG_ok (g : Gr) (hb : BdG 4000000 g) : FnP Try.prog 16 [aggP g.ps] (aggP g.ps) := by
 refine fn_pure' Try.func16 rfl Try.ntmps16 rfl ?_
 intro σ0 M ex Rf R hC hO
 simp only [frameOf, tokOf]
 refine tr_seq ?_
 refine tr_region (fun N0 hN => ?_)
 refine lxn (op_box (m := 1) (k := 1) rfl (.agg rfl) (by first | exact hC.low _ (by decide) | rfl)) rfl ?_
 refine lxn (op_alloc (m := 2) (k := 2) (ps := [eqP (.int .i64 0), eqP (.int .i64 0), eqP (.int .i64 0), eqP (.slice none 0 0)]) ze29 rfl rfl (by first | exact hC.low _ (by decide) | rfl)) rfl ?_
 refine lx_end ⟨by kernel_rfl, ?_⟩
 refine pe_then_normal ?_
 refine tr_sub hC (.cons (t := 1) rfl (.cons (t := 2) rfl .nil)) (.cons (t := 1) rfl (.cons (t := 2) rfl .nil)) rfl ?_
 refine tr_seq ?_
 refine tr_region (fun N1 hN => ?_)
 refine lx (op_assign rfl) rfl ?_
 refine lx_end ⟨by kernel_rfl, ?_⟩
 refine pe_then_normal ?_
 refine tr_sub hC (.cons (t := 1) rfl (.cons (t := 2) rfl (.cons (t := 3) rfl .nil))) (.cons (t := 1) rfl (.cons (t := 2) rfl .nil)) rfl ?_
 refine tr_seq ?_
 refine tr_seq ?_
 refine tr_region (fun N2 hN => ?_)
 refine lx (op_assign rfl) rfl ?_
 refine lx_end ⟨by kernel_rfl, ?_⟩
 refine pe_then_normal ?_
 refine tr_sub hC (.cons (t := 1) rfl (.cons (t := 2) rfl (.cons (t := 3) rfl (.cons (t := 4) rfl .nil)))) (.cons (t := 1) rfl (.cons (t := 2) rfl .nil)) rfl ?_
 refine tr_block ?_
 refine tr_nilrow Fm.ps 9 60 3 600 rfl (by first | exact hC.low _ (by decide) | rfl) (fun idN => ?_)
 refine tr_loopK (α := {zz : Nat × (List Fm) × AL.Id // zz.1 ≤ g.frames.length ∧ zz.2.1 = g.frames.take zz.1}) (⟨(0, [], idN), Nat.zero_le _, rfl⟩) (fun zz => [(3, rowP zz.1.2.2 Fm.ps 9 zz.1.2.1), (4, eqP (.int .i64 (zz.1.1 : Int)))]) (fun zz => [(600, some (zz.1.2.2, tail 60 9 (zz.1.2.1.length * 9)))]) (fun zz => g.frames.length - zz.1.1) hC (.cons (t := 1) rfl (.cons (t := 2) rfl .nil)) (.cons (t := 1) rfl (.cons (t := 2) rfl .nil)) rfl ?_ ?_ (fun zz => ?_)
 ·try dsimp only [List.cons_append, List.nil_append]
  first | refine SubF.cons rfl ?_ | (refine SubF.ent rfl ?_ ?_; · exact ent_auto)
  first | refine SubF.cons rfl ?_ | (refine SubF.ent rfl ?_ ?_; · exact ent_auto)
  exact SubF.nil
 ·try dsimp only [List.cons_append, List.nil_append]
  repeat (first | exact SubL.nil | refine SubL.cons rfl ?_)
 ·obtain ⟨⟨k, fs, i⟩, hk1, hfs⟩ := zz
  try dsimp only at hk1
  try dsimp only at hfs
  dsimp only [List.cons_append, List.nil_append]
  refine tr_seq ?_
  refine tr_seq ?_
  refine tr_region (fun N3 hN => ?_)
  refine lx (op_move rfl) rfl ?_
  refine lx (op_fieldAddr rfl fl29_3 sz27) rfl ?_
  refine lx (op_bload_one (m := 1) rfl rfl ag27 rfl) rfl ?_
  first | refine lx (op_len rfl el27) rfl ?_ | refine lx (op_len_row rfl el27) rfl ?_ | refine lx (op_len_mv rfl el27) rfl ?_ | refine lx (op_len_nil rfl el27) rfl ?_
  refine lx (op_lss rfl rfl) rfl ?_
  refine lx_end ⟨by kernel_rfl, ?_⟩
  refine pe_then_normal ?_
  refine tr_sub hC (.cons (t := 1) rfl (.cons (t := 2) rfl (.cons (t := 3) rfl (.cons (t := 4) rfl (.cons (t := 12) rfl .nil))))) (.cons (t := 600) rfl (.cons (t := 1) rfl (.cons (t := 2) rfl .nil))) rfl ?_
  refine tr_cond rfl (fun h12 => ?_) (fun h12 => ?_)
  ·(try simp only [cq1, cq2, cq3, cq4, cq5, cq6, cq7, cq8, cq9, cq10, cq11, cq12, cq13] at h12)
   have hbk := hb.each _ (List.getElem_mem (by omega : k < g.frames.length))
   have hbr := hbk.regs
   have hbd := hbk.defers
   have hfl : fs.length ≤ k := by rw [hfs, List.length_take]; omega
   have hbf := hb.frames
   refine tr_skip ?_
   refine pe_then_normal ?_
   refine tr_sub hC (.cons (t := 1) rfl (.cons (t := 2) rfl (.cons (t := 3) rfl (.cons (t := 4) rfl .nil)))) (.cons (t := 600) rfl (.cons (t := 1) rfl (.cons (t := 2) rfl .nil))) rfl ?_
   refine tr_seq ?_
   refine tr_block ?_
   refine tr_seq ?_
   refine tr_region (fun N5 hN => ?_)
   refine lx (op_fieldAddr rfl fl29_3 sz27) rfl ?_
   refine lx (op_bload_one (m := 1) rfl rfl ag27 rfl) rfl ?_
   refine lx (op_move rfl) rfl ?_
   refine lx (op_index rfl rfl el27 sz60 rfl (List.getElem?_eq_getElem (by omega : k < g.frames.length))) rfl ?_
   first | refine lx (op_load_all rfl ag60 sz60) rfl ?_ | refine lx (op_load_agg rfl ag60 sz60 rfl) rfl ?_ | refine lx (op_bload (m := 600) rfl rfl ag60 sz60) rfl ?_ | refine lx (op_bload (m := 1) rfl rfl ag60 sz60) rfl ?_ | refine lx (op_bload (m := 2) rfl rfl ag60 sz60) rfl ?_ | refine lx (op_bload_part (m := 600) (qs := [_, _, _, _, _, _, _, _, _]) rfl rfl ag60 sz60 rfl rfl) rfl ?_ | refine lx (op_bload_part (m := 1) (qs := [_, _, _, _, _, _, _, _, _]) rfl rfl ag60 sz60 rfl rfl) rfl ?_ | refine lx (op_bload_part (m := 2) (qs := [_, _, _, _, _, _, _, _, _]) rfl rfl ag60 sz60 rfl rfl) rfl ?_
   refine lxn (op_alloc (m := 5) (k := 5) (ps := [eqP (.int .i64 0), eqP (.int .i64 0), eqP (.slice none 0 0), eqP (.int .i64 0), eqP (.slice none 0 0), eqP (.bool false), eqP (.int .i64 0), eqP (.int .i64 0), eqP (.int .i64 0)]) ze60 rfl rfl (by first | exact hC.low _ (by decide) | rfl)) rfl ?_
   refine lxr (op_store_all (m := 5) rfl rfl rfl (.agg rfl) sz60 rfl) rfl ?_
   refine lx_end ⟨by kernel_rfl, ?_⟩
   refine pe_then_normal ?_
   refine tr_sub hC (.cons (t := 1) rfl (.cons (t := 2) rfl (.cons (t := 3) rfl (.cons (t := 4) rfl (.cons (t := 5) rfl .nil))))) (.cons (t := 600) rfl (.cons (t := 1) rfl (.cons (t := 2) rfl (.cons (t := 5) rfl .nil)))) rfl ?_
   refine tr_seq ?_
   refine tr_region (fun N6 hN => ?_)
   refine lxn (op_buildEmpty (m' := 20) (kk := 20) (f := vp) el33 sz43 (by first | exact hC.low _ (by decide) | rfl)) rfl ?_
   refine lx (op_fieldAddr rfl fl60_2 sz33) rfl ?_
   refine lx (op_bload_one (m := 5) rfl rfl ag33 rfl) rfl ?_
   refine lxr (OpJ.ent (op_append (m := 20) (m' := 23) (kk := 23) rfl rfl rfl (.inr (by first | exact hC.low _ (by decide) | rfl)) el33 ze43 sz43 by43 rfl vp_len (by simp; omega) (by simp; omega)) (Ent.row _ _ _ _)) rfl ?_
   refine lx (op_fieldAddr rfl fl60_2 sz33) rfl ?_
   refine lxr (op_store (m := 5) (rs := [_, _, _, _, _, _, _, _, _]) rfl rfl rfl (.one (by (first | exact One.eq rfl | exact One.mv _ _ _ _ _ | exact One.cl _ _ _ | exact One.map _ | exact One.sl _ _ _ | exact One.row _ _ _ _ | exact One.msl _ _ _ _ | exact One.ptr _ _ | exact One.b _ | exact One.cells _))) sz33 rfl rfl rfl) rfl ?_
   refine lx_end ⟨by kernel_rfl, ?_⟩
   refine pe_then_normal ?_
   refine tr_sub hC (.cons (t := 1) rfl (.cons (t := 2) rfl (.cons (t := 3) rfl (.cons (t := 4) rfl (.cons (t := 5) rfl .nil))))) (.cons (t := 600) rfl (.cons (t := 1) rfl (.cons (t := 2) rfl (.cons (t := 5) rfl .nil)))) rfl ?_
   refine tr_seq ?_
   refine tr_region (fun N7 hN => ?_)
   refine lx (op_assign rfl) rfl ?_
   refine lx_end ⟨by kernel_rfl, ?_⟩
   refine pe_then_normal ?_
   refine tr_sub hC (.cons (t := 1) rfl (.cons (t := 2) rfl (.cons (t := 3) rfl (.cons (t := 4) rfl (.cons (t := 5) rfl (.cons (t := 6) rfl .nil)))))) (.cons (t := 600) rfl (.cons (t := 1) rfl (.cons (t := 2) rfl (.cons (t := 5) rfl .nil)))) rfl ?_
   refine tr_seq ?_
   refine tr_seq ?_
   refine tr_region (fun N8 hN => ?_)
   refine lx (op_assign rfl) rfl ?_
   refine lx_end ⟨by kernel_rfl, ?_⟩
   refine pe_then_normal ?_
   refine tr_sub hC (.cons (t := 1) rfl (.cons (t := 2) rfl (.cons (t := 3) rfl (.cons (t := 4) rfl (.cons (t := 5) rfl (.cons (t := 6) rfl (.cons (t := 7) rfl .nil))))))) (.cons (t := 600) rfl (.cons (t := 1) rfl (.cons (t := 2) rfl (.cons (t := 5) rfl .nil)))) rfl ?_
   refine tr_block ?_
   refine tr_nilrow Df.ps 2 47 6 601 rfl (by first | exact hC.low _ (by decide) | rfl) (fun idN => ?_)
   refine tr_loopK (α := {zz : Nat × (List Df) × AL.Id // zz.1 ≤ g.frames[k].defers.length ∧ zz.2.1 = g.frames[k].defers.take zz.1}) (⟨(0, [], idN), Nat.zero_le _, rfl⟩) (fun zz => [(6, rowP zz.1.2.2 Df.ps 2 zz.1.2.1), (7, eqP (.int .i64 (zz.1.1 : Int)))]) (fun zz => [(601, some (zz.1.2.2, tail 47 2 (zz.1.2.1.length * 2)))]) (fun zz => g.frames[k].defers.length - zz.1.1) hC (.cons (t := 1) rfl (.cons (t := 2) rfl (.cons (t := 3) rfl (.cons (t := 4) rfl (.cons (t := 5) rfl .nil))))) (.cons (t := 600) rfl (.cons (t := 1) rfl (.cons (t := 2) rfl (.cons (t := 5) rfl .nil)))) rfl ?_ ?_ (fun zz => ?_)
   ·try dsimp only [List.cons_append, List.nil_append]
    first | refine SubF.cons rfl ?_ | (refine SubF.ent rfl ?_ ?_; · exact ent_auto)
    first | refine SubF.cons rfl ?_ | (refine SubF.ent rfl ?_ ?_; · exact ent_auto)
    exact SubF.nil
   ·try dsimp only [List.cons_append, List.nil_append]
    repeat (first | exact SubL.nil | refine SubL.cons rfl ?_)
   ·obtain ⟨⟨j, ds, i2⟩, hj1, hds⟩ := zz
    try dsimp only at hj1
    try dsimp only at hds
    dsimp only [List.cons_append, List.nil_append]
    refine tr_seq ?_
    refine tr_seq ?_
    refine tr_region (fun N9 hN => ?_)
    refine lx (op_move rfl) rfl ?_
    refine lx (op_fieldAddr rfl fl60_4 sz58) rfl ?_
    refine lx (op_bload_one (m := 5) rfl rfl ag58 rfl) rfl ?_
    first | refine lx (op_len rfl el58) rfl ?_ | refine lx (op_len_row rfl el58) rfl ?_ | refine lx (op_len_mv rfl el58) rfl ?_ | refine lx (op_len_nil rfl el58) rfl ?_
    refine lx (op_lss rfl rfl) rfl ?_
    refine lx_end ⟨by kernel_rfl, ?_⟩
    refine pe_then_normal ?_
    refine tr_sub hC (.cons (t := 1) rfl (.cons (t := 2) rfl (.cons (t := 3) rfl (.cons (t := 4) rfl (.cons (t := 5) rfl (.cons (t := 6) rfl (.cons (t := 7) rfl (.cons (t := 29) rfl .nil)))))))) (.cons (t := 601) rfl (.cons (t := 600) rfl (.cons (t := 1) rfl (.cons (t := 2) rfl (.cons (t := 5) rfl .nil))))) rfl ?_
    refine tr_cond rfl (fun h29 => ?_) (fun h29 => ?_)
    ·(try simp only [cq1, cq2, cq3, cq4, cq5, cq6, cq7, cq8, cq9, cq10, cq11, cq12, cq13] at h29)
     have hba := hbk.args _ (List.getElem_mem (by omega : j < g.frames[k].defers.length))
     have hdl : ds.length ≤ j := by rw [hds, List.length_take]; omega
     refine tr_skip ?_
     refine pe_then_normal ?_
     refine tr_sub hC (.cons (t := 1) rfl (.cons (t := 2) rfl (.cons (t := 3) rfl (.cons (t := 4) rfl (.cons (t := 5) rfl (.cons (t := 6) rfl (.cons (t := 7) rfl .nil))))))) (.cons (t := 601) rfl (.cons (t := 600) rfl (.cons (t := 1) rfl (.cons (t := 2) rfl (.cons (t := 5) rfl .nil))))) rfl ?_
     refine tr_seq ?_
     refine tr_block ?_
     refine tr_drawn mixed (fun N11 hN => ?_)
     refine lx (op_move rfl) rfl ?_
     refine lx (op_fieldAddr rfl fl60_4 sz58) rfl ?_
     refine lx (op_bload_one (m := 5) rfl rfl ag58 rfl) rfl ?_
     refine lx (op_move rfl) rfl ?_
     refine lx (op_index rfl rfl el58 sz47 rfl (List.getElem?_eq_getElem (by omega : j < g.frames[k].defers.length))) rfl ?_
     first | refine lx (op_fieldAddr rfl fl47_0 sz3) rfl ?_ | refine lx (op_fieldCells rfl fl47_0 sz3) rfl ?_
     first | refine lx (op_load_one rfl ag3 rfl) rfl ?_ | refine lx (op_bload_one (m := 601) rfl rfl ag3 rfl) rfl ?_ | refine lx (op_bload_one (m := 600) rfl rfl ag3 rfl) rfl ?_ | refine lx (op_bload_one (m := 1) rfl rfl ag3 rfl) rfl ?_ | refine lx (op_bload_one (m := 2) rfl rfl ag3 rfl) rfl ?_ | refine lx (op_bload_one (m := 5) rfl rfl ag3 rfl) rfl ?_
     refine lxn (op_buildEmpty (m' := 39) (kk := 39) (f := vp) el33 sz43 (by first | exact hC.low _ (by decide) | rfl)) rfl ?_
     refine lx (op_fieldAddr rfl fl60_4 sz58) rfl ?_
     refine lx (op_bload_one (m := 5) rfl rfl ag58 rfl) rfl ?_
     refine lx (op_move rfl) rfl ?_
     refine lx (op_index rfl rfl el58 sz47 rfl (List.getElem?_eq_getElem (by omega : j < g.frames[k].defers.length))) rfl ?_
     first | refine lx (op_fieldAddr rfl fl47_1 sz33) rfl ?_ | refine lx (op_fieldCells rfl fl47_1 sz33) rfl ?_
     first | refine lx (op_load_one rfl ag33 rfl) rfl ?_ | refine lx (op_bload_one (m := 601) rfl rfl ag33 rfl) rfl ?_ | refine lx (op_bload_one (m := 600) rfl rfl ag33 rfl) rfl ?_ | refine lx (op_bload_one (m := 1) rfl rfl ag33 rfl) rfl ?_ | refine lx (op_bload_one (m := 2) rfl rfl ag33 rfl) rfl ?_ | refine lx (op_bload_one (m := 5) rfl rfl ag33 rfl) rfl ?_ | refine lx (op_bload_one (m := 39) rfl rfl ag33 rfl) rfl ?_
     refine lxr (OpJ.ent (op_append (m := 39) (m' := 46) (kk := 46) rfl rfl rfl (.inr (by first | exact hC.low _ (by decide) | rfl)) el33 ze43 sz43 by43 rfl vp_len (by simp; omega) (by simp; omega)) (Ent.row _ _ _ _)) rfl ?_
     refine lx (op_build (qs := [_, _]) (parts := [(0, (Go.Operand.tmp 38)), (1, (Go.Operand.tmp 46))]) ze47 rfl rfl fs47 (.cons rfl (.one (by (first | exact One.eq rfl | exact One.mv _ _ _ _ _ | exact One.cl _ _ _ | exact One.map _ | exact One.sl _ _ _ | exact One.row _ _ _ _ | exact One.msl _ _ _ _ | exact One.ptr _ _ | exact One.b _ | exact One.cells _))) fl47_0 sz3 rfl (.cons rfl (.one (by (first | exact One.eq rfl | exact One.mv _ _ _ _ _ | exact One.cl _ _ _ | exact One.map _ | exact One.sl _ _ _ | exact One.row _ _ _ _ | exact One.msl _ _ _ _ | exact One.ptr _ _ | exact One.b _ | exact One.cells _))) fl47_1 sz33 rfl .nil)) rfl rfl) rfl ?_
     refine lx (op_buildSlice (f := Df.ps) (xs := [g.frames[k].defers[j]]) (l := [(0, (Go.Operand.tmp 47))]) ze47 rfl rfl (by decide) el58 sz47 Df.len (.cons rfl (.agg rfl) .nil) rfl (by decide)) rfl ?_
     refine lxr (op_append (m := 601) (m' := 601) (kk := 49) rfl rfl rfl (.inl rfl) el58 ze47 sz47 by47 rfl Df.len (by rw [List.length_singleton]; omega) (by rw [List.length_singleton]; omega)) rfl ?_
     refine lx (op_assign rfl) rfl ?_
     refine lx_end ⟨by kernel_rfl, ?_⟩
     refine pe_block_normal ?_
     refine pe_then_normal ?_
     refine tr_sub hC (.cons (t := 1) rfl (.cons (t := 2) rfl (.cons (t := 3) rfl (.cons (t := 4) rfl (.cons (t := 5) rfl (.cons (t := 6) rfl (.cons (t := 7) rfl .nil))))))) (.cons (t := 600) rfl (.cons (t := 1) rfl (.cons (t := 2) rfl (.cons (t := 5) rfl (.cons (t := 601) rfl .nil))))) rfl ?_
     refine tr_region (fun N10 hN => ?_)
     refine lx (op_move rfl) rfl ?_
     refine lx (op_add rfl rfl (by omega)) rfl ?_
     refine lx (op_assign rfl) rfl ?_
     refine lx_end ⟨by kernel_rfl, ?_⟩
     refine pe_round (⟨(j + 1, ds ++ [g.frames[k].defers[j]], (N11, 49)), by dsimp only; omega, by dsimp only; rw [hds, take_at (by omega : j < g.frames[k].defers.length)]⟩) (by dsimp only; omega) (pe_st hC ?_ ?_ rfl)
     ·try dsimp only [List.cons_append, List.nil_append]
      first | refine SubF.cons rfl ?_ | (refine SubF.ent rfl ?_ ?_; · exact ent_auto)
      first | refine SubF.cons rfl ?_ | (refine SubF.ent rfl ?_ ?_; · exact ent_auto)
      first | refine SubF.cons rfl ?_ | (refine SubF.ent rfl ?_ ?_; · exact ent_auto)
      first | refine SubF.cons rfl ?_ | (refine SubF.ent rfl ?_ ?_; · exact ent_auto)
      first | refine SubF.cons rfl ?_ | (refine SubF.ent rfl ?_ ?_; · exact ent_auto)
      first | refine SubF.cons rfl ?_ | (refine SubF.ent rfl ?_ ?_; · exact ent_auto)
      first | refine SubF.cons rfl ?_ | (refine SubF.ent rfl ?_ ?_; · exact ent_auto)
      exact SubF.nil
     ·try dsimp only [List.cons_append, List.nil_append]
      repeat (first | exact SubL.nil | refine SubL.cons rfl ?_)
    ·(try simp only [cq1, cq2, cq3, cq4, cq5, cq6, cq7, cq8, cq9, cq10, cq11, cq12, cq13] at h29)
     have hdf : ds = g.frames[k].defers := by rw [hds, List.take_of_length_le (by omega)]
     refine tr_exit ?_
     refine pe_then_exit ?_
     refine pe_then_exit ?_
     refine pe_block_eq ?_
     refine pe_then_normal ?_
     refine tr_sub hC (.cons (t := 1) rfl (.cons (t := 2) rfl (.cons (t := 3) rfl (.cons (t := 4) rfl (.cons (t := 5) rfl (.cons (t := 6) rfl .nil)))))) (.cons (t := 601) rfl (.cons (t := 600) rfl (.cons (t := 1) rfl (.cons (t := 2) rfl (.cons (t := 5) rfl .nil))))) rfl ?_
     refine tr_sub hC (.cons (t := 1) rfl (.cons (t := 2) rfl (.cons (t := 3) rfl (.cons (t := 4) rfl (.cons (t := 5) rfl (.ent (t := 6) rfl ((show Ent _ (slP Df.ps 2 g.frames[k].defers) from Ent.trans (Ent.row _ _ _ _) (Ent.of_eq (by rw [hdf])))) .nil)))))) (.cons (t := 601) rfl (.cons (t := 600) rfl (.cons (t := 1) rfl (.cons (t := 2) rfl (.cons (t := 5) rfl .nil))))) rfl ?_
     refine tr_seq ?_
     refine tr_region (fun N12 hN => ?_)
     refine lx (op_move rfl) rfl ?_
     refine lx (op_fieldAddr rfl fl60_4 sz58) rfl ?_
     refine lxr (op_store (m := 5) (rs := [_, _, _, _, _, _, _, _, _]) rfl rfl rfl (.one (by (first | exact One.eq rfl | exact One.mv _ _ _ _ _ | exact One.cl _ _ _ | exact One.map _ | exact One.sl _ _ _ | exact One.row _ _ _ _ | exact One.msl _ _ _ _ | exact One.ptr _ _ | exact One.b _ | exact One.cells _))) sz58 rfl rfl rfl) rfl ?_
     refine lx_end ⟨by kernel_rfl, ?_⟩
     refine pe_then_normal ?_
     refine tr_sub hC (.cons (t := 1) rfl (.cons (t := 2) rfl (.cons (t := 3) rfl (.cons (t := 4) rfl (.cons (t := 5) rfl .nil))))) (.cons (t := 601) rfl (.cons (t := 600) rfl (.cons (t := 1) rfl (.cons (t := 2) rfl (.cons (t := 5) rfl .nil))))) rfl ?_
     refine tr_region (fun N13 hN => ?_)
     refine lx (op_move rfl) rfl ?_
     refine lx (op_bload (m := 5) rfl rfl ag60 sz60) rfl ?_
     refine lx (op_buildSlice (f := Fm.ps) (xs := [g.frames[k]]) (l := [(0, (Go.Operand.tmp 53))]) ze60 rfl rfl (by decide) el27 sz60 Fm.len (.cons rfl (.agg rfl) .nil) rfl (by decide)) rfl ?_
     refine lxr (op_append (m := 600) (m' := 600) (kk := 55) rfl rfl rfl (.inl rfl) el27 ze60 sz60 by60 rfl Fm.len (by rw [List.length_singleton]; omega) (by rw [List.length_singleton]; omega)) rfl ?_
     refine lx (op_assign rfl) rfl ?_
     refine lx_end ⟨by kernel_rfl, ?_⟩
     refine pe_block_normal ?_
     refine pe_then_normal ?_
     refine tr_sub hC (.cons (t := 1) rfl (.cons (t := 2) rfl (.cons (t := 3) rfl (.cons (t := 4) rfl .nil)))) (.cons (t := 601) rfl (.cons (t := 1) rfl (.cons (t := 2) rfl (.cons (t := 600) rfl .nil)))) rfl ?_
     refine tr_region (fun N4 hN => ?_)
     refine lx (op_move rfl) rfl ?_
     refine lx (op_add rfl rfl (by omega)) rfl ?_
     refine lx (op_assign rfl) rfl ?_
     refine lx_end ⟨by kernel_rfl, ?_⟩
     refine pe_round (⟨(k + 1, fs ++ [g.frames[k]], (N13, 55)), by dsimp only; omega, by dsimp only; rw [hfs, take_at (by omega : k < g.frames.length)]⟩) (by dsimp only; omega) (pe_st hC ?_ ?_ rfl)
     ·try dsimp only [List.cons_append, List.nil_append]
      first | refine SubF.cons rfl ?_ | (refine SubF.ent rfl ?_ ?_; · exact ent_auto)
      first | refine SubF.cons rfl ?_ | (refine SubF.ent rfl ?_ ?_; · exact ent_auto)
      first | refine SubF.cons rfl ?_ | (refine SubF.ent rfl ?_ ?_; · exact ent_auto)
      first | refine SubF.cons rfl ?_ | (refine SubF.ent rfl ?_ ?_; · exact ent_auto)
      exact SubF.nil
     ·try dsimp only [List.cons_append, List.nil_append]
      repeat (first | exact SubL.nil | refine SubL.cons rfl ?_)
  ·(try simp only [cq1, cq2, cq3, cq4, cq5, cq6, cq7, cq8, cq9, cq10, cq11, cq12, cq13] at h12)
   have hfin : fs = g.frames := by rw [hfs, List.take_of_length_le (by omega)]
   refine tr_exit ?_
   refine pe_then_exit ?_
   refine pe_then_exit ?_
   refine pe_block_eq ?_
   refine pe_then_normal ?_
   refine tr_sub hC (.cons (t := 1) rfl (.cons (t := 2) rfl (.cons (t := 3) rfl .nil))) (.cons (t := 600) rfl (.cons (t := 1) rfl (.cons (t := 2) rfl .nil))) rfl ?_
   refine tr_sub hC (.cons (t := 1) rfl (.cons (t := 2) rfl (.ent (t := 3) rfl ((show Ent _ (slP Fm.ps 9 g.frames) from Ent.trans (Ent.row _ _ _ _) (Ent.of_eq (by rw [hfin])))) .nil))) (.cons (t := 600) rfl (.cons (t := 1) rfl (.cons (t := 2) rfl .nil))) rfl ?_
   refine tr_seq ?_
   refine tr_region (fun N14 hN => ?_)
   refine lx (op_move rfl) rfl ?_
   refine lx (op_fieldAddr rfl fl29_3 sz27) rfl ?_
   refine lxr (op_store (m := 1) (rs := [_, _, _, _]) rfl rfl rfl (.one (by (first | exact One.eq rfl | exact One.mv _ _ _ _ _ | exact One.cl _ _ _ | exact One.map _ | exact One.sl _ _ _ | exact One.row _ _ _ _ | exact One.msl _ _ _ _ | exact One.ptr _ _ | exact One.b _ | exact One.cells _))) sz27 rfl rfl rfl) rfl ?_
   refine lx_end ⟨by kernel_rfl, ?_⟩
   refine pe_then_normal ?_
   refine tr_sub hC (.cons (t := 1) rfl (.cons (t := 2) rfl .nil)) (.cons (t := 600) rfl (.cons (t := 1) rfl (.cons (t := 2) rfl .nil))) rfl ?_
   refine tr_seq ?_
   refine tr_region (fun N15 hN => ?_)
   refine lx (op_bload (m := 1) rfl rfl ag29 sz29) rfl ?_
   refine lxr (op_store_all (m := 2) rfl rfl rfl (.agg rfl) sz29 rfl) rfl ?_
   refine lx_end ⟨by kernel_rfl, ?_⟩
   refine pe_then_normal ?_
   refine tr_sub hC (.cons (t := 2) rfl .nil) (.cons (t := 600) rfl (.cons (t := 2) rfl .nil)) rfl ?_
   refine tr_ret ?_
   refine pe_ret1 rfl hO rfl (.cell (m := 2) rfl rfl ag29 sz29 .nil) ?_
   exact ent_auto
abbrev exI : In := ⟨30, -1, 0, 0, 0⟩
abbrev exM : Fu := ⟨⟨#[109, 97, 105, 110]⟩, 0, 1, [exI]⟩
abbrev exF : Fu := ⟨⟨#[102]⟩, 2, 3, [exI]⟩
abbrev exP : Pg := ⟨[exM, exF], [], [], 0⟩
abbrev aF (l : Bool) (r : V) (ds : List Df) (z : V) : Fm := ⟨1, 0, [⟨0, 5, 0⟩, ⟨0, 6, 0⟩, z], -1, ds, l, r⟩
abbrev aG1 : Gr := ⟨0, 0, 0, [aF false v0 [] v0]⟩
abbrev aG2 : Gr := ⟨0, 0, 0, [aF false v0 [⟨0, []⟩] v0]⟩
abbrev aG3 : Gr := ⟨0, 0, 0, [aF true ⟨0, 1, 0⟩ [] v0, ⟨0, 0, [v0], -1, [], false, v0⟩]⟩
abbrev aG4 : Gr := ⟨2, 0, 0, []⟩
abbrev aG5 : Gr := ⟨0, 0, 0, [aF false v0 [] ⟨0, 9, 0⟩]⟩
theorem bdG_ble {n : Nat} {g : Gr} (h : (Nat.ble g.frames.length n && g.frames.all (fun f => Nat.ble f.regs.length n && Nat.ble f.defers.length n && f.defers.all fun d => Nat.ble d.args.length n)) = true) : BdG n g := by
 simp only [Bool.and_eq_true, Nat.ble_eq, List.all_eq_true] at h
 exact ⟨h.1, fun f hf => ⟨(h.2 f hf).1.1, (h.2 f hf).1.2, (h.2 f hf).2⟩⟩
theorem exPOK : POK exP := by
 intro f hf
 simp only [exP, List.mem_cons, List.not_mem_nil, or_false] at hf
 rcases hf with rfl | rfl <;> decide
theorem Enter_a : FnP Try.prog 17 [aggP exP.ps, aggP gr0.ps, eqP (.int .i64 1), slP vp 3 [⟨0, 5, 0⟩, ⟨0, 6, 0⟩], eqP (.int .i64 (-1))] (tupP [aggP aG1.ps, eqP (.int .i64 0)]) := by
 have := Enter_ok exP exPOK gr0 (bdG_ble rfl) (by decide) 1 [⟨0, 5, 0⟩, ⟨0, 6, 0⟩] (-1)
 rwa [show enterF exP gr0 1 [⟨0, 5, 0⟩, ⟨0, 6, 0⟩] (-1) = (aG1, 0) by decide] at this
theorem Reg_a (g : Gr) (r : Int) (v : V) (hb : BdG 1048576 g) (hn : g.frames.length ≤ 100000) (h : regF g r = v) : FnP Try.prog 27 [aggP g.ps, eqP (.int .i64 r)] (aggP (vp v)) := by
 have := Reg_ok g hb hn r
 rwa [h] at this
theorem Defer_a : FnP Try.prog 23 [aggP aG1.ps, aggP (Df.ps ⟨0, []⟩)] (aggP aG2.ps) := by
 have := Defer_ok aG1 (bdG_ble rfl) (by decide) ⟨0, []⟩ (by decide)
 rwa [show deferF aG1 ⟨0, []⟩ = aG2 by decide] at this
theorem Leave_a (g g' : Gr) (v : V) (hb : BdG 1048576 g) (hn : g.frames.length ≤ 100000) (h : leaveF exP g v = g') : FnP Try.prog 21 [aggP exP.ps, aggP g.ps, aggP (vp v)] (aggP g'.ps) := by
 have := Leave_ok exP exPOK g hb hn v
 rwa [h] at this
theorem Set_a : FnP Try.prog 25 [aggP aG1.ps, eqP (.int .i64 2), aggP (vp ⟨0, 9, 0⟩)] (aggP aG5.ps) := by
 have := Set_ok aG1 (bdG_ble rfl) (by decide) 2 ⟨0, 9, 0⟩
 rwa [show setF aG1 2 ⟨0, 9, 0⟩ = aG5 by decide] at this
theorem example_ok  : FnP Try.prog 34 [] (aggP exP.ps) := by
 refine fn_pure' Try.func34 rfl Try.ntmps34 rfl ?_
 intro σ0 M ex Rf R hC hO
 simp only [frameOf, tokOf]
 refine tr_seq ?_
 refine tr_region (fun N0 hN => ?_)
 refine lxn (op_alloc (m := 0) (k := 0) (ps := [eqP (.slice none 0 0), eqP (.slice none 0 0), eqP (.slice none 0 0), eqP (.int .i64 0)]) ze26 rfl rfl (by first | exact hC.low _ (by decide) | rfl)) rfl ?_
 refine lx_end ⟨by kernel_rfl, ?_⟩
 refine pe_then_normal ?_
 refine tr_sub hC (.cons (t := 0) rfl .nil) (.cons (t := 0) rfl .nil) rfl ?_
 refine tr_seq ?_
 refine tr_region (fun N1 hN => ?_)
 refine lx (OpJ.ent (op_build (qs := [_, _, _, _, _]) (parts := [(0, (Go.Operand.const (Go.Value.int Go.IntKind.i64 30))), (1, (Go.Operand.const (Go.Value.int Go.IntKind.i64 (-1))))]) ze80 rfl rfl fs80 (.cons rfl (.one (by (first | exact One.eq rfl | exact One.mv _ _ _ _ _ | exact One.cl _ _ _ | exact One.map _ | exact One.sl _ _ _ | exact One.row _ _ _ _ | exact One.msl _ _ _ _ | exact One.ptr _ _ | exact One.b _ | exact One.cells _))) fl80_0 sz3 rfl (.cons rfl (.one (by (first | exact One.eq rfl | exact One.mv _ _ _ _ _ | exact One.cl _ _ _ | exact One.map _ | exact One.sl _ _ _ | exact One.row _ _ _ _ | exact One.msl _ _ _ _ | exact One.ptr _ _ | exact One.b _ | exact One.cells _))) fl80_1 sz3 rfl .nil)) rfl rfl) (show Ent _ (aggP (In.ps exI)) from (by exact ent_auto))) rfl ?_
 refine lx (op_buildSlice (f := In.ps) (xs := [exI]) (l := [(0, (Go.Operand.tmp 2))]) ze80 rfl rfl (by decide) el64 sz80 In.len (.cons rfl (.agg rfl) .nil) rfl (by decide)) rfl ?_
 refine lx (op_assign rfl) rfl ?_
 refine lx_end ⟨by kernel_rfl, ?_⟩
 refine pe_then_normal ?_
 refine tr_sub hC (.cons (t := 0) rfl (.cons (t := 1) rfl .nil)) (.cons (t := 0) rfl .nil) rfl ?_
 refine tr_seq ?_
 refine tr_region (fun N2 hN => ?_)
 refine lx (op_move rfl) rfl ?_
 refine lx (OpJ.ent (op_build (qs := [_, _, _, _]) (parts := [(0, (Go.Operand.const (Go.Value.string (ByteArray.mk #[109, 97, 105, 110])))), (2, (Go.Operand.const (Go.Value.int Go.IntKind.i64 1))), (3, (Go.Operand.tmp 4))]) ze66 rfl rfl fs66 (.cons rfl (.one (by (first | exact One.eq rfl | exact One.mv _ _ _ _ _ | exact One.cl _ _ _ | exact One.map _ | exact One.sl _ _ _ | exact One.row _ _ _ _ | exact One.msl _ _ _ _ | exact One.ptr _ _ | exact One.b _ | exact One.cells _))) fl66_0 sz9 rfl (.cons rfl (.one (by (first | exact One.eq rfl | exact One.mv _ _ _ _ _ | exact One.cl _ _ _ | exact One.map _ | exact One.sl _ _ _ | exact One.row _ _ _ _ | exact One.msl _ _ _ _ | exact One.ptr _ _ | exact One.b _ | exact One.cells _))) fl66_2 sz3 rfl (.cons rfl (.one (by (first | exact One.eq rfl | exact One.mv _ _ _ _ _ | exact One.cl _ _ _ | exact One.map _ | exact One.sl _ _ _ | exact One.row _ _ _ _ | exact One.msl _ _ _ _ | exact One.ptr _ _ | exact One.b _ | exact One.cells _))) fl66_3 sz64 rfl .nil))) rfl rfl) (show Ent _ (aggP (Fu.ps exM)) from (by exact ent_auto))) rfl ?_
 refine lx (op_move rfl) rfl ?_
 refine lx (OpJ.ent (op_build (qs := [_, _, _, _]) (parts := [(0, (Go.Operand.const (Go.Value.string (ByteArray.mk #[102])))), (1, (Go.Operand.const (Go.Value.int Go.IntKind.i64 2))), (2, (Go.Operand.const (Go.Value.int Go.IntKind.i64 3))), (3, (Go.Operand.tmp 6))]) ze66 rfl rfl fs66 (.cons rfl (.one (by (first | exact One.eq rfl | exact One.mv _ _ _ _ _ | exact One.cl _ _ _ | exact One.map _ | exact One.sl _ _ _ | exact One.row _ _ _ _ | exact One.msl _ _ _ _ | exact One.ptr _ _ | exact One.b _ | exact One.cells _))) fl66_0 sz9 rfl (.cons rfl (.one (by (first | exact One.eq rfl | exact One.mv _ _ _ _ _ | exact One.cl _ _ _ | exact One.map _ | exact One.sl _ _ _ | exact One.row _ _ _ _ | exact One.msl _ _ _ _ | exact One.ptr _ _ | exact One.b _ | exact One.cells _))) fl66_1 sz3 rfl (.cons rfl (.one (by (first | exact One.eq rfl | exact One.mv _ _ _ _ _ | exact One.cl _ _ _ | exact One.map _ | exact One.sl _ _ _ | exact One.row _ _ _ _ | exact One.msl _ _ _ _ | exact One.ptr _ _ | exact One.b _ | exact One.cells _))) fl66_2 sz3 rfl (.cons rfl (.one (by (first | exact One.eq rfl | exact One.mv _ _ _ _ _ | exact One.cl _ _ _ | exact One.map _ | exact One.sl _ _ _ | exact One.row _ _ _ _ | exact One.msl _ _ _ _ | exact One.ptr _ _ | exact One.b _ | exact One.cells _))) fl66_3 sz64 rfl .nil)))) rfl rfl) (show Ent _ (aggP (Fu.ps exF)) from (by exact ent_auto))) rfl ?_
 refine lx (op_buildSlice (f := Fu.ps) (xs := [exM, exF]) (l := [(0, (Go.Operand.tmp 5)), (1, (Go.Operand.tmp 7))]) ze66 rfl rfl (by decide) el22 sz66 Fu.len (.cons rfl (.agg rfl) (.cons rfl (.agg rfl) .nil)) rfl (by decide)) rfl ?_
 refine lx (OpJ.ent (op_build (qs := [_, _, _, _]) (parts := [(0, (Go.Operand.tmp 8))]) ze26 rfl rfl fs26 (.cons rfl (.one (by (first | exact One.eq rfl | exact One.mv _ _ _ _ _ | exact One.cl _ _ _ | exact One.map _ | exact One.sl _ _ _ | exact One.row _ _ _ _ | exact One.msl _ _ _ _ | exact One.ptr _ _ | exact One.b _ | exact One.cells _))) fl26_0 sz22 rfl .nil) rfl rfl) (show Ent _ (aggP exP.ps) from (by exact ent_auto))) rfl ?_
 refine lxr (op_store_all (m := 0) rfl rfl rfl (.agg rfl) sz26 rfl) rfl ?_
 refine lx_end ⟨by kernel_rfl, ?_⟩
 refine pe_then_normal ?_
 refine tr_sub hC (.cons (t := 0) rfl .nil) (.cons (t := 0) rfl .nil) rfl ?_
 refine tr_ret ?_
 refine pe_ret1 rfl hO rfl (.cell (m := 0) rfl rfl ag26 sz26 .nil) ?_
 exact ent_auto
theorem awake_ok  : FnP Try.prog 12 [] (eqP (.bool true)) := by
 refine fn_pure' Try.func12 rfl Try.ntmps12 rfl ?_
 intro σ0 M ex Rf R hC hO
 simp only [frameOf, tokOf]
 refine tr_seq ?_
 refine tr_region (fun N0 hN => ?_)
 refine lx (op_assign rfl) rfl ?_
 refine lx_end ⟨by kernel_rfl, ?_⟩
 refine pe_then_normal ?_
 refine tr_sub hC .nil .nil rfl ?_
 refine tr_seq ?_
 refine tr_region (fun N1 hN => ?_)
 first | refine lx (op_call (l := []) (example_ok) .nil fn34) rfl ?_ | refine lx (op_call (l := []) (example_ok) .nil fn34) rfl ?_
 refine lxn (op_alloc (m := 1) (k := 1) (ps := [eqP (.slice none 0 0), eqP (.slice none 0 0), eqP (.slice none 0 0), eqP (.int .i64 0)]) ze26 rfl rfl (by first | exact hC.low _ (by decide) | rfl)) rfl ?_
 refine lxr (op_store_all (m := 1) rfl rfl rfl (.agg rfl) sz26 rfl) rfl ?_
 refine lx_end ⟨by kernel_rfl, ?_⟩
 refine pe_then_normal ?_
 refine tr_sub hC (.cons (t := 1) rfl .nil) (.cons (t := 1) rfl .nil) rfl ?_
 refine tr_seq ?_
 refine tr_region (fun N2 hN => ?_)
 refine lx (op_bload (m := 1) rfl rfl ag26 sz26) rfl ?_
 refine lx (OpJ.ent (op_build (qs := [_, _, _, _]) (parts := []) ze29 rfl rfl fs29 .nil rfl rfl) (show Ent _ (aggP gr0.ps) from (by exact ent_auto))) rfl ?_
 refine lx (OpJ.ent (op_build (qs := [_, _, _]) (parts := [(1, (Go.Operand.const (Go.Value.int Go.IntKind.i64 5)))]) ze43 rfl rfl fs43 (.cons rfl (.one (by (first | exact One.eq rfl | exact One.mv _ _ _ _ _ | exact One.cl _ _ _ | exact One.map _ | exact One.sl _ _ _ | exact One.row _ _ _ _ | exact One.msl _ _ _ _ | exact One.ptr _ _ | exact One.b _ | exact One.cells _))) fl43_1 sz3 rfl .nil) rfl rfl) (show Ent _ (aggP (vp ⟨0, 5, 0⟩)) from (by exact ent_auto))) rfl ?_
 refine lx (OpJ.ent (op_build (qs := [_, _, _]) (parts := [(1, (Go.Operand.const (Go.Value.int Go.IntKind.i64 6)))]) ze43 rfl rfl fs43 (.cons rfl (.one (by (first | exact One.eq rfl | exact One.mv _ _ _ _ _ | exact One.cl _ _ _ | exact One.map _ | exact One.sl _ _ _ | exact One.row _ _ _ _ | exact One.msl _ _ _ _ | exact One.ptr _ _ | exact One.b _ | exact One.cells _))) fl43_1 sz3 rfl .nil) rfl rfl) (show Ent _ (aggP (vp ⟨0, 6, 0⟩)) from (by exact ent_auto))) rfl ?_
 refine lx (op_buildSlice (f := vp) (xs := [⟨0, 5, 0⟩, ⟨0, 6, 0⟩]) (l := [(0, (Go.Operand.tmp 10)), (1, (Go.Operand.tmp 11))]) ze43 rfl rfl (by decide) el33 sz43 vp_len (.cons rfl (.agg rfl) (.cons rfl (.agg rfl) .nil)) rfl (by decide)) rfl ?_
 first | refine lx (op_call (l := [(Go.Operand.tmp 8), (Go.Operand.tmp 9), (Go.Operand.const (Go.Value.int Go.IntKind.i64 1)), (Go.Operand.tmp 12), (Go.Operand.const (Go.Value.int Go.IntKind.i64 (-1)))]) (Enter_a) (.cons rfl (.cons rfl (.cons rfl (.cons rfl (.cons rfl .nil))))) fn17) rfl ?_ | refine lx (op_call (l := [(Go.Operand.tmp 8), (Go.Operand.tmp 9), (Go.Operand.const (Go.Value.int Go.IntKind.i64 1)), (Go.Operand.tmp 12), (Go.Operand.const (Go.Value.int Go.IntKind.i64 (-1)))]) (Enter_a) (.ent rfl (by exact ent_auto) (.ent rfl (by exact ent_auto) (.ent rfl (by exact ent_auto) (.ent rfl (by exact ent_auto) (.ent rfl (by exact ent_auto) .nil))))) fn17) rfl ?_
 refine lx (op_move rfl) rfl ?_
 refine lx (op_extract rfl rfl) rfl ?_
 refine lx (op_extract rfl rfl) rfl ?_
 refine lxn (op_alloc (m := 2) (k := 2) (ps := [eqP (.int .i64 0), eqP (.int .i64 0), eqP (.int .i64 0), eqP (.slice none 0 0)]) ze29 rfl rfl (by first | exact hC.low _ (by decide) | rfl)) rfl ?_
 refine lxr (op_store_all (m := 2) rfl rfl rfl (.agg rfl) sz29 rfl) rfl ?_
 refine lx (op_assign rfl) rfl ?_
 refine lx_end ⟨by kernel_rfl, ?_⟩
 refine pe_then_normal ?_
 refine tr_sub hC (.cons (t := 1) rfl (.cons (t := 2) rfl (.cons (t := 3) rfl .nil))) (.cons (t := 1) rfl (.cons (t := 2) rfl .nil)) rfl ?_
 refine tr_seq ?_
 refine tr_seq ?_
 refine tr_region (fun N3 hN => ?_)
 refine lx (op_move rfl) rfl ?_
 refine lx (op_neq rfl rfl) rfl ?_
 refine lx (op_move rfl) rfl ?_
 refine lxs rfl rfl rfl guard_eq (.cons (t := 2) rfl (fun _ => Ent.refl _) .nil) (op_fieldAddr rfl fl29_3 sz27) rfl ?_
 refine lxs rfl rfl rfl guard_eq (.cons (t := 19) rfl (fun h => entW h) .nil) (op_bload_one (m := 2) rfl rfl ag27 rfl) rfl ?_
 first | refine lxs rfl rfl rfl guard_eq (.cons (t := 20) rfl (fun h => entW h) .nil) (op_len rfl el27) rfl ?_ | refine lxs rfl rfl rfl guard_eq (.cons (t := 20) rfl (fun h => entW h) .nil) (op_len_row rfl el27) rfl ?_ | refine lxs rfl rfl rfl guard_eq (.cons (t := 20) rfl (fun h => entW h) .nil) (op_len_mv rfl el27) rfl ?_ | refine lxs rfl rfl rfl guard_eq (.cons (t := 20) rfl (fun h => entW h) .nil) (op_len_nil rfl el27) rfl ?_
 refine lxs rfl rfl rfl guard_eq (.cons (t := 21) rfl (fun h => entW h) .nil) (op_neq rfl rfl) rfl ?_
 refine lx (op_pick_or rfl rfl) rfl ?_
 refine lx (op_move rfl) rfl ?_
 refine lxs rfl rfl rfl guard_eq (.cons (t := 2) rfl (fun _ => Ent.refl _) .nil) (op_bload (m := 2) rfl rfl ag29 sz29) rfl ?_
 first | refine lxs rfl rfl rfl guard_eq (.cons (t := 25) rfl (fun h => entW h) .nil) (op_call (l := [(Go.Operand.tmp 25), (Go.Operand.const (Go.Value.int Go.IntKind.i64 0))]) (Reg_a aG1 0 ⟨0, 5, 0⟩ (bdG_ble rfl) (by decide) (by decide)) (.cons rfl (.cons rfl .nil)) fn27) rfl ?_ | refine lxs rfl rfl rfl guard_eq (.cons (t := 25) rfl (fun h => entW h) .nil) (op_call (l := [(Go.Operand.tmp 25), (Go.Operand.const (Go.Value.int Go.IntKind.i64 0))]) (Reg_a aG1 0 ⟨0, 5, 0⟩ (bdG_ble rfl) (by decide) (by decide)) (.ent rfl (by exact ent_auto) (.ent rfl (by exact ent_auto) .nil)) fn27) rfl ?_
 refine lxs rfl rfl rfl guard_eq (.cons (t := 26) rfl (fun h => entW h) .nil) (op_field_one rfl fl43_1 ag3 rfl) rfl ?_
 refine lxs rfl rfl rfl guard_eq (.cons (t := 27) rfl (fun h => entW h) .nil) (op_neq rfl rfl) rfl ?_
 refine lx (op_pick_or rfl rfl) rfl ?_
 refine lx (op_move rfl) rfl ?_
 refine lxs rfl rfl rfl guard_eq (.cons (t := 2) rfl (fun _ => Ent.refl _) .nil) (op_bload (m := 2) rfl rfl ag29 sz29) rfl ?_
 first | refine lxs rfl rfl rfl guard_eq (.cons (t := 31) rfl (fun h => entW h) .nil) (op_call (l := [(Go.Operand.tmp 31), (Go.Operand.const (Go.Value.int Go.IntKind.i64 1))]) (Reg_a aG1 1 ⟨0, 6, 0⟩ (bdG_ble rfl) (by decide) (by decide)) (.cons rfl (.cons rfl .nil)) fn27) rfl ?_ | refine lxs rfl rfl rfl guard_eq (.cons (t := 31) rfl (fun h => entW h) .nil) (op_call (l := [(Go.Operand.tmp 31), (Go.Operand.const (Go.Value.int Go.IntKind.i64 1))]) (Reg_a aG1 1 ⟨0, 6, 0⟩ (bdG_ble rfl) (by decide) (by decide)) (.ent rfl (by exact ent_auto) (.ent rfl (by exact ent_auto) .nil)) fn27) rfl ?_
 refine lxs rfl rfl rfl guard_eq (.cons (t := 32) rfl (fun h => entW h) .nil) (op_field_one rfl fl43_1 ag3 rfl) rfl ?_
 refine lxs rfl rfl rfl guard_eq (.cons (t := 33) rfl (fun h => entW h) .nil) (op_neq rfl rfl) rfl ?_
 refine lx (op_pick_or rfl rfl) rfl ?_
 refine lx (op_move rfl) rfl ?_
 refine lxs rfl rfl rfl guard_eq (.cons (t := 2) rfl (fun _ => Ent.refl _) .nil) (op_bload (m := 2) rfl rfl ag29 sz29) rfl ?_
 first | refine lxs rfl rfl rfl guard_eq (.cons (t := 37) rfl (fun h => entW h) .nil) (op_call (l := [(Go.Operand.tmp 37), (Go.Operand.const (Go.Value.int Go.IntKind.i64 2))]) (Reg_a aG1 2 v0 (bdG_ble rfl) (by decide) (by decide)) (.cons rfl (.cons rfl .nil)) fn27) rfl ?_ | refine lxs rfl rfl rfl guard_eq (.cons (t := 37) rfl (fun h => entW h) .nil) (op_call (l := [(Go.Operand.tmp 37), (Go.Operand.const (Go.Value.int Go.IntKind.i64 2))]) (Reg_a aG1 2 v0 (bdG_ble rfl) (by decide) (by decide)) (.ent rfl (by exact ent_auto) (.ent rfl (by exact ent_auto) .nil)) fn27) rfl ?_
 refine lxs rfl rfl rfl guard_eq (.cons (t := 38) rfl (fun h => entW h) .nil) (op_field_one rfl fl43_1 ag3 rfl) rfl ?_
 refine lxs rfl rfl rfl guard_eq (.cons (t := 39) rfl (fun h => entW h) .nil) (op_neq rfl rfl) rfl ?_
 refine lx (op_pick_or rfl rfl) rfl ?_
 refine lx (op_move rfl) rfl ?_
 refine lxs rfl rfl rfl guard_eq (.cons (t := 1) rfl (fun _ => Ent.refl _) .nil) (op_bload (m := 1) rfl rfl ag26 sz26) rfl ?_
 refine lxs rfl rfl rfl guard_eq (.cons (t := 2) rfl (fun _ => Ent.refl _) .nil) (op_bload (m := 2) rfl rfl ag29 sz29) rfl ?_
 first | refine lxs rfl rfl rfl guard_eq (.cons (t := 43) rfl (fun h => entW h) (.cons (t := 44) rfl (fun h => entW h) .nil)) (op_call (l := [(Go.Operand.tmp 43), (Go.Operand.tmp 44)]) (Valid_ok exP aG1 (bdG_ble rfl)) (.cons rfl (.cons rfl .nil)) fn14) rfl ?_ | refine lxs rfl rfl rfl guard_eq (.cons (t := 43) rfl (fun h => entW h) (.cons (t := 44) rfl (fun h => entW h) .nil)) (op_call (l := [(Go.Operand.tmp 43), (Go.Operand.tmp 44)]) (Valid_ok exP aG1 (bdG_ble rfl)) (.ent rfl (by exact ent_auto) (.ent rfl (by exact ent_auto) .nil)) fn14) rfl ?_
 first | refine lxs rfl rfl rfl guard_eq (.cons (t := 45) rfl (fun h => entW h) .nil) (op_not rfl) rfl ?_ | refine lxs rfl rfl rfl guard_eq (.cons (t := 45) rfl (fun h => entW h) .nil) (op_not_b rfl) rfl ?_
 refine lx (op_pick_or rfl rfl) rfl ?_
 refine lx_end ⟨by kernel_rfl, ?_⟩
 refine pe_then_normal ?_
 refine tr_sub hC (.cons (t := 1) rfl (.cons (t := 2) rfl (.cons (t := 47) rfl .nil))) (.cons (t := 1) rfl (.cons (t := 2) rfl .nil)) rfl ?_
 refine tr_cond rfl (fun h47 => ?_) (fun h47 => ?_)
 ·exact absurd h47 (by decide)
 ·(try simp only [cq1, cq2, cq3, cq4, cq5, cq6, cq7, cq8, cq9, cq10, cq11, cq12, cq13] at h47)
  refine tr_skip ?_
  refine pe_then_normal ?_
  refine tr_sub hC (.cons (t := 1) rfl (.cons (t := 2) rfl .nil)) (.cons (t := 1) rfl (.cons (t := 2) rfl .nil)) rfl ?_
  refine tr_seq ?_
  refine tr_drawn mixed (fun N5 hN => ?_)
  refine lx (op_bload (m := 1) rfl rfl ag26 sz26) rfl ?_
  refine lx (op_bload (m := 2) rfl rfl ag29 sz29) rfl ?_
  refine lx (OpJ.ent (op_build (qs := [_, _]) (parts := []) ze47 rfl rfl fs47 .nil rfl rfl) (show Ent _ (aggP (Df.ps ⟨0, []⟩)) from (by exact ent_auto))) rfl ?_
  first | refine lx (op_call (l := [(Go.Operand.tmp 49), (Go.Operand.tmp 50)]) (Defer_a) (.cons rfl (.cons rfl .nil)) fn23) rfl ?_ | refine lx (op_call (l := [(Go.Operand.tmp 49), (Go.Operand.tmp 50)]) (Defer_a) (.ent rfl (by exact ent_auto) (.ent rfl (by exact ent_auto) .nil)) fn23) rfl ?_
  refine lx (OpJ.ent (op_build (qs := [_, _, _]) (parts := [(1, (Go.Operand.const (Go.Value.int Go.IntKind.i64 1)))]) ze43 rfl rfl fs43 (.cons rfl (.one (by (first | exact One.eq rfl | exact One.mv _ _ _ _ _ | exact One.cl _ _ _ | exact One.map _ | exact One.sl _ _ _ | exact One.row _ _ _ _ | exact One.msl _ _ _ _ | exact One.ptr _ _ | exact One.b _ | exact One.cells _))) fl43_1 sz3 rfl .nil) rfl rfl) (show Ent _ (aggP (vp ⟨0, 1, 0⟩)) from (by exact ent_auto))) rfl ?_
  first | refine lx (op_call (l := [(Go.Operand.tmp 48), (Go.Operand.tmp 51), (Go.Operand.tmp 52)]) (Leave_a aG2 aG3 ⟨0, 1, 0⟩ (bdG_ble rfl) (by decide) (by decide)) (.cons rfl (.cons rfl (.cons rfl .nil))) fn21) rfl ?_ | refine lx (op_call (l := [(Go.Operand.tmp 48), (Go.Operand.tmp 51), (Go.Operand.tmp 52)]) (Leave_a aG2 aG3 ⟨0, 1, 0⟩ (bdG_ble rfl) (by decide) (by decide)) (.ent rfl (by exact ent_auto) (.ent rfl (by exact ent_auto) (.ent rfl (by exact ent_auto) .nil))) fn21) rfl ?_
  refine lxn (op_alloc (m := 4) (k := 4) (ps := [eqP (.int .i64 0), eqP (.int .i64 0), eqP (.int .i64 0), eqP (.slice none 0 0)]) ze29 rfl rfl (by first | exact hC.low _ (by decide) | rfl)) rfl ?_
  refine lxr (op_store_all (m := 4) rfl rfl rfl (.agg rfl) sz29 rfl) rfl ?_
  refine lx_end ⟨by kernel_rfl, ?_⟩
  refine pe_then_normal ?_
  refine tr_sub hC (.cons (t := 1) rfl (.cons (t := 2) rfl (.cons (t := 4) rfl .nil))) (.cons (t := 1) rfl (.cons (t := 2) rfl (.cons (t := 4) rfl .nil))) rfl ?_
  refine tr_seq ?_
  refine tr_region (fun N6 hN => ?_)
  refine lx (op_bload (m := 1) rfl rfl ag26 sz26) rfl ?_
  refine lx (op_bload (m := 4) rfl rfl ag29 sz29) rfl ?_
  refine lx (OpJ.ent (op_build (qs := [_, _, _]) (parts := []) ze43 rfl rfl fs43 .nil rfl rfl) (show Ent _ (aggP (vp v0)) from (by exact ent_auto))) rfl ?_
  first | refine lx (op_call (l := [(Go.Operand.tmp 54), (Go.Operand.tmp 55), (Go.Operand.tmp 56)]) (Leave_a aG3 aG4 v0 (bdG_ble rfl) (by decide) (by decide)) (.cons rfl (.cons rfl (.cons rfl .nil))) fn21) rfl ?_ | refine lx (op_call (l := [(Go.Operand.tmp 54), (Go.Operand.tmp 55), (Go.Operand.tmp 56)]) (Leave_a aG3 aG4 v0 (bdG_ble rfl) (by decide) (by decide)) (.ent rfl (by exact ent_auto) (.ent rfl (by exact ent_auto) (.ent rfl (by exact ent_auto) .nil))) fn21) rfl ?_
  refine lxn (op_alloc (m := 5) (k := 5) (ps := [eqP (.int .i64 0), eqP (.int .i64 0), eqP (.int .i64 0), eqP (.slice none 0 0)]) ze29 rfl rfl (by first | exact hC.low _ (by decide) | rfl)) rfl ?_
  refine lxr (op_store_all (m := 5) rfl rfl rfl (.agg rfl) sz29 rfl) rfl ?_
  refine lx_end ⟨by kernel_rfl, ?_⟩
  refine pe_then_normal ?_
  refine tr_sub hC (.cons (t := 2) rfl (.cons (t := 4) rfl (.cons (t := 5) rfl .nil))) (.cons (t := 2) rfl (.cons (t := 4) rfl (.cons (t := 5) rfl .nil))) rfl ?_
  refine tr_seq ?_
  refine tr_region (fun N7 hN => ?_)
  refine lx (op_fieldAddr rfl fl29_3 sz27) rfl ?_
  refine lx (op_bload_one (m := 4) rfl rfl ag27 rfl) rfl ?_
  first | refine lx (op_len rfl el27) rfl ?_ | refine lx (op_len_row rfl el27) rfl ?_ | refine lx (op_len_mv rfl el27) rfl ?_ | refine lx (op_len_nil rfl el27) rfl ?_
  refine lx (op_eql rfl rfl) rfl ?_
  refine lx (op_move rfl) rfl ?_
  refine lxs rfl rfl rfl guard_eq (.cons (t := 4) rfl (fun _ => Ent.refl _) .nil) (op_fieldAddr rfl fl29_3 sz27) rfl ?_
  refine lxs rfl rfl rfl guard_eq (.cons (t := 63) rfl (fun h => entW h) .nil) (op_bload_one (m := 4) rfl rfl ag27 rfl) rfl ?_
  refine lxs rfl rfl rfl guard_eq (.cons (t := 64) rfl (fun h => entW h) .nil) (op_index rfl rfl el27 sz60 (show (1 : Int) = ((1 : Nat) : Int) from rfl) (rfl : aG3.frames[1]? = some _)) rfl ?_
  first | refine lxs rfl rfl rfl guard_eq (.cons (t := 65) rfl (fun h => entW h) .nil) (op_fieldAddr rfl fl60_0 sz3) rfl ?_ | refine lxs rfl rfl rfl guard_eq (.cons (t := 65) rfl (fun h => entW h) .nil) (op_fieldCells rfl fl60_0 sz3) rfl ?_
  first | refine lxs rfl rfl rfl guard_eq (.cons (t := 66) rfl (fun h => entW h) .nil) (op_load_one rfl ag3 rfl) rfl ?_ | refine lxs rfl rfl rfl guard_eq (.cons (t := 66) rfl (fun h => entW h) .nil) (op_bload_one (m := 2) rfl rfl ag3 rfl) rfl ?_ | refine lxs rfl rfl rfl guard_eq (.cons (t := 66) rfl (fun h => entW h) .nil) (op_bload_one (m := 4) rfl rfl ag3 rfl) rfl ?_ | refine lxs rfl rfl rfl guard_eq (.cons (t := 66) rfl (fun h => entW h) .nil) (op_bload_one (m := 5) rfl rfl ag3 rfl) rfl ?_
  refine lxs rfl rfl rfl guard_eq (.cons (t := 67) rfl (fun h => entW h) .nil) (op_eql rfl rfl) rfl ?_
  refine lx (op_pick_and rfl rfl) rfl ?_
  refine lx (op_move rfl) rfl ?_
  refine lxs rfl rfl rfl guard_eq (.cons (t := 5) rfl (fun _ => Ent.refl _) .nil) (op_fieldAddr rfl fl29_0 sz3) rfl ?_
  refine lxs rfl rfl rfl guard_eq (.cons (t := 71) rfl (fun h => entW h) .nil) (op_bload_one (m := 5) rfl rfl ag3 rfl) rfl ?_
  refine lxs rfl rfl rfl guard_eq (.cons (t := 72) rfl (fun h => entW h) .nil) (op_eql rfl rfl) rfl ?_
  refine lx (op_pick_and rfl rfl) rfl ?_
  refine lx (op_move rfl) rfl ?_
  refine lxs rfl rfl rfl guard_eq (.cons (t := 4) rfl (fun _ => Ent.refl _) .nil) (op_bload (m := 4) rfl rfl ag29 sz29) rfl ?_
  first | refine lxs rfl rfl rfl guard_eq (.cons (t := 76) rfl (fun h => entW h) .nil) (op_call (l := [(Go.Operand.tmp 76)]) (Sites_ok aG3 (by decide)) (.cons rfl .nil) fn29) rfl ?_ | refine lxs rfl rfl rfl guard_eq (.cons (t := 76) rfl (fun h => entW h) .nil) (op_call (l := [(Go.Operand.tmp 76)]) (Sites_ok aG3 (by decide)) (.ent rfl (by exact ent_auto) .nil) fn29) rfl ?_
  first | refine lxs rfl rfl rfl guard_eq (.cons (t := 77) rfl (fun h => entW h) .nil) (op_len rfl el53) rfl ?_ | refine lxs rfl rfl rfl guard_eq (.cons (t := 77) rfl (fun h => entW h) .nil) (op_len_row rfl el53) rfl ?_ | refine lxs rfl rfl rfl guard_eq (.cons (t := 77) rfl (fun h => entW h) .nil) (op_len_mv rfl el53) rfl ?_ | refine lxs rfl rfl rfl guard_eq (.cons (t := 77) rfl (fun h => entW h) .nil) (op_len_nil rfl el53) rfl ?_
  refine lxs rfl rfl rfl guard_eq (.cons (t := 78) rfl (fun h => entW h) .nil) (op_eql rfl rfl) rfl ?_
  refine lx (op_pick_and rfl rfl) rfl ?_
  refine lx (op_move rfl) rfl ?_
  refine lxs rfl rfl rfl guard_eq (.cons (t := 2) rfl (fun _ => Ent.refl _) .nil) (op_bload (m := 2) rfl rfl ag29 sz29) rfl ?_
  refine lxs rfl rfl rfl guard_eq .nil (op_build (qs := [_, _, _]) (parts := [(1, (Go.Operand.const (Go.Value.int Go.IntKind.i64 9)))]) ze43 rfl rfl fs43 (.cons rfl (.one (by (first | exact One.eq rfl | exact One.mv _ _ _ _ _ | exact One.cl _ _ _ | exact One.map _ | exact One.sl _ _ _ | exact One.row _ _ _ _ | exact One.msl _ _ _ _ | exact One.ptr _ _ | exact One.b _ | exact One.cells _))) fl43_1 sz3 rfl .nil) rfl rfl) rfl ?_
  first | refine lxs rfl rfl rfl guard_eq (.cons (t := 82) rfl (fun h => entW h) (.cons (t := 83) rfl (fun h => entW h) .nil)) (op_call (l := [(Go.Operand.tmp 82), (Go.Operand.const (Go.Value.int Go.IntKind.i64 2)), (Go.Operand.tmp 83)]) (Set_a) (.cons rfl (.cons rfl (.cons rfl .nil))) fn25) rfl ?_ | refine lxs rfl rfl rfl guard_eq (.cons (t := 82) rfl (fun h => entW h) (.cons (t := 83) rfl (fun h => entW h) .nil)) (op_call (l := [(Go.Operand.tmp 82), (Go.Operand.const (Go.Value.int Go.IntKind.i64 2)), (Go.Operand.tmp 83)]) (Set_a) (.ent rfl (by exact ent_auto) (.ent rfl (by exact ent_auto) (.ent rfl (by exact ent_auto) .nil))) fn25) rfl ?_
  first | refine lxs rfl rfl rfl guard_eq (.cons (t := 84) rfl (fun h => entW h) .nil) (op_call (l := [(Go.Operand.tmp 84), (Go.Operand.const (Go.Value.int Go.IntKind.i64 2))]) (Reg_a aG5 2 ⟨0, 9, 0⟩ (bdG_ble rfl) (by decide) (by decide)) (.cons rfl (.cons rfl .nil)) fn27) rfl ?_ | refine lxs rfl rfl rfl guard_eq (.cons (t := 84) rfl (fun h => entW h) .nil) (op_call (l := [(Go.Operand.tmp 84), (Go.Operand.const (Go.Value.int Go.IntKind.i64 2))]) (Reg_a aG5 2 ⟨0, 9, 0⟩ (bdG_ble rfl) (by decide) (by decide)) (.ent rfl (by exact ent_auto) (.ent rfl (by exact ent_auto) .nil)) fn27) rfl ?_
  refine lxs rfl rfl rfl guard_eq (.cons (t := 85) rfl (fun h => entW h) .nil) (op_field_one rfl fl43_1 ag3 rfl) rfl ?_
  refine lxs rfl rfl rfl guard_eq (.cons (t := 86) rfl (fun h => entW h) .nil) (op_eql rfl rfl) rfl ?_
  refine lx (op_pick_and rfl rfl) rfl ?_
  refine lx (op_assign rfl) rfl ?_
  refine lx_end ⟨by kernel_rfl, ?_⟩
  refine pe_then_normal ?_
  refine tr_sub hC (.cons (t := 0) rfl .nil) .nil rfl ?_
  refine tr_ret ?_
  refine pe_ret1 rfl hO rfl (.tmp rfl .nil) ?_
  exact ent_auto
theorem possible_ok (p : Pg) (g : Gr) (hp : BdPg 9223372036854775807 p) (hb : BdG 9223372036854775807 g) : FnP Try.prog 20 [aggP p.ps, aggP g.ps] (eqP (.bool ((progF instrF p && validG p g) && (decide (g.state = 0) || decide (g.state = 1))))) := by
 refine fn_pure' Try.func20 rfl Try.ntmps20 rfl ?_
 intro σ0 M ex Rf R hC hO
 simp only [frameOf, tokOf]
 refine tr_seq ?_
 refine tr_region (fun N0 hN => ?_)
 refine lxn (op_box (m := 2) (k := 2) rfl (.agg rfl) (by first | exact hC.low _ (by decide) | rfl)) rfl ?_
 refine lxn (op_box (m := 3) (k := 3) rfl (.agg rfl) (by first | exact hC.low _ (by decide) | rfl)) rfl ?_
 refine lx (op_assign rfl) rfl ?_
 refine lx_end ⟨by kernel_rfl, ?_⟩
 refine pe_then_normal ?_
 refine tr_sub hC (.cons (t := 2) rfl (.cons (t := 3) rfl .nil)) (.cons (t := 2) rfl (.cons (t := 3) rfl .nil)) rfl ?_
 refine tr_seq ?_
 refine tr_region (fun N1 hN => ?_)
 refine lx (op_bload (m := 2) rfl rfl ag26 sz26) rfl ?_
 first | refine lx (op_call (l := [(Go.Operand.tmp 5)]) (Prog_ok p hp) (.cons rfl .nil) fn13) rfl ?_ | refine lx (op_call (l := [(Go.Operand.tmp 5)]) (Prog_ok p hp) (.ent rfl (by exact ent_auto) .nil) fn13) rfl ?_
 refine lx (op_move rfl) rfl ?_
 refine lxs rfl rfl rfl guard_eq (.cons (t := 2) rfl (fun _ => Ent.refl _) .nil) (op_bload (m := 2) rfl rfl ag26 sz26) rfl ?_
 refine lxs rfl rfl rfl guard_eq (.cons (t := 3) rfl (fun _ => Ent.refl _) .nil) (op_bload (m := 3) rfl rfl ag29 sz29) rfl ?_
 first | refine lxs rfl rfl rfl guard_eq (.cons (t := 8) rfl (fun h => entW h) (.cons (t := 9) rfl (fun h => entW h) .nil)) (op_call (l := [(Go.Operand.tmp 8), (Go.Operand.tmp 9)]) (rValid_ok p g hb) (.cons rfl (.cons rfl .nil)) fn15) rfl ?_ | refine lxs rfl rfl rfl guard_eq (.cons (t := 8) rfl (fun h => entW h) (.cons (t := 9) rfl (fun h => entW h) .nil)) (op_call (l := [(Go.Operand.tmp 8), (Go.Operand.tmp 9)]) (rValid_ok p g hb) (.ent rfl (by exact ent_auto) (.ent rfl (by exact ent_auto) .nil)) fn15) rfl ?_
 refine lx (op_pick_and rfl rfl) rfl ?_
 refine lx (op_move rfl) rfl ?_
 refine lxs rfl rfl rfl guard_eq (.cons (t := 3) rfl (fun _ => Ent.refl _) .nil) (op_fieldAddr rfl fl29_0 sz3) rfl ?_
 refine lxs rfl rfl rfl guard_eq (.cons (t := 13) rfl (fun h => entW h) .nil) (op_bload_one (m := 3) rfl rfl ag3 rfl) rfl ?_
 refine lxs rfl rfl rfl guard_eq (.cons (t := 14) rfl (fun h => entW h) .nil) (op_eql rfl rfl) rfl ?_
 refine lxs rfl rfl rfl guard_eq (.cons (t := 15) rfl (fun h => entW h) .nil) (op_move rfl) rfl ?_
 refine lxs rfl rfl rfl guard_w (.cons (t := 3) rfl (fun _ => Ent.refl _) .nil) (op_fieldAddr rfl fl29_0 sz3) rfl ?_
 refine lxs rfl rfl rfl guard_w (.cons (t := 17) rfl (fun h => entW h) .nil) (op_bload_one (m := 3) rfl rfl ag3 rfl) rfl ?_
 refine lxs rfl rfl rfl guard_w (.cons (t := 18) rfl (fun h => entW h) .nil) (op_eql rfl rfl) rfl ?_
 refine lxs rfl rfl rfl guard_eq (.cons (t := 16) rfl (fun h => entW h) (.cons (t := 19) rfl (fun h => entS h) .nil)) (op_pick_or rfl rfl) rfl ?_
 refine lx (op_pick_and rfl rfl) rfl ?_
 refine lx (op_assign rfl) rfl ?_
 refine lx_end ⟨by kernel_rfl, ?_⟩
 refine pe_then_normal ?_
 refine tr_sub hC (.cons (t := 4) rfl .nil) .nil rfl ?_
 refine tr_ret ?_
 refine pe_ret1 rfl hO rfl (.tmp rfl .nil) ?_
 exact ent_auto
end Go.Proofs.Ythiknhmoefbanaa


set_option linter.unusedVariables false
set_option linter.unusedSimpArgs false
namespace Go.Proofs.Ythiknhmoefbanaa
open Go.AL Go.Ch Go.Hp Go.RowKit
theorem fl35_0 : fldB Try.prog 35 0 = some (0, 26) := by kernel_rfl
theorem fl35_1 : fldB Try.prog 35 1 = some (4, 29) := by kernel_rfl
theorem fl35_2 : fldB Try.prog 35 2 = some (8, 3) := by kernel_rfl
theorem fl35_3 : fldB Try.prog 35 3 = some (9, 33) := by kernel_rfl
theorem fl35_4 : fldB Try.prog 35 4 = some (10, 3) := by kernel_rfl
theorem fn12 : fnB Try.prog 12 = true := by kernel_rfl
theorem fn19 : fnB Try.prog 19 = true := by kernel_rfl
theorem fn20 : fnB Try.prog 20 = true := by kernel_rfl
theorem fn22 : fnB Try.prog 22 = true := by kernel_rfl
structure Cl where
 p : Pg
 g : Gr
 fn : Int
 args : List V
 dest : Int
def Cl.ps (c : Cl) : List Pred := [slP Fu.ps 4 c.p.funcs, slP Gl.ps 2 c.p.globals, slP lyp 1 c.p.layouts, eqP (.int .i64 c.p.main), eqP (.int .i64 c.g.state), eqP (.int .i64 c.g.fault), eqP (.int .i64 c.g.allocs), slP Fm.ps 9 c.g.frames, eqP (.int .i64 c.fn), slP vp 3 c.args, eqP (.int .i64 c.dest)]
theorem Cl.len (c : Cl) : c.ps.length = 11 := rfl
theorem law_enters (c : Cl) (hp : BdPg 1048576 c.p) (hb : BdG 1048576 c.g) (hn : c.g.frames.length ≤ 100000) (ha : c.args.length ≤ 1048576) : FnP Try.prog 4 [aggP c.ps] (eqP (.bool true)) := by
 have hb4 : BdG 4000000 c.g := hb.mono (by decide)
 have hbN : BdG 9223372036854775807 c.g := hb.mono (by decide)
 have hp4 : BdPg 9223372036854775807 c.p := ⟨Nat.le_trans hp.funcs (by decide), Nat.le_trans hp.globals (by decide), Nat.le_trans hp.layouts (by decide), fun l hl => Nat.le_trans (hp.lays l hl) (by decide), fun f hf => Nat.le_trans (hp.codes f hf) (by decide)⟩
 refine fn_pure' Try.func4 rfl Try.ntmps4 rfl ?_
 intro σ0 M ex Rf R hC hO
 simp only [frameOf, tokOf]
 refine tr_seq ?_
 refine tr_region (fun N0 hN => ?_)
 refine lxn (op_box (m := 1) (k := 1) rfl (.agg rfl) (by first | exact hC.low _ (by decide) | rfl)) rfl ?_
 refine lx (op_assign rfl) rfl ?_
 refine lx_end ⟨by kernel_rfl, ?_⟩
 refine pe_then_normal ?_
 refine tr_sub hC (.cons (t := 1) rfl .nil) (.cons (t := 1) rfl .nil) rfl ?_
 refine tr_seq ?_
 refine tr_seq ?_
 refine tr_region (fun N1 hN => ?_)
 first | refine lx (op_call (l := []) (awake_ok) .nil fn12) rfl ?_ | refine lx (op_call (l := []) (awake_ok) .nil fn12) rfl ?_
 first | refine lx (op_not rfl) rfl ?_ | refine lx (op_not_b rfl) rfl ?_
 refine lx (op_move rfl) rfl ?_
 refine lxs rfl rfl rfl guard_eq (.cons (t := 1) rfl (fun _ => Ent.refl _) .nil) (op_fieldAddr rfl fl35_0 sz26) rfl ?_
 refine lxs rfl rfl rfl guard_eq (.cons (t := 11) rfl (fun h => entW h) .nil) (op_bload_part (m := 1) (qs := [_, _, _, _]) rfl rfl ag26 sz26 rfl rfl) rfl ?_
 first | refine lxs rfl rfl rfl guard_eq (.cons (t := 12) rfl (fun h => entW h) .nil) (op_call (l := [(Go.Operand.tmp 12)]) (Prog_ok c.p hp4) (.cons rfl .nil) fn13) rfl ?_ | refine lxs rfl rfl rfl guard_eq (.cons (t := 12) rfl (fun h => entW h) .nil) (op_call (l := [(Go.Operand.tmp 12)]) (Prog_ok c.p hp4) (.ent rfl (by exact ent_auto) .nil) fn13) rfl ?_
 first | refine lxs rfl rfl rfl guard_eq (.cons (t := 13) rfl (fun h => entW h) .nil) (op_not rfl) rfl ?_ | refine lxs rfl rfl rfl guard_eq (.cons (t := 13) rfl (fun h => entW h) .nil) (op_not_b rfl) rfl ?_
 refine lx (op_pick_or rfl rfl) rfl ?_
 refine lx_end ⟨by kernel_rfl, ?_⟩
 refine pe_then_normal ?_
 refine tr_sub hC (.cons (t := 1) rfl (.cons (t := 15) rfl .nil)) (.cons (t := 1) rfl .nil) rfl ?_
 refine tr_cond rfl (fun h15 => ?_) (fun h15 => ?_)
 ·(try simp only [cq1, cq2, cq3, cq4, cq5, cq6, cq7, cq8, cq9, cq10, cq11, cq12, cq13] at h15)
  refine tr_seq ?_
  refine tr_region (fun N2 hN => ?_)
  first | refine lx (op_call (l := []) (awake_ok) .nil fn12) rfl ?_ | refine lx (op_call (l := []) (awake_ok) .nil fn12) rfl ?_
  refine lx (op_assign rfl) rfl ?_
  refine lx_end ⟨by kernel_rfl, ?_⟩
  refine pe_then_normal ?_
  refine tr_sub hC (.cons (t := 2) rfl .nil) .nil rfl ?_
  refine tr_ret ?_
  refine pe_then_ret ?_
  refine pe_ret1 rfl hO rfl (.tmp rfl .nil) ?_
  exact ent_auto
 ·have hpv : progF instrF c.p = true := by simpa using h15
  refine tr_skip ?_
  refine pe_then_normal ?_
  refine tr_sub hC (.cons (t := 1) rfl .nil) (.cons (t := 1) rfl .nil) rfl ?_
  refine tr_seq ?_
  refine tr_region (fun N3 hN => ?_)
  refine lx (op_fieldAddr rfl fl35_1 sz29) rfl ?_
  refine lx (op_bload_part (m := 1) (qs := [_, _, _, _]) rfl rfl ag29 sz29 rfl rfl) rfl ?_
  first | refine lx (op_call (l := [(Go.Operand.tmp 18)]) (copyG_ok c.g hb4) (.cons rfl .nil) fn16) rfl ?_ | refine lx (op_call (l := [(Go.Operand.tmp 18)]) (copyG_ok c.g hb4) (.ent rfl (by exact ent_auto) .nil) fn16) rfl ?_
  refine lxn (op_alloc (m := 3) (k := 3) (ps := [eqP (.int .i64 0), eqP (.int .i64 0), eqP (.int .i64 0), eqP (.slice none 0 0)]) ze29 rfl rfl (by first | exact hC.low _ (by decide) | rfl)) rfl ?_
  refine lxr (op_store_all (m := 3) rfl rfl rfl (.agg rfl) sz29 rfl) rfl ?_
  refine lx_end ⟨by kernel_rfl, ?_⟩
  refine pe_then_normal ?_
  refine tr_sub hC (.cons (t := 1) rfl (.cons (t := 3) rfl .nil)) (.cons (t := 1) rfl (.cons (t := 3) rfl .nil)) rfl ?_
  refine tr_seq ?_
  refine tr_drawn mixed (fun N4 hN => ?_)
  refine lx (op_fieldAddr rfl fl35_0 sz26) rfl ?_
  refine lx (op_bload_part (m := 1) (qs := [_, _, _, _]) rfl rfl ag26 sz26 rfl rfl) rfl ?_
  refine lx (op_bload (m := 3) rfl rfl ag29 sz29) rfl ?_
  refine lx (op_fieldAddr rfl fl35_2 sz3) rfl ?_
  refine lx (op_bload_one (m := 1) rfl rfl ag3 rfl) rfl ?_
  refine lxn (op_buildEmpty (m' := 26) (kk := 26) (f := vp) el33 sz43 (by first | exact hC.low _ (by decide) | rfl)) rfl ?_
  refine lx (op_fieldAddr rfl fl35_3 sz33) rfl ?_
  refine lx (op_bload_one (m := 1) rfl rfl ag33 rfl) rfl ?_
  refine lxr (OpJ.ent (op_append (m := 26) (m' := 29) (kk := 29) rfl rfl rfl (.inr (by first | exact hC.low _ (by decide) | rfl)) el33 ze43 sz43 by43 rfl vp_len (by simp; omega) (by simp; omega)) (Ent.row _ _ _ _)) rfl ?_
  refine lx (op_fieldAddr rfl fl35_4 sz3) rfl ?_
  refine lx (op_bload_one (m := 1) rfl rfl ag3 rfl) rfl ?_
  first | refine lx (op_call (l := [(Go.Operand.tmp 22), (Go.Operand.tmp 23), (Go.Operand.tmp 25), (Go.Operand.tmp 29), (Go.Operand.tmp 31)]) (Enter_ok c.p (progF_POK hpv) c.g hb hn c.fn c.args c.dest) (.cons rfl (.cons rfl (.cons rfl (.cons rfl (.cons rfl .nil))))) fn17) rfl ?_ | refine lx (op_call (l := [(Go.Operand.tmp 22), (Go.Operand.tmp 23), (Go.Operand.tmp 25), (Go.Operand.tmp 29), (Go.Operand.tmp 31)]) (Enter_ok c.p (progF_POK hpv) c.g hb hn c.fn c.args c.dest) (.ent rfl (by exact ent_auto) (.ent rfl (by exact ent_auto) (.ent rfl (by exact ent_auto) (.ent rfl (by exact ent_auto) (.ent rfl (by exact ent_auto) .nil))))) fn17) rfl ?_
  refine lx (op_move rfl) rfl ?_
  refine lx (op_extract rfl rfl) rfl ?_
  refine lx (op_extract rfl rfl) rfl ?_
  refine lxn (op_alloc (m := 4) (k := 4) (ps := [eqP (.int .i64 0), eqP (.int .i64 0), eqP (.int .i64 0), eqP (.slice none 0 0)]) ze29 rfl rfl (by first | exact hC.low _ (by decide) | rfl)) rfl ?_
  refine lxr (op_store_all (m := 4) rfl rfl rfl (.agg rfl) sz29 rfl) rfl ?_
  refine lx (op_assign rfl) rfl ?_
  refine lx_end ⟨by kernel_rfl, ?_⟩
  refine pe_then_normal ?_
  refine tr_sub hC (.cons (t := 1) rfl (.cons (t := 3) rfl (.cons (t := 4) rfl (.cons (t := 5) rfl .nil)))) (.cons (t := 1) rfl (.cons (t := 3) rfl (.cons (t := 4) rfl .nil))) rfl ?_
  refine tr_seq ?_
  refine tr_region (fun N5 hN => ?_)
  refine lx (op_fieldAddr rfl fl35_0 sz26) rfl ?_
  refine lx (op_bload_part (m := 1) (qs := [_, _, _, _]) rfl rfl ag26 sz26 rfl rfl) rfl ?_
  refine lx (op_fieldAddr rfl fl35_1 sz29) rfl ?_
  refine lx (op_bload_part (m := 1) (qs := [_, _, _, _]) rfl rfl ag29 sz29 rfl rfl) rfl ?_
  refine lx (op_fieldAddr rfl fl35_2 sz3) rfl ?_
  refine lx (op_bload_one (m := 1) rfl rfl ag3 rfl) rfl ?_
  refine lx (op_fieldAddr rfl fl35_3 sz33) rfl ?_
  refine lx (op_bload_one (m := 1) rfl rfl ag33 rfl) rfl ?_
  refine lx (op_fieldAddr rfl fl35_4 sz3) rfl ?_
  refine lx (op_bload_one (m := 1) rfl rfl ag3 rfl) rfl ?_
  first | refine lx (op_call (l := [(Go.Operand.tmp 37), (Go.Operand.tmp 39), (Go.Operand.tmp 41), (Go.Operand.tmp 43), (Go.Operand.tmp 45)]) (rEnter_ok c.p (progF_POK hpv) c.g hb hn c.fn c.args c.dest) (.cons rfl (.cons rfl (.cons rfl (.cons rfl (.cons rfl .nil))))) fn18) rfl ?_ | refine lx (op_call (l := [(Go.Operand.tmp 37), (Go.Operand.tmp 39), (Go.Operand.tmp 41), (Go.Operand.tmp 43), (Go.Operand.tmp 45)]) (rEnter_ok c.p (progF_POK hpv) c.g hb hn c.fn c.args c.dest) (.ent rfl (by exact ent_auto) (.ent rfl (by exact ent_auto) (.ent rfl (by exact ent_auto) (.ent rfl (by exact ent_auto) (.ent rfl (by exact ent_auto) .nil))))) fn18) rfl ?_
  refine lx (op_move rfl) rfl ?_
  refine lx (op_extract rfl rfl) rfl ?_
  refine lx (op_extract rfl rfl) rfl ?_
  refine lxn (op_alloc (m := 6) (k := 6) (ps := [eqP (.int .i64 0), eqP (.int .i64 0), eqP (.int .i64 0), eqP (.slice none 0 0)]) ze29 rfl rfl (by first | exact hC.low _ (by decide) | rfl)) rfl ?_
  refine lxr (op_store_all (m := 6) rfl rfl rfl (.agg rfl) sz29 rfl) rfl ?_
  refine lx (op_assign rfl) rfl ?_
  refine lx_end ⟨by kernel_rfl, ?_⟩
  refine pe_then_normal ?_
  refine tr_sub hC (.cons (t := 1) rfl (.cons (t := 3) rfl (.cons (t := 4) rfl (.cons (t := 5) rfl (.cons (t := 6) rfl (.cons (t := 7) rfl .nil)))))) (.cons (t := 1) rfl (.cons (t := 3) rfl (.cons (t := 4) rfl (.cons (t := 6) rfl .nil)))) rfl ?_
  refine tr_seq ?_
  refine tr_region (fun N6 hN => ?_)
  refine lx (op_move rfl) rfl ?_
  refine lx (op_move rfl) rfl ?_
  refine lx (op_eql rfl rfl) rfl ?_
  refine lx (op_move rfl) rfl ?_
  refine lxs rfl rfl rfl guard_eq (.cons (t := 4) rfl (fun _ => Ent.refl _) .nil) (op_bload (m := 4) rfl rfl ag29 sz29) rfl ?_
  refine lxs rfl rfl rfl guard_eq (.cons (t := 6) rfl (fun _ => Ent.refl _) .nil) (op_bload (m := 6) rfl rfl ag29 sz29) rfl ?_
  first | refine lxs rfl rfl rfl guard_eq (.cons (t := 53) rfl (fun h => entW h) (.cons (t := 54) rfl (fun h => entW h) .nil)) (op_call (l := [(Go.Operand.tmp 53), (Go.Operand.tmp 54)]) (sameG_ok ((enterF c.p c.g c.fn c.args c.dest).1) ((enterF c.p c.g c.fn c.args c.dest).1) ((bdG_enterF (progF_POK hpv) hb (by decide)).mono (by decide))) (.cons rfl (.cons rfl .nil)) fn19) rfl ?_ | refine lxs rfl rfl rfl guard_eq (.cons (t := 53) rfl (fun h => entW h) (.cons (t := 54) rfl (fun h => entW h) .nil)) (op_call (l := [(Go.Operand.tmp 53), (Go.Operand.tmp 54)]) (sameG_ok ((enterF c.p c.g c.fn c.args c.dest).1) ((enterF c.p c.g c.fn c.args c.dest).1) ((bdG_enterF (progF_POK hpv) hb (by decide)).mono (by decide))) (.ent rfl (by exact ent_auto) (.ent rfl (by exact ent_auto) .nil)) fn19) rfl ?_
  refine lx (op_pick_and rfl rfl) rfl ?_
  refine lx (op_move rfl) rfl ?_
  refine lxs rfl rfl rfl guard_eq (.cons (t := 3) rfl (fun _ => Ent.refl _) .nil) (op_bload (m := 3) rfl rfl ag29 sz29) rfl ?_
  refine lxs rfl rfl rfl guard_eq (.cons (t := 1) rfl (fun _ => Ent.refl _) .nil) (op_fieldAddr rfl fl35_1 sz29) rfl ?_
  refine lxs rfl rfl rfl guard_eq (.cons (t := 59) rfl (fun h => entW h) .nil) (op_bload_part (m := 1) (qs := [_, _, _, _]) rfl rfl ag29 sz29 rfl rfl) rfl ?_
  first | refine lxs rfl rfl rfl guard_eq (.cons (t := 58) rfl (fun h => entW h) (.cons (t := 60) rfl (fun h => entW h) .nil)) (op_call (l := [(Go.Operand.tmp 58), (Go.Operand.tmp 60)]) (sameG_ok (c.g) (c.g) (hb4)) (.cons rfl (.cons rfl .nil)) fn19) rfl ?_ | refine lxs rfl rfl rfl guard_eq (.cons (t := 58) rfl (fun h => entW h) (.cons (t := 60) rfl (fun h => entW h) .nil)) (op_call (l := [(Go.Operand.tmp 58), (Go.Operand.tmp 60)]) (sameG_ok (c.g) (c.g) (hb4)) (.ent rfl (by exact ent_auto) (.ent rfl (by exact ent_auto) .nil)) fn19) rfl ?_
  refine lx (op_pick_and rfl rfl) rfl ?_
  refine lx (op_assign rfl) rfl ?_
  refine lx_end ⟨by kernel_rfl, ?_⟩
  refine pe_then_normal ?_
  refine tr_sub hC (.cons (t := 2) rfl .nil) .nil rfl ?_
  refine tr_ret ?_
  refine pe_ret1 rfl hO rfl (.tmp rfl .nil) ?_
  exact entB (by simp)
theorem law_leaves (p : Pg) (g : Gr) (hp : BdPg 1048576 p) (hb : BdG 1048576 g) (v : V) : FnP Try.prog 5 [aggP p.ps, aggP g.ps, aggP (vp v)] (eqP (.bool true)) := by
 have hb4 : BdG 4000000 g := hb.mono (by decide)
 have hbN : BdG 9223372036854775807 g := hb.mono (by decide)
 have hp4 : BdPg 9223372036854775807 p := ⟨Nat.le_trans hp.funcs (by decide), Nat.le_trans hp.globals (by decide), Nat.le_trans hp.layouts (by decide), fun l hl => Nat.le_trans (hp.lays l hl) (by decide), fun f hf => Nat.le_trans (hp.codes f hf) (by decide)⟩
 refine fn_pure' Try.func5 rfl Try.ntmps5 rfl ?_
 intro σ0 M ex Rf R hC hO
 simp only [frameOf, tokOf]
 refine tr_seq ?_
 refine tr_region (fun N0 hN => ?_)
 refine lxn (op_box (m := 3) (k := 3) rfl (.agg rfl) (by first | exact hC.low _ (by decide) | rfl)) rfl ?_
 refine lxn (op_box (m := 4) (k := 4) rfl (.agg rfl) (by first | exact hC.low _ (by decide) | rfl)) rfl ?_
 refine lxn (op_box (m := 5) (k := 5) rfl (.agg rfl) (by first | exact hC.low _ (by decide) | rfl)) rfl ?_
 refine lx (op_assign rfl) rfl ?_
 refine lx_end ⟨by kernel_rfl, ?_⟩
 refine pe_then_normal ?_
 refine tr_sub hC (.cons (t := 3) rfl (.cons (t := 4) rfl (.cons (t := 5) rfl .nil))) (.cons (t := 3) rfl (.cons (t := 4) rfl (.cons (t := 5) rfl .nil))) rfl ?_
 refine tr_seq ?_
 refine tr_seq ?_
 refine tr_region (fun N1 hN => ?_)
 first | refine lx (op_call (l := []) (awake_ok) .nil fn12) rfl ?_ | refine lx (op_call (l := []) (awake_ok) .nil fn12) rfl ?_
 first | refine lx (op_not rfl) rfl ?_ | refine lx (op_not_b rfl) rfl ?_
 refine lx (op_move rfl) rfl ?_
 refine lxs rfl rfl rfl guard_eq (.cons (t := 3) rfl (fun _ => Ent.refl _) .nil) (op_bload (m := 3) rfl rfl ag26 sz26) rfl ?_
 refine lxs rfl rfl rfl guard_eq (.cons (t := 4) rfl (fun _ => Ent.refl _) .nil) (op_bload (m := 4) rfl rfl ag29 sz29) rfl ?_
 first | refine lxs rfl rfl rfl guard_eq (.cons (t := 11) rfl (fun h => entW h) (.cons (t := 12) rfl (fun h => entW h) .nil)) (op_call (l := [(Go.Operand.tmp 11), (Go.Operand.tmp 12)]) (possible_ok p g hp4 hbN) (.cons rfl (.cons rfl .nil)) fn20) rfl ?_ | refine lxs rfl rfl rfl guard_eq (.cons (t := 11) rfl (fun h => entW h) (.cons (t := 12) rfl (fun h => entW h) .nil)) (op_call (l := [(Go.Operand.tmp 11), (Go.Operand.tmp 12)]) (possible_ok p g hp4 hbN) (.ent rfl (by exact ent_auto) (.ent rfl (by exact ent_auto) .nil)) fn20) rfl ?_
 first | refine lxs rfl rfl rfl guard_eq (.cons (t := 13) rfl (fun h => entW h) .nil) (op_not rfl) rfl ?_ | refine lxs rfl rfl rfl guard_eq (.cons (t := 13) rfl (fun h => entW h) .nil) (op_not_b rfl) rfl ?_
 refine lx (op_pick_or rfl rfl) rfl ?_
 refine lx_end ⟨by kernel_rfl, ?_⟩
 refine pe_then_normal ?_
 refine tr_sub hC (.cons (t := 3) rfl (.cons (t := 4) rfl (.cons (t := 5) rfl (.cons (t := 15) rfl .nil)))) (.cons (t := 3) rfl (.cons (t := 4) rfl (.cons (t := 5) rfl .nil))) rfl ?_
 refine tr_cond rfl (fun h15 => ?_) (fun h15 => ?_)
 ·(try simp only [cq1, cq2, cq3, cq4, cq5, cq6, cq7, cq8, cq9, cq10, cq11, cq12, cq13] at h15)
  refine tr_seq ?_
  refine tr_region (fun N2 hN => ?_)
  first | refine lx (op_call (l := []) (awake_ok) .nil fn12) rfl ?_ | refine lx (op_call (l := []) (awake_ok) .nil fn12) rfl ?_
  refine lx (op_assign rfl) rfl ?_
  refine lx_end ⟨by kernel_rfl, ?_⟩
  refine pe_then_normal ?_
  refine tr_sub hC (.cons (t := 6) rfl .nil) .nil rfl ?_
  refine tr_ret ?_
  refine pe_then_ret ?_
  refine pe_ret1 rfl hO rfl (.tmp rfl .nil) ?_
  exact ent_auto
 ·have hpo : (progF instrF p = true ∧ validG p g = true) ∧ (¬ g.state = 0 → g.state = 1) := by simpa using h15
  have hn : g.frames.length ≤ 100000 := Nat.le_trans (valid_frames hpo.1.2) (by decide)
  refine tr_skip ?_
  refine pe_then_normal ?_
  refine tr_sub hC (.cons (t := 3) rfl (.cons (t := 4) rfl (.cons (t := 5) rfl .nil))) (.cons (t := 3) rfl (.cons (t := 4) rfl (.cons (t := 5) rfl .nil))) rfl ?_
  refine tr_seq ?_
  refine tr_region (fun N3 hN => ?_)
  refine lx (op_bload (m := 4) rfl rfl ag29 sz29) rfl ?_
  first | refine lx (op_call (l := [(Go.Operand.tmp 17)]) (copyG_ok g hb4) (.cons rfl .nil) fn16) rfl ?_ | refine lx (op_call (l := [(Go.Operand.tmp 17)]) (copyG_ok g hb4) (.ent rfl (by exact ent_auto) .nil) fn16) rfl ?_
  refine lxn (op_alloc (m := 7) (k := 7) (ps := [eqP (.int .i64 0), eqP (.int .i64 0), eqP (.int .i64 0), eqP (.slice none 0 0)]) ze29 rfl rfl (by first | exact hC.low _ (by decide) | rfl)) rfl ?_
  refine lxr (op_store_all (m := 7) rfl rfl rfl (.agg rfl) sz29 rfl) rfl ?_
  refine lx_end ⟨by kernel_rfl, ?_⟩
  refine pe_then_normal ?_
  refine tr_sub hC (.cons (t := 3) rfl (.cons (t := 4) rfl (.cons (t := 5) rfl (.cons (t := 7) rfl .nil)))) (.cons (t := 3) rfl (.cons (t := 4) rfl (.cons (t := 5) rfl (.cons (t := 7) rfl .nil)))) rfl ?_
  refine tr_seq ?_
  refine tr_drawn mixed (fun N4 hN => ?_)
  refine lx (op_bload (m := 3) rfl rfl ag26 sz26) rfl ?_
  refine lx (op_bload (m := 7) rfl rfl ag29 sz29) rfl ?_
  refine lx (op_bload (m := 5) rfl rfl ag43 sz43) rfl ?_
  first | refine lx (op_call (l := [(Go.Operand.tmp 19), (Go.Operand.tmp 20), (Go.Operand.tmp 21)]) (Leave_ok p (progF_POK hpo.1.1) g hb hn v) (.cons rfl (.cons rfl (.cons rfl .nil))) fn21) rfl ?_ | refine lx (op_call (l := [(Go.Operand.tmp 19), (Go.Operand.tmp 20), (Go.Operand.tmp 21)]) (Leave_ok p (progF_POK hpo.1.1) g hb hn v) (.ent rfl (by exact ent_auto) (.ent rfl (by exact ent_auto) (.ent rfl (by exact ent_auto) .nil))) fn21) rfl ?_
  refine lx (op_bload (m := 3) rfl rfl ag26 sz26) rfl ?_
  refine lx (op_bload (m := 4) rfl rfl ag29 sz29) rfl ?_
  refine lx (op_bload (m := 5) rfl rfl ag43 sz43) rfl ?_
  first | refine lx (op_call (l := [(Go.Operand.tmp 23), (Go.Operand.tmp 24), (Go.Operand.tmp 25)]) (rLeave_ok p (progF_POK hpo.1.1) g hb hn v) (.cons rfl (.cons rfl (.cons rfl .nil))) fn22) rfl ?_ | refine lx (op_call (l := [(Go.Operand.tmp 23), (Go.Operand.tmp 24), (Go.Operand.tmp 25)]) (rLeave_ok p (progF_POK hpo.1.1) g hb hn v) (.ent rfl (by exact ent_auto) (.ent rfl (by exact ent_auto) (.ent rfl (by exact ent_auto) .nil))) fn22) rfl ?_
  first | refine lx (op_call (l := [(Go.Operand.tmp 22), (Go.Operand.tmp 26)]) (sameG_ok (leaveF p g v) (leaveF p g v) ((bdG_leaveF (progF_POK hpo.1.1) hb (by decide)).mono (by decide))) (.cons rfl (.cons rfl .nil)) fn19) rfl ?_ | refine lx (op_call (l := [(Go.Operand.tmp 22), (Go.Operand.tmp 26)]) (sameG_ok (leaveF p g v) (leaveF p g v) ((bdG_leaveF (progF_POK hpo.1.1) hb (by decide)).mono (by decide))) (.ent rfl (by exact ent_auto) (.ent rfl (by exact ent_auto) .nil)) fn19) rfl ?_
  refine lx (op_move rfl) rfl ?_
  refine lxs rfl rfl rfl guard_eq (.cons (t := 7) rfl (fun _ => Ent.refl _) .nil) (op_bload (m := 7) rfl rfl ag29 sz29) rfl ?_
  refine lxs rfl rfl rfl guard_eq (.cons (t := 4) rfl (fun _ => Ent.refl _) .nil) (op_bload (m := 4) rfl rfl ag29 sz29) rfl ?_
  first | refine lxs rfl rfl rfl guard_eq (.cons (t := 29) rfl (fun h => entW h) (.cons (t := 30) rfl (fun h => entW h) .nil)) (op_call (l := [(Go.Operand.tmp 29), (Go.Operand.tmp 30)]) (sameG_ok (g) (g) (hb4)) (.cons rfl (.cons rfl .nil)) fn19) rfl ?_ | refine lxs rfl rfl rfl guard_eq (.cons (t := 29) rfl (fun h => entW h) (.cons (t := 30) rfl (fun h => entW h) .nil)) (op_call (l := [(Go.Operand.tmp 29), (Go.Operand.tmp 30)]) (sameG_ok (g) (g) (hb4)) (.ent rfl (by exact ent_auto) (.ent rfl (by exact ent_auto) .nil)) fn19) rfl ?_
  refine lx (op_pick_and rfl rfl) rfl ?_
  refine lx (op_assign rfl) rfl ?_
  refine lx_end ⟨by kernel_rfl, ?_⟩
  refine pe_then_normal ?_
  refine tr_sub hC (.cons (t := 6) rfl .nil) .nil rfl ?_
  refine tr_ret ?_
  refine pe_ret1 rfl hO rfl (.tmp rfl .nil) ?_
  exact entB (by simp)
def sv (s : Int × Int) : List Value := [.int .i64 s.1, .int .i64 s.2]
end Go.Proofs.Ythiknhmoefbanaa


namespace Go.Proofs.Ythiknhmoefbanaa
open Go.AL Go.Ch Go.Hp Go.RowKit
section
variable {H : Type} {enc : TypeId × Value → H} {W : World} {base : Nat} {spare : Nat → Bool} {held : Bool} {bk : DataW H → Nat}
theorem rdS_string (hB : BulkOK bk) {P : Program} {t : TypeId} (ht : P.underlying t = some .string) : RdS enc P W base spare held bk t (fun b : ByteArray => [eqP (.string b)]) (fun _ => 1) (fun _ => True) := by
  intro fuel cs x hx
  obtain ⟨n, rfl, rfl, hs⟩ := DataW.trod_string ht hx
  refine ⟨n, ⟨trivial, hB.lit _⟩, rfl, fun j p u hp hu => ?_⟩
  cases j with
  | zero => simp at hp hu; subst hp; subst hu; exact ⟨rfl, rfl⟩
  | succ j => simp at hp
theorem rd_value (hB : BulkOK bk) : RdS enc Try.prog W base spare held bk 43 vp szV (fun _ => True) :=
  (rdS_struct hB (fs := [(0, 3, 1), (1, 3, 1), (2, 3, 1)]) (m := 3) (by kernel_rfl) (by kernel_rfl) (rdfS_cons (rdS_int hB Try.underlying3) (rdfS_cons (rdS_int hB Try.underlying3) (rdfS_cons (rdS_int hB Try.underlying3) rdfS_nil)))).map
    (fun x => ⟨x.1, x.2.1, x.2.2.1⟩) (fun _ => rfl) (fun _ => Nat.le_refl _) (fun _ _ => trivial)
theorem rd_values (hB : BulkOK bk) : RdS enc Try.prog W base spare held bk 33 (fun l => [slP vp 3 l]) (szL szV) (fun _ => True) :=
  (rdS_slice hB Try.underlying33 (rd_value hB) (by kernel_rfl) (by decide)).map (fun x => x) (fun _ => rfl) (fun _ => Nat.le_refl _) (fun _ _ => trivial)
theorem rd_deferred (hB : BulkOK bk) : RdS enc Try.prog W base spare held bk 47 Df.ps szD (fun _ => True) :=
  (rdS_struct hB (fs := [(0, 3, 1), (1, 33, 1)]) (m := 2) (by kernel_rfl) (by kernel_rfl) (rdfS_cons (rdS_int hB Try.underlying3) (rdfS_cons (rd_values hB) rdfS_nil))).map
    (fun x => ⟨x.1, x.2.1⟩) (fun _ => rfl) (fun _ => by simp only [szD]; omega) (fun _ _ => trivial)
theorem rd_defers (hB : BulkOK bk) : RdS enc Try.prog W base spare held bk 58 (fun l => [slP Df.ps 2 l]) (szL szD) (fun _ => True) :=
  (rdS_slice hB Try.underlying58 (rd_deferred hB) (by kernel_rfl) (by decide)).map (fun x => x) (fun _ => rfl) (fun _ => Nat.le_refl _) (fun _ _ => trivial)
theorem rd_frame (hB : BulkOK bk) : RdS enc Try.prog W base spare held bk 60 Fm.ps szFm (fun _ => True) :=
  (rdS_struct hB (fs := [(0, 3, 1), (1, 3, 1), (2, 33, 1), (3, 3, 1), (4, 58, 1), (5, 4, 1), (6, 43, 3)]) (m := 9) (by kernel_rfl) (by kernel_rfl) (rdfS_cons (rdS_int hB Try.underlying3) (rdfS_cons (rdS_int hB Try.underlying3) (rdfS_cons (rd_values hB) (rdfS_cons (rdS_int hB Try.underlying3) (rdfS_cons (rd_defers hB) (rdfS_cons (rdS_bool hB Try.underlying4) (rdfS_cons (rd_value hB) rdfS_nil)))))))).map
    (fun x => ⟨x.1, x.2.1, x.2.2.1, x.2.2.2.1, x.2.2.2.2.1, x.2.2.2.2.2.1, x.2.2.2.2.2.2.1⟩) (fun _ => rfl) (fun _ => by simp only [szFm, szV]; omega) (fun _ _ => trivial)
theorem rd_frames (hB : BulkOK bk) : RdS enc Try.prog W base spare held bk 27 (fun l => [slP Fm.ps 9 l]) (szL szFm) (fun _ => True) :=
  (rdS_slice hB Try.underlying27 (rd_frame hB) (by kernel_rfl) (by decide)).map (fun x => x) (fun _ => rfl) (fun _ => Nat.le_refl _) (fun _ _ => trivial)
theorem rd_goroutine (hB : BulkOK bk) : RdS enc Try.prog W base spare held bk 29 Gr.ps szGr (fun _ => True) :=
  (rdS_struct hB (fs := [(0, 3, 1), (1, 3, 1), (2, 3, 1), (3, 27, 1)]) (m := 4) (by kernel_rfl) (by kernel_rfl) (rdfS_cons (rdS_int hB Try.underlying3) (rdfS_cons (rdS_int hB Try.underlying3) (rdfS_cons (rdS_int hB Try.underlying3) (rdfS_cons (rd_frames hB) rdfS_nil))))).map
    (fun x => ⟨x.1, x.2.1, x.2.2.1, x.2.2.2.1⟩) (fun _ => rfl) (fun _ => by simp only [szGr]; omega) (fun _ _ => trivial)
theorem rd_instr (hB : BulkOK bk) : RdS enc Try.prog W base spare held bk 80 In.ps szIn (fun _ => True) :=
  (rdS_struct hB (fs := [(0, 3, 1), (1, 3, 1), (2, 3, 1), (3, 3, 1), (4, 3, 1)]) (m := 5) (by kernel_rfl) (by kernel_rfl) (rdfS_cons (rdS_int hB Try.underlying3) (rdfS_cons (rdS_int hB Try.underlying3) (rdfS_cons (rdS_int hB Try.underlying3) (rdfS_cons (rdS_int hB Try.underlying3) (rdfS_cons (rdS_int hB Try.underlying3) rdfS_nil)))))).map
    (fun x => ⟨x.1, x.2.1, x.2.2.1, x.2.2.2.1, x.2.2.2.2.1⟩) (fun _ => rfl) (fun _ => by simp only [szIn]; omega) (fun _ _ => trivial)
theorem rd_instrs (hB : BulkOK bk) : RdS enc Try.prog W base spare held bk 64 (fun l => [slP In.ps 5 l]) (szL szIn) (fun _ => True) :=
  (rdS_slice hB Try.underlying64 (rd_instr hB) (by kernel_rfl) (by decide)).map (fun x => x) (fun _ => rfl) (fun _ => Nat.le_refl _) (fun _ _ => trivial)
theorem rd_func (hB : BulkOK bk) : RdS enc Try.prog W base spare held bk 66 Fu.ps szFu (fun _ => True) :=
  (rdS_struct hB (fs := [(0, 9, 1), (1, 3, 1), (2, 3, 1), (3, 64, 1)]) (m := 4) (by kernel_rfl) (by kernel_rfl) (rdfS_cons (rdS_string hB Try.underlying9) (rdfS_cons (rdS_int hB Try.underlying3) (rdfS_cons (rdS_int hB Try.underlying3) (rdfS_cons (rd_instrs hB) rdfS_nil))))).map
    (fun x => ⟨x.1, x.2.1, x.2.2.1, x.2.2.2.1⟩) (fun _ => rfl) (fun _ => by simp only [szFu]; omega) (fun _ _ => trivial)
theorem rd_funcs (hB : BulkOK bk) : RdS enc Try.prog W base spare held bk 22 (fun l => [slP Fu.ps 4 l]) (szL szFu) (fun _ => True) :=
  (rdS_slice hB Try.underlying22 (rd_func hB) (by kernel_rfl) (by decide)).map (fun x => x) (fun _ => rfl) (fun _ => Nat.le_refl _) (fun _ _ => trivial)
theorem rd_global (hB : BulkOK bk) : RdS enc Try.prog W base spare held bk 71 Gl.ps szGl (fun _ => True) :=
  (rdS_struct hB (fs := [(0, 9, 1), (1, 3, 1)]) (m := 2) (by kernel_rfl) (by kernel_rfl) (rdfS_cons (rdS_string hB Try.underlying9) (rdfS_cons (rdS_int hB Try.underlying3) rdfS_nil))).map
    (fun x => ⟨x.1, x.2.1⟩) (fun _ => rfl) (fun _ => by simp only [szGl]; omega) (fun _ _ => trivial)
theorem rd_globals (hB : BulkOK bk) : RdS enc Try.prog W base spare held bk 23 (fun l => [slP Gl.ps 2 l]) (szL szGl) (fun _ => True) :=
  (rdS_slice hB Try.underlying23 (rd_global hB) (by kernel_rfl) (by decide)).map (fun x => x) (fun _ => rfl) (fun _ => Nat.le_refl _) (fun _ _ => trivial)
theorem rd_layout (hB : BulkOK bk) : RdS enc Try.prog W base spare held bk 81 lyp (szL szI) (fun _ => True) :=
  (rdS_slice hB Try.underlying81 (rdS_int hB Try.underlying3) (by kernel_rfl) (by decide)).map (fun x => x) (fun _ => rfl) (fun _ => Nat.le_refl _) (fun _ _ => trivial)
theorem rd_layouts (hB : BulkOK bk) : RdS enc Try.prog W base spare held bk 24 (fun l => [slP lyp 1 l]) (szL (szL szI)) (fun _ => True) :=
  (rdS_slice hB Try.underlying24 (rd_layout hB) (by kernel_rfl) (by decide)).map (fun x => x) (fun _ => rfl) (fun _ => Nat.le_refl _) (fun _ _ => trivial)
theorem rd_program (hB : BulkOK bk) : RdS enc Try.prog W base spare held bk 26 Pg.ps szP (fun _ => True) :=
  (rdS_struct hB (fs := [(0, 22, 1), (1, 23, 1), (2, 24, 1), (3, 3, 1)]) (m := 4) (by kernel_rfl) (by kernel_rfl) (rdfS_cons (rd_funcs hB) (rdfS_cons (rd_globals hB) (rdfS_cons (rd_layouts hB) (rdfS_cons (rdS_int hB Try.underlying3) rdfS_nil))))).map
    (fun x => ⟨x.1, x.2.1, x.2.2.1, x.2.2.2.1⟩) (fun _ => rfl) (fun _ => by simp only [szP]; omega) (fun _ _ => trivial)
def szCl (c : Cl) : Nat := szP c.p + szGr c.g + szL szV c.args
theorem rd_call (hB : BulkOK bk) : RdS enc Try.prog W base spare held bk 35 Cl.ps szCl (fun _ => True) :=
  (rdS_struct hB (fs := [(0, 26, 4), (4, 29, 4), (8, 3, 1), (9, 33, 1), (10, 3, 1)]) (m := 11) (by kernel_rfl) (by kernel_rfl) (rdfS_cons (rd_program hB) (rdfS_cons (rd_goroutine hB) (rdfS_cons (rdS_int hB Try.underlying3) (rdfS_cons (rd_values hB) (rdfS_cons (rdS_int hB Try.underlying3) rdfS_nil)))))).map
    (fun x => ⟨x.1, x.2.1, x.2.2.1, x.2.2.2.1, x.2.2.2.2.1⟩) (fun _ => rfl) (fun _ => by simp only [szCl]; omega) (fun _ _ => trivial)
end
end Go.Proofs.Ythiknhmoefbanaa


namespace Go.Proofs.Ythiknhmoefbanaa
open Go.AL
theorem bulkAll {H : Type} : ∀ l : List (DataW H), Rows.uptoBulkAll l = (l.map Rows.uptoBulk).sum
  | [] => rfl
  | d :: l => by
    rw [Rows.uptoBulkAll, bulkAll l, List.map_cons, List.sum_cons]
theorem bulkOK {H : Type} : BulkOK (H := H) Rows.uptoBulk where
  lit := fun l => by cases l <;> simp [Rows.uptoBulk]
  nil := by simp [Rows.uptoBulk]
  slice := fun e s => by rw [Rows.uptoBulk, bulkAll, bulkAll]; omega
  agg := fun l => by rw [Rows.uptoBulk, bulkAll]; omega
end Go.Proofs.Ythiknhmoefbanaa


namespace Go.Hp
open Go.AL Go.Ch
def lastO (b : Option Fm) : List Fm → Option Fm
  | [] => b
  | x :: l => lastO (some x) l
section
variable {p : Pg} {g : Gr} {f f' h : Fm} {b : Option Fm} {l : List Fm} {d : Df} {v : V} {r x dest : Int} {args : List V} {q t : Nat} {ins : Pg → Fu → In → Bool}
theorem frs_app : ∀ (l : List Fm) (b : Option Fm), frsOK p b (l ++ [f]) = (frsOK p b l && frmOK p (lastO b l) f)
  | [], b => by simp [frsOK, lastO]
  | y :: l, b => by
    show (frmOK p b y && frsOK p (some y) (l ++ [f])) = (frmOK p b y && frsOK p (some y) l && frmOK p (lastO (some y) l) f)
    rw [frs_app l (some y), Bool.and_assoc]
theorem lastO_app : ∀ (l : List Fm) (b : Option Fm), lastO b (l ++ [f]) = some f
  | [], b => rfl
  | y :: l, b => lastO_app l (some y)
theorem frs_take (h : frsOK p none l = true) : ∀ t, t ≤ l.length → frsOK p none (l.take t) = true := by
  intro t ht
  have : ∀ (l : List Fm) (b : Option Fm) (t : Nat), frsOK p b l = true → frsOK p b (l.take t) = true := by
    intro l
    induction l with
    | nil => intro b t _; simp [frsOK]
    | cons y l ih =>
      intro b t h
      rw [frsOK, Bool.and_eq_true] at h
      cases t with
      | zero => rfl
      | succ t =>
        rw [List.take_succ_cons, frsOK, h.1, ih _ _ h.2]
        rfl
  exact this l none t h
theorem frs_at (h : frsOK p none l = true) (hq : l[q]? = some f) : frsOK p none (l.take q) = true ∧ frmOK p (lastO none (l.take q)) f = true := by
  obtain ⟨hlt, rfl⟩ := List.getElem?_eq_some_iff.1 hq
  have h1 := frs_take h (q + 1) (by omega)
  rw [take_at hlt, frs_app, Bool.and_eq_true] at h1
  exact h1
theorem frs_put (h : frsOK p none (l.take q) = true) (hf : frmOK p (lastO none (l.take q)) f = true) : frsOK p none (l.take q ++ [f]) = true := by rw [frs_app, h, hf]; rfl
theorem frm_parts : frmOK p b f = true ↔ (0 ≤ f.fn ∧ f.fn < (p.funcs.length : Int)) ∧ ((f.regs.length : Int) = (pfn p f.fn).regs ∧ 0 ≤ f.pc ∧ f.pc < ((pfn p f.fn).code.length : Int) ∧ -1 ≤ f.dest) ∧ f.regs.all vval = true ∧ vval f.result = true ∧ destOK b f = true ∧ f.defers.all (defOK p) = true := by
  unfold frmOK fnOK' midOK
  simp only [Bool.and_eq_true, decide_eq_true_eq]
  exact ⟨fun ⟨⟨⟨a, ⟨c, d⟩, e⟩, i⟩, j⟩ => ⟨a, c, d, e, i, j⟩, fun ⟨a, c, d, e, i, j⟩ => ⟨⟨⟨a, ⟨c, d⟩, e⟩, i⟩, j⟩⟩
theorem all_set {l : List V} {i : Nat} (h : l.all vval = true) (hv : vval v = true) : (l.set i v).all vval = true := by
  rw [List.all_eq_true] at h ⊢
  intro x hx
  rcases List.mem_or_eq_of_mem_set hx with hx | rfl
  · exact h x hx
  · exact hv
theorem destOK_of (h : destOK b f = true) (e : f'.dest = f.dest) : destOK b f' = true := by
  unfold destOK at h ⊢
  rw [e]
  exact h
theorem frm_set (h : frmOK p b f = true) (hv : vval v = true) (i : Nat) : frmOK p b { f with regs := f.regs.set i v } = true := by
  rw [frm_parts] at h ⊢
  obtain ⟨a, c, d, e, i', j⟩ := h
  exact ⟨a, ⟨by simpa using c.1, c.2⟩, all_set d hv, e, destOK_of i' rfl, j⟩
theorem frm_topL (h : frmOK p b f = true) (hv : vval v = true) : frmOK p b (topL f v) = true := by
  unfold topL
  split
  · exact h
  · rw [frm_parts] at h ⊢
    obtain ⟨a, c, d, e, i', j⟩ := h
    exact ⟨a, c, d, hv, destOK_of i' rfl, j⟩
theorem frm_ret (hf : vval f.result = true) (h' : frmOK p b h = true) : frmOK p b (ret1 f h) = true := by
  unfold ret1
  split
  · exact frm_set h' hf _
  · exact h'
theorem frm_drop (h : frmOK p b f = true) (k : Nat) : frmOK p b { f with defers := f.defers.take k } = true := by
  rw [frm_parts] at h ⊢
  obtain ⟨a, c, d, e, i', j⟩ := h
  refine ⟨a, c, d, e, destOK_of i' rfl, ?_⟩
  rw [List.all_eq_true] at j ⊢
  exact fun x hx => j x (List.mem_of_mem_take hx)
theorem frm_push (h : frmOK p b f = true) (hd : defOK p d = true) : frmOK p b { f with defers := f.defers ++ [d] } = true := by
  rw [frm_parts] at h ⊢
  obtain ⟨a, c, e, i, k, j⟩ := h
  exact ⟨a, c, e, i, destOK_of k rfl, by rw [List.all_append, j]; simp [hd]⟩
theorem valid_iff : validG p g = true ↔ (0 ≤ g.state ∧ g.state ≤ 3 ∧ 0 ≤ g.fault ∧ g.fault ≤ 9 ∧ (g.state = 3 ↔ g.fault ≠ 0) ∧ (g.state = 2 ↔ (g.frames.length : Int) = 0) ∧ 0 ≤ g.allocs ∧ g.allocs ≤ 200 ∧ (g.frames.length : Int) ≤ 32) ∧ frsOK p none g.frames = true := by
  unfold validG hdrOK
  rw [Bool.and_eq_true, decide_eq_true_eq]
def Poss (p : Pg) (g : Gr) : Prop := validG p g = true ∧ (g.state = 0 ∨ g.state = 1)
theorem poss_top (h : Poss p g) : ∃ q f, g.frames[q]? = some f ∧ g.frames.length = q + 1 := by
  have h1 := (valid_iff.1 h.1).1
  have h2 := h.2
  exact ⟨g.frames.length - 1, g.frames[g.frames.length - 1]'(by omega), List.getElem?_eq_getElem (by omega), by omega⟩
theorem keep_put (h : Poss p g) (hq : g.frames[q]? = some f) (hl : g.frames.length = q + 1) (hf : frmOK p (lastO none (g.frames.take q)) f' = true) : validG p { g with frames := g.frames.take q ++ [f'] } = true := by
  have h1 := valid_iff.1 h.1
  have h2 := h.2
  have hlt := (List.getElem?_eq_some_iff.1 hq).1
  refine valid_iff.2 ⟨?_, frs_put (frs_at h1.2 hq).1 hf⟩
  have e : (g.frames.take q ++ [f']).length = q + 1 := by simp; omega
  simp only [e]
  omega
theorem keep_set (h : Poss p g) (hv : vval v = true) : validG p (setF g r v) = true := by
  obtain ⟨q, f, hq, hl⟩ := poss_top h
  have hf := (frs_at (valid_iff.1 h.1).2 hq).2
  by_cases hr : 0 ≤ r ∧ r < (f.regs.length : Int)
  · rw [set_in hq hl hr]
    exact keep_put h hq hl (frm_set hf hv _)
  · rw [set_out hq hl hr]
    exact keep_put h hq hl hf
theorem keep_defer (h : Poss p g) (hd : defOK p d = true) : validG p (deferF g d) = true := by
  obtain ⟨q, f, hq, hl⟩ := poss_top h
  rw [def_some hq hl]
  exact keep_put h hq hl (frm_push (frs_at (valid_iff.1 h.1).2 hq).2 hd)
theorem frm_new (hp : progF ins p = true) (h0 : 0 ≤ x) (h1 : x < (p.funcs.length : Int)) (ha : (args.length : Int) = (pfn p x).params) (hv : args.all vval = true) (hd : -1 ≤ dest) (hb : destOK b (newF p x args dest) = true) : frmOK p b (newF p x args dest) = true := by
  have hk := (progF_POK hp).at_ h0 h1
  have hc := fun_hdr ((progF_mem hp).2 _ (List.mem_of_getElem? (pfn_at h0 h1)))
  have e : (newF p x args dest).regs = regsF args (pfn p x).regs.toNat := rfl
  refine frm_parts.2 ⟨⟨h0, h1⟩, ⟨?_, Int.le_refl _, ?_, hd⟩, ?_, rfl, hb, rfl⟩
  · rw [e, regs_len (by omega)]
    show ((pfn p x).regs.toNat : Int) = (pfn p x).regs
    omega
  · show (0 : Int) < ((pfn p x).code.length : Int)
    omega
  · rw [e]
    unfold regsF
    rw [List.all_append, hv]
    simp only [Bool.true_and, List.all_eq_true]
    intro y hy
    rw [(List.mem_replicate.1 hy).2]
    rfl
/-- a call that fits -/
theorem keep_enter (hp : progF ins p = true) (h : validG p g = true) (hs : g.state ≠ 2) (hn : g.frames.length < 32) (h0 : 0 ≤ x) (h1 : x < (p.funcs.length : Int)) (ha : (args.length : Int) = (pfn p x).params) (hv : args.all vval = true) (hd : -1 ≤ dest)
    (hb : destOK (lastO none g.frames) (newF p x args dest) = true) : enterF p g x args dest = ({ g with frames := g.frames ++ [newF p x args dest] }, 0) ∧ validG p (enterF p g x args dest).1 = true := by
  have e : enterF p g x args dest = ({ g with frames := g.frames ++ [newF p x args dest] }, 0) := by
    unfold enterF
    rw [if_neg (by omega), if_neg (by omega)]
  refine ⟨e, ?_⟩
  rw [e]
  have h2 := valid_iff.1 h
  refine valid_iff.2 ⟨?_, by rw [frs_app, h2.2, frm_new hp h0 h1 ha hv hd hb]; rfl⟩
  have e2 : (g.frames ++ [newF p x args dest]).length = g.frames.length + 1 := by simp
  simp only [e2]
  omega
theorem defOK_iff : defOK p d = true ↔ (0 ≤ d.fn ∧ d.fn < (p.funcs.length : Int) ∧ (d.args.length : Int) = (pfn p d.fn).params) ∧ d.args.all vval = true := by
  unfold defOK
  rw [Bool.and_eq_true, decide_eq_true_eq]
def OutOK (p : Pg) (n : Nat) : Out → Prop
  | .stop rs => frsOK p none rs.reverse = true ∧ rs.length ≤ n
  | .call rs d => frsOK p none rs.reverse = true ∧ rs.length ≤ n ∧ 0 < rs.length ∧ defOK p d = true
theorem lst_ok (h : frsOK p none l = true) : ∀ (t : Nat) (f : Fm), t < l.length → frmOK p (lastO none (l.take t)) f = true → OutOK p l.length (lst l (t + 1) f) := by
  intro t
  induction t with
  | zero =>
    intro f ht hf
    by_cases hl : f.leaving = true
    · cases hd : f.defers[f.defers.length - 1]? with
      | some d =>
        rw [leave_call hl hd]
        refine ⟨?_, by simp; omega, by simp, ?_⟩
        · simp only [List.reverse_cons, List.reverse_reverse]
          exact frs_put (frs_take h _ (by omega)) (frm_drop hf _)
        · exact List.all_eq_true.1 (frm_parts.1 hf).2.2.2.2.2 _ (mem_at hd)
      | none =>
        have hn : f.defers.length = 0 := by rw [List.getElem?_eq_none_iff] at hd; omega
        rw [leave_last hl hn]
        exact ⟨rfl, Nat.zero_le _⟩
    · rw [leave_stop (by simpa using hl)]
      refine ⟨?_, by simp; omega⟩
      simp only [List.reverse_cons, List.reverse_reverse]
      exact frs_put (frs_take h _ (by omega)) hf
  | succ t ih =>
    intro f ht hf
    by_cases hl : f.leaving = true
    · cases hd : f.defers[f.defers.length - 1]? with
      | some d =>
        rw [leave_call hl hd]
        refine ⟨?_, by simp; omega, by simp, ?_⟩
        · simp only [List.reverse_cons, List.reverse_reverse]
          exact frs_put (frs_take h _ (by omega)) (frm_drop hf _)
        · exact List.all_eq_true.1 (frm_parts.1 hf).2.2.2.2.2 _ (mem_at hd)
      | none =>
        have hn : f.defers.length = 0 := by rw [List.getElem?_eq_none_iff] at hd; omega
        have hh : l[t]? = some (l[t]'(by omega)) := List.getElem?_eq_getElem (by omega)
        rw [leave_pop hl hn hh]
        exact ih _ (by omega) (frm_ret (frm_parts.1 hf).2.2.2.1 (frs_at h hh).2)
    · rw [leave_stop (by simpa using hl)]
      refine ⟨?_, by simp; omega⟩
      simp only [List.reverse_cons, List.reverse_reverse]
      exact frs_put (frs_take h _ (by omega)) hf
theorem keep_leave (hp : progF ins p = true) (h : Poss p g) (hv : vval v = true) : validG p (leaveF p g v) = true := by
  obtain ⟨q, f, hq, hl⟩ := poss_top h
  have h1 := valid_iff.1 h.1
  have h2 := h.2
  have ho := lst_ok h1.2 q (topL f v) (by omega) (frm_topL (frs_at h1.2 hq).2 hv)
  rw [leaveF_some hq hl]
  revert ho
  cases lst g.frames (q + 1) (topL f v) with
  | stop rs =>
    intro ⟨ha, hb⟩
    refine valid_iff.2 ⟨?_, ha⟩
    simp only [List.length_reverse]
    by_cases e : rs.length = 0
    · rw [if_pos e]
      omega
    · rw [if_neg e]
      omega
  | call rs d =>
    intro ⟨ha, hb, hc, hd⟩
    have hdd := defOK_iff.1 hd
    have hg : validG p { g with frames := rs.reverse } = true := by
      refine valid_iff.2 ⟨?_, ha⟩
      simp only [List.length_reverse]
      omega
    simp only
    by_cases hn : rs.length < 32
    · have hdst : destOK (lastO none rs.reverse) (newF p d.fn d.args (-1)) = true := by
        cases hlo : lastO none rs.reverse with
        | none => rfl
        | some y => exact decide_eq_true (show (-1 : Int) < (y.regs.length : Int) by omega)
      have hk := keep_enter (g := { g with frames := rs.reverse }) hp hg (by show g.state ≠ 2; omega) (by simpa using hn) hdd.1.1 hdd.1.2.1 hdd.1.2.2 hdd.2 (Int.le_refl _) hdst
      rw [if_pos (by rw [hk.1])]
      exact hk.2
    · have e : (enterF p { g with frames := rs.reverse } d.fn d.args (-1)).2 = 3 := by
        unfold enterF
        rw [if_neg (by omega), if_pos (by simp; omega)]
      rw [if_neg (by rw [e]; decide)]
      refine valid_iff.2 ⟨?_, ha⟩
      simp only [List.length_reverse]
      refine ⟨by decide, by decide, by decide, by decide, by decide, ⟨fun e => absurd e (by decide), fun e => ?_⟩, by omega, by omega, by omega⟩
      omega
end
end Go.Hp


set_option linter.unusedVariables false
set_option linter.unusedSimpArgs false
namespace Go.Proofs.Ythiknhmoefbanaa
open Go.AL Go.Ch Go.Hp Go.RowKit
theorem ag35 : aggB Try.prog 35 = some true := by kernel_rfl
theorem fn31 : fnB Try.prog 31 = true := by kernel_rfl
theorem sz35 : sizeB Try.prog 35 = some 11 := by kernel_rfl
def topR (g : Gr) : List V := match topF g.frames with | none => [] | some f => f.regs
theorem topR_eq {g : Gr} {q : Nat} {f : Fm} (hq : g.frames[q]? = some f) (hl : g.frames.length = q + 1) : topR g = f.regs := by
 unfold topR topF
 rw [hl, Nat.add_sub_cancel, hq]
theorem lastO_top {l : List Fm} {q : Nat} {f : Fm} (hq : l[q]? = some f) (hl : l.length = q + 1) : lastO none l = some f := by
 have e : l.take q ++ [f] = l := by
  obtain ⟨hlt, rfl⟩ := List.getElem?_eq_some_iff.1 hq
  rw [← take_at hlt, List.take_of_length_le (by omega)]
 have h := lastO_app (f := f) (l.take q) none
 rwa [e] at h
def fitBad (c : Cl) : Bool := ((((((!((progF instrF c.p && validG c.p c.g) && (decide (c.g.state = 0) || decide (c.g.state = 1))) || decide ((c.g.frames.length : Int) ≥ 32)) || decide (c.fn < 0)) || decide (c.fn ≥ (c.p.funcs.length : Int))) || decide ((c.args.length : Int) ≠ (pfn c.p c.fn).params)) || !(c.args.all vval)) || decide (c.dest < -1))
def fitsF (c : Cl) : Bool := if fitBad c = true then false else decide (c.dest < ((topR c.g).length : Int))
theorem fit_bad {c : Cl} (h : fitBad c = false) : progF instrF c.p = true ∧ Poss c.p c.g ∧ c.g.frames.length < 32 ∧ 0 ≤ c.fn ∧ c.fn < (c.p.funcs.length : Int) ∧ (c.args.length : Int) = (pfn c.p c.fn).params ∧ c.args.all vval = true ∧ -1 ≤ c.dest := by
 unfold fitBad at h
 simp only [Bool.or_eq_false_iff, Bool.not_eq_false', Bool.and_eq_true, Bool.or_eq_true, decide_eq_true_eq, decide_eq_false_iff_not] at h
 obtain ⟨⟨⟨⟨⟨⟨⟨⟨h1, h2⟩, h3⟩, h4⟩, h5⟩, h6⟩, h7⟩, h8⟩, h9⟩ := h
 exact ⟨h1, ⟨h2, h3⟩, by omega, by omega, by omega, by omega, h8, by omega⟩
theorem fits_ex {c : Cl} (h : fitsF c = true) : fitBad c = false ∧ c.dest < ((topR c.g).length : Int) := by
 unfold fitsF at h
 cases e : fitBad c with
 | true => rw [e] at h; simp at h
 | false => rw [e] at h; simpa using h
theorem keeps_ex {c : Cl} {d : Df} {v : V} (h : (((((((!true) || !(fitsF c)) || !(vval v)) || !(d.args.all vval)) || decide (d.fn < 0)) || decide (d.fn ≥ (c.p.funcs.length : Int))) || decide ((d.args.length : Int) ≠ (pfn c.p d.fn).params)) = false) : fitsF c = true ∧ vval v = true ∧ defOK c.p d = true := by
 simp only [Bool.or_eq_false_iff, Bool.not_eq_false', decide_eq_false_iff_not, Bool.not_true, true_and] at h
 obtain ⟨⟨⟨⟨⟨h1, h2⟩, h3⟩, h4⟩, h5⟩, h6⟩ := h
 exact ⟨h1, h2, defOK_iff.2 ⟨⟨by omega, by omega, by omega⟩, h3⟩⟩
theorem keeps_enter {c : Cl} (h : fitsF c = true) : enterF c.p c.g c.fn c.args c.dest = ({ c.g with frames := c.g.frames ++ [newF c.p c.fn c.args c.dest] }, 0) ∧ validG c.p (enterF c.p c.g c.fn c.args c.dest).1 = true := by
 obtain ⟨h1, h2⟩ := fits_ex h
 obtain ⟨hp, hs, hn, h3, h4, h5, h6, h7⟩ := fit_bad h1
 obtain ⟨q, f, hq, hl⟩ := poss_top hs
 have hs2 := hs.2
 refine keep_enter hp hs.1 (by omega) hn h3 h4 h5 h6 h7 ?_
 rw [lastO_top hq hl]
 rw [topR_eq hq hl] at h2
 exact decide_eq_true h2
theorem fits_ok (c : Cl) (hp : BdPg 9223372036854775807 c.p) (hb : BdG 9223372036854775807 c.g) (ha : c.args.length ≤ 9223372036854775807) : FnP Try.prog 31 [aggP c.ps] (eqP (.bool (fitsF c))) := by
 refine fn_pure' Try.func31 rfl Try.ntmps31 rfl ?_
 intro σ0 M ex Rf R hC hO
 simp only [frameOf, tokOf]
 refine tr_seq ?_
 refine tr_region (fun N0 hN => ?_)
 refine lxn (op_box (m := 1) (k := 1) rfl (.agg rfl) (by first | exact hC.low _ (by decide) | rfl)) rfl ?_
 refine lx (op_assign rfl) rfl ?_
 refine lx_end ⟨by kernel_rfl, ?_⟩
 refine pe_then_normal ?_
 refine tr_sub hC (.cons (t := 1) rfl .nil) (.cons (t := 1) rfl .nil) rfl ?_
 refine tr_seq ?_
 refine tr_seq ?_
 refine tr_drawn mixed (fun N1 hN => ?_)
 refine lx (op_fieldAddr rfl fl35_0 sz26) rfl ?_
 refine lx (op_bload_part (m := 1) (qs := [_, _, _, _]) rfl rfl ag26 sz26 rfl rfl) rfl ?_
 refine lx (op_fieldAddr rfl fl35_1 sz29) rfl ?_
 refine lx (op_bload_part (m := 1) (qs := [_, _, _, _]) rfl rfl ag29 sz29 rfl rfl) rfl ?_
 first | refine lx (op_call (l := [(Go.Operand.tmp 4), (Go.Operand.tmp 6)]) (possible_ok c.p c.g hp hb) (.cons rfl (.cons rfl .nil)) fn20) rfl ?_ | refine lx (op_call (l := [(Go.Operand.tmp 4), (Go.Operand.tmp 6)]) (possible_ok c.p c.g hp hb) (.ent rfl (by exact ent_auto) (.ent rfl (by exact ent_auto) .nil)) fn20) rfl ?_
 first | refine lx (op_not rfl) rfl ?_ | refine lx (op_not_b rfl) rfl ?_
 refine lx (op_move rfl) rfl ?_
 refine lxs rfl rfl rfl guard_eq (.cons (t := 1) rfl (fun _ => Ent.refl _) .nil) (op_fieldAddr rfl fl35_1 sz29) rfl ?_
 refine lxs rfl rfl rfl guard_eq (.cons (t := 10) rfl (fun h => entW h) .nil) (op_fieldAddr rfl fl29_3 sz27) rfl ?_
 refine lxs rfl rfl rfl guard_eq (.cons (t := 11) rfl (fun h => entW h) .nil) (op_bload_one (m := 1) rfl rfl ag27 rfl) rfl ?_
 first | refine lxs rfl rfl rfl guard_eq (.cons (t := 12) rfl (fun h => entW h) .nil) (op_len rfl el27) rfl ?_ | refine lxs rfl rfl rfl guard_eq (.cons (t := 12) rfl (fun h => entW h) .nil) (op_len_row rfl el27) rfl ?_ | refine lxs rfl rfl rfl guard_eq (.cons (t := 12) rfl (fun h => entW h) .nil) (op_len_mv rfl el27) rfl ?_ | refine lxs rfl rfl rfl guard_eq (.cons (t := 12) rfl (fun h => entW h) .nil) (op_len_nil rfl el27) rfl ?_
 refine lxs rfl rfl rfl guard_eq (.cons (t := 13) rfl (fun h => entW h) .nil) (op_geq rfl rfl) rfl ?_
 refine lx (op_pick_or rfl rfl) rfl ?_
 refine lx (op_move rfl) rfl ?_
 refine lxs rfl rfl rfl guard_eq (.cons (t := 1) rfl (fun _ => Ent.refl _) .nil) (op_fieldAddr rfl fl35_2 sz3) rfl ?_
 refine lxs rfl rfl rfl guard_eq (.cons (t := 17) rfl (fun h => entW h) .nil) (op_bload_one (m := 1) rfl rfl ag3 rfl) rfl ?_
 refine lxs rfl rfl rfl guard_eq (.cons (t := 18) rfl (fun h => entW h) .nil) (op_lss rfl rfl) rfl ?_
 refine lx (op_pick_or rfl rfl) rfl ?_
 refine lx (op_move rfl) rfl ?_
 refine lxs rfl rfl rfl guard_eq (.cons (t := 1) rfl (fun _ => Ent.refl _) .nil) (op_fieldAddr rfl fl35_2 sz3) rfl ?_
 refine lxs rfl rfl rfl guard_eq (.cons (t := 22) rfl (fun h => entW h) .nil) (op_bload_one (m := 1) rfl rfl ag3 rfl) rfl ?_
 refine lxs rfl rfl rfl guard_eq (.cons (t := 1) rfl (fun _ => Ent.refl _) .nil) (op_fieldAddr rfl fl35_0 sz26) rfl ?_
 refine lxs rfl rfl rfl guard_eq (.cons (t := 24) rfl (fun h => entW h) .nil) (op_fieldAddr rfl fl26_0 sz22) rfl ?_
 refine lxs rfl rfl rfl guard_eq (.cons (t := 25) rfl (fun h => entW h) .nil) (op_bload_one (m := 1) rfl rfl ag22 rfl) rfl ?_
 first | refine lxs rfl rfl rfl guard_eq (.cons (t := 26) rfl (fun h => entW h) .nil) (op_len rfl el22) rfl ?_ | refine lxs rfl rfl rfl guard_eq (.cons (t := 26) rfl (fun h => entW h) .nil) (op_len_row rfl el22) rfl ?_ | refine lxs rfl rfl rfl guard_eq (.cons (t := 26) rfl (fun h => entW h) .nil) (op_len_mv rfl el22) rfl ?_ | refine lxs rfl rfl rfl guard_eq (.cons (t := 26) rfl (fun h => entW h) .nil) (op_len_nil rfl el22) rfl ?_
 refine lxs rfl rfl rfl guard_eq (.cons (t := 23) rfl (fun h => entW h) (.cons (t := 27) rfl (fun h => entW h) .nil)) (op_geq rfl rfl) rfl ?_
 refine lx (op_pick_or rfl rfl) rfl ?_
 refine lx (op_move rfl) rfl ?_
 refine lxs rfl rfl rfl guard_eq (.cons (t := 1) rfl (fun _ => Ent.refl _) .nil) (op_fieldAddr rfl fl35_3 sz33) rfl ?_
 refine lxs rfl rfl rfl guard_eq (.cons (t := 31) rfl (fun h => entW h) .nil) (op_bload_one (m := 1) rfl rfl ag33 rfl) rfl ?_
 first | refine lxs rfl rfl rfl guard_eq (.cons (t := 32) rfl (fun h => entW h) .nil) (op_len rfl el33) rfl ?_ | refine lxs rfl rfl rfl guard_eq (.cons (t := 32) rfl (fun h => entW h) .nil) (op_len_row rfl el33) rfl ?_ | refine lxs rfl rfl rfl guard_eq (.cons (t := 32) rfl (fun h => entW h) .nil) (op_len_mv rfl el33) rfl ?_ | refine lxs rfl rfl rfl guard_eq (.cons (t := 32) rfl (fun h => entW h) .nil) (op_len_nil rfl el33) rfl ?_
 refine lxs rfl rfl rfl guard_eq (.cons (t := 1) rfl (fun _ => Ent.refl _) .nil) (op_fieldAddr rfl fl35_0 sz26) rfl ?_
 refine lxs rfl rfl rfl guard_eq (.cons (t := 34) rfl (fun h => entW h) .nil) (op_fieldAddr rfl fl26_0 sz22) rfl ?_
 refine lxs rfl rfl rfl guard_eq (.cons (t := 35) rfl (fun h => entW h) .nil) (op_bload_one (m := 1) rfl rfl ag22 rfl) rfl ?_
 refine lxs rfl rfl rfl guard_eq (.cons (t := 1) rfl (fun _ => Ent.refl _) .nil) (op_fieldAddr rfl fl35_2 sz3) rfl ?_
 refine lxs rfl rfl rfl guard_eq (.cons (t := 37) rfl (fun h => entW h) .nil) (op_bload_one (m := 1) rfl rfl ag3 rfl) rfl ?_
 refine lxsc (rd := [(36, slP Fu.ps 4 c.p.funcs), (38, eqP (.int .i64 c.fn))]) (φ := cellsP (pfn c.p (c.fn)).ps) rfl rfl rfl guard_eq (.cons (t := 36) rfl (fun h => entW h) (.cons (t := 38) rfl (fun h => entW h) .nil)) (fun hgd => ?_) rfl rfl ?_
 ·have hq0 : 0 ≤ c.fn ∧ c.fn < (c.p.funcs.length : Int) := by
   simp at hgd
   omega
  exact op_index rfl rfl el22 sz66 (by omega : c.fn = ((c.fn.toNat : Nat) : Int)) (pfn_at (by omega) (by omega))
 first | refine lxs rfl rfl rfl guard_eq (.cons (t := 39) rfl (fun h => entW h) .nil) (op_fieldAddr rfl fl66_1 sz3) rfl ?_ | refine lxs rfl rfl rfl guard_eq (.cons (t := 39) rfl (fun h => entW h) .nil) (op_fieldCells rfl fl66_1 sz3) rfl ?_
 first | refine lxs rfl rfl rfl guard_eq (.cons (t := 40) rfl (fun h => entW h) .nil) (op_load_one rfl ag3 rfl) rfl ?_ | refine lxs rfl rfl rfl guard_eq (.cons (t := 40) rfl (fun h => entW h) .nil) (op_bload_one (m := 1) rfl rfl ag3 rfl) rfl ?_
 refine lxs rfl rfl rfl guard_eq (.cons (t := 33) rfl (fun h => entW h) (.cons (t := 41) rfl (fun h => entW h) .nil)) (op_neq rfl rfl) rfl ?_
 refine lx (op_pick_or rfl rfl) rfl ?_
 refine lx (op_move rfl) rfl ?_
 refine lxs rfl rfl rfl guard_eq (.cons (t := 1) rfl (fun _ => Ent.refl _) .nil) (op_fieldAddr rfl fl35_3 sz33) rfl ?_
 refine lxs rfl rfl rfl guard_eq (.cons (t := 45) rfl (fun h => entW h) .nil) (op_bload_one (m := 1) rfl rfl ag33 rfl) rfl ?_
 first | refine lxs rfl rfl rfl guard_eq (.cons (t := 46) rfl (fun h => entW h) .nil) (op_call (l := [(Go.Operand.tmp 46)]) (rvvals_ok c.args ha) (.cons rfl .nil) fn33) rfl ?_ | refine lxs rfl rfl rfl guard_eq (.cons (t := 46) rfl (fun h => entW h) .nil) (op_call (l := [(Go.Operand.tmp 46)]) (rvvals_ok c.args ha) (.ent rfl (by exact ent_auto) .nil) fn33) rfl ?_
 first | refine lxs rfl rfl rfl guard_eq (.cons (t := 47) rfl (fun h => entW h) .nil) (op_not rfl) rfl ?_ | refine lxs rfl rfl rfl guard_eq (.cons (t := 47) rfl (fun h => entW h) .nil) (op_not_b rfl) rfl ?_
 refine lx (op_pick_or rfl rfl) rfl ?_
 refine lx (op_move rfl) rfl ?_
 refine lxs rfl rfl rfl guard_eq (.cons (t := 1) rfl (fun _ => Ent.refl _) .nil) (op_fieldAddr rfl fl35_4 sz3) rfl ?_
 refine lxs rfl rfl rfl guard_eq (.cons (t := 51) rfl (fun h => entW h) .nil) (op_bload_one (m := 1) rfl rfl ag3 rfl) rfl ?_
 refine lxs rfl rfl rfl guard_eq (.cons (t := 52) rfl (fun h => entW h) .nil) (op_lss rfl rfl) rfl ?_
 refine lx (op_pick_or rfl rfl) rfl ?_
 refine lx_end ⟨by kernel_rfl, ?_⟩
 refine pe_then_normal ?_
 refine tr_sub hC (.cons (t := 1) rfl (.cons (t := 54) rfl .nil)) (.cons (t := 1) rfl .nil) rfl ?_
 refine tr_cond rfl (fun h54 => ?_) (fun h54 => ?_)
 ·have hbad : fitBad c = true := h54
  refine tr_seq ?_
  refine tr_region (fun N2 hN => ?_)
  refine lx (op_assign rfl) rfl ?_
  refine lx_end ⟨by kernel_rfl, ?_⟩
  refine pe_then_normal ?_
  refine tr_sub hC (.cons (t := 2) rfl .nil) .nil rfl ?_
  refine tr_ret ?_
  refine pe_then_ret ?_
  refine pe_ret1 rfl hO rfl (.tmp rfl .nil) ?_
  rw [fitsF, if_pos hbad]
  exact ent_auto
 ·have hok : fitBad c = false := h54
  obtain ⟨q, f, hq, hl⟩ := poss_top (fit_bad hok).2.1
  have hq32 := (fit_bad hok).2.2.1
  refine tr_skip ?_
  refine pe_then_normal ?_
  refine tr_sub hC (.cons (t := 1) rfl .nil) (.cons (t := 1) rfl .nil) rfl ?_
  refine tr_seq ?_
  refine tr_drawn mixed (fun N3 hN => ?_)
  refine lx (op_fieldAddr rfl fl35_4 sz3) rfl ?_
  refine lx (op_bload_one (m := 1) rfl rfl ag3 rfl) rfl ?_
  refine lx (op_fieldAddr rfl fl35_1 sz29) rfl ?_
  refine lx (op_fieldAddr rfl fl29_3 sz27) rfl ?_
  refine lx (op_bload_one (m := 1) rfl rfl ag27 rfl) rfl ?_
  refine lx (op_fieldAddr rfl fl35_1 sz29) rfl ?_
  refine lx (op_fieldAddr rfl fl29_3 sz27) rfl ?_
  refine lx (op_bload_one (m := 1) rfl rfl ag27 rfl) rfl ?_
  first | refine lx (op_len rfl el27) rfl ?_ | refine lx (op_len_row rfl el27) rfl ?_ | refine lx (op_len_mv rfl el27) rfl ?_ | refine lx (op_len_nil rfl el27) rfl ?_
  refine lx (op_sub rfl rfl (by omega)) rfl ?_
  refine lx (op_index rfl rfl el27 sz60 (by omega : (c.g.frames.length : Int) - 1 = ((q : Nat) : Int)) hq) rfl ?_
  first | refine lx (op_fieldAddr rfl fl60_2 sz33) rfl ?_ | refine lx (op_fieldCells rfl fl60_2 sz33) rfl ?_
  first | refine lx (op_load_one rfl ag33 rfl) rfl ?_ | refine lx (op_bload_one (m := 1) rfl rfl ag33 rfl) rfl ?_
  first | refine lx (op_len rfl el33) rfl ?_ | refine lx (op_len_row rfl el33) rfl ?_ | refine lx (op_len_mv rfl el33) rfl ?_ | refine lx (op_len_nil rfl el33) rfl ?_
  refine lx (op_lss rfl rfl) rfl ?_
  refine lx (op_assign rfl) rfl ?_
  refine lx_end ⟨by kernel_rfl, ?_⟩
  refine pe_then_normal ?_
  refine tr_sub hC (.cons (t := 2) rfl .nil) .nil rfl ?_
  refine tr_ret ?_
  refine pe_ret1 rfl hO rfl (.tmp rfl .nil) ?_
  rw [fitsF, if_neg (by rw [hok]; simp), topR_eq hq hl]
  exact ent_auto
theorem law_keeps (c : Cl) (hp : BdPg 1048576 c.p) (hb : BdG 1048576 c.g) (hn : c.g.frames.length ≤ 100000) (ha : c.args.length ≤ 1048576) (d : Df) (hd : d.args.length ≤ 1048576) (v : V) : FnP Try.prog 11 [aggP c.ps, aggP d.ps, aggP (vp v)] (eqP (.bool true)) := by
 have hb4 : BdG 4000000 c.g := hb.mono (by decide)
 have hbN : BdG 9223372036854775807 c.g := hb.mono (by decide)
 have hp4 : BdPg 9223372036854775807 c.p := ⟨Nat.le_trans hp.funcs (by decide), Nat.le_trans hp.globals (by decide), Nat.le_trans hp.layouts (by decide), fun l hl => Nat.le_trans (hp.lays l hl) (by decide), fun f hf => Nat.le_trans (hp.codes f hf) (by decide)⟩
 refine fn_pure' Try.func11 rfl Try.ntmps11 rfl ?_
 intro σ0 M ex Rf R hC hO
 simp only [frameOf, tokOf]
 refine tr_seq ?_
 refine tr_region (fun N0 hN => ?_)
 refine lxn (op_box (m := 3) (k := 3) rfl (.agg rfl) (by first | exact hC.low _ (by decide) | rfl)) rfl ?_
 refine lxn (op_box (m := 4) (k := 4) rfl (.agg rfl) (by first | exact hC.low _ (by decide) | rfl)) rfl ?_
 refine lxn (op_box (m := 5) (k := 5) rfl (.agg rfl) (by first | exact hC.low _ (by decide) | rfl)) rfl ?_
 refine lx (op_assign rfl) rfl ?_
 refine lx_end ⟨by kernel_rfl, ?_⟩
 refine pe_then_normal ?_
 refine tr_sub hC (.cons (t := 3) rfl (.cons (t := 4) rfl (.cons (t := 5) rfl .nil))) (.cons (t := 3) rfl (.cons (t := 4) rfl (.cons (t := 5) rfl .nil))) rfl ?_
 refine tr_seq ?_
 refine tr_seq ?_
 refine tr_drawn mixed (fun N1 hN => ?_)
 first | refine lx (op_call (l := []) (awake_ok) .nil fn12) rfl ?_ | refine lx (op_call (l := []) (awake_ok) .nil fn12) rfl ?_
 first | refine lx (op_not rfl) rfl ?_ | refine lx (op_not_b rfl) rfl ?_
 refine lx (op_move rfl) rfl ?_
 refine lxs rfl rfl rfl guard_eq (.cons (t := 3) rfl (fun _ => Ent.refl _) .nil) (op_bload (m := 3) rfl rfl ag35 sz35) rfl ?_
 first | refine lxs rfl rfl rfl guard_eq (.cons (t := 12) rfl (fun h => entW h) .nil) (op_call (l := [(Go.Operand.tmp 12)]) (fits_ok c hp4 hbN (Nat.le_trans ha (by decide))) (.cons rfl .nil) fn31) rfl ?_ | refine lxs rfl rfl rfl guard_eq (.cons (t := 12) rfl (fun h => entW h) .nil) (op_call (l := [(Go.Operand.tmp 12)]) (fits_ok c hp4 hbN (Nat.le_trans ha (by decide))) (.ent rfl (by exact ent_auto) .nil) fn31) rfl ?_
 first | refine lxs rfl rfl rfl guard_eq (.cons (t := 13) rfl (fun h => entW h) .nil) (op_not rfl) rfl ?_ | refine lxs rfl rfl rfl guard_eq (.cons (t := 13) rfl (fun h => entW h) .nil) (op_not_b rfl) rfl ?_
 refine lx (op_pick_or rfl rfl) rfl ?_
 refine lx (op_move rfl) rfl ?_
 refine lxs rfl rfl rfl guard_eq (.cons (t := 5) rfl (fun _ => Ent.refl _) .nil) (op_bload (m := 5) rfl rfl ag43 sz43) rfl ?_
 first | refine lxs rfl rfl rfl guard_eq (.cons (t := 17) rfl (fun h => entW h) .nil) (op_call (l := [(Go.Operand.tmp 17)]) (rvval_ok v) (.cons rfl .nil) fn32) rfl ?_ | refine lxs rfl rfl rfl guard_eq (.cons (t := 17) rfl (fun h => entW h) .nil) (op_call (l := [(Go.Operand.tmp 17)]) (rvval_ok v) (.ent rfl (by exact ent_auto) .nil) fn32) rfl ?_
 first | refine lxs rfl rfl rfl guard_eq (.cons (t := 18) rfl (fun h => entW h) .nil) (op_not rfl) rfl ?_ | refine lxs rfl rfl rfl guard_eq (.cons (t := 18) rfl (fun h => entW h) .nil) (op_not_b rfl) rfl ?_
 refine lx (op_pick_or rfl rfl) rfl ?_
 refine lx (op_move rfl) rfl ?_
 refine lxs rfl rfl rfl guard_eq (.cons (t := 4) rfl (fun _ => Ent.refl _) .nil) (op_fieldAddr rfl fl47_1 sz33) rfl ?_
 refine lxs rfl rfl rfl guard_eq (.cons (t := 22) rfl (fun h => entW h) .nil) (op_bload_one (m := 4) rfl rfl ag33 rfl) rfl ?_
 first | refine lxs rfl rfl rfl guard_eq (.cons (t := 23) rfl (fun h => entW h) .nil) (op_call (l := [(Go.Operand.tmp 23)]) (rvvals_ok d.args (Nat.le_trans hd (by decide))) (.cons rfl .nil) fn33) rfl ?_ | refine lxs rfl rfl rfl guard_eq (.cons (t := 23) rfl (fun h => entW h) .nil) (op_call (l := [(Go.Operand.tmp 23)]) (rvvals_ok d.args (Nat.le_trans hd (by decide))) (.ent rfl (by exact ent_auto) .nil) fn33) rfl ?_
 first | refine lxs rfl rfl rfl guard_eq (.cons (t := 24) rfl (fun h => entW h) .nil) (op_not rfl) rfl ?_ | refine lxs rfl rfl rfl guard_eq (.cons (t := 24) rfl (fun h => entW h) .nil) (op_not_b rfl) rfl ?_
 refine lx (op_pick_or rfl rfl) rfl ?_
 refine lx (op_move rfl) rfl ?_
 refine lxs rfl rfl rfl guard_eq (.cons (t := 4) rfl (fun _ => Ent.refl _) .nil) (op_fieldAddr rfl fl47_0 sz3) rfl ?_
 refine lxs rfl rfl rfl guard_eq (.cons (t := 28) rfl (fun h => entW h) .nil) (op_bload_one (m := 4) rfl rfl ag3 rfl) rfl ?_
 refine lxs rfl rfl rfl guard_eq (.cons (t := 29) rfl (fun h => entW h) .nil) (op_lss rfl rfl) rfl ?_
 refine lx (op_pick_or rfl rfl) rfl ?_
 refine lx (op_move rfl) rfl ?_
 refine lxs rfl rfl rfl guard_eq (.cons (t := 4) rfl (fun _ => Ent.refl _) .nil) (op_fieldAddr rfl fl47_0 sz3) rfl ?_
 refine lxs rfl rfl rfl guard_eq (.cons (t := 33) rfl (fun h => entW h) .nil) (op_bload_one (m := 4) rfl rfl ag3 rfl) rfl ?_
 refine lxs rfl rfl rfl guard_eq (.cons (t := 3) rfl (fun _ => Ent.refl _) .nil) (op_fieldAddr rfl fl35_0 sz26) rfl ?_
 refine lxs rfl rfl rfl guard_eq (.cons (t := 35) rfl (fun h => entW h) .nil) (op_fieldAddr rfl fl26_0 sz22) rfl ?_
 refine lxs rfl rfl rfl guard_eq (.cons (t := 36) rfl (fun h => entW h) .nil) (op_bload_one (m := 3) rfl rfl ag22 rfl) rfl ?_
 first | refine lxs rfl rfl rfl guard_eq (.cons (t := 37) rfl (fun h => entW h) .nil) (op_len rfl el22) rfl ?_ | refine lxs rfl rfl rfl guard_eq (.cons (t := 37) rfl (fun h => entW h) .nil) (op_len_row rfl el22) rfl ?_ | refine lxs rfl rfl rfl guard_eq (.cons (t := 37) rfl (fun h => entW h) .nil) (op_len_mv rfl el22) rfl ?_ | refine lxs rfl rfl rfl guard_eq (.cons (t := 37) rfl (fun h => entW h) .nil) (op_len_nil rfl el22) rfl ?_
 refine lxs rfl rfl rfl guard_eq (.cons (t := 34) rfl (fun h => entW h) (.cons (t := 38) rfl (fun h => entW h) .nil)) (op_geq rfl rfl) rfl ?_
 refine lx (op_pick_or rfl rfl) rfl ?_
 refine lx (op_move rfl) rfl ?_
 refine lxs rfl rfl rfl guard_eq (.cons (t := 4) rfl (fun _ => Ent.refl _) .nil) (op_fieldAddr rfl fl47_1 sz33) rfl ?_
 refine lxs rfl rfl rfl guard_eq (.cons (t := 42) rfl (fun h => entW h) .nil) (op_bload_one (m := 4) rfl rfl ag33 rfl) rfl ?_
 first | refine lxs rfl rfl rfl guard_eq (.cons (t := 43) rfl (fun h => entW h) .nil) (op_len rfl el33) rfl ?_ | refine lxs rfl rfl rfl guard_eq (.cons (t := 43) rfl (fun h => entW h) .nil) (op_len_row rfl el33) rfl ?_ | refine lxs rfl rfl rfl guard_eq (.cons (t := 43) rfl (fun h => entW h) .nil) (op_len_mv rfl el33) rfl ?_ | refine lxs rfl rfl rfl guard_eq (.cons (t := 43) rfl (fun h => entW h) .nil) (op_len_nil rfl el33) rfl ?_
 refine lxs rfl rfl rfl guard_eq (.cons (t := 3) rfl (fun _ => Ent.refl _) .nil) (op_fieldAddr rfl fl35_0 sz26) rfl ?_
 refine lxs rfl rfl rfl guard_eq (.cons (t := 45) rfl (fun h => entW h) .nil) (op_fieldAddr rfl fl26_0 sz22) rfl ?_
 refine lxs rfl rfl rfl guard_eq (.cons (t := 46) rfl (fun h => entW h) .nil) (op_bload_one (m := 3) rfl rfl ag22 rfl) rfl ?_
 refine lxs rfl rfl rfl guard_eq (.cons (t := 4) rfl (fun _ => Ent.refl _) .nil) (op_fieldAddr rfl fl47_0 sz3) rfl ?_
 refine lxs rfl rfl rfl guard_eq (.cons (t := 48) rfl (fun h => entW h) .nil) (op_bload_one (m := 4) rfl rfl ag3 rfl) rfl ?_
 refine lxsc (rd := [(47, slP Fu.ps 4 c.p.funcs), (49, eqP (.int .i64 d.fn))]) (φ := cellsP (pfn c.p (d.fn)).ps) rfl rfl rfl guard_eq (.cons (t := 47) rfl (fun h => entW h) (.cons (t := 49) rfl (fun h => entW h) .nil)) (fun hgd => ?_) rfl rfl ?_
 ·have hq0 : 0 ≤ d.fn ∧ d.fn < (c.p.funcs.length : Int) := by
   simp at hgd
   omega
  exact op_index rfl rfl el22 sz66 (by omega : d.fn = ((d.fn.toNat : Nat) : Int)) (pfn_at (by omega) (by omega))
 first | refine lxs rfl rfl rfl guard_eq (.cons (t := 50) rfl (fun h => entW h) .nil) (op_fieldAddr rfl fl66_1 sz3) rfl ?_ | refine lxs rfl rfl rfl guard_eq (.cons (t := 50) rfl (fun h => entW h) .nil) (op_fieldCells rfl fl66_1 sz3) rfl ?_
 first | refine lxs rfl rfl rfl guard_eq (.cons (t := 51) rfl (fun h => entW h) .nil) (op_load_one rfl ag3 rfl) rfl ?_ | refine lxs rfl rfl rfl guard_eq (.cons (t := 51) rfl (fun h => entW h) .nil) (op_bload_one (m := 3) rfl rfl ag3 rfl) rfl ?_ | refine lxs rfl rfl rfl guard_eq (.cons (t := 51) rfl (fun h => entW h) .nil) (op_bload_one (m := 4) rfl rfl ag3 rfl) rfl ?_ | refine lxs rfl rfl rfl guard_eq (.cons (t := 51) rfl (fun h => entW h) .nil) (op_bload_one (m := 5) rfl rfl ag3 rfl) rfl ?_
 refine lxs rfl rfl rfl guard_eq (.cons (t := 44) rfl (fun h => entW h) (.cons (t := 52) rfl (fun h => entW h) .nil)) (op_neq rfl rfl) rfl ?_
 refine lx (op_pick_or rfl rfl) rfl ?_
 refine lx_end ⟨by kernel_rfl, ?_⟩
 refine pe_then_normal ?_
 refine tr_sub hC (.cons (t := 3) rfl (.cons (t := 4) rfl (.cons (t := 5) rfl (.cons (t := 54) rfl .nil)))) (.cons (t := 3) rfl (.cons (t := 4) rfl (.cons (t := 5) rfl .nil))) rfl ?_
 refine tr_cond rfl (fun h54 => ?_) (fun h54 => ?_)
 ·(try simp only [cq1, cq2, cq3, cq4, cq5, cq6, cq7, cq8, cq9, cq10, cq11, cq12, cq13] at h54)
  refine tr_seq ?_
  refine tr_region (fun N2 hN => ?_)
  first | refine lx (op_call (l := []) (awake_ok) .nil fn12) rfl ?_ | refine lx (op_call (l := []) (awake_ok) .nil fn12) rfl ?_
  refine lx (op_assign rfl) rfl ?_
  refine lx_end ⟨by kernel_rfl, ?_⟩
  refine pe_then_normal ?_
  refine tr_sub hC (.cons (t := 6) rfl .nil) .nil rfl ?_
  refine tr_ret ?_
  refine pe_then_ret ?_
  refine pe_ret1 rfl hO rfl (.tmp rfl .nil) ?_
  exact ent_auto
 ·obtain ⟨hfit, hvv, hdd⟩ := keeps_ex (c := c) (d := d) (v := v) h54
  have hfb := fit_bad (fits_ex hfit).1
  have hke := keeps_enter hfit
  have hkl := keep_leave hfb.1 hfb.2.1 hvv
  have hkd := keep_defer hfb.2.1 hdd
  have hks := keep_set (r := c.dest) hfb.2.1 hvv
  have he2 : (enterF c.p c.g c.fn c.args c.dest).2 = 0 := by rw [hke.1]
  refine tr_skip ?_
  refine pe_then_normal ?_
  refine tr_sub hC (.cons (t := 3) rfl (.cons (t := 4) rfl (.cons (t := 5) rfl .nil))) (.cons (t := 3) rfl (.cons (t := 4) rfl (.cons (t := 5) rfl .nil))) rfl ?_
  refine tr_seq ?_
  refine tr_region (fun N3 hN => ?_)
  refine lx (op_fieldAddr rfl fl35_0 sz26) rfl ?_
  refine lx (op_bload_part (m := 3) (qs := [_, _, _, _]) rfl rfl ag26 sz26 rfl rfl) rfl ?_
  refine lx (op_fieldAddr rfl fl35_1 sz29) rfl ?_
  refine lx (op_bload_part (m := 3) (qs := [_, _, _, _]) rfl rfl ag29 sz29 rfl rfl) rfl ?_
  refine lx (op_fieldAddr rfl fl35_2 sz3) rfl ?_
  refine lx (op_bload_one (m := 3) rfl rfl ag3 rfl) rfl ?_
  refine lx (op_fieldAddr rfl fl35_3 sz33) rfl ?_
  refine lx (op_bload_one (m := 3) rfl rfl ag33 rfl) rfl ?_
  refine lx (op_fieldAddr rfl fl35_4 sz3) rfl ?_
  refine lx (op_bload_one (m := 3) rfl rfl ag3 rfl) rfl ?_
  first | refine lx (op_call (l := [(Go.Operand.tmp 58), (Go.Operand.tmp 60), (Go.Operand.tmp 62), (Go.Operand.tmp 64), (Go.Operand.tmp 66)]) (Enter_ok c.p (progF_POK hfb.1) c.g hb hn c.fn c.args c.dest) (.cons rfl (.cons rfl (.cons rfl (.cons rfl (.cons rfl .nil))))) fn17) rfl ?_ | refine lx (op_call (l := [(Go.Operand.tmp 58), (Go.Operand.tmp 60), (Go.Operand.tmp 62), (Go.Operand.tmp 64), (Go.Operand.tmp 66)]) (Enter_ok c.p (progF_POK hfb.1) c.g hb hn c.fn c.args c.dest) (.ent rfl (by exact ent_auto) (.ent rfl (by exact ent_auto) (.ent rfl (by exact ent_auto) (.ent rfl (by exact ent_auto) (.ent rfl (by exact ent_auto) .nil))))) fn17) rfl ?_
  refine lx (op_move rfl) rfl ?_
  refine lx (op_extract rfl rfl) rfl ?_
  refine lx (op_extract rfl rfl) rfl ?_
  refine lxn (op_alloc (m := 7) (k := 7) (ps := [eqP (.int .i64 0), eqP (.int .i64 0), eqP (.int .i64 0), eqP (.slice none 0 0)]) ze29 rfl rfl (by first | exact hC.low _ (by decide) | rfl)) rfl ?_
  refine lxr (op_store_all (m := 7) rfl rfl rfl (.agg rfl) sz29 rfl) rfl ?_
  refine lx (op_assign rfl) rfl ?_
  refine lx_end ⟨by kernel_rfl, ?_⟩
  refine pe_then_normal ?_
  refine tr_sub hC (.cons (t := 3) rfl (.cons (t := 4) rfl (.cons (t := 5) rfl (.cons (t := 7) rfl (.cons (t := 8) rfl .nil))))) (.cons (t := 3) rfl (.cons (t := 4) rfl (.cons (t := 5) rfl (.cons (t := 7) rfl .nil)))) rfl ?_
  refine tr_seq ?_
  refine tr_drawn mixed (fun N4 hN => ?_)
  refine lx (op_move rfl) rfl ?_
  refine lx (op_eql rfl rfl) rfl ?_
  refine lx (op_move rfl) rfl ?_
  refine lxs rfl rfl rfl guard_eq (.cons (t := 3) rfl (fun _ => Ent.refl _) .nil) (op_fieldAddr rfl fl35_0 sz26) rfl ?_
  refine lxs rfl rfl rfl guard_eq (.cons (t := 73) rfl (fun h => entW h) .nil) (op_bload_part (m := 3) (qs := [_, _, _, _]) rfl rfl ag26 sz26 rfl rfl) rfl ?_
  refine lxs rfl rfl rfl guard_eq (.cons (t := 7) rfl (fun _ => Ent.refl _) .nil) (op_bload (m := 7) rfl rfl ag29 sz29) rfl ?_
  first | refine lxs rfl rfl rfl guard_eq (.cons (t := 74) rfl (fun h => entW h) (.cons (t := 75) rfl (fun h => entW h) .nil)) (op_call (l := [(Go.Operand.tmp 74), (Go.Operand.tmp 75)]) (rValid_ok c.p (enterF c.p c.g c.fn c.args c.dest).1 ((bdG_enterF (progF_POK hfb.1) hb (by decide)).mono (by decide))) (.cons rfl (.cons rfl .nil)) fn15) rfl ?_ | refine lxs rfl rfl rfl guard_eq (.cons (t := 74) rfl (fun h => entW h) (.cons (t := 75) rfl (fun h => entW h) .nil)) (op_call (l := [(Go.Operand.tmp 74), (Go.Operand.tmp 75)]) (rValid_ok c.p (enterF c.p c.g c.fn c.args c.dest).1 ((bdG_enterF (progF_POK hfb.1) hb (by decide)).mono (by decide))) (.ent rfl (by exact ent_auto) (.ent rfl (by exact ent_auto) .nil)) fn15) rfl ?_
  refine lx (op_pick_and rfl rfl) rfl ?_
  refine lx (op_move rfl) rfl ?_
  refine lxs rfl rfl rfl guard_eq (.cons (t := 3) rfl (fun _ => Ent.refl _) .nil) (op_fieldAddr rfl fl35_0 sz26) rfl ?_
  refine lxs rfl rfl rfl guard_eq (.cons (t := 79) rfl (fun h => entW h) .nil) (op_bload_part (m := 3) (qs := [_, _, _, _]) rfl rfl ag26 sz26 rfl rfl) rfl ?_
  refine lxs rfl rfl rfl guard_eq (.cons (t := 3) rfl (fun _ => Ent.refl _) .nil) (op_fieldAddr rfl fl35_0 sz26) rfl ?_
  refine lxs rfl rfl rfl guard_eq (.cons (t := 81) rfl (fun h => entW h) .nil) (op_bload_part (m := 3) (qs := [_, _, _, _]) rfl rfl ag26 sz26 rfl rfl) rfl ?_
  refine lxs rfl rfl rfl guard_eq (.cons (t := 3) rfl (fun _ => Ent.refl _) .nil) (op_fieldAddr rfl fl35_1 sz29) rfl ?_
  refine lxs rfl rfl rfl guard_eq (.cons (t := 83) rfl (fun h => entW h) .nil) (op_bload_part (m := 3) (qs := [_, _, _, _]) rfl rfl ag29 sz29 rfl rfl) rfl ?_
  refine lxs rfl rfl rfl guard_eq (.cons (t := 5) rfl (fun _ => Ent.refl _) .nil) (op_bload (m := 5) rfl rfl ag43 sz43) rfl ?_
  first | refine lxs rfl rfl rfl guard_eq (.cons (t := 82) rfl (fun h => entW h) (.cons (t := 84) rfl (fun h => entW h) (.cons (t := 85) rfl (fun h => entW h) .nil))) (op_call (l := [(Go.Operand.tmp 82), (Go.Operand.tmp 84), (Go.Operand.tmp 85)]) (Leave_ok c.p (progF_POK hfb.1) c.g hb hn v) (.cons rfl (.cons rfl (.cons rfl .nil))) fn21) rfl ?_ | refine lxs rfl rfl rfl guard_eq (.cons (t := 82) rfl (fun h => entW h) (.cons (t := 84) rfl (fun h => entW h) (.cons (t := 85) rfl (fun h => entW h) .nil))) (op_call (l := [(Go.Operand.tmp 82), (Go.Operand.tmp 84), (Go.Operand.tmp 85)]) (Leave_ok c.p (progF_POK hfb.1) c.g hb hn v) (.ent rfl (by exact ent_auto) (.ent rfl (by exact ent_auto) (.ent rfl (by exact ent_auto) .nil))) fn21) rfl ?_
  first | refine lxs rfl rfl rfl guard_eq (.cons (t := 80) rfl (fun h => entW h) (.cons (t := 86) rfl (fun h => entW h) .nil)) (op_call (l := [(Go.Operand.tmp 80), (Go.Operand.tmp 86)]) (rValid_ok c.p (leaveF c.p c.g v) ((bdG_leaveF (progF_POK hfb.1) hb (by decide)).mono (by decide))) (.cons rfl (.cons rfl .nil)) fn15) rfl ?_ | refine lxs rfl rfl rfl guard_eq (.cons (t := 80) rfl (fun h => entW h) (.cons (t := 86) rfl (fun h => entW h) .nil)) (op_call (l := [(Go.Operand.tmp 80), (Go.Operand.tmp 86)]) (rValid_ok c.p (leaveF c.p c.g v) ((bdG_leaveF (progF_POK hfb.1) hb (by decide)).mono (by decide))) (.ent rfl (by exact ent_auto) (.ent rfl (by exact ent_auto) .nil)) fn15) rfl ?_
  refine lx (op_pick_and rfl rfl) rfl ?_
  refine lx (op_move rfl) rfl ?_
  refine lxs rfl rfl rfl guard_eq (.cons (t := 3) rfl (fun _ => Ent.refl _) .nil) (op_fieldAddr rfl fl35_0 sz26) rfl ?_
  refine lxs rfl rfl rfl guard_eq (.cons (t := 90) rfl (fun h => entW h) .nil) (op_bload_part (m := 3) (qs := [_, _, _, _]) rfl rfl ag26 sz26 rfl rfl) rfl ?_
  refine lxs rfl rfl rfl guard_eq (.cons (t := 3) rfl (fun _ => Ent.refl _) .nil) (op_fieldAddr rfl fl35_1 sz29) rfl ?_
  refine lxs rfl rfl rfl guard_eq (.cons (t := 92) rfl (fun h => entW h) .nil) (op_bload_part (m := 3) (qs := [_, _, _, _]) rfl rfl ag29 sz29 rfl rfl) rfl ?_
  refine lxs rfl rfl rfl guard_eq (.cons (t := 4) rfl (fun _ => Ent.refl _) .nil) (op_bload (m := 4) rfl rfl ag47 sz47) rfl ?_
  first | refine lxs rfl rfl rfl guard_eq (.cons (t := 93) rfl (fun h => entW h) (.cons (t := 94) rfl (fun h => entW h) .nil)) (op_call (l := [(Go.Operand.tmp 93), (Go.Operand.tmp 94)]) (Defer_ok c.g hb hn d hd) (.cons rfl (.cons rfl .nil)) fn23) rfl ?_ | refine lxs rfl rfl rfl guard_eq (.cons (t := 93) rfl (fun h => entW h) (.cons (t := 94) rfl (fun h => entW h) .nil)) (op_call (l := [(Go.Operand.tmp 93), (Go.Operand.tmp 94)]) (Defer_ok c.g hb hn d hd) (.ent rfl (by exact ent_auto) (.ent rfl (by exact ent_auto) .nil)) fn23) rfl ?_
  first | refine lxs rfl rfl rfl guard_eq (.cons (t := 91) rfl (fun h => entW h) (.cons (t := 95) rfl (fun h => entW h) .nil)) (op_call (l := [(Go.Operand.tmp 91), (Go.Operand.tmp 95)]) (rValid_ok c.p (deferF c.g d) ((bdG_deferF hb hd).mono (by decide))) (.cons rfl (.cons rfl .nil)) fn15) rfl ?_ | refine lxs rfl rfl rfl guard_eq (.cons (t := 91) rfl (fun h => entW h) (.cons (t := 95) rfl (fun h => entW h) .nil)) (op_call (l := [(Go.Operand.tmp 91), (Go.Operand.tmp 95)]) (rValid_ok c.p (deferF c.g d) ((bdG_deferF hb hd).mono (by decide))) (.ent rfl (by exact ent_auto) (.ent rfl (by exact ent_auto) .nil)) fn15) rfl ?_
  refine lx (op_pick_and rfl rfl) rfl ?_
  refine lx (op_move rfl) rfl ?_
  refine lxs rfl rfl rfl guard_eq (.cons (t := 3) rfl (fun _ => Ent.refl _) .nil) (op_fieldAddr rfl fl35_0 sz26) rfl ?_
  refine lxs rfl rfl rfl guard_eq (.cons (t := 99) rfl (fun h => entW h) .nil) (op_bload_part (m := 3) (qs := [_, _, _, _]) rfl rfl ag26 sz26 rfl rfl) rfl ?_
  refine lxs rfl rfl rfl guard_eq (.cons (t := 3) rfl (fun _ => Ent.refl _) .nil) (op_fieldAddr rfl fl35_1 sz29) rfl ?_
  refine lxs rfl rfl rfl guard_eq (.cons (t := 101) rfl (fun h => entW h) .nil) (op_bload_part (m := 3) (qs := [_, _, _, _]) rfl rfl ag29 sz29 rfl rfl) rfl ?_
  refine lxs rfl rfl rfl guard_eq (.cons (t := 3) rfl (fun _ => Ent.refl _) .nil) (op_fieldAddr rfl fl35_4 sz3) rfl ?_
  refine lxs rfl rfl rfl guard_eq (.cons (t := 103) rfl (fun h => entW h) .nil) (op_bload_one (m := 3) rfl rfl ag3 rfl) rfl ?_
  refine lxs rfl rfl rfl guard_eq (.cons (t := 5) rfl (fun _ => Ent.refl _) .nil) (op_bload (m := 5) rfl rfl ag43 sz43) rfl ?_
  first | refine lxs rfl rfl rfl guard_eq (.cons (t := 102) rfl (fun h => entW h) (.cons (t := 104) rfl (fun h => entW h) (.cons (t := 105) rfl (fun h => entW h) .nil))) (op_call (l := [(Go.Operand.tmp 102), (Go.Operand.tmp 104), (Go.Operand.tmp 105)]) (Set_ok c.g hb hn c.dest v) (.cons rfl (.cons rfl (.cons rfl .nil))) fn25) rfl ?_ | refine lxs rfl rfl rfl guard_eq (.cons (t := 102) rfl (fun h => entW h) (.cons (t := 104) rfl (fun h => entW h) (.cons (t := 105) rfl (fun h => entW h) .nil))) (op_call (l := [(Go.Operand.tmp 102), (Go.Operand.tmp 104), (Go.Operand.tmp 105)]) (Set_ok c.g hb hn c.dest v) (.ent rfl (by exact ent_auto) (.ent rfl (by exact ent_auto) (.ent rfl (by exact ent_auto) .nil))) fn25) rfl ?_
  first | refine lxs rfl rfl rfl guard_eq (.cons (t := 100) rfl (fun h => entW h) (.cons (t := 106) rfl (fun h => entW h) .nil)) (op_call (l := [(Go.Operand.tmp 100), (Go.Operand.tmp 106)]) (rValid_ok c.p (setF c.g c.dest v) ((bdG_setF hb).mono (by decide))) (.cons rfl (.cons rfl .nil)) fn15) rfl ?_ | refine lxs rfl rfl rfl guard_eq (.cons (t := 100) rfl (fun h => entW h) (.cons (t := 106) rfl (fun h => entW h) .nil)) (op_call (l := [(Go.Operand.tmp 100), (Go.Operand.tmp 106)]) (rValid_ok c.p (setF c.g c.dest v) ((bdG_setF hb).mono (by decide))) (.ent rfl (by exact ent_auto) (.ent rfl (by exact ent_auto) .nil)) fn15) rfl ?_
  refine lx (op_pick_and rfl rfl) rfl ?_
  refine lx (op_assign rfl) rfl ?_
  refine lx_end ⟨by kernel_rfl, ?_⟩
  refine pe_then_normal ?_
  refine tr_sub hC (.cons (t := 6) rfl .nil) .nil rfl ?_
  refine tr_ret ?_
  refine pe_ret1 rfl hO rfl (.tmp rfl .nil) ?_
  exact entB (by rw [he2, hke.2, hkl, hkd, hks]; rfl)
end Go.Proofs.Ythiknhmoefbanaa
