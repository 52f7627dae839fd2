/- Parts of a proof that share one text: StWalk16, StWalk17, StWalk18, StRead, StBulk, StKeep, StRev, StWalk20. -/
import Derived.Test.YthiknhmoefbanaaRVb
import Derived.Test.YthiknhmoefbanaaRVe
import Derived.Test.YthiknhmoefbanaaChecked
import Derived.Test.YthiknhmoefbanaaRows

set_option linter.unusedVariables false
set_option linter.unusedSimpArgs false
namespace Go.Proofs.Ythiknhmoefbanaa
open Go.AL Go.Ch Go.Hp Go.RowKit
theorem ag71 : aggB Try.prog 71 = some true := by kernel_rfl
theorem ag81 : aggB Try.prog 81 = some false := by kernel_rfl
theorem el81 : elemB Try.prog 81 = some 3 := by kernel_rfl
theorem fl26_3 : fldB Try.prog 26 3 = some (3, 3) := by kernel_rfl
theorem fl71_0 : fldB Try.prog 71 0 = some (0, 9) := by kernel_rfl
theorem fl71_1 : fldB Try.prog 71 1 = some (1, 3) := by kernel_rfl
theorem fn35 : fnB Try.prog 35 = true := by kernel_rfl
theorem fn36 : fnB Try.prog 36 = true := by kernel_rfl
theorem sz71 : sizeB Try.prog 71 = some 2 := by kernel_rfl
theorem sz81 : sizeB Try.prog 81 = some 1 := by kernel_rfl
theorem ze71 : zeroB Try.prog 71 = some (some (.agg #[.string ⟨#[]⟩, .int .i64 0])) := by kernel_rfl
theorem layouts_ok (xs : List (List Int)) (hx : xs.length ≤ 9223372036854775807) (hl : ∀ l ∈ xs, l.length ≤ 9223372036854775807) : FnP Try.prog 35 [slP lyp 1 xs] (eqP (.bool (layoutsF xs))) := by
 refine fn_pure' Try.func35 rfl Try.ntmps35 rfl ?_
 intro σ0 M ex Rf R hC hO
 simp only [frameOf, tokOf]
 refine tr_seq ?_
 refine tr_region (fun N0 hN => ?_)
 refine lx (op_assign rfl) rfl ?_
 refine lx_end ⟨by kernel_rfl, ?_⟩
 refine pe_then_normal ?_
 refine tr_sub hC (.cons (t := 0) rfl .nil) .nil rfl ?_
 refine tr_seq ?_
 refine tr_seq ?_
 refine tr_region (fun N1 hN => ?_)
 refine lx (op_assign rfl) rfl ?_
 refine lx_end ⟨by kernel_rfl, ?_⟩
 refine pe_then_normal ?_
 refine tr_sub hC (.cons (t := 0) rfl (.cons (t := 3) rfl .nil)) .nil rfl ?_
 refine tr_block ?_
 refine tr_loopK (α := {zz : Nat // zz ≤ xs.length ∧ allI zz (fun a => lay1 (gt [] xs a)) = true}) (⟨(0), Nat.zero_le _, rfl⟩) (fun zz => [(3, eqP (.int .i64 (zz.1 : Int)))]) (fun zz => []) (fun zz => xs.length - zz.1) hC (.cons (t := 0) rfl .nil) .nil rfl ?_ ?_ (fun zz => ?_)
 ·try dsimp only [List.cons_append, List.nil_append]
  first | refine SubF.cons rfl ?_ | (refine SubF.ent rfl ?_ ?_; · exact ent_auto)
  exact SubF.nil
 ·try dsimp only [List.cons_append, List.nil_append]
  repeat (first | exact SubL.nil | refine SubL.cons rfl ?_)
 ·obtain ⟨k, hk1, hk2⟩ := zz
  dsimp only [List.cons_append, List.nil_append]
  refine tr_seq ?_
  refine tr_seq ?_
  refine tr_region (fun N2 hN => ?_)
  refine lx (op_move rfl) rfl ?_
  refine lx (op_move rfl) rfl ?_
  first | refine lx (op_len rfl el24) rfl ?_ | refine lx (op_len_row rfl el24) rfl ?_ | refine lx (op_len_mv rfl el24) rfl ?_ | refine lx (op_len_nil rfl el24) rfl ?_
  refine lx (op_lss rfl rfl) rfl ?_
  refine lx_end ⟨by kernel_rfl, ?_⟩
  refine pe_then_normal ?_
  refine tr_sub hC (.cons (t := 0) rfl (.cons (t := 3) rfl (.cons (t := 8) rfl .nil))) .nil rfl ?_
  refine tr_cond rfl (fun h8 => ?_) (fun h8 => ?_)
  ·(try simp only [cq1, cq2, cq3, cq4, cq5, cq6, cq7, cq8, cq9, cq10, cq11, cq12, cq13] at h8)
   have hlk := hl _ (gt_mem (d := []) (by omega : k < xs.length))
   refine tr_skip ?_
   refine pe_then_normal ?_
   refine tr_sub hC (.cons (t := 0) rfl (.cons (t := 3) rfl .nil)) .nil rfl ?_
   refine tr_seq ?_
   refine tr_block ?_
   refine tr_seq ?_
   refine tr_seq ?_
   refine tr_region (fun N4 hN => ?_)
   refine lx (op_assign rfl) rfl ?_
   refine lx_end ⟨by kernel_rfl, ?_⟩
   refine pe_then_normal ?_
   refine tr_sub hC (.cons (t := 0) rfl (.cons (t := 3) rfl (.cons (t := 4) rfl .nil))) .nil rfl ?_
   refine tr_block ?_
   refine tr_loopK (α := {zz : Nat // zz ≤ (gt [] xs k).length ∧ allI zz (fun b => !(decide (gt 0 (gt [] xs k) b ≠ 0) && decide (gt 0 (gt [] xs k) b ≠ 1))) = true}) (⟨(0), Nat.zero_le _, rfl⟩) (fun zz => [(4, eqP (.int .i64 (zz.1 : Int)))]) (fun zz => []) (fun zz => (gt [] xs k).length - zz.1) hC (.cons (t := 0) rfl (.cons (t := 3) rfl .nil)) .nil rfl ?_ ?_ (fun zz => ?_)
   ·try dsimp only [List.cons_append, List.nil_append]
    first | refine SubF.cons rfl ?_ | (refine SubF.ent rfl ?_ ?_; · exact ent_auto)
    exact SubF.nil
   ·try dsimp only [List.cons_append, List.nil_append]
    repeat (first | exact SubL.nil | refine SubL.cons rfl ?_)
   ·obtain ⟨j, hj1, hj2⟩ := zz
    dsimp only [List.cons_append, List.nil_append]
    refine tr_seq ?_
    refine tr_seq ?_
    refine tr_region (fun N5 hN => ?_)
    refine lx (op_move rfl) rfl ?_
    refine lx (op_move rfl) rfl ?_
    refine lx (op_move rfl) rfl ?_
    refine lx (op_index rfl rfl el24 sz81 rfl (gt_at (d := []) (by omega))) rfl ?_
    refine lx (op_load_one rfl ag81 rfl) rfl ?_
    first | refine lx (op_len rfl el81) rfl ?_ | refine lx (op_len_row rfl el81) rfl ?_ | refine lx (op_len_mv rfl el81) rfl ?_ | refine lx (op_len_nil rfl el81) rfl ?_
    refine lx (op_lss rfl rfl) rfl ?_
    refine lx_end ⟨by kernel_rfl, ?_⟩
    refine pe_then_normal ?_
    refine tr_sub hC (.cons (t := 0) rfl (.cons (t := 3) rfl (.cons (t := 4) rfl (.cons (t := 17) rfl .nil)))) .nil rfl ?_
    refine tr_cond rfl (fun h17 => ?_) (fun h17 => ?_)
    ·(try simp only [cq1, cq2, cq3, cq4, cq5, cq6, cq7, cq8, cq9, cq10, cq11, cq12, cq13] at h17)
     refine tr_skip ?_
     refine pe_then_normal ?_
     refine tr_sub hC (.cons (t := 0) rfl (.cons (t := 3) rfl (.cons (t := 4) rfl .nil))) .nil rfl ?_
     refine tr_seq ?_
     refine tr_block ?_
     refine tr_seq ?_
     refine tr_region (fun N7 hN => ?_)
     refine lx (op_move rfl) rfl ?_
     refine lx (op_move rfl) rfl ?_
     refine lx (op_index rfl rfl el24 sz81 rfl (gt_at (d := []) (by omega))) rfl ?_
     refine lx (op_load_one rfl ag81 rfl) rfl ?_
     refine lx (op_move rfl) rfl ?_
     refine lx (op_index rfl rfl el81 sz3 rfl (gt_at (d := (0 : Int)) (by omega))) rfl ?_
     refine lx (op_load_one rfl ag3 rfl) rfl ?_
     refine lx (op_neq rfl rfl) rfl ?_
     refine lx (op_move rfl) rfl ?_
     refine lxs rfl rfl rfl guard_eq (.cons (t := 0) rfl (fun _ => Ent.refl _) .nil) (op_move rfl) rfl ?_
     refine lxs rfl rfl rfl guard_eq (.cons (t := 3) rfl (fun _ => Ent.refl _) .nil) (op_move rfl) rfl ?_
     refine lxs rfl rfl rfl guard_eq (.cons (t := 29) rfl (fun h => entW h) (.cons (t := 30) rfl (fun h => entW h) .nil)) (op_index rfl rfl el24 sz81 rfl (gt_at (d := []) (by omega))) rfl ?_
     refine lxs rfl rfl rfl guard_eq (.cons (t := 31) rfl (fun h => entW h) .nil) (op_load_one rfl ag81 rfl) rfl ?_
     refine lxs rfl rfl rfl guard_eq (.cons (t := 4) rfl (fun _ => Ent.refl _) .nil) (op_move rfl) rfl ?_
     refine lxs rfl rfl rfl guard_eq (.cons (t := 32) rfl (fun h => entW h) (.cons (t := 33) rfl (fun h => entW h) .nil)) (op_index rfl rfl el81 sz3 rfl (gt_at (d := (0 : Int)) (by omega))) rfl ?_
     refine lxs rfl rfl rfl guard_eq (.cons (t := 34) rfl (fun h => entW h) .nil) (op_load_one rfl ag3 rfl) rfl ?_
     refine lxs rfl rfl rfl guard_eq (.cons (t := 35) rfl (fun h => entW h) .nil) (op_neq rfl rfl) rfl ?_
     refine lx (op_pick_and rfl rfl) rfl ?_
     refine lx_end ⟨by kernel_rfl, ?_⟩
     refine pe_then_normal ?_
     refine tr_sub hC (.cons (t := 0) rfl (.cons (t := 3) rfl (.cons (t := 4) rfl (.cons (t := 37) rfl .nil)))) .nil rfl ?_
     refine tr_cond rfl (fun h37 => ?_) (fun h37 => ?_)
     ·have hno := lays_no (by omega) (lay_no1 (by omega) h37)
      refine tr_seq ?_
      refine tr_region (fun N8 hN => ?_)
      refine lx (op_assign rfl) rfl ?_
      refine lx_end ⟨by kernel_rfl, ?_⟩
      refine pe_then_normal ?_
      refine tr_sub hC (.cons (t := 2) rfl .nil) .nil rfl ?_
      refine tr_ret ?_
      refine pe_block_ret ?_
      refine pe_then_ret ?_
      refine pe_then_ret ?_
      refine pe_block_ret ?_
      refine pe_then_ret ?_
      refine pe_block_ret ?_
      refine pe_then_ret ?_
      refine pe_then_ret ?_
      refine pe_block_ret ?_
      refine pe_then_ret ?_
      refine pe_ret1 rfl hO rfl (.tmp rfl .nil) ?_
      rw [hno]
      exact ent_auto
     ·have hst : (fun b => !(decide (gt 0 (gt [] xs k) b ≠ 0) && decide (gt 0 (gt [] xs k) b ≠ 1))) j = true := by
       dsimp only
       rw [h37]
       rfl
      refine tr_skip ?_
      refine pe_block_normal ?_
      refine pe_then_normal ?_
      refine tr_sub hC (.cons (t := 0) rfl (.cons (t := 3) rfl (.cons (t := 4) rfl .nil))) .nil rfl ?_
      refine tr_region (fun N6 hN => ?_)
      refine lx (op_move rfl) rfl ?_
      refine lx (op_add rfl rfl (by omega)) rfl ?_
      refine lx (op_assign rfl) rfl ?_
      refine lx_end ⟨by kernel_rfl, ?_⟩
      refine pe_round (⟨(j + 1), by omega, allI_step hj2 hst⟩) (by dsimp only; omega) (pe_st hC ?_ ?_ rfl)
      ·try dsimp only [List.cons_append, List.nil_append]
       first | refine SubF.cons rfl ?_ | (refine SubF.ent rfl ?_ ?_; · exact ent_auto)
       first | refine SubF.cons rfl ?_ | (refine SubF.ent rfl ?_ ?_; · exact ent_auto)
       first | refine SubF.cons rfl ?_ | (refine SubF.ent rfl ?_ ?_; · exact ent_auto)
       exact SubF.nil
      ·try dsimp only [List.cons_append, List.nil_append]
       repeat (first | exact SubL.nil | refine SubL.cons rfl ?_)
    ·(try simp only [cq1, cq2, cq3, cq4, cq5, cq6, cq7, cq8, cq9, cq10, cq11, cq12, cq13] at h17)
     have hin := allI_end hj2 (by omega : (gt [] xs k).length ≤ j)
     refine tr_exit ?_
     refine pe_then_exit ?_
     refine pe_then_exit ?_
     refine pe_block_eq ?_
     refine pe_then_normal ?_
     refine tr_sub hC (.cons (t := 0) rfl (.cons (t := 3) rfl .nil)) .nil rfl ?_
     refine tr_seq ?_
     refine tr_region (fun N9 hN => ?_)
     refine lx (op_move rfl) rfl ?_
     refine lx (op_move rfl) rfl ?_
     refine lx (op_index rfl rfl el24 sz81 rfl (gt_at (d := []) (by omega))) rfl ?_
     refine lx (op_load_one rfl ag81 rfl) rfl ?_
     first | refine lx (op_len rfl el81) rfl ?_ | refine lx (op_len_row rfl el81) rfl ?_ | refine lx (op_len_mv rfl el81) rfl ?_ | refine lx (op_len_nil rfl el81) rfl ?_
     refine lx (op_gtr rfl rfl) rfl ?_
     refine lx_end ⟨by kernel_rfl, ?_⟩
     refine pe_then_normal ?_
     refine tr_sub hC (.cons (t := 0) rfl (.cons (t := 3) rfl (.cons (t := 43) rfl .nil))) .nil rfl ?_
     refine tr_cond rfl (fun h43 => ?_) (fun h43 => ?_)
     ·(try simp only [cq1, cq2, cq3, cq4, cq5, cq6, cq7, cq8, cq9, cq10, cq11, cq12, cq13] at h43)
      have hno := lays_no (k := k) (ls := xs) (by omega) (lay_no2 (l := gt [] xs k) (by omega))
      refine tr_seq ?_
      refine tr_region (fun N10 hN => ?_)
      refine lx (op_assign rfl) rfl ?_
      refine lx_end ⟨by kernel_rfl, ?_⟩
      refine pe_then_normal ?_
      refine tr_sub hC (.cons (t := 2) rfl .nil) .nil rfl ?_
      refine tr_ret ?_
      refine pe_block_ret ?_
      refine pe_then_ret ?_
      refine pe_then_ret ?_
      refine pe_block_ret ?_
      refine pe_then_ret ?_
      refine pe_ret1 rfl hO rfl (.tmp rfl .nil) ?_
      rw [hno]
      exact ent_auto
     ·(try simp only [cq1, cq2, cq3, cq4, cq5, cq6, cq7, cq8, cq9, cq10, cq11, cq12, cq13] at h43)
      have hyes := lay_yes hin (by omega)
      refine tr_skip ?_
      refine pe_block_normal ?_
      refine pe_then_normal ?_
      refine tr_sub hC (.cons (t := 0) rfl (.cons (t := 3) rfl .nil)) .nil rfl ?_
      refine tr_region (fun N3 hN => ?_)
      refine lx (op_move rfl) rfl ?_
      refine lx (op_add rfl rfl (by omega)) rfl ?_
      refine lx (op_assign rfl) rfl ?_
      refine lx_end ⟨by kernel_rfl, ?_⟩
      refine pe_round (⟨(k + 1), by omega, allI_step (φ := fun a => lay1 (gt [] xs a)) hk2 hyes⟩) (by dsimp only; omega) (pe_st hC ?_ ?_ rfl)
      ·try dsimp only [List.cons_append, List.nil_append]
       first | refine SubF.cons rfl ?_ | (refine SubF.ent rfl ?_ ?_; · exact ent_auto)
       first | refine SubF.cons rfl ?_ | (refine SubF.ent rfl ?_ ?_; · exact ent_auto)
       exact SubF.nil
      ·try dsimp only [List.cons_append, List.nil_append]
       repeat (first | exact SubL.nil | refine SubL.cons rfl ?_)
  ·(try simp only [cq1, cq2, cq3, cq4, cq5, cq6, cq7, cq8, cq9, cq10, cq11, cq12, cq13] at h8)
   have hfin := lays_fin (allI_end hk2 (by omega))
   refine tr_exit ?_
   refine pe_then_exit ?_
   refine pe_then_exit ?_
   refine pe_block_eq ?_
   refine pe_then_normal ?_
   refine tr_sub hC (.cons (t := 0) rfl .nil) .nil rfl ?_
   refine tr_seq ?_
   refine tr_region (fun N11 hN => ?_)
   refine lx (op_move rfl) rfl ?_
   first | refine lx (op_len rfl el24) rfl ?_ | refine lx (op_len_row rfl el24) rfl ?_ | refine lx (op_len_mv rfl el24) rfl ?_ | refine lx (op_len_nil rfl el24) rfl ?_
   refine lx (op_leq rfl rfl) rfl ?_
   refine lx (op_assign rfl) rfl ?_
   refine lx_end ⟨by kernel_rfl, ?_⟩
   refine pe_then_normal ?_
   refine tr_sub hC (.cons (t := 2) rfl .nil) .nil rfl ?_
   refine tr_ret ?_
   refine pe_ret1 rfl hO rfl (.tmp rfl .nil) ?_
   rw [hfin]
   exact ent_auto
theorem Prog_ok (p : Pg) (hb : BdPg 9223372036854775807 p) : FnP Try.prog 13 [aggP p.ps] (eqP (.bool (progF instrF p))) := by
 have hbf := hb.funcs
 have hbg := hb.globals
 refine fn_pure' Try.func13 rfl Try.ntmps13 rfl ?_
 intro σ0 M ex Rf R hC hO
 simp only [frameOf, tokOf]
 refine tr_seq ?_
 refine tr_region (fun N0 hN => ?_)
 refine lxn (op_box (m := 1) (k := 1) rfl (.agg rfl) (by first | exact hC.low _ (by decide) | rfl)) rfl ?_
 refine lx (op_assign rfl) rfl ?_
 refine lx_end ⟨by kernel_rfl, ?_⟩
 refine pe_then_normal ?_
 refine tr_sub hC (.cons (t := 1) rfl .nil) (.cons (t := 1) rfl .nil) rfl ?_
 refine tr_seq ?_
 refine tr_seq ?_
 refine tr_region (fun N1 hN => ?_)
 refine lx (op_fieldAddr rfl fl26_0 sz22) rfl ?_
 refine lx (op_bload_one (m := 1) rfl rfl ag22 rfl) rfl ?_
 first | refine lx (op_len rfl el22) rfl ?_ | refine lx (op_len_row rfl el22) rfl ?_ | refine lx (op_len_mv rfl el22) rfl ?_ | refine lx (op_len_nil rfl el22) rfl ?_
 refine lx (op_gtr rfl rfl) rfl ?_
 refine lx (op_move rfl) rfl ?_
 refine lxs rfl rfl rfl guard_eq (.cons (t := 1) rfl (fun _ => Ent.refl _) .nil) (op_fieldAddr rfl fl26_1 sz23) rfl ?_
 refine lxs rfl rfl rfl guard_eq (.cons (t := 13) rfl (fun h => entW h) .nil) (op_bload_one (m := 1) rfl rfl ag23 rfl) rfl ?_
 first | refine lxs rfl rfl rfl guard_eq (.cons (t := 14) rfl (fun h => entW h) .nil) (op_len rfl el23) rfl ?_ | refine lxs rfl rfl rfl guard_eq (.cons (t := 14) rfl (fun h => entW h) .nil) (op_len_row rfl el23) rfl ?_ | refine lxs rfl rfl rfl guard_eq (.cons (t := 14) rfl (fun h => entW h) .nil) (op_len_mv rfl el23) rfl ?_ | refine lxs rfl rfl rfl guard_eq (.cons (t := 14) rfl (fun h => entW h) .nil) (op_len_nil rfl el23) rfl ?_
 refine lxs rfl rfl rfl guard_eq (.cons (t := 15) rfl (fun h => entW h) .nil) (op_gtr rfl rfl) rfl ?_
 refine lx (op_pick_or rfl rfl) rfl ?_
 refine lx (op_move rfl) rfl ?_
 refine lxs rfl rfl rfl guard_eq (.cons (t := 1) rfl (fun _ => Ent.refl _) .nil) (op_fieldAddr rfl fl26_2 sz24) rfl ?_
 refine lxs rfl rfl rfl guard_eq (.cons (t := 19) rfl (fun h => entW h) .nil) (op_bload_one (m := 1) rfl rfl ag24 rfl) rfl ?_
 first | refine lxs rfl rfl rfl guard_eq (.cons (t := 20) rfl (fun h => entW h) .nil) (op_call (l := [(Go.Operand.tmp 20)]) (layouts_ok p.layouts hb.layouts hb.lays) (.cons rfl .nil) fn35) rfl ?_ | refine lxs rfl rfl rfl guard_eq (.cons (t := 20) rfl (fun h => entW h) .nil) (op_call (l := [(Go.Operand.tmp 20)]) (layouts_ok p.layouts hb.layouts hb.lays) (.ent rfl (by exact ent_auto) .nil) fn35) rfl ?_
 first | refine lxs rfl rfl rfl guard_eq (.cons (t := 21) rfl (fun h => entW h) .nil) (op_not rfl) rfl ?_ | refine lxs rfl rfl rfl guard_eq (.cons (t := 21) rfl (fun h => entW h) .nil) (op_not_b rfl) rfl ?_
 refine lx (op_pick_or rfl rfl) rfl ?_
 refine lx (op_move rfl) rfl ?_
 refine lxs rfl rfl rfl guard_eq (.cons (t := 1) rfl (fun _ => Ent.refl _) .nil) (op_fieldAddr rfl fl26_3 sz3) rfl ?_
 refine lxs rfl rfl rfl guard_eq (.cons (t := 25) rfl (fun h => entW h) .nil) (op_bload_one (m := 1) rfl rfl ag3 rfl) rfl ?_
 refine lxs rfl rfl rfl guard_eq (.cons (t := 26) rfl (fun h => entW h) .nil) (op_lss rfl rfl) rfl ?_
 refine lx (op_pick_or rfl rfl) rfl ?_
 refine lx (op_move rfl) rfl ?_
 refine lxs rfl rfl rfl guard_eq (.cons (t := 1) rfl (fun _ => Ent.refl _) .nil) (op_fieldAddr rfl fl26_3 sz3) rfl ?_
 refine lxs rfl rfl rfl guard_eq (.cons (t := 30) rfl (fun h => entW h) .nil) (op_bload_one (m := 1) rfl rfl ag3 rfl) rfl ?_
 refine lxs rfl rfl rfl guard_eq (.cons (t := 1) rfl (fun _ => Ent.refl _) .nil) (op_fieldAddr rfl fl26_0 sz22) rfl ?_
 refine lxs rfl rfl rfl guard_eq (.cons (t := 32) rfl (fun h => entW h) .nil) (op_bload_one (m := 1) rfl rfl ag22 rfl) rfl ?_
 first | refine lxs rfl rfl rfl guard_eq (.cons (t := 33) rfl (fun h => entW h) .nil) (op_len rfl el22) rfl ?_ | refine lxs rfl rfl rfl guard_eq (.cons (t := 33) rfl (fun h => entW h) .nil) (op_len_row rfl el22) rfl ?_ | refine lxs rfl rfl rfl guard_eq (.cons (t := 33) rfl (fun h => entW h) .nil) (op_len_mv rfl el22) rfl ?_ | refine lxs rfl rfl rfl guard_eq (.cons (t := 33) rfl (fun h => entW h) .nil) (op_len_nil rfl el22) rfl ?_
 refine lxs rfl rfl rfl guard_eq (.cons (t := 31) rfl (fun h => entW h) (.cons (t := 34) rfl (fun h => entW h) .nil)) (op_geq rfl rfl) rfl ?_
 refine lx (op_pick_or rfl rfl) rfl ?_
 refine lx (op_move rfl) rfl ?_
 refine lxs rfl rfl rfl guard_eq (.cons (t := 1) rfl (fun _ => Ent.refl _) .nil) (op_fieldAddr rfl fl26_0 sz22) rfl ?_
 refine lxs rfl rfl rfl guard_eq (.cons (t := 38) rfl (fun h => entW h) .nil) (op_bload_one (m := 1) rfl rfl ag22 rfl) rfl ?_
 refine lxs rfl rfl rfl guard_eq (.cons (t := 1) rfl (fun _ => Ent.refl _) .nil) (op_fieldAddr rfl fl26_3 sz3) rfl ?_
 refine lxs rfl rfl rfl guard_eq (.cons (t := 40) rfl (fun h => entW h) .nil) (op_bload_one (m := 1) rfl rfl ag3 rfl) rfl ?_
 refine lxsc (rd := [(39, slP Fu.ps 4 p.funcs), (41, eqP (.int .i64 p.main))]) (φ := cellsP (pfn p p.main).ps) rfl rfl rfl guard_eq (.cons (t := 39) rfl (fun h => entW h) (.cons (t := 41) rfl (fun h => entW h) .nil)) (fun hgd => ?_) rfl rfl ?_
 ·have hq0 : 0 ≤ p.main ∧ p.main < (p.funcs.length : Int) := by
   simp at hgd
   omega
  exact op_index rfl rfl el22 sz66 (by omega : p.main = ((p.main.toNat : Nat) : Int)) (pfn_at (by omega) (by omega))
 first | refine lxs rfl rfl rfl guard_eq (.cons (t := 42) rfl (fun h => entW h) .nil) (op_fieldAddr rfl fl66_1 sz3) rfl ?_ | refine lxs rfl rfl rfl guard_eq (.cons (t := 42) rfl (fun h => entW h) .nil) (op_fieldCells rfl fl66_1 sz3) rfl ?_
 first | refine lxs rfl rfl rfl guard_eq (.cons (t := 43) rfl (fun h => entW h) .nil) (op_load_one rfl ag3 rfl) rfl ?_ | refine lxs rfl rfl rfl guard_eq (.cons (t := 43) rfl (fun h => entW h) .nil) (op_bload_one (m := 1) rfl rfl ag3 rfl) rfl ?_
 refine lxs rfl rfl rfl guard_eq (.cons (t := 44) rfl (fun h => entW h) .nil) (op_neq rfl rfl) rfl ?_
 refine lx (op_pick_or rfl rfl) rfl ?_
 refine lx_end ⟨by kernel_rfl, ?_⟩
 refine pe_then_normal ?_
 refine tr_sub hC (.cons (t := 1) rfl (.cons (t := 46) rfl .nil)) (.cons (t := 1) rfl .nil) rfl ?_
 refine tr_cond rfl (fun h46 => ?_) (fun h46 => ?_)
 ·have hh : hdrP p = true := h46
  have hno := prog_no (ins := instrF) hh
  refine tr_seq ?_
  refine tr_region (fun N2 hN => ?_)
  refine lx (op_assign rfl) rfl ?_
  refine lx_end ⟨by kernel_rfl, ?_⟩
  refine pe_then_normal ?_
  refine tr_sub hC (.cons (t := 2) rfl .nil) .nil rfl ?_
  refine tr_ret ?_
  refine pe_then_ret ?_
  refine pe_ret1 rfl hO rfl (.tmp rfl .nil) ?_
  rw [hno]
  exact ent_auto
 ·have hh : hdrP p = false := h46
  refine tr_skip ?_
  refine pe_then_normal ?_
  refine tr_sub hC (.cons (t := 1) rfl .nil) (.cons (t := 1) rfl .nil) rfl ?_
  refine tr_seq ?_
  refine tr_seq ?_
  refine tr_region (fun N3 hN => ?_)
  refine lx (op_assign rfl) rfl ?_
  refine lx_end ⟨by kernel_rfl, ?_⟩
  refine pe_then_normal ?_
  refine tr_sub hC (.cons (t := 1) rfl (.cons (t := 3) rfl .nil)) (.cons (t := 1) rfl .nil) rfl ?_
  refine tr_block ?_
  refine tr_loopK (α := {zz : Nat // zz ≤ p.globals.length ∧ allI zz (glOK p.globals) = true}) (⟨(0), Nat.zero_le _, rfl⟩) (fun zz => [(3, eqP (.int .i64 (zz.1 : Int)))]) (fun zz => []) (fun zz => p.globals.length - zz.1) hC (.cons (t := 1) rfl .nil) (.cons (t := 1) rfl .nil) rfl ?_ ?_ (fun zz => ?_)
  ·try dsimp only [List.cons_append, List.nil_append]
   first | refine SubF.cons rfl ?_ | (refine SubF.ent rfl ?_ ?_; · exact ent_auto)
   exact SubF.nil
  ·try dsimp only [List.cons_append, List.nil_append]
   repeat (first | exact SubL.nil | refine SubL.cons rfl ?_)
  ·obtain ⟨k, hk1, hk2⟩ := zz
   dsimp only [List.cons_append, List.nil_append]
   refine tr_seq ?_
   refine tr_seq ?_
   refine tr_region (fun N4 hN => ?_)
   refine lx (op_move rfl) rfl ?_
   refine lx (op_fieldAddr rfl fl26_1 sz23) rfl ?_
   refine lx (op_bload_one (m := 1) rfl rfl ag23 rfl) rfl ?_
   first | refine lx (op_len rfl el23) rfl ?_ | refine lx (op_len_row rfl el23) rfl ?_ | refine lx (op_len_mv rfl el23) rfl ?_ | refine lx (op_len_nil rfl el23) rfl ?_
   refine lx (op_lss rfl rfl) rfl ?_
   refine lx_end ⟨by kernel_rfl, ?_⟩
   refine pe_then_normal ?_
   refine tr_sub hC (.cons (t := 1) rfl (.cons (t := 3) rfl (.cons (t := 51) rfl .nil))) (.cons (t := 1) rfl .nil) rfl ?_
   refine tr_cond rfl (fun h51 => ?_) (fun h51 => ?_)
   ·(try simp only [cq1, cq2, cq3, cq4, cq5, cq6, cq7, cq8, cq9, cq10, cq11, cq12, cq13] at h51)
    refine tr_skip ?_
    refine pe_then_normal ?_
    refine tr_sub hC (.cons (t := 1) rfl (.cons (t := 3) rfl .nil)) (.cons (t := 1) rfl .nil) rfl ?_
    refine tr_seq ?_
    refine tr_block ?_
    refine tr_seq ?_
    refine tr_region (fun N6 hN => ?_)
    refine lx (op_fieldAddr rfl fl26_1 sz23) rfl ?_
    refine lx (op_bload_one (m := 1) rfl rfl ag23 rfl) rfl ?_
    refine lx (op_move rfl) rfl ?_
    refine lx (op_index rfl rfl el23 sz71 rfl (gt_at (d := gl0) (by omega))) rfl ?_
    first | refine lx (op_load_all rfl ag71 sz71) rfl ?_ | refine lx (op_load_agg rfl ag71 sz71 rfl) rfl ?_ | refine lx (op_bload (m := 1) rfl rfl ag71 sz71) rfl ?_ | refine lx (op_bload_part (m := 1) (qs := [_, _]) rfl rfl ag71 sz71 rfl rfl) rfl ?_
    refine lxn (op_alloc (m := 4) (k := 4) (ps := [eqP (.string ⟨#[]⟩), eqP (.int .i64 0)]) ze71 rfl rfl (by first | exact hC.low _ (by decide) | rfl)) rfl ?_
    refine lxr (op_store_all (m := 4) rfl rfl rfl (.agg rfl) sz71 rfl) rfl ?_
    refine lx_end ⟨by kernel_rfl, ?_⟩
    refine pe_then_normal ?_
    refine tr_sub hC (.cons (t := 1) rfl (.cons (t := 3) rfl (.cons (t := 4) rfl .nil))) (.cons (t := 1) rfl (.cons (t := 4) rfl .nil)) rfl ?_
    refine tr_seq ?_
    refine tr_seq ?_
    refine tr_region (fun N7 hN => ?_)
    refine lx (op_fieldAddr rfl fl71_0 sz9) rfl ?_
    refine lx (op_bload_one (m := 4) rfl rfl ag9 rfl) rfl ?_
    refine lx (op_eql_str st9 rfl rfl) rfl ?_
    refine lx (op_move rfl) rfl ?_
    refine lxs rfl rfl rfl guard_eq (.cons (t := 4) rfl (fun _ => Ent.refl _) .nil) (op_fieldAddr rfl fl71_1 sz3) rfl ?_
    refine lxs rfl rfl rfl guard_eq (.cons (t := 63) rfl (fun h => entW h) .nil) (op_bload_one (m := 4) rfl rfl ag3 rfl) rfl ?_
    refine lxs rfl rfl rfl guard_eq (.cons (t := 64) rfl (fun h => entW h) .nil) (op_neq rfl rfl) rfl ?_
    refine lxs rfl rfl rfl guard_eq (.cons (t := 65) rfl (fun h => entW h) .nil) (op_move rfl) rfl ?_
    refine lxs rfl rfl rfl guard_w (.cons (t := 4) rfl (fun _ => Ent.refl _) .nil) (op_fieldAddr rfl fl71_1 sz3) rfl ?_
    refine lxs rfl rfl rfl guard_w (.cons (t := 67) rfl (fun h => entW h) .nil) (op_bload_one (m := 4) rfl rfl ag3 rfl) rfl ?_
    refine lxs rfl rfl rfl guard_w (.cons (t := 68) rfl (fun h => entW h) .nil) (op_neq rfl rfl) rfl ?_
    refine lxs rfl rfl rfl guard_eq (.cons (t := 66) rfl (fun h => entW h) (.cons (t := 69) rfl (fun h => entS h) .nil)) (op_pick_and rfl rfl) rfl ?_
    refine lx (op_pick_or rfl rfl) rfl ?_
    refine lx_end ⟨by kernel_rfl, ?_⟩
    refine pe_then_normal ?_
    refine tr_sub hC (.cons (t := 1) rfl (.cons (t := 3) rfl (.cons (t := 4) rfl (.cons (t := 71) rfl .nil)))) (.cons (t := 1) rfl (.cons (t := 4) rfl .nil)) rfl ?_
    refine tr_cond rfl (fun h71 => ?_) (fun h71 => ?_)
    ·have hno := prog_g (ins := instrF) hh (gl_no1 (by omega) h71)
     refine tr_seq ?_
     refine tr_region (fun N8 hN => ?_)
     refine lx (op_assign rfl) rfl ?_
     refine lx_end ⟨by kernel_rfl, ?_⟩
     refine pe_then_normal ?_
     refine tr_sub hC (.cons (t := 2) rfl .nil) .nil rfl ?_
     refine tr_ret ?_
     refine pe_then_ret ?_
     refine pe_block_ret ?_
     refine pe_then_ret ?_
     refine pe_then_ret ?_
     refine pe_block_ret ?_
     refine pe_then_ret ?_
     refine pe_ret1 rfl hO rfl (.tmp rfl .nil) ?_
     rw [hno]
     exact ent_auto
    ·have hg1 := h71
     refine tr_skip ?_
     refine pe_then_normal ?_
     refine tr_sub hC (.cons (t := 1) rfl (.cons (t := 3) rfl (.cons (t := 4) rfl .nil))) (.cons (t := 1) rfl (.cons (t := 4) rfl .nil)) rfl ?_
     refine tr_seq ?_
     refine tr_region (fun N9 hN => ?_)
     refine lx (op_assign rfl) rfl ?_
     refine lx_end ⟨by kernel_rfl, ?_⟩
     refine pe_then_normal ?_
     refine tr_sub hC (.cons (t := 1) rfl (.cons (t := 3) rfl (.cons (t := 4) rfl (.cons (t := 5) rfl .nil)))) (.cons (t := 1) rfl (.cons (t := 4) rfl .nil)) rfl ?_
     refine tr_block ?_
     refine tr_loopK (α := {zz : Nat // zz ≤ k ∧ allI zz (fun zz => !((gt gl0 p.globals zz).name.toList == (gt gl0 p.globals k).name.toList)) = true}) (⟨(0), Nat.zero_le _, rfl⟩) (fun zz => [(5, eqP (.int .i64 (zz.1 : Int)))]) (fun zz => []) (fun zz => k - zz.1) hC (.cons (t := 1) rfl (.cons (t := 3) rfl (.cons (t := 4) rfl .nil))) (.cons (t := 1) rfl (.cons (t := 4) rfl .nil)) rfl ?_ ?_ (fun zz => ?_)
     ·try dsimp only [List.cons_append, List.nil_append]
      first | refine SubF.cons rfl ?_ | (refine SubF.ent rfl ?_ ?_; · exact ent_auto)
      exact SubF.nil
     ·try dsimp only [List.cons_append, List.nil_append]
      repeat (first | exact SubL.nil | refine SubL.cons rfl ?_)
     ·obtain ⟨j, hj1, hj2⟩ := zz
      dsimp only [List.cons_append, List.nil_append]
      refine tr_seq ?_
      refine tr_seq ?_
      refine tr_region (fun N10 hN => ?_)
      refine lx (op_move rfl) rfl ?_
      refine lx (op_move rfl) rfl ?_
      refine lx (op_lss rfl rfl) rfl ?_
      refine lx_end ⟨by kernel_rfl, ?_⟩
      refine pe_then_normal ?_
      refine tr_sub hC (.cons (t := 1) rfl (.cons (t := 3) rfl (.cons (t := 4) rfl (.cons (t := 5) rfl (.cons (t := 74) rfl .nil))))) (.cons (t := 1) rfl (.cons (t := 4) rfl .nil)) rfl ?_
      refine tr_cond rfl (fun h74 => ?_) (fun h74 => ?_)
      ·(try simp only [cq1, cq2, cq3, cq4, cq5, cq6, cq7, cq8, cq9, cq10, cq11, cq12, cq13] at h74)
       refine tr_skip ?_
       refine pe_then_normal ?_
       refine tr_sub hC (.cons (t := 1) rfl (.cons (t := 3) rfl (.cons (t := 4) rfl (.cons (t := 5) rfl .nil)))) (.cons (t := 1) rfl (.cons (t := 4) rfl .nil)) rfl ?_
       refine tr_seq ?_
       refine tr_block ?_
       refine tr_seq ?_
       refine tr_drawn mixed (fun N12 hN => ?_)
       refine lx (op_fieldAddr rfl fl26_1 sz23) rfl ?_
       refine lx (op_bload_one (m := 1) rfl rfl ag23 rfl) rfl ?_
       refine lx (op_move rfl) rfl ?_
       refine lx (op_index rfl rfl el23 sz71 rfl (gt_at (d := gl0) (by omega))) rfl ?_
       first | refine lx (op_fieldAddr rfl fl71_0 sz9) rfl ?_ | refine lx (op_fieldCells rfl fl71_0 sz9) rfl ?_
       first | refine lx (op_load_one rfl ag9 rfl) rfl ?_ | refine lx (op_bload_one (m := 1) rfl rfl ag9 rfl) rfl ?_ | refine lx (op_bload_one (m := 4) rfl rfl ag9 rfl) rfl ?_
       refine lx (op_fieldAddr rfl fl71_0 sz9) rfl ?_
       refine lx (op_bload_one (m := 4) rfl rfl ag9 rfl) rfl ?_
       refine lx (op_eql_str st9 rfl rfl) rfl ?_
       refine lx_end ⟨by kernel_rfl, ?_⟩
       refine pe_then_normal ?_
       refine tr_sub hC (.cons (t := 1) rfl (.cons (t := 3) rfl (.cons (t := 4) rfl (.cons (t := 5) rfl (.cons (t := 85) rfl .nil))))) (.cons (t := 1) rfl (.cons (t := 4) rfl .nil)) rfl ?_
       refine tr_cond rfl (fun h85 => ?_) (fun h85 => ?_)
       ·have hno := prog_g (ins := instrF) hh (gl_no2 (by omega) (by omega) h85)
        refine tr_seq ?_
        refine tr_region (fun N13 hN => ?_)
        refine lx (op_assign rfl) rfl ?_
        refine lx_end ⟨by kernel_rfl, ?_⟩
        refine pe_then_normal ?_
        refine tr_sub hC (.cons (t := 2) rfl .nil) .nil rfl ?_
        refine tr_ret ?_
        refine pe_block_ret ?_
        refine pe_then_ret ?_
        refine pe_then_ret ?_
        refine pe_block_ret ?_
        refine pe_block_ret ?_
        refine pe_then_ret ?_
        refine pe_then_ret ?_
        refine pe_block_ret ?_
        refine pe_then_ret ?_
        refine pe_ret1 rfl hO rfl (.tmp rfl .nil) ?_
        rw [hno]
        exact ent_auto
       ·have hst : (fun j => !((gt gl0 p.globals j).name.toList == (gt gl0 p.globals k).name.toList)) j = true := by
         dsimp only
         rw [h85]
         rfl
        refine tr_skip ?_
        refine pe_block_normal ?_
        refine pe_then_normal ?_
        refine tr_sub hC (.cons (t := 1) rfl (.cons (t := 3) rfl (.cons (t := 4) rfl (.cons (t := 5) rfl .nil)))) (.cons (t := 1) rfl (.cons (t := 4) rfl .nil)) rfl ?_
        refine tr_region (fun N11 hN => ?_)
        refine lx (op_move rfl) rfl ?_
        refine lx (op_add rfl rfl (by omega)) rfl ?_
        refine lx (op_assign rfl) rfl ?_
        refine lx_end ⟨by kernel_rfl, ?_⟩
        refine pe_round (⟨(j + 1), by omega, allI_step hj2 hst⟩) (by dsimp only; omega) (pe_st hC ?_ ?_ rfl)
        ·try dsimp only [List.cons_append, List.nil_append]
         first | refine SubF.cons rfl ?_ | (refine SubF.ent rfl ?_ ?_; · exact ent_auto)
         first | refine SubF.cons rfl ?_ | (refine SubF.ent rfl ?_ ?_; · exact ent_auto)
         first | refine SubF.cons rfl ?_ | (refine SubF.ent rfl ?_ ?_; · exact ent_auto)
         first | refine SubF.cons rfl ?_ | (refine SubF.ent rfl ?_ ?_; · exact ent_auto)
         exact SubF.nil
        ·try dsimp only [List.cons_append, List.nil_append]
         repeat (first | exact SubL.nil | refine SubL.cons rfl ?_)
      ·(try simp only [cq1, cq2, cq3, cq4, cq5, cq6, cq7, cq8, cq9, cq10, cq11, cq12, cq13] at h74)
       have hyes := gl_yes hg1 (allI_end hj2 (by omega : k ≤ j))
       refine tr_exit ?_
       refine pe_then_exit ?_
       refine pe_then_exit ?_
       refine pe_block_eq ?_
       refine pe_block_normal ?_
       refine pe_then_normal ?_
       refine tr_sub hC (.cons (t := 1) rfl (.cons (t := 3) rfl .nil)) (.cons (t := 1) rfl .nil) rfl ?_
       refine tr_region (fun N5 hN => ?_)
       refine lx (op_move rfl) rfl ?_
       refine lx (op_add rfl rfl (by omega)) rfl ?_
       refine lx (op_assign rfl) rfl ?_
       refine lx_end ⟨by kernel_rfl, ?_⟩
       refine pe_round (⟨(k + 1), by omega, allI_step hk2 hyes⟩) (by dsimp only; omega) (pe_st hC ?_ ?_ rfl)
       ·try dsimp only [List.cons_append, List.nil_append]
        first | refine SubF.cons rfl ?_ | (refine SubF.ent rfl ?_ ?_; · exact ent_auto)
        first | refine SubF.cons rfl ?_ | (refine SubF.ent rfl ?_ ?_; · exact ent_auto)
        exact SubF.nil
       ·try dsimp only [List.cons_append, List.nil_append]
        repeat (first | exact SubL.nil | refine SubL.cons rfl ?_)
   ·(try simp only [cq1, cq2, cq3, cq4, cq5, cq6, cq7, cq8, cq9, cq10, cq11, cq12, cq13] at h51)
    have hgl := allI_end hk2 (by omega : p.globals.length ≤ k)
    refine tr_exit ?_
    refine pe_then_exit ?_
    refine pe_then_exit ?_
    refine pe_block_eq ?_
    refine pe_then_normal ?_
    refine tr_sub hC (.cons (t := 1) rfl .nil) (.cons (t := 1) rfl .nil) rfl ?_
    refine tr_seq ?_
    refine tr_seq ?_
    refine tr_region (fun N14 hN => ?_)
    refine lx (op_assign rfl) rfl ?_
    refine lx_end ⟨by kernel_rfl, ?_⟩
    refine pe_then_normal ?_
    refine tr_sub hC (.cons (t := 1) rfl (.cons (t := 6) rfl .nil)) (.cons (t := 1) rfl .nil) rfl ?_
    refine tr_block ?_
    refine tr_loopK (α := {zz : Nat // zz ≤ p.funcs.length ∧ allI zz (fnK instrF p) = true}) (⟨(0), Nat.zero_le _, rfl⟩) (fun zz => [(6, eqP (.int .i64 (zz.1 : Int)))]) (fun zz => []) (fun zz => p.funcs.length - zz.1) hC (.cons (t := 1) rfl .nil) (.cons (t := 1) rfl .nil) rfl ?_ ?_ (fun zz => ?_)
    ·try dsimp only [List.cons_append, List.nil_append]
     first | refine SubF.cons rfl ?_ | (refine SubF.ent rfl ?_ ?_; · exact ent_auto)
     exact SubF.nil
    ·try dsimp only [List.cons_append, List.nil_append]
     repeat (first | exact SubL.nil | refine SubL.cons rfl ?_)
    ·obtain ⟨k, hk1, hk2⟩ := zz
     dsimp only [List.cons_append, List.nil_append]
     refine tr_seq ?_
     refine tr_seq ?_
     refine tr_region (fun N15 hN => ?_)
     refine lx (op_move rfl) rfl ?_
     refine lx (op_fieldAddr rfl fl26_0 sz22) rfl ?_
     refine lx (op_bload_one (m := 1) rfl rfl ag22 rfl) rfl ?_
     first | refine lx (op_len rfl el22) rfl ?_ | refine lx (op_len_row rfl el22) rfl ?_ | refine lx (op_len_mv rfl el22) rfl ?_ | refine lx (op_len_nil rfl el22) rfl ?_
     refine lx (op_lss rfl rfl) rfl ?_
     refine lx_end ⟨by kernel_rfl, ?_⟩
     refine pe_then_normal ?_
     refine tr_sub hC (.cons (t := 1) rfl (.cons (t := 6) rfl (.cons (t := 90) rfl .nil))) (.cons (t := 1) rfl .nil) rfl ?_
     refine tr_cond rfl (fun h90 => ?_) (fun h90 => ?_)
     ·(try simp only [cq1, cq2, cq3, cq4, cq5, cq6, cq7, cq8, cq9, cq10, cq11, cq12, cq13] at h90)
      refine tr_skip ?_
      refine pe_then_normal ?_
      refine tr_sub hC (.cons (t := 1) rfl (.cons (t := 6) rfl .nil)) (.cons (t := 1) rfl .nil) rfl ?_
      refine tr_seq ?_
      refine tr_block ?_
      refine tr_seq ?_
      refine tr_seq ?_
      refine tr_drawn mixed (fun N17 hN => ?_)
      refine lx (op_bload (m := 1) rfl rfl ag26 sz26) rfl ?_
      refine lx (op_fieldAddr rfl fl26_0 sz22) rfl ?_
      refine lx (op_bload_one (m := 1) rfl rfl ag22 rfl) rfl ?_
      refine lx (op_move rfl) rfl ?_
      refine lx (op_index rfl rfl el22 sz66 rfl (gt_at (d := fu0) (by omega))) rfl ?_
      first | refine lx (op_load_all rfl ag66 sz66) rfl ?_ | refine lx (op_load_agg rfl ag66 sz66 rfl) rfl ?_ | refine lx (op_bload (m := 1) rfl rfl ag66 sz66) rfl ?_ | refine lx (op_bload_part (m := 1) (qs := [_, _, _, _]) rfl rfl ag66 sz66 rfl rfl) rfl ?_
      first | refine lx (op_call (l := [(Go.Operand.tmp 93), (Go.Operand.tmp 98)]) (function_ok p (gt fu0 p.funcs k) (hb.codes _ (gt_mem (by omega)))) (.cons rfl (.cons rfl .nil)) fn36) rfl ?_ | refine lx (op_call (l := [(Go.Operand.tmp 93), (Go.Operand.tmp 98)]) (function_ok p (gt fu0 p.funcs k) (hb.codes _ (gt_mem (by omega)))) (.ent rfl (by exact ent_auto) (.ent rfl (by exact ent_auto) .nil)) fn36) rfl ?_
      first | refine lx (op_not rfl) rfl ?_ | refine lx (op_not_b rfl) rfl ?_
      refine lx_end ⟨by kernel_rfl, ?_⟩
      refine pe_then_normal ?_
      refine tr_sub hC (.cons (t := 1) rfl (.cons (t := 6) rfl (.cons (t := 100) rfl .nil))) (.cons (t := 1) rfl .nil) rfl ?_
      refine tr_cond rfl (fun h100 => ?_) (fun h100 => ?_)
      ·have hno := prog_f hh (fn_no1 (ins := instrF) (k := k) (by omega) (by simpa using h100))
       refine tr_seq ?_
       refine tr_region (fun N18 hN => ?_)
       refine lx (op_assign rfl) rfl ?_
       refine lx_end ⟨by kernel_rfl, ?_⟩
       refine pe_then_normal ?_
       refine tr_sub hC (.cons (t := 2) rfl .nil) .nil rfl ?_
       refine tr_ret ?_
       refine pe_then_ret ?_
       refine pe_block_ret ?_
       refine pe_then_ret ?_
       refine pe_then_ret ?_
       refine pe_block_ret ?_
       refine pe_then_ret ?_
       refine pe_ret1 rfl hO rfl (.tmp rfl .nil) ?_
       rw [hno]
       exact ent_auto
      ·have hf1 : functionF instrF p (gt fu0 p.funcs k) = true := by simpa using h100
       refine tr_skip ?_
       refine pe_then_normal ?_
       refine tr_sub hC (.cons (t := 1) rfl (.cons (t := 6) rfl .nil)) (.cons (t := 1) rfl .nil) rfl ?_
       refine tr_seq ?_
       refine tr_region (fun N19 hN => ?_)
       refine lx (op_assign rfl) rfl ?_
       refine lx_end ⟨by kernel_rfl, ?_⟩
       refine pe_then_normal ?_
       refine tr_sub hC (.cons (t := 1) rfl (.cons (t := 6) rfl (.cons (t := 7) rfl .nil))) (.cons (t := 1) rfl .nil) rfl ?_
       refine tr_block ?_
       refine tr_loopK (α := {zz : Nat // zz ≤ k ∧ allI zz (fun zz => !((gt fu0 p.funcs zz).name.toList == (gt fu0 p.funcs k).name.toList)) = true}) (⟨(0), Nat.zero_le _, rfl⟩) (fun zz => [(7, eqP (.int .i64 (zz.1 : Int)))]) (fun zz => []) (fun zz => k - zz.1) hC (.cons (t := 1) rfl (.cons (t := 6) rfl .nil)) (.cons (t := 1) rfl .nil) rfl ?_ ?_ (fun zz => ?_)
       ·try dsimp only [List.cons_append, List.nil_append]
        first | refine SubF.cons rfl ?_ | (refine SubF.ent rfl ?_ ?_; · exact ent_auto)
        exact SubF.nil
       ·try dsimp only [List.cons_append, List.nil_append]
        repeat (first | exact SubL.nil | refine SubL.cons rfl ?_)
       ·obtain ⟨j, hj1, hj2⟩ := zz
        dsimp only [List.cons_append, List.nil_append]
        refine tr_seq ?_
        refine tr_seq ?_
        refine tr_region (fun N20 hN => ?_)
        refine lx (op_move rfl) rfl ?_
        refine lx (op_move rfl) rfl ?_
        refine lx (op_lss rfl rfl) rfl ?_
        refine lx_end ⟨by kernel_rfl, ?_⟩
        refine pe_then_normal ?_
        refine tr_sub hC (.cons (t := 1) rfl (.cons (t := 6) rfl (.cons (t := 7) rfl (.cons (t := 103) rfl .nil)))) (.cons (t := 1) rfl .nil) rfl ?_
        refine tr_cond rfl (fun h103 => ?_) (fun h103 => ?_)
        ·(try simp only [cq1, cq2, cq3, cq4, cq5, cq6, cq7, cq8, cq9, cq10, cq11, cq12, cq13] at h103)
         refine tr_skip ?_
         refine pe_then_normal ?_
         refine tr_sub hC (.cons (t := 1) rfl (.cons (t := 6) rfl (.cons (t := 7) rfl .nil))) (.cons (t := 1) rfl .nil) rfl ?_
         refine tr_seq ?_
         refine tr_block ?_
         refine tr_seq ?_
         refine tr_drawn mixed (fun N22 hN => ?_)
         refine lx (op_fieldAddr rfl fl26_0 sz22) rfl ?_
         refine lx (op_bload_one (m := 1) rfl rfl ag22 rfl) rfl ?_
         refine lx (op_move rfl) rfl ?_
         refine lx (op_index rfl rfl el22 sz66 rfl (gt_at (d := fu0) (by omega))) rfl ?_
         first | refine lx (op_fieldAddr rfl fl66_0 sz9) rfl ?_ | refine lx (op_fieldCells rfl fl66_0 sz9) rfl ?_
         first | refine lx (op_load_one rfl ag9 rfl) rfl ?_ | refine lx (op_bload_one (m := 1) rfl rfl ag9 rfl) rfl ?_
         refine lx (op_fieldAddr rfl fl26_0 sz22) rfl ?_
         refine lx (op_bload_one (m := 1) rfl rfl ag22 rfl) rfl ?_
         refine lx (op_move rfl) rfl ?_
         refine lx (op_index rfl rfl el22 sz66 rfl (gt_at (d := fu0) (by omega))) rfl ?_
         first | refine lx (op_fieldAddr rfl fl66_0 sz9) rfl ?_ | refine lx (op_fieldCells rfl fl66_0 sz9) rfl ?_
         first | refine lx (op_load_one rfl ag9 rfl) rfl ?_ | refine lx (op_bload_one (m := 1) rfl rfl ag9 rfl) rfl ?_
         refine lx (op_eql_str st9 rfl rfl) rfl ?_
         refine lx_end ⟨by kernel_rfl, ?_⟩
         refine pe_then_normal ?_
         refine tr_sub hC (.cons (t := 1) rfl (.cons (t := 6) rfl (.cons (t := 7) rfl (.cons (t := 118) rfl .nil)))) (.cons (t := 1) rfl .nil) rfl ?_
         refine tr_cond rfl (fun h118 => ?_) (fun h118 => ?_)
         ·have hno := prog_f hh (fn_no2 (ins := instrF) (j := j) (k := k) (by omega) (by omega) h118)
          refine tr_seq ?_
          refine tr_region (fun N23 hN => ?_)
          refine lx (op_assign rfl) rfl ?_
          refine lx_end ⟨by kernel_rfl, ?_⟩
          refine pe_then_normal ?_
          refine tr_sub hC (.cons (t := 2) rfl .nil) .nil rfl ?_
          refine tr_ret ?_
          refine pe_block_ret ?_
          refine pe_then_ret ?_
          refine pe_then_ret ?_
          refine pe_block_ret ?_
          refine pe_block_ret ?_
          refine pe_then_ret ?_
          refine pe_then_ret ?_
          refine pe_block_ret ?_
          refine pe_then_ret ?_
          refine pe_ret1 rfl hO rfl (.tmp rfl .nil) ?_
          rw [hno]
          exact ent_auto
         ·have hst : (fun j => !((gt fu0 p.funcs j).name.toList == (gt fu0 p.funcs k).name.toList)) j = true := by
           dsimp only
           rw [h118]
           rfl
          refine tr_skip ?_
          refine pe_block_normal ?_
          refine pe_then_normal ?_
          refine tr_sub hC (.cons (t := 1) rfl (.cons (t := 6) rfl (.cons (t := 7) rfl .nil))) (.cons (t := 1) rfl .nil) rfl ?_
          refine tr_region (fun N21 hN => ?_)
          refine lx (op_move rfl) rfl ?_
          refine lx (op_add rfl rfl (by omega)) rfl ?_
          refine lx (op_assign rfl) rfl ?_
          refine lx_end ⟨by kernel_rfl, ?_⟩
          refine pe_round (⟨(j + 1), by omega, allI_step hj2 hst⟩) (by dsimp only; omega) (pe_st hC ?_ ?_ rfl)
          ·try dsimp only [List.cons_append, List.nil_append]
           first | refine SubF.cons rfl ?_ | (refine SubF.ent rfl ?_ ?_; · exact ent_auto)
           first | refine SubF.cons rfl ?_ | (refine SubF.ent rfl ?_ ?_; · exact ent_auto)
           first | refine SubF.cons rfl ?_ | (refine SubF.ent rfl ?_ ?_; · exact ent_auto)
           exact SubF.nil
          ·try dsimp only [List.cons_append, List.nil_append]
           repeat (first | exact SubL.nil | refine SubL.cons rfl ?_)
        ·(try simp only [cq1, cq2, cq3, cq4, cq5, cq6, cq7, cq8, cq9, cq10, cq11, cq12, cq13] at h103)
         have hyes := fn_yes hf1 (allI_end hj2 (by omega : k ≤ j))
         refine tr_exit ?_
         refine pe_then_exit ?_
         refine pe_then_exit ?_
         refine pe_block_eq ?_
         refine pe_block_normal ?_
         refine pe_then_normal ?_
         refine tr_sub hC (.cons (t := 1) rfl (.cons (t := 6) rfl .nil)) (.cons (t := 1) rfl .nil) rfl ?_
         refine tr_region (fun N16 hN => ?_)
         refine lx (op_move rfl) rfl ?_
         refine lx (op_add rfl rfl (by omega)) rfl ?_
         refine lx (op_assign rfl) rfl ?_
         refine lx_end ⟨by kernel_rfl, ?_⟩
         refine pe_round (⟨(k + 1), by omega, allI_step hk2 hyes⟩) (by dsimp only; omega) (pe_st hC ?_ ?_ rfl)
         ·try dsimp only [List.cons_append, List.nil_append]
          first | refine SubF.cons rfl ?_ | (refine SubF.ent rfl ?_ ?_; · exact ent_auto)
          first | refine SubF.cons rfl ?_ | (refine SubF.ent rfl ?_ ?_; · exact ent_auto)
          exact SubF.nil
         ·try dsimp only [List.cons_append, List.nil_append]
          repeat (first | exact SubL.nil | refine SubL.cons rfl ?_)
     ·(try simp only [cq1, cq2, cq3, cq4, cq5, cq6, cq7, cq8, cq9, cq10, cq11, cq12, cq13] at h90)
      have hfin := prog_y hh hgl (allI_end hk2 (by omega : p.funcs.length ≤ k))
      refine tr_exit ?_
      refine pe_then_exit ?_
      refine pe_then_exit ?_
      refine pe_block_eq ?_
      refine pe_then_normal ?_
      refine tr_sub hC .nil .nil rfl ?_
      refine tr_seq ?_
      refine tr_region (fun N24 hN => ?_)
      refine lx (op_assign rfl) rfl ?_
      refine lx_end ⟨by kernel_rfl, ?_⟩
      refine pe_then_normal ?_
      refine tr_sub hC (.cons (t := 2) rfl .nil) .nil rfl ?_
      refine tr_ret ?_
      refine pe_ret1 rfl hO rfl (.tmp rfl .nil) ?_
      rw [hfin]
      exact ent_auto
end Go.Proofs.Ythiknhmoefbanaa


set_option linter.unusedVariables false
set_option linter.unusedSimpArgs false
namespace Go.Proofs.Ythiknhmoefbanaa
open Go.AL Go.Ch Go.Hp Go.RowKit
theorem fn13 : fnB Try.prog 13 = true := by kernel_rfl
theorem fn14 : fnB Try.prog 14 = true := by kernel_rfl
theorem fn15 : fnB Try.prog 15 = true := by kernel_rfl
theorem fn21 : fnB Try.prog 21 = true := by kernel_rfl
theorem fn23 : fnB Try.prog 23 = true := by kernel_rfl
theorem fn25 : fnB Try.prog 25 = true := by kernel_rfl
theorem fn27 : fnB Try.prog 27 = true := by kernel_rfl
theorem fn29 : fnB Try.prog 29 = true := by kernel_rfl
theorem fn34 : fnB Try.prog 34 = true := by kernel_rfl
theorem fs26 : sizesB Try.prog 26 = true := by kernel_rfl
theorem fs66 : sizesB Try.prog 66 = true := by kernel_rfl
theorem fs80 : sizesB Try.prog 80 = true := by kernel_rfl
theorem ze26 : zeroB Try.prog 26 = some (some (.agg #[.slice none 0 0, .slice none 0 0, .slice none 0 0, .int .i64 0])) := by kernel_rfl
abbrev exI : In := ⟨30, -1, 0, 0, 0⟩
abbrev exM : Fu := ⟨⟨#[109, 97, 105, 110]⟩, 0, 1, [exI]⟩
abbrev exF : Fu := ⟨⟨#[102]⟩, 2, 3, [exI]⟩
abbrev exP : Pg := ⟨[exM, exF], [], [], 0⟩
abbrev aF (l : Bool) (r : V) (ds : List Df) (z : V) : Fm := ⟨1, 0, [⟨0, 5, 0⟩, ⟨0, 6, 0⟩, z], -1, ds, l, r⟩
abbrev aG1 : Gr := ⟨0, 0, 0, [aF false v0 [] v0]⟩
abbrev aG2 : Gr := ⟨0, 0, 0, [aF false v0 [⟨0, []⟩] v0]⟩
abbrev aG3 : Gr := ⟨0, 0, 0, [aF true ⟨0, 1, 0⟩ [] v0, ⟨0, 0, [v0], -1, [], false, v0⟩]⟩
abbrev aG4 : Gr := ⟨2, 0, 0, []⟩
abbrev aG5 : Gr := ⟨0, 0, 0, [aF false v0 [] ⟨0, 9, 0⟩]⟩
theorem bdG_ble {n : Nat} {g : Gr} (h : (Nat.ble g.frames.length n && g.frames.all (fun f => Nat.ble f.regs.length n && Nat.ble f.defers.length n && f.defers.all fun d => Nat.ble d.args.length n)) = true) : BdG n g := by
 simp only [Bool.and_eq_true, Nat.ble_eq, List.all_eq_true] at h
 exact ⟨h.1, fun f hf => ⟨(h.2 f hf).1.1, (h.2 f hf).1.2, (h.2 f hf).2⟩⟩
theorem exPOK : POK exP := by
 intro f hf
 simp only [exP, List.mem_cons, List.not_mem_nil, or_false] at hf
 rcases hf with rfl | rfl <;> decide
theorem Enter_a : FnP Try.prog 17 [aggP exP.ps, aggP gr0.ps, eqP (.int .i64 1), slP vp 3 [⟨0, 5, 0⟩, ⟨0, 6, 0⟩], eqP (.int .i64 (-1))] (tupP [aggP aG1.ps, eqP (.int .i64 0)]) := by
 have := Enter_ok exP exPOK gr0 (bdG_ble rfl) (by decide) 1 [⟨0, 5, 0⟩, ⟨0, 6, 0⟩] (-1)
 rwa [show enterF exP gr0 1 [⟨0, 5, 0⟩, ⟨0, 6, 0⟩] (-1) = (aG1, 0) by decide] at this
theorem Reg_a (g : Gr) (r : Int) (v : V) (hb : BdG 1048576 g) (hn : g.frames.length ≤ 100000) (h : regF g r = v) : FnP Try.prog 27 [aggP g.ps, eqP (.int .i64 r)] (aggP (vp v)) := by
 have := Reg_ok g hb hn r
 rwa [h] at this
theorem Defer_a : FnP Try.prog 23 [aggP aG1.ps, aggP (Df.ps ⟨0, []⟩)] (aggP aG2.ps) := by
 have := Defer_ok aG1 (bdG_ble rfl) (by decide) ⟨0, []⟩ (by decide)
 rwa [show deferF aG1 ⟨0, []⟩ = aG2 by decide] at this
theorem Leave_a (g g' : Gr) (v : V) (hb : BdG 1048576 g) (hn : g.frames.length ≤ 100000) (h : leaveF exP g v = g') : FnP Try.prog 21 [aggP exP.ps, aggP g.ps, aggP (vp v)] (aggP g'.ps) := by
 have := Leave_ok exP exPOK g hb hn v
 rwa [h] at this
theorem Set_a : FnP Try.prog 25 [aggP aG1.ps, eqP (.int .i64 2), aggP (vp ⟨0, 9, 0⟩)] (aggP aG5.ps) := by
 have := Set_ok aG1 (bdG_ble rfl) (by decide) 2 ⟨0, 9, 0⟩
 rwa [show setF aG1 2 ⟨0, 9, 0⟩ = aG5 by decide] at this
theorem example_ok  : FnP Try.prog 34 [] (aggP exP.ps) := by
 refine fn_pure' Try.func34 rfl Try.ntmps34 rfl ?_
 intro σ0 M ex Rf R hC hO
 simp only [frameOf, tokOf]
 refine tr_seq ?_
 refine tr_region (fun N0 hN => ?_)
 refine lxn (op_alloc (m := 0) (k := 0) (ps := [eqP (.slice none 0 0), eqP (.slice none 0 0), eqP (.slice none 0 0), eqP (.int .i64 0)]) ze26 rfl rfl (by first | exact hC.low _ (by decide) | rfl)) rfl ?_
 refine lx_end ⟨by kernel_rfl, ?_⟩
 refine pe_then_normal ?_
 refine tr_sub hC (.cons (t := 0) rfl .nil) (.cons (t := 0) rfl .nil) rfl ?_
 refine tr_seq ?_
 refine tr_region (fun N1 hN => ?_)
 refine lx (OpJ.ent (op_build (qs := [_, _, _, _, _]) (parts := [(0, (Go.Operand.const (Go.Value.int Go.IntKind.i64 30))), (1, (Go.Operand.const (Go.Value.int Go.IntKind.i64 (-1))))]) ze80 rfl rfl fs80 (.cons rfl (.one (by (first | exact One.eq rfl | exact One.mv _ _ _ _ _ | exact One.cl _ _ _ | exact One.map _ | exact One.sl _ _ _ | exact One.row _ _ _ _ | exact One.msl _ _ _ _ | exact One.ptr _ _ | exact One.b _ | exact One.cells _))) fl80_0 sz3 rfl (.cons rfl (.one (by (first | exact One.eq rfl | exact One.mv _ _ _ _ _ | exact One.cl _ _ _ | exact One.map _ | exact One.sl _ _ _ | exact One.row _ _ _ _ | exact One.msl _ _ _ _ | exact One.ptr _ _ | exact One.b _ | exact One.cells _))) fl80_1 sz3 rfl .nil)) rfl rfl) (show Ent _ (aggP (In.ps exI)) from (by exact ent_auto))) rfl ?_
 refine lx (op_buildSlice (f := In.ps) (xs := [exI]) (l := [(0, (Go.Operand.tmp 2))]) ze80 rfl rfl (by decide) el64 sz80 In.len (.cons rfl (.agg rfl) .nil) rfl (by decide)) rfl ?_
 refine lx (op_assign rfl) rfl ?_
 refine lx_end ⟨by kernel_rfl, ?_⟩
 refine pe_then_normal ?_
 refine tr_sub hC (.cons (t := 0) rfl (.cons (t := 1) rfl .nil)) (.cons (t := 0) rfl .nil) rfl ?_
 refine tr_seq ?_
 refine tr_region (fun N2 hN => ?_)
 refine lx (op_move rfl) rfl ?_
 refine lx (OpJ.ent (op_build (qs := [_, _, _, _]) (parts := [(0, (Go.Operand.const (Go.Value.string (ByteArray.mk #[109, 97, 105, 110])))), (2, (Go.Operand.const (Go.Value.int Go.IntKind.i64 1))), (3, (Go.Operand.tmp 4))]) ze66 rfl rfl fs66 (.cons rfl (.one (by (first | exact One.eq rfl | exact One.mv _ _ _ _ _ | exact One.cl _ _ _ | exact One.map _ | exact One.sl _ _ _ | exact One.row _ _ _ _ | exact One.msl _ _ _ _ | exact One.ptr _ _ | exact One.b _ | exact One.cells _))) fl66_0 sz9 rfl (.cons rfl (.one (by (first | exact One.eq rfl | exact One.mv _ _ _ _ _ | exact One.cl _ _ _ | exact One.map _ | exact One.sl _ _ _ | exact One.row _ _ _ _ | exact One.msl _ _ _ _ | exact One.ptr _ _ | exact One.b _ | exact One.cells _))) fl66_2 sz3 rfl (.cons rfl (.one (by (first | exact One.eq rfl | exact One.mv _ _ _ _ _ | exact One.cl _ _ _ | exact One.map _ | exact One.sl _ _ _ | exact One.row _ _ _ _ | exact One.msl _ _ _ _ | exact One.ptr _ _ | exact One.b _ | exact One.cells _))) fl66_3 sz64 rfl .nil))) rfl rfl) (show Ent _ (aggP (Fu.ps exM)) from (by exact ent_auto))) rfl ?_
 refine lx (op_move rfl) rfl ?_
 refine lx (OpJ.ent (op_build (qs := [_, _, _, _]) (parts := [(0, (Go.Operand.const (Go.Value.string (ByteArray.mk #[102])))), (1, (Go.Operand.const (Go.Value.int Go.IntKind.i64 2))), (2, (Go.Operand.const (Go.Value.int Go.IntKind.i64 3))), (3, (Go.Operand.tmp 6))]) ze66 rfl rfl fs66 (.cons rfl (.one (by (first | exact One.eq rfl | exact One.mv _ _ _ _ _ | exact One.cl _ _ _ | exact One.map _ | exact One.sl _ _ _ | exact One.row _ _ _ _ | exact One.msl _ _ _ _ | exact One.ptr _ _ | exact One.b _ | exact One.cells _))) fl66_0 sz9 rfl (.cons rfl (.one (by (first | exact One.eq rfl | exact One.mv _ _ _ _ _ | exact One.cl _ _ _ | exact One.map _ | exact One.sl _ _ _ | exact One.row _ _ _ _ | exact One.msl _ _ _ _ | exact One.ptr _ _ | exact One.b _ | exact One.cells _))) fl66_1 sz3 rfl (.cons rfl (.one (by (first | exact One.eq rfl | exact One.mv _ _ _ _ _ | exact One.cl _ _ _ | exact One.map _ | exact One.sl _ _ _ | exact One.row _ _ _ _ | exact One.msl _ _ _ _ | exact One.ptr _ _ | exact One.b _ | exact One.cells _))) fl66_2 sz3 rfl (.cons rfl (.one (by (first | exact One.eq rfl | exact One.mv _ _ _ _ _ | exact One.cl _ _ _ | exact One.map _ | exact One.sl _ _ _ | exact One.row _ _ _ _ | exact One.msl _ _ _ _ | exact One.ptr _ _ | exact One.b _ | exact One.cells _))) fl66_3 sz64 rfl .nil)))) rfl rfl) (show Ent _ (aggP (Fu.ps exF)) from (by exact ent_auto))) rfl ?_
 refine lx (op_buildSlice (f := Fu.ps) (xs := [exM, exF]) (l := [(0, (Go.Operand.tmp 5)), (1, (Go.Operand.tmp 7))]) ze66 rfl rfl (by decide) el22 sz66 Fu.len (.cons rfl (.agg rfl) (.cons rfl (.agg rfl) .nil)) rfl (by decide)) rfl ?_
 refine lx (OpJ.ent (op_build (qs := [_, _, _, _]) (parts := [(0, (Go.Operand.tmp 8))]) ze26 rfl rfl fs26 (.cons rfl (.one (by (first | exact One.eq rfl | exact One.mv _ _ _ _ _ | exact One.cl _ _ _ | exact One.map _ | exact One.sl _ _ _ | exact One.row _ _ _ _ | exact One.msl _ _ _ _ | exact One.ptr _ _ | exact One.b _ | exact One.cells _))) fl26_0 sz22 rfl .nil) rfl rfl) (show Ent _ (aggP exP.ps) from (by exact ent_auto))) rfl ?_
 refine lxr (op_store_all (m := 0) rfl rfl rfl (.agg rfl) sz26 rfl) rfl ?_
 refine lx_end ⟨by kernel_rfl, ?_⟩
 refine pe_then_normal ?_
 refine tr_sub hC (.cons (t := 0) rfl .nil) (.cons (t := 0) rfl .nil) rfl ?_
 refine tr_ret ?_
 refine pe_ret1 rfl hO rfl (.cell (m := 0) rfl rfl ag26 sz26 .nil) ?_
 exact ent_auto
theorem awake_ok  : FnP Try.prog 12 [] (eqP (.bool true)) := by
 refine fn_pure' Try.func12 rfl Try.ntmps12 rfl ?_
 intro σ0 M ex Rf R hC hO
 simp only [frameOf, tokOf]
 refine tr_seq ?_
 refine tr_region (fun N0 hN => ?_)
 refine lx (op_assign rfl) rfl ?_
 refine lx_end ⟨by kernel_rfl, ?_⟩
 refine pe_then_normal ?_
 refine tr_sub hC .nil .nil rfl ?_
 refine tr_seq ?_
 refine tr_region (fun N1 hN => ?_)
 first | refine lx (op_call (l := []) (example_ok) .nil fn34) rfl ?_ | refine lx (op_call (l := []) (example_ok) .nil fn34) rfl ?_
 refine lxn (op_alloc (m := 1) (k := 1) (ps := [eqP (.slice none 0 0), eqP (.slice none 0 0), eqP (.slice none 0 0), eqP (.int .i64 0)]) ze26 rfl rfl (by first | exact hC.low _ (by decide) | rfl)) rfl ?_
 refine lxr (op_store_all (m := 1) rfl rfl rfl (.agg rfl) sz26 rfl) rfl ?_
 refine lx_end ⟨by kernel_rfl, ?_⟩
 refine pe_then_normal ?_
 refine tr_sub hC (.cons (t := 1) rfl .nil) (.cons (t := 1) rfl .nil) rfl ?_
 refine tr_seq ?_
 refine tr_region (fun N2 hN => ?_)
 refine lx (op_bload (m := 1) rfl rfl ag26 sz26) rfl ?_
 refine lx (OpJ.ent (op_build (qs := [_, _, _, _]) (parts := []) ze29 rfl rfl fs29 .nil rfl rfl) (show Ent _ (aggP gr0.ps) from (by exact ent_auto))) rfl ?_
 refine lx (OpJ.ent (op_build (qs := [_, _, _]) (parts := [(1, (Go.Operand.const (Go.Value.int Go.IntKind.i64 5)))]) ze43 rfl rfl fs43 (.cons rfl (.one (by (first | exact One.eq rfl | exact One.mv _ _ _ _ _ | exact One.cl _ _ _ | exact One.map _ | exact One.sl _ _ _ | exact One.row _ _ _ _ | exact One.msl _ _ _ _ | exact One.ptr _ _ | exact One.b _ | exact One.cells _))) fl43_1 sz3 rfl .nil) rfl rfl) (show Ent _ (aggP (vp ⟨0, 5, 0⟩)) from (by exact ent_auto))) rfl ?_
 refine lx (OpJ.ent (op_build (qs := [_, _, _]) (parts := [(1, (Go.Operand.const (Go.Value.int Go.IntKind.i64 6)))]) ze43 rfl rfl fs43 (.cons rfl (.one (by (first | exact One.eq rfl | exact One.mv _ _ _ _ _ | exact One.cl _ _ _ | exact One.map _ | exact One.sl _ _ _ | exact One.row _ _ _ _ | exact One.msl _ _ _ _ | exact One.ptr _ _ | exact One.b _ | exact One.cells _))) fl43_1 sz3 rfl .nil) rfl rfl) (show Ent _ (aggP (vp ⟨0, 6, 0⟩)) from (by exact ent_auto))) rfl ?_
 refine lx (op_buildSlice (f := vp) (xs := [⟨0, 5, 0⟩, ⟨0, 6, 0⟩]) (l := [(0, (Go.Operand.tmp 10)), (1, (Go.Operand.tmp 11))]) ze43 rfl rfl (by decide) el33 sz43 vp_len (.cons rfl (.agg rfl) (.cons rfl (.agg rfl) .nil)) rfl (by decide)) rfl ?_
 first | refine lx (op_call (l := [(Go.Operand.tmp 8), (Go.Operand.tmp 9), (Go.Operand.const (Go.Value.int Go.IntKind.i64 1)), (Go.Operand.tmp 12), (Go.Operand.const (Go.Value.int Go.IntKind.i64 (-1)))]) (Enter_a) (.cons rfl (.cons rfl (.cons rfl (.cons rfl (.cons rfl .nil))))) fn17) rfl ?_ | refine lx (op_call (l := [(Go.Operand.tmp 8), (Go.Operand.tmp 9), (Go.Operand.const (Go.Value.int Go.IntKind.i64 1)), (Go.Operand.tmp 12), (Go.Operand.const (Go.Value.int Go.IntKind.i64 (-1)))]) (Enter_a) (.ent rfl (by exact ent_auto) (.ent rfl (by exact ent_auto) (.ent rfl (by exact ent_auto) (.ent rfl (by exact ent_auto) (.ent rfl (by exact ent_auto) .nil))))) fn17) rfl ?_
 refine lx (op_move rfl) rfl ?_
 refine lx (op_extract rfl rfl) rfl ?_
 refine lx (op_extract rfl rfl) rfl ?_
 refine lxn (op_alloc (m := 2) (k := 2) (ps := [eqP (.int .i64 0), eqP (.int .i64 0), eqP (.int .i64 0), eqP (.slice none 0 0)]) ze29 rfl rfl (by first | exact hC.low _ (by decide) | rfl)) rfl ?_
 refine lxr (op_store_all (m := 2) rfl rfl rfl (.agg rfl) sz29 rfl) rfl ?_
 refine lx (op_assign rfl) rfl ?_
 refine lx_end ⟨by kernel_rfl, ?_⟩
 refine pe_then_normal ?_
 refine tr_sub hC (.cons (t := 1) rfl (.cons (t := 2) rfl (.cons (t := 3) rfl .nil))) (.cons (t := 1) rfl (.cons (t := 2) rfl .nil)) rfl ?_
 refine tr_seq ?_
 refine tr_seq ?_
 refine tr_region (fun N3 hN => ?_)
 refine lx (op_move rfl) rfl ?_
 refine lx (op_neq rfl rfl) rfl ?_
 refine lx (op_move rfl) rfl ?_
 refine lxs rfl rfl rfl guard_eq (.cons (t := 2) rfl (fun _ => Ent.refl _) .nil) (op_fieldAddr rfl fl29_3 sz27) rfl ?_
 refine lxs rfl rfl rfl guard_eq (.cons (t := 19) rfl (fun h => entW h) .nil) (op_bload_one (m := 2) rfl rfl ag27 rfl) rfl ?_
 first | refine lxs rfl rfl rfl guard_eq (.cons (t := 20) rfl (fun h => entW h) .nil) (op_len rfl el27) rfl ?_ | refine lxs rfl rfl rfl guard_eq (.cons (t := 20) rfl (fun h => entW h) .nil) (op_len_row rfl el27) rfl ?_ | refine lxs rfl rfl rfl guard_eq (.cons (t := 20) rfl (fun h => entW h) .nil) (op_len_mv rfl el27) rfl ?_ | refine lxs rfl rfl rfl guard_eq (.cons (t := 20) rfl (fun h => entW h) .nil) (op_len_nil rfl el27) rfl ?_
 refine lxs rfl rfl rfl guard_eq (.cons (t := 21) rfl (fun h => entW h) .nil) (op_neq rfl rfl) rfl ?_
 refine lx (op_pick_or rfl rfl) rfl ?_
 refine lx (op_move rfl) rfl ?_
 refine lxs rfl rfl rfl guard_eq (.cons (t := 2) rfl (fun _ => Ent.refl _) .nil) (op_bload (m := 2) rfl rfl ag29 sz29) rfl ?_
 first | refine lxs rfl rfl rfl guard_eq (.cons (t := 25) rfl (fun h => entW h) .nil) (op_call (l := [(Go.Operand.tmp 25), (Go.Operand.const (Go.Value.int Go.IntKind.i64 0))]) (Reg_a aG1 0 ⟨0, 5, 0⟩ (bdG_ble rfl) (by decide) (by decide)) (.cons rfl (.cons rfl .nil)) fn27) rfl ?_ | refine lxs rfl rfl rfl guard_eq (.cons (t := 25) rfl (fun h => entW h) .nil) (op_call (l := [(Go.Operand.tmp 25), (Go.Operand.const (Go.Value.int Go.IntKind.i64 0))]) (Reg_a aG1 0 ⟨0, 5, 0⟩ (bdG_ble rfl) (by decide) (by decide)) (.ent rfl (by exact ent_auto) (.ent rfl (by exact ent_auto) .nil)) fn27) rfl ?_
 refine lxs rfl rfl rfl guard_eq (.cons (t := 26) rfl (fun h => entW h) .nil) (op_field_one rfl fl43_1 ag3 rfl) rfl ?_
 refine lxs rfl rfl rfl guard_eq (.cons (t := 27) rfl (fun h => entW h) .nil) (op_neq rfl rfl) rfl ?_
 refine lx (op_pick_or rfl rfl) rfl ?_
 refine lx (op_move rfl) rfl ?_
 refine lxs rfl rfl rfl guard_eq (.cons (t := 2) rfl (fun _ => Ent.refl _) .nil) (op_bload (m := 2) rfl rfl ag29 sz29) rfl ?_
 first | refine lxs rfl rfl rfl guard_eq (.cons (t := 31) rfl (fun h => entW h) .nil) (op_call (l := [(Go.Operand.tmp 31), (Go.Operand.const (Go.Value.int Go.IntKind.i64 1))]) (Reg_a aG1 1 ⟨0, 6, 0⟩ (bdG_ble rfl) (by decide) (by decide)) (.cons rfl (.cons rfl .nil)) fn27) rfl ?_ | refine lxs rfl rfl rfl guard_eq (.cons (t := 31) rfl (fun h => entW h) .nil) (op_call (l := [(Go.Operand.tmp 31), (Go.Operand.const (Go.Value.int Go.IntKind.i64 1))]) (Reg_a aG1 1 ⟨0, 6, 0⟩ (bdG_ble rfl) (by decide) (by decide)) (.ent rfl (by exact ent_auto) (.ent rfl (by exact ent_auto) .nil)) fn27) rfl ?_
 refine lxs rfl rfl rfl guard_eq (.cons (t := 32) rfl (fun h => entW h) .nil) (op_field_one rfl fl43_1 ag3 rfl) rfl ?_
 refine lxs rfl rfl rfl guard_eq (.cons (t := 33) rfl (fun h => entW h) .nil) (op_neq rfl rfl) rfl ?_
 refine lx (op_pick_or rfl rfl) rfl ?_
 refine lx (op_move rfl) rfl ?_
 refine lxs rfl rfl rfl guard_eq (.cons (t := 2) rfl (fun _ => Ent.refl _) .nil) (op_bload (m := 2) rfl rfl ag29 sz29) rfl ?_
 first | refine lxs rfl rfl rfl guard_eq (.cons (t := 37) rfl (fun h => entW h) .nil) (op_call (l := [(Go.Operand.tmp 37), (Go.Operand.const (Go.Value.int Go.IntKind.i64 2))]) (Reg_a aG1 2 v0 (bdG_ble rfl) (by decide) (by decide)) (.cons rfl (.cons rfl .nil)) fn27) rfl ?_ | refine lxs rfl rfl rfl guard_eq (.cons (t := 37) rfl (fun h => entW h) .nil) (op_call (l := [(Go.Operand.tmp 37), (Go.Operand.const (Go.Value.int Go.IntKind.i64 2))]) (Reg_a aG1 2 v0 (bdG_ble rfl) (by decide) (by decide)) (.ent rfl (by exact ent_auto) (.ent rfl (by exact ent_auto) .nil)) fn27) rfl ?_
 refine lxs rfl rfl rfl guard_eq (.cons (t := 38) rfl (fun h => entW h) .nil) (op_field_one rfl fl43_1 ag3 rfl) rfl ?_
 refine lxs rfl rfl rfl guard_eq (.cons (t := 39) rfl (fun h => entW h) .nil) (op_neq rfl rfl) rfl ?_
 refine lx (op_pick_or rfl rfl) rfl ?_
 refine lx (op_move rfl) rfl ?_
 refine lxs rfl rfl rfl guard_eq (.cons (t := 1) rfl (fun _ => Ent.refl _) .nil) (op_bload (m := 1) rfl rfl ag26 sz26) rfl ?_
 refine lxs rfl rfl rfl guard_eq (.cons (t := 2) rfl (fun _ => Ent.refl _) .nil) (op_bload (m := 2) rfl rfl ag29 sz29) rfl ?_
 first | refine lxs rfl rfl rfl guard_eq (.cons (t := 43) rfl (fun h => entW h) (.cons (t := 44) rfl (fun h => entW h) .nil)) (op_call (l := [(Go.Operand.tmp 43), (Go.Operand.tmp 44)]) (Valid_ok exP aG1 (bdG_ble rfl)) (.cons rfl (.cons rfl .nil)) fn14) rfl ?_ | refine lxs rfl rfl rfl guard_eq (.cons (t := 43) rfl (fun h => entW h) (.cons (t := 44) rfl (fun h => entW h) .nil)) (op_call (l := [(Go.Operand.tmp 43), (Go.Operand.tmp 44)]) (Valid_ok exP aG1 (bdG_ble rfl)) (.ent rfl (by exact ent_auto) (.ent rfl (by exact ent_auto) .nil)) fn14) rfl ?_
 first | refine lxs rfl rfl rfl guard_eq (.cons (t := 45) rfl (fun h => entW h) .nil) (op_not rfl) rfl ?_ | refine lxs rfl rfl rfl guard_eq (.cons (t := 45) rfl (fun h => entW h) .nil) (op_not_b rfl) rfl ?_
 refine lx (op_pick_or rfl rfl) rfl ?_
 refine lx_end ⟨by kernel_rfl, ?_⟩
 refine pe_then_normal ?_
 refine tr_sub hC (.cons (t := 1) rfl (.cons (t := 2) rfl (.cons (t := 47) rfl .nil))) (.cons (t := 1) rfl (.cons (t := 2) rfl .nil)) rfl ?_
 refine tr_cond rfl (fun h47 => ?_) (fun h47 => ?_)
 ·exact absurd h47 (by decide)
 ·(try simp only [cq1, cq2, cq3, cq4, cq5, cq6, cq7, cq8, cq9, cq10, cq11, cq12, cq13] at h47)
  refine tr_skip ?_
  refine pe_then_normal ?_
  refine tr_sub hC (.cons (t := 1) rfl (.cons (t := 2) rfl .nil)) (.cons (t := 1) rfl (.cons (t := 2) rfl .nil)) rfl ?_
  refine tr_seq ?_
  refine tr_drawn mixed (fun N5 hN => ?_)
  refine lx (op_bload (m := 1) rfl rfl ag26 sz26) rfl ?_
  refine lx (op_bload (m := 2) rfl rfl ag29 sz29) rfl ?_
  refine lx (OpJ.ent (op_build (qs := [_, _]) (parts := []) ze47 rfl rfl fs47 .nil rfl rfl) (show Ent _ (aggP (Df.ps ⟨0, []⟩)) from (by exact ent_auto))) rfl ?_
  first | refine lx (op_call (l := [(Go.Operand.tmp 49), (Go.Operand.tmp 50)]) (Defer_a) (.cons rfl (.cons rfl .nil)) fn23) rfl ?_ | refine lx (op_call (l := [(Go.Operand.tmp 49), (Go.Operand.tmp 50)]) (Defer_a) (.ent rfl (by exact ent_auto) (.ent rfl (by exact ent_auto) .nil)) fn23) rfl ?_
  refine lx (OpJ.ent (op_build (qs := [_, _, _]) (parts := [(1, (Go.Operand.const (Go.Value.int Go.IntKind.i64 1)))]) ze43 rfl rfl fs43 (.cons rfl (.one (by (first | exact One.eq rfl | exact One.mv _ _ _ _ _ | exact One.cl _ _ _ | exact One.map _ | exact One.sl _ _ _ | exact One.row _ _ _ _ | exact One.msl _ _ _ _ | exact One.ptr _ _ | exact One.b _ | exact One.cells _))) fl43_1 sz3 rfl .nil) rfl rfl) (show Ent _ (aggP (vp ⟨0, 1, 0⟩)) from (by exact ent_auto))) rfl ?_
  first | refine lx (op_call (l := [(Go.Operand.tmp 48), (Go.Operand.tmp 51), (Go.Operand.tmp 52)]) (Leave_a aG2 aG3 ⟨0, 1, 0⟩ (bdG_ble rfl) (by decide) (by decide)) (.cons rfl (.cons rfl (.cons rfl .nil))) fn21) rfl ?_ | refine lx (op_call (l := [(Go.Operand.tmp 48), (Go.Operand.tmp 51), (Go.Operand.tmp 52)]) (Leave_a aG2 aG3 ⟨0, 1, 0⟩ (bdG_ble rfl) (by decide) (by decide)) (.ent rfl (by exact ent_auto) (.ent rfl (by exact ent_auto) (.ent rfl (by exact ent_auto) .nil))) fn21) rfl ?_
  refine lxn (op_alloc (m := 4) (k := 4) (ps := [eqP (.int .i64 0), eqP (.int .i64 0), eqP (.int .i64 0), eqP (.slice none 0 0)]) ze29 rfl rfl (by first | exact hC.low _ (by decide) | rfl)) rfl ?_
  refine lxr (op_store_all (m := 4) rfl rfl rfl (.agg rfl) sz29 rfl) rfl ?_
  refine lx_end ⟨by kernel_rfl, ?_⟩
  refine pe_then_normal ?_
  refine tr_sub hC (.cons (t := 1) rfl (.cons (t := 2) rfl (.cons (t := 4) rfl .nil))) (.cons (t := 1) rfl (.cons (t := 2) rfl (.cons (t := 4) rfl .nil))) rfl ?_
  refine tr_seq ?_
  refine tr_region (fun N6 hN => ?_)
  refine lx (op_bload (m := 1) rfl rfl ag26 sz26) rfl ?_
  refine lx (op_bload (m := 4) rfl rfl ag29 sz29) rfl ?_
  refine lx (OpJ.ent (op_build (qs := [_, _, _]) (parts := []) ze43 rfl rfl fs43 .nil rfl rfl) (show Ent _ (aggP (vp v0)) from (by exact ent_auto))) rfl ?_
  first | refine lx (op_call (l := [(Go.Operand.tmp 54), (Go.Operand.tmp 55), (Go.Operand.tmp 56)]) (Leave_a aG3 aG4 v0 (bdG_ble rfl) (by decide) (by decide)) (.cons rfl (.cons rfl (.cons rfl .nil))) fn21) rfl ?_ | refine lx (op_call (l := [(Go.Operand.tmp 54), (Go.Operand.tmp 55), (Go.Operand.tmp 56)]) (Leave_a aG3 aG4 v0 (bdG_ble rfl) (by decide) (by decide)) (.ent rfl (by exact ent_auto) (.ent rfl (by exact ent_auto) (.ent rfl (by exact ent_auto) .nil))) fn21) rfl ?_
  refine lxn (op_alloc (m := 5) (k := 5) (ps := [eqP (.int .i64 0), eqP (.int .i64 0), eqP (.int .i64 0), eqP (.slice none 0 0)]) ze29 rfl rfl (by first | exact hC.low _ (by decide) | rfl)) rfl ?_
  refine lxr (op_store_all (m := 5) rfl rfl rfl (.agg rfl) sz29 rfl) rfl ?_
  refine lx_end ⟨by kernel_rfl, ?_⟩
  refine pe_then_normal ?_
  refine tr_sub hC (.cons (t := 2) rfl (.cons (t := 4) rfl (.cons (t := 5) rfl .nil))) (.cons (t := 2) rfl (.cons (t := 4) rfl (.cons (t := 5) rfl .nil))) rfl ?_
  refine tr_seq ?_
  refine tr_region (fun N7 hN => ?_)
  refine lx (op_fieldAddr rfl fl29_3 sz27) rfl ?_
  refine lx (op_bload_one (m := 4) rfl rfl ag27 rfl) rfl ?_
  first | refine lx (op_len rfl el27) rfl ?_ | refine lx (op_len_row rfl el27) rfl ?_ | refine lx (op_len_mv rfl el27) rfl ?_ | refine lx (op_len_nil rfl el27) rfl ?_
  refine lx (op_eql rfl rfl) rfl ?_
  refine lx (op_move rfl) rfl ?_
  refine lxs rfl rfl rfl guard_eq (.cons (t := 4) rfl (fun _ => Ent.refl _) .nil) (op_fieldAddr rfl fl29_3 sz27) rfl ?_
  refine lxs rfl rfl rfl guard_eq (.cons (t := 63) rfl (fun h => entW h) .nil) (op_bload_one (m := 4) rfl rfl ag27 rfl) rfl ?_
  refine lxs rfl rfl rfl guard_eq (.cons (t := 64) rfl (fun h => entW h) .nil) (op_index rfl rfl el27 sz60 (show (1 : Int) = ((1 : Nat) : Int) from rfl) (rfl : aG3.frames[1]? = some _)) rfl ?_
  first | refine lxs rfl rfl rfl guard_eq (.cons (t := 65) rfl (fun h => entW h) .nil) (op_fieldAddr rfl fl60_0 sz3) rfl ?_ | refine lxs rfl rfl rfl guard_eq (.cons (t := 65) rfl (fun h => entW h) .nil) (op_fieldCells rfl fl60_0 sz3) rfl ?_
  first | refine lxs rfl rfl rfl guard_eq (.cons (t := 66) rfl (fun h => entW h) .nil) (op_load_one rfl ag3 rfl) rfl ?_ | refine lxs rfl rfl rfl guard_eq (.cons (t := 66) rfl (fun h => entW h) .nil) (op_bload_one (m := 2) rfl rfl ag3 rfl) rfl ?_ | refine lxs rfl rfl rfl guard_eq (.cons (t := 66) rfl (fun h => entW h) .nil) (op_bload_one (m := 4) rfl rfl ag3 rfl) rfl ?_ | refine lxs rfl rfl rfl guard_eq (.cons (t := 66) rfl (fun h => entW h) .nil) (op_bload_one (m := 5) rfl rfl ag3 rfl) rfl ?_
  refine lxs rfl rfl rfl guard_eq (.cons (t := 67) rfl (fun h => entW h) .nil) (op_eql rfl rfl) rfl ?_
  refine lx (op_pick_and rfl rfl) rfl ?_
  refine lx (op_move rfl) rfl ?_
  refine lxs rfl rfl rfl guard_eq (.cons (t := 5) rfl (fun _ => Ent.refl _) .nil) (op_fieldAddr rfl fl29_0 sz3) rfl ?_
  refine lxs rfl rfl rfl guard_eq (.cons (t := 71) rfl (fun h => entW h) .nil) (op_bload_one (m := 5) rfl rfl ag3 rfl) rfl ?_
  refine lxs rfl rfl rfl guard_eq (.cons (t := 72) rfl (fun h => entW h) .nil) (op_eql rfl rfl) rfl ?_
  refine lx (op_pick_and rfl rfl) rfl ?_
  refine lx (op_move rfl) rfl ?_
  refine lxs rfl rfl rfl guard_eq (.cons (t := 4) rfl (fun _ => Ent.refl _) .nil) (op_bload (m := 4) rfl rfl ag29 sz29) rfl ?_
  first | refine lxs rfl rfl rfl guard_eq (.cons (t := 76) rfl (fun h => entW h) .nil) (op_call (l := [(Go.Operand.tmp 76)]) (Sites_ok aG3 (by decide)) (.cons rfl .nil) fn29) rfl ?_ | refine lxs rfl rfl rfl guard_eq (.cons (t := 76) rfl (fun h => entW h) .nil) (op_call (l := [(Go.Operand.tmp 76)]) (Sites_ok aG3 (by decide)) (.ent rfl (by exact ent_auto) .nil) fn29) rfl ?_
  first | refine lxs rfl rfl rfl guard_eq (.cons (t := 77) rfl (fun h => entW h) .nil) (op_len rfl el53) rfl ?_ | refine lxs rfl rfl rfl guard_eq (.cons (t := 77) rfl (fun h => entW h) .nil) (op_len_row rfl el53) rfl ?_ | refine lxs rfl rfl rfl guard_eq (.cons (t := 77) rfl (fun h => entW h) .nil) (op_len_mv rfl el53) rfl ?_ | refine lxs rfl rfl rfl guard_eq (.cons (t := 77) rfl (fun h => entW h) .nil) (op_len_nil rfl el53) rfl ?_
  refine lxs rfl rfl rfl guard_eq (.cons (t := 78) rfl (fun h => entW h) .nil) (op_eql rfl rfl) rfl ?_
  refine lx (op_pick_and rfl rfl) rfl ?_
  refine lx (op_move rfl) rfl ?_
  refine lxs rfl rfl rfl guard_eq (.cons (t := 2) rfl (fun _ => Ent.refl _) .nil) (op_bload (m := 2) rfl rfl ag29 sz29) rfl ?_
  refine lxs rfl rfl rfl guard_eq .nil (op_build (qs := [_, _, _]) (parts := [(1, (Go.Operand.const (Go.Value.int Go.IntKind.i64 9)))]) ze43 rfl rfl fs43 (.cons rfl (.one (by (first | exact One.eq rfl | exact One.mv _ _ _ _ _ | exact One.cl _ _ _ | exact One.map _ | exact One.sl _ _ _ | exact One.row _ _ _ _ | exact One.msl _ _ _ _ | exact One.ptr _ _ | exact One.b _ | exact One.cells _))) fl43_1 sz3 rfl .nil) rfl rfl) rfl ?_
  first | refine lxs rfl rfl rfl guard_eq (.cons (t := 82) rfl (fun h => entW h) (.cons (t := 83) rfl (fun h => entW h) .nil)) (op_call (l := [(Go.Operand.tmp 82), (Go.Operand.const (Go.Value.int Go.IntKind.i64 2)), (Go.Operand.tmp 83)]) (Set_a) (.cons rfl (.cons rfl (.cons rfl .nil))) fn25) rfl ?_ | refine lxs rfl rfl rfl guard_eq (.cons (t := 82) rfl (fun h => entW h) (.cons (t := 83) rfl (fun h => entW h) .nil)) (op_call (l := [(Go.Operand.tmp 82), (Go.Operand.const (Go.Value.int Go.IntKind.i64 2)), (Go.Operand.tmp 83)]) (Set_a) (.ent rfl (by exact ent_auto) (.ent rfl (by exact ent_auto) (.ent rfl (by exact ent_auto) .nil))) fn25) rfl ?_
  first | refine lxs rfl rfl rfl guard_eq (.cons (t := 84) rfl (fun h => entW h) .nil) (op_call (l := [(Go.Operand.tmp 84), (Go.Operand.const (Go.Value.int Go.IntKind.i64 2))]) (Reg_a aG5 2 ⟨0, 9, 0⟩ (bdG_ble rfl) (by decide) (by decide)) (.cons rfl (.cons rfl .nil)) fn27) rfl ?_ | refine lxs rfl rfl rfl guard_eq (.cons (t := 84) rfl (fun h => entW h) .nil) (op_call (l := [(Go.Operand.tmp 84), (Go.Operand.const (Go.Value.int Go.IntKind.i64 2))]) (Reg_a aG5 2 ⟨0, 9, 0⟩ (bdG_ble rfl) (by decide) (by decide)) (.ent rfl (by exact ent_auto) (.ent rfl (by exact ent_auto) .nil)) fn27) rfl ?_
  refine lxs rfl rfl rfl guard_eq (.cons (t := 85) rfl (fun h => entW h) .nil) (op_field_one rfl fl43_1 ag3 rfl) rfl ?_
  refine lxs rfl rfl rfl guard_eq (.cons (t := 86) rfl (fun h => entW h) .nil) (op_eql rfl rfl) rfl ?_
  refine lx (op_pick_and rfl rfl) rfl ?_
  refine lx (op_assign rfl) rfl ?_
  refine lx_end ⟨by kernel_rfl, ?_⟩
  refine pe_then_normal ?_
  refine tr_sub hC (.cons (t := 0) rfl .nil) .nil rfl ?_
  refine tr_ret ?_
  refine pe_ret1 rfl hO rfl (.tmp rfl .nil) ?_
  exact ent_auto
theorem possible_ok (p : Pg) (g : Gr) (hp : BdPg 9223372036854775807 p) (hb : BdG 9223372036854775807 g) : FnP Try.prog 20 [aggP p.ps, aggP g.ps] (eqP (.bool ((progF instrF p && validG p g) && (decide (g.state = 0) || decide (g.state = 1))))) := by
 refine fn_pure' Try.func20 rfl Try.ntmps20 rfl ?_
 intro σ0 M ex Rf R hC hO
 simp only [frameOf, tokOf]
 refine tr_seq ?_
 refine tr_region (fun N0 hN => ?_)
 refine lxn (op_box (m := 2) (k := 2) rfl (.agg rfl) (by first | exact hC.low _ (by decide) | rfl)) rfl ?_
 refine lxn (op_box (m := 3) (k := 3) rfl (.agg rfl) (by first | exact hC.low _ (by decide) | rfl)) rfl ?_
 refine lx (op_assign rfl) rfl ?_
 refine lx_end ⟨by kernel_rfl, ?_⟩
 refine pe_then_normal ?_
 refine tr_sub hC (.cons (t := 2) rfl (.cons (t := 3) rfl .nil)) (.cons (t := 2) rfl (.cons (t := 3) rfl .nil)) rfl ?_
 refine tr_seq ?_
 refine tr_region (fun N1 hN => ?_)
 refine lx (op_bload (m := 2) rfl rfl ag26 sz26) rfl ?_
 first | refine lx (op_call (l := [(Go.Operand.tmp 5)]) (Prog_ok p hp) (.cons rfl .nil) fn13) rfl ?_ | refine lx (op_call (l := [(Go.Operand.tmp 5)]) (Prog_ok p hp) (.ent rfl (by exact ent_auto) .nil) fn13) rfl ?_
 refine lx (op_move rfl) rfl ?_
 refine lxs rfl rfl rfl guard_eq (.cons (t := 2) rfl (fun _ => Ent.refl _) .nil) (op_bload (m := 2) rfl rfl ag26 sz26) rfl ?_
 refine lxs rfl rfl rfl guard_eq (.cons (t := 3) rfl (fun _ => Ent.refl _) .nil) (op_bload (m := 3) rfl rfl ag29 sz29) rfl ?_
 first | refine lxs rfl rfl rfl guard_eq (.cons (t := 8) rfl (fun h => entW h) (.cons (t := 9) rfl (fun h => entW h) .nil)) (op_call (l := [(Go.Operand.tmp 8), (Go.Operand.tmp 9)]) (rValid_ok p g hb) (.cons rfl (.cons rfl .nil)) fn15) rfl ?_ | refine lxs rfl rfl rfl guard_eq (.cons (t := 8) rfl (fun h => entW h) (.cons (t := 9) rfl (fun h => entW h) .nil)) (op_call (l := [(Go.Operand.tmp 8), (Go.Operand.tmp 9)]) (rValid_ok p g hb) (.ent rfl (by exact ent_auto) (.ent rfl (by exact ent_auto) .nil)) fn15) rfl ?_
 refine lx (op_pick_and rfl rfl) rfl ?_
 refine lx (op_move rfl) rfl ?_
 refine lxs rfl rfl rfl guard_eq (.cons (t := 3) rfl (fun _ => Ent.refl _) .nil) (op_fieldAddr rfl fl29_0 sz3) rfl ?_
 refine lxs rfl rfl rfl guard_eq (.cons (t := 13) rfl (fun h => entW h) .nil) (op_bload_one (m := 3) rfl rfl ag3 rfl) rfl ?_
 refine lxs rfl rfl rfl guard_eq (.cons (t := 14) rfl (fun h => entW h) .nil) (op_eql rfl rfl) rfl ?_
 refine lxs rfl rfl rfl guard_eq (.cons (t := 15) rfl (fun h => entW h) .nil) (op_move rfl) rfl ?_
 refine lxs rfl rfl rfl guard_w (.cons (t := 3) rfl (fun _ => Ent.refl _) .nil) (op_fieldAddr rfl fl29_0 sz3) rfl ?_
 refine lxs rfl rfl rfl guard_w (.cons (t := 17) rfl (fun h => entW h) .nil) (op_bload_one (m := 3) rfl rfl ag3 rfl) rfl ?_
 refine lxs rfl rfl rfl guard_w (.cons (t := 18) rfl (fun h => entW h) .nil) (op_eql rfl rfl) rfl ?_
 refine lxs rfl rfl rfl guard_eq (.cons (t := 16) rfl (fun h => entW h) (.cons (t := 19) rfl (fun h => entS h) .nil)) (op_pick_or rfl rfl) rfl ?_
 refine lx (op_pick_and rfl rfl) rfl ?_
 refine lx (op_assign rfl) rfl ?_
 refine lx_end ⟨by kernel_rfl, ?_⟩
 refine pe_then_normal ?_
 refine tr_sub hC (.cons (t := 4) rfl .nil) .nil rfl ?_
 refine tr_ret ?_
 refine pe_ret1 rfl hO rfl (.tmp rfl .nil) ?_
 exact ent_auto
end Go.Proofs.Ythiknhmoefbanaa


set_option linter.unusedVariables false
set_option linter.unusedSimpArgs false
namespace Go.Proofs.Ythiknhmoefbanaa
open Go.AL Go.Ch Go.Hp Go.RowKit
theorem fn12 : fnB Try.prog 12 = true := by kernel_rfl
theorem fn20 : fnB Try.prog 20 = true := by kernel_rfl
structure Cl where
 p : Pg
 g : Gr
 fn : Int
 args : List V
 dest : Int
def Cl.ps (c : Cl) : List Pred := [slP Fu.ps 4 c.p.funcs, slP Gl.ps 2 c.p.globals, slP lyp 1 c.p.layouts, eqP (.int .i64 c.p.main), eqP (.int .i64 c.g.state), eqP (.int .i64 c.g.fault), eqP (.int .i64 c.g.allocs), slP Fm.ps 9 c.g.frames, eqP (.int .i64 c.fn), slP vp 3 c.args, eqP (.int .i64 c.dest)]
theorem Cl.len (c : Cl) : c.ps.length = 11 := rfl
def sv (s : Int × Int) : List Value := [.int .i64 s.1, .int .i64 s.2]
end Go.Proofs.Ythiknhmoefbanaa


namespace Go.Proofs.Ythiknhmoefbanaa
open Go.AL Go.Ch Go.Hp Go.RowKit
section
variable {H : Type} {enc : TypeId × Value → H} {W : World} {base : Nat} {spare : Nat → Bool} {held : Bool} {bk : DataW H → Nat}
theorem rdS_string (hB : BulkOK bk) {P : Program} {t : TypeId} (ht : P.underlying t = some .string) : RdS enc P W base spare held bk t (fun b : ByteArray => [eqP (.string b)]) (fun _ => 1) (fun _ => True) := by
  intro fuel cs x hx
  obtain ⟨n, rfl, rfl, hs⟩ := DataW.trod_string ht hx
  refine ⟨n, ⟨trivial, hB.lit _⟩, rfl, fun j p u hp hu => ?_⟩
  cases j with
  | zero => simp at hp hu; subst hp; subst hu; exact ⟨rfl, rfl⟩
  | succ j => simp at hp
theorem rd_value (hB : BulkOK bk) : RdS enc Try.prog W base spare held bk 43 vp szV (fun _ => True) :=
  (rdS_struct hB (fs := [(0, 3, 1), (1, 3, 1), (2, 3, 1)]) (m := 3) (by kernel_rfl) (by kernel_rfl) (rdfS_cons (rdS_int hB Try.underlying3) (rdfS_cons (rdS_int hB Try.underlying3) (rdfS_cons (rdS_int hB Try.underlying3) rdfS_nil)))).map
    (fun x => ⟨x.1, x.2.1, x.2.2.1⟩) (fun _ => rfl) (fun _ => Nat.le_refl _) (fun _ _ => trivial)
theorem rd_values (hB : BulkOK bk) : RdS enc Try.prog W base spare held bk 33 (fun l => [slP vp 3 l]) (szL szV) (fun _ => True) :=
  (rdS_slice hB Try.underlying33 (rd_value hB) (by kernel_rfl) (by decide)).map (fun x => x) (fun _ => rfl) (fun _ => Nat.le_refl _) (fun _ _ => trivial)
theorem rd_deferred (hB : BulkOK bk) : RdS enc Try.prog W base spare held bk 47 Df.ps szD (fun _ => True) :=
  (rdS_struct hB (fs := [(0, 3, 1), (1, 33, 1)]) (m := 2) (by kernel_rfl) (by kernel_rfl) (rdfS_cons (rdS_int hB Try.underlying3) (rdfS_cons (rd_values hB) rdfS_nil))).map
    (fun x => ⟨x.1, x.2.1⟩) (fun _ => rfl) (fun _ => by simp only [szD]; omega) (fun _ _ => trivial)
theorem rd_defers (hB : BulkOK bk) : RdS enc Try.prog W base spare held bk 58 (fun l => [slP Df.ps 2 l]) (szL szD) (fun _ => True) :=
  (rdS_slice hB Try.underlying58 (rd_deferred hB) (by kernel_rfl) (by decide)).map (fun x => x) (fun _ => rfl) (fun _ => Nat.le_refl _) (fun _ _ => trivial)
theorem rd_frame (hB : BulkOK bk) : RdS enc Try.prog W base spare held bk 60 Fm.ps szFm (fun _ => True) :=
  (rdS_struct hB (fs := [(0, 3, 1), (1, 3, 1), (2, 33, 1), (3, 3, 1), (4, 58, 1), (5, 4, 1), (6, 43, 3)]) (m := 9) (by kernel_rfl) (by kernel_rfl) (rdfS_cons (rdS_int hB Try.underlying3) (rdfS_cons (rdS_int hB Try.underlying3) (rdfS_cons (rd_values hB) (rdfS_cons (rdS_int hB Try.underlying3) (rdfS_cons (rd_defers hB) (rdfS_cons (rdS_bool hB Try.underlying4) (rdfS_cons (rd_value hB) rdfS_nil)))))))).map
    (fun x => ⟨x.1, x.2.1, x.2.2.1, x.2.2.2.1, x.2.2.2.2.1, x.2.2.2.2.2.1, x.2.2.2.2.2.2.1⟩) (fun _ => rfl) (fun _ => by simp only [szFm, szV]; omega) (fun _ _ => trivial)
theorem rd_frames (hB : BulkOK bk) : RdS enc Try.prog W base spare held bk 27 (fun l => [slP Fm.ps 9 l]) (szL szFm) (fun _ => True) :=
  (rdS_slice hB Try.underlying27 (rd_frame hB) (by kernel_rfl) (by decide)).map (fun x => x) (fun _ => rfl) (fun _ => Nat.le_refl _) (fun _ _ => trivial)
theorem rd_goroutine (hB : BulkOK bk) : RdS enc Try.prog W base spare held bk 29 Gr.ps szGr (fun _ => True) :=
  (rdS_struct hB (fs := [(0, 3, 1), (1, 3, 1), (2, 3, 1), (3, 27, 1)]) (m := 4) (by kernel_rfl) (by kernel_rfl) (rdfS_cons (rdS_int hB Try.underlying3) (rdfS_cons (rdS_int hB Try.underlying3) (rdfS_cons (rdS_int hB Try.underlying3) (rdfS_cons (rd_frames hB) rdfS_nil))))).map
    (fun x => ⟨x.1, x.2.1, x.2.2.1, x.2.2.2.1⟩) (fun _ => rfl) (fun _ => by simp only [szGr]; omega) (fun _ _ => trivial)
theorem rd_instr (hB : BulkOK bk) : RdS enc Try.prog W base spare held bk 80 In.ps szIn (fun _ => True) :=
  (rdS_struct hB (fs := [(0, 3, 1), (1, 3, 1), (2, 3, 1), (3, 3, 1), (4, 3, 1)]) (m := 5) (by kernel_rfl) (by kernel_rfl) (rdfS_cons (rdS_int hB Try.underlying3) (rdfS_cons (rdS_int hB Try.underlying3) (rdfS_cons (rdS_int hB Try.underlying3) (rdfS_cons (rdS_int hB Try.underlying3) (rdfS_cons (rdS_int hB Try.underlying3) rdfS_nil)))))).map
    (fun x => ⟨x.1, x.2.1, x.2.2.1, x.2.2.2.1, x.2.2.2.2.1⟩) (fun _ => rfl) (fun _ => by simp only [szIn]; omega) (fun _ _ => trivial)
theorem rd_instrs (hB : BulkOK bk) : RdS enc Try.prog W base spare held bk 64 (fun l => [slP In.ps 5 l]) (szL szIn) (fun _ => True) :=
  (rdS_slice hB Try.underlying64 (rd_instr hB) (by kernel_rfl) (by decide)).map (fun x => x) (fun _ => rfl) (fun _ => Nat.le_refl _) (fun _ _ => trivial)
theorem rd_func (hB : BulkOK bk) : RdS enc Try.prog W base spare held bk 66 Fu.ps szFu (fun _ => True) :=
  (rdS_struct hB (fs := [(0, 9, 1), (1, 3, 1), (2, 3, 1), (3, 64, 1)]) (m := 4) (by kernel_rfl) (by kernel_rfl) (rdfS_cons (rdS_string hB Try.underlying9) (rdfS_cons (rdS_int hB Try.underlying3) (rdfS_cons (rdS_int hB Try.underlying3) (rdfS_cons (rd_instrs hB) rdfS_nil))))).map
    (fun x => ⟨x.1, x.2.1, x.2.2.1, x.2.2.2.1⟩) (fun _ => rfl) (fun _ => by simp only [szFu]; omega) (fun _ _ => trivial)
theorem rd_funcs (hB : BulkOK bk) : RdS enc Try.prog W base spare held bk 22 (fun l => [slP Fu.ps 4 l]) (szL szFu) (fun _ => True) :=
  (rdS_slice hB Try.underlying22 (rd_func hB) (by kernel_rfl) (by decide)).map (fun x => x) (fun _ => rfl) (fun _ => Nat.le_refl _) (fun _ _ => trivial)
theorem rd_global (hB : BulkOK bk) : RdS enc Try.prog W base spare held bk 71 Gl.ps szGl (fun _ => True) :=
  (rdS_struct hB (fs := [(0, 9, 1), (1, 3, 1)]) (m := 2) (by kernel_rfl) (by kernel_rfl) (rdfS_cons (rdS_string hB Try.underlying9) (rdfS_cons (rdS_int hB Try.underlying3) rdfS_nil))).map
    (fun x => ⟨x.1, x.2.1⟩) (fun _ => rfl) (fun _ => by simp only [szGl]; omega) (fun _ _ => trivial)
theorem rd_globals (hB : BulkOK bk) : RdS enc Try.prog W base spare held bk 23 (fun l => [slP Gl.ps 2 l]) (szL szGl) (fun _ => True) :=
  (rdS_slice hB Try.underlying23 (rd_global hB) (by kernel_rfl) (by decide)).map (fun x => x) (fun _ => rfl) (fun _ => Nat.le_refl _) (fun _ _ => trivial)
theorem rd_layout (hB : BulkOK bk) : RdS enc Try.prog W base spare held bk 81 lyp (szL szI) (fun _ => True) :=
  (rdS_slice hB Try.underlying81 (rdS_int hB Try.underlying3) (by kernel_rfl) (by decide)).map (fun x => x) (fun _ => rfl) (fun _ => Nat.le_refl _) (fun _ _ => trivial)
theorem rd_layouts (hB : BulkOK bk) : RdS enc Try.prog W base spare held bk 24 (fun l => [slP lyp 1 l]) (szL (szL szI)) (fun _ => True) :=
  (rdS_slice hB Try.underlying24 (rd_layout hB) (by kernel_rfl) (by decide)).map (fun x => x) (fun _ => rfl) (fun _ => Nat.le_refl _) (fun _ _ => trivial)
theorem rd_program (hB : BulkOK bk) : RdS enc Try.prog W base spare held bk 26 Pg.ps szP (fun _ => True) :=
  (rdS_struct hB (fs := [(0, 22, 1), (1, 23, 1), (2, 24, 1), (3, 3, 1)]) (m := 4) (by kernel_rfl) (by kernel_rfl) (rdfS_cons (rd_funcs hB) (rdfS_cons (rd_globals hB) (rdfS_cons (rd_layouts hB) (rdfS_cons (rdS_int hB Try.underlying3) rdfS_nil))))).map
    (fun x => ⟨x.1, x.2.1, x.2.2.1, x.2.2.2.1⟩) (fun _ => rfl) (fun _ => by simp only [szP]; omega) (fun _ _ => trivial)
def szCl (c : Cl) : Nat := szP c.p + szGr c.g + szL szV c.args
end
end Go.Proofs.Ythiknhmoefbanaa


namespace Go.Proofs.Ythiknhmoefbanaa
open Go.AL
theorem bulkAll {H : Type} : ∀ l : List (DataW H), Rows.uptoBulkAll l = (l.map Rows.uptoBulk).sum
  | [] => rfl
  | d :: l => by
    rw [Rows.uptoBulkAll, bulkAll l, List.map_cons, List.sum_cons]
theorem bulkOK {H : Type} : BulkOK (H := H) Rows.uptoBulk where
  lit := fun l => by cases l <;> simp [Rows.uptoBulk]
  nil := by simp [Rows.uptoBulk]
  slice := fun e s => by rw [Rows.uptoBulk, bulkAll, bulkAll]; omega
  agg := fun l => by rw [Rows.uptoBulk, bulkAll]; omega
end Go.Proofs.Ythiknhmoefbanaa


namespace Go.Hp
open Go.AL Go.Ch
def lastO (b : Option Fm) : List Fm → Option Fm
  | [] => b
  | x :: l => lastO (some x) l
section
variable {p : Pg} {g : Gr} {f f' h : Fm} {b : Option Fm} {l : List Fm} {d : Df} {v : V} {r x dest : Int} {args : List V} {q t : Nat} {ins : Pg → Fu → In → Bool}
theorem frs_app : ∀ (l : List Fm) (b : Option Fm), frsOK p b (l ++ [f]) = (frsOK p b l && frmOK p (lastO b l) f)
  | [], b => by simp [frsOK, lastO]
  | y :: l, b => by
    show (frmOK p b y && frsOK p (some y) (l ++ [f])) = (frmOK p b y && frsOK p (some y) l && frmOK p (lastO (some y) l) f)
    rw [frs_app l (some y), Bool.and_assoc]
theorem lastO_app : ∀ (l : List Fm) (b : Option Fm), lastO b (l ++ [f]) = some f
  | [], b => rfl
  | y :: l, b => lastO_app l (some y)
theorem frs_take (h : frsOK p none l = true) : ∀ t, t ≤ l.length → frsOK p none (l.take t) = true := by
  intro t ht
  have : ∀ (l : List Fm) (b : Option Fm) (t : Nat), frsOK p b l = true → frsOK p b (l.take t) = true := by
    intro l
    induction l with
    | nil => intro b t _; simp [frsOK]
    | cons y l ih =>
      intro b t h
      rw [frsOK, Bool.and_eq_true] at h
      cases t with
      | zero => rfl
      | succ t =>
        rw [List.take_succ_cons, frsOK, h.1, ih _ _ h.2]
        rfl
  exact this l none t h
theorem frs_at (h : frsOK p none l = true) (hq : l[q]? = some f) : frsOK p none (l.take q) = true ∧ frmOK p (lastO none (l.take q)) f = true := by
  obtain ⟨hlt, rfl⟩ := List.getElem?_eq_some_iff.1 hq
  have h1 := frs_take h (q + 1) (by omega)
  rw [take_at hlt, frs_app, Bool.and_eq_true] at h1
  exact h1
theorem frm_parts : frmOK p b f = true ↔ (0 ≤ f.fn ∧ f.fn < (p.funcs.length : Int)) ∧ ((f.regs.length : Int) = (pfn p f.fn).regs ∧ 0 ≤ f.pc ∧ f.pc < ((pfn p f.fn).code.length : Int) ∧ -1 ≤ f.dest) ∧ f.regs.all vval = true ∧ vval f.result = true ∧ destOK b f = true ∧ f.defers.all (defOK p) = true := by
  unfold frmOK fnOK' midOK
  simp only [Bool.and_eq_true, decide_eq_true_eq]
  exact ⟨fun ⟨⟨⟨a, ⟨c, d⟩, e⟩, i⟩, j⟩ => ⟨a, c, d, e, i, j⟩, fun ⟨a, c, d, e, i, j⟩ => ⟨⟨⟨a, ⟨c, d⟩, e⟩, i⟩, j⟩⟩
theorem valid_iff : validG p g = true ↔ (0 ≤ g.state ∧ g.state ≤ 3 ∧ 0 ≤ g.fault ∧ g.fault ≤ 9 ∧ (g.state = 3 ↔ g.fault ≠ 0) ∧ (g.state = 2 ↔ (g.frames.length : Int) = 0) ∧ 0 ≤ g.allocs ∧ g.allocs ≤ 200 ∧ (g.frames.length : Int) ≤ 32) ∧ frsOK p none g.frames = true := by
  unfold validG hdrOK
  rw [Bool.and_eq_true, decide_eq_true_eq]
def Poss (p : Pg) (g : Gr) : Prop := validG p g = true ∧ (g.state = 0 ∨ g.state = 1)
theorem poss_top (h : Poss p g) : ∃ q f, g.frames[q]? = some f ∧ g.frames.length = q + 1 := by
  have h1 := (valid_iff.1 h.1).1
  have h2 := h.2
  exact ⟨g.frames.length - 1, g.frames[g.frames.length - 1]'(by omega), List.getElem?_eq_getElem (by omega), by omega⟩
theorem defOK_iff : defOK p d = true ↔ (0 ≤ d.fn ∧ d.fn < (p.funcs.length : Int) ∧ (d.args.length : Int) = (pfn p d.fn).params) ∧ d.args.all vval = true := by
  unfold defOK
  rw [Bool.and_eq_true, decide_eq_true_eq]
def OutOK (p : Pg) (n : Nat) : Out → Prop
  | .stop rs => frsOK p none rs.reverse = true ∧ rs.length ≤ n
  | .call rs d => frsOK p none rs.reverse = true ∧ rs.length ≤ n ∧ 0 < rs.length ∧ defOK p d = true
end
end Go.Hp


namespace Go.Hp
open Go.AL Go.Ch
/-- what is left when the frame u leaves over the first t frames -/
def leaveAt (p : Pg) (g : Gr) (t : Nat) (u : Fm) : Gr := match lst g.frames (t + 1) u with
  | .stop rs => { g with frames := rs.reverse, state := if rs.length = 0 then 2 else g.state }
  | .call rs d => if (enterF p { g with frames := rs.reverse } d.fn d.args (-1)).2 = 0 then (enterF p { g with frames := rs.reverse } d.fn d.args (-1)).1 else { g with frames := rs.reverse, state := 3, fault := 9 }
def topM (f : Fm) (v : V) (m : Nat) : Fm := { f with leaving := true, result := v, defers := f.defers.take m }
def revF (p : Pg) (g : Gr) (f : Fm) (n : Nat) (v : V) (m : Nat) : Gr := leaveAt p g n (topM f v m)
section
variable {p : Pg} {g : Gr} {f h : Fm} {v w : V} {n k m : Nat} {d : Df}
theorem leaveF_at (hq : g.frames[n]? = some f) (hl : g.frames.length = n + 1) : leaveF p g v = leaveAt p g n (topL f v) := leaveF_some hq hl
theorem lst_take {l l' : List Fm} {u : Fm} (h : l'.take n = l.take n) : lst l' (n + 1) u = lst l (n + 1) u := by
  unfold lst
  simp only
  rw [h]
theorem take_app_at {α : Type} {l : List α} {x : α} (h : n ≤ l.length) : (l.take n ++ [x])[n]? = some x := by
  rw [List.getElem?_append_right (by simp; omega)]
  simp
  rw [show n - min n l.length = 0 by omega]
  rfl
theorem rev_start (hq : g.frames[n]? = some f) (hl : g.frames.length = n + 1) (hf : f.leaving = false) : leaveF p g v = revF p g f n v f.defers.length := by
  rw [leaveF_at hq hl]
  unfold revF topM topL
  rw [if_neg (by rw [hf]; simp), List.take_length]
theorem rev_call (hs : Poss p g) (hq : g.frames[n]? = some f) (hl : g.frames.length = n + 1) (hn : n + 1 < 32) (hd : f.defers[k]? = some d) :
    revF p g f n v (k + 1) = { g with frames := g.frames.take n ++ [topM f v k] ++ [newF p d.fn d.args (-1)] } := by
  obtain ⟨hk, rfl⟩ := List.getElem?_eq_some_iff.1 hd
  have hfv := (frs_at (valid_iff.1 hs.1).2 hq).2
  have hdd := defOK_iff.1 (List.all_eq_true.1 (frm_parts.1 hfv).2.2.2.2.2 _ (List.getElem_mem hk))
  have e1 : (topM f v (k + 1)).defers.length = k + 1 := by simp [topM]; omega
  have e2 : (topM f v (k + 1)).defers[(topM f v (k + 1)).defers.length - 1]? = some f.defers[k] := by
    rw [e1]
    simp [topM, hk]
  have e3 : ({ topM f v (k + 1) with defers := (topM f v (k + 1)).defers.take ((topM f v (k + 1)).defers.length - 1) } : Fm) = topM f v k := by
    rw [e1]
    simp [topM, List.take_take]
  have e4 : enterF p { g with frames := g.frames.take n ++ [topM f v k] } f.defers[k].fn f.defers[k].args (-1) = ({ g with frames := g.frames.take n ++ [topM f v k] ++ [newF p f.defers[k].fn f.defers[k].args (-1)] }, 0) := by
    unfold enterF
    rw [if_neg (by omega), if_neg (by simp; omega)]
  unfold revF leaveAt
  rw [leave_call rfl e2, e3]
  simp only [List.reverse_cons, List.reverse_reverse]
  rw [if_pos (by rw [e4]), e4]
theorem rev_step (hs : Poss p g) (hq : g.frames[n]? = some f) (hl : g.frames.length = n + 1) (hn : n + 1 < 32) (hk : k < f.defers.length) : leaveF p (revF p g f n v (k + 1)) w = revF p g f n v k := by
  have hd : f.defers[k]? = some f.defers[k] := List.getElem?_eq_getElem hk
  have hlt : n ≤ g.frames.length := by omega
  rw [rev_call hs hq hl hn hd]
  have e1 : ({ g with frames := g.frames.take n ++ [topM f v k] ++ [newF p f.defers[k].fn f.defers[k].args (-1)] } : Gr).frames[n + 1]? = some (newF p f.defers[k].fn f.defers[k].args (-1)) := by
    simp only
    rw [List.getElem?_append_right (by simp; omega)]
    simp
    rw [show n - min n g.frames.length = 0 by omega]
    rfl
  have e2 : ({ g with frames := g.frames.take n ++ [topM f v k] ++ [newF p f.defers[k].fn f.defers[k].args (-1)] } : Gr).frames.length = n + 1 + 1 := by simp; omega
  rw [leaveF_at e1 e2]
  have e3 : (g.frames.take n ++ [topM f v k] ++ [newF p f.defers[k].fn f.defers[k].args (-1)])[n]? = some (topM f v k) := by
    rw [List.getElem?_append_left (by simp; omega), take_app_at hlt]
  have e4 : (g.frames.take n ++ [topM f v k] ++ [newF p f.defers[k].fn f.defers[k].args (-1)]).take n = g.frames.take n := by
    rw [List.append_assoc, List.take_append_of_le_length (by simp; omega), List.take_take, Nat.min_self]
  have e5 : topL (newF p f.defers[k].fn f.defers[k].args (-1)) w = { newF p f.defers[k].fn f.defers[k].args (-1) with leaving := true, result := w } := rfl
  have e6 : ret1 (topL (newF p f.defers[k].fn f.defers[k].args (-1)) w) (topM f v k) = topM f v k := ret1_out (by rw [e5]; simp [newF])
  unfold revF leaveAt
  simp only
  rw [leave_pop (by rw [e5]) (by rw [e5]; rfl) e3, e6, lst_take e4]
theorem rev_end0 (hl : g.frames.length = 0 + 1) : revF p g f 0 v 0 = { g with frames := [], state := 2 } := by
  unfold revF leaveAt
  rw [leave_last rfl (by simp [topM])]
  rfl
theorem rev_end (hh : g.frames[n]? = some h) (hhl : h.leaving = false) : revF p g f (n + 1) v 0 = { g with frames := g.frames.take n ++ [ret1 (topM f v 0) h] } := by
  have e : (ret1 (topM f v 0) h).leaving = false := by
    unfold ret1
    split
    · exact hhl
    · exact hhl
  unfold revF leaveAt
  rw [leave_pop rfl (by simp [topM]) hh, leave_stop e]
  simp
theorem rev_reg (hs : Poss p g) (hq : g.frames[n + 1]? = some f) (hh : g.frames[n]? = some h) (hl : g.frames.length = n + 1 + 1) (hd : 0 ≤ f.dest) : regF { g with frames := g.frames.take n ++ [ret1 (topM f v 0) h] } f.dest = v := by
  have hfv := (frs_at (valid_iff.1 hs.1).2 hq).2
  have hdst := (frm_parts.1 hfv).2.2.2.2.1
  have hlt := (List.getElem?_eq_some_iff.1 hh).1
  have e0 : lastO none (g.frames.take (n + 1)) = some h := by
    obtain ⟨_, rfl⟩ := List.getElem?_eq_some_iff.1 hh
    rw [take_at hlt, lastO_app]
  rw [e0] at hdst
  have h1 : f.dest < (h.regs.length : Int) := of_decide_eq_true hdst
  have e1 : ret1 (topM f v 0) h = { h with regs := h.regs.set f.dest.toNat v } := ret1_in ⟨hd, h1⟩
  rw [e1, reg_some (q := n) (f := { h with regs := h.regs.set f.dest.toNat v }) (take_app_at (by omega)) (by simp; omega), if_pos ⟨hd, by simpa using h1⟩]
  simp
  rw [List.getElem?_eq_getElem (by simp; omega)]
  simp
theorem topM_bd {N : Nat} (hb : BdF N f) : BdF N (topM f v m) := ⟨hb.regs, by have := hb.defers; simp [topM]; omega, fun d hd => hb.args d (List.mem_of_mem_take hd)⟩
theorem rev_facts {N : Nat} (hp : POK p) (h64 : 64 ≤ N) (hb : BdG N g) (hs : Poss p g) (hq : g.frames[n]? = some f) (hl : g.frames.length = n + 1) (hn : n + 1 < 32) (hd : f.defers[k]? = some d) :
    BdG N (revF p g f n v (k + 1)) ∧ (revF p g f n v (k + 1)).frames.length = n + 2 ∧ (revF p g f n v (k + 1)).frames[n + 1]? = some (newF p d.fn d.args (-1)) := by
  have hfv := (frs_at (valid_iff.1 hs.1).2 hq).2
  have hdd := defOK_iff.1 (List.all_eq_true.1 (frm_parts.1 hfv).2.2.2.2.2 _ (mem_at hd))
  rw [rev_call hs hq hl hn hd]
  refine ⟨⟨by simp; omega, fun x hx => ?_⟩, by simp; omega, ?_⟩
  · simp only [List.mem_append, List.mem_singleton] at hx
    rcases hx with (hx | hx) | hx
    · exact hb.each x (List.mem_of_mem_take hx)
    · subst hx
      exact topM_bd (hb.each f (mem_at hq))
    · subst hx
      exact bdF_newF hp hdd.1.1 hdd.1.2.1 hdd.1.2.2 h64
  · simp only
    rw [List.getElem?_append_right (by simp; omega)]
    simp
    rw [show n - min n g.frames.length = 0 by omega]
    rfl
theorem rev_fin {N : Nat} (hb : BdG N g) (hs : Poss p g) (hq : g.frames[n]? = some f) (hl : g.frames.length = n + 1) (hbl : ∀ h, 0 < n → g.frames[n - 1]? = some h → h.leaving = false) :
    BdG N (revF p g f n v 0) ∧ (revF p g f n v 0).frames.length = n ∧ ((revF p g f n v 0).state = 2 ↔ n = 0) ∧ (n = 0 ∨ f.dest < 0 ∨ regF (revF p g f n v 0) f.dest = v) := by
  have h2 := hs.2
  cases n with
  | zero =>
    rw [rev_end0 hl]
    exact ⟨⟨Nat.zero_le _, fun x hx => by simp at hx⟩, rfl, by simp, .inl rfl⟩
  | succ n =>
    have hh : g.frames[n]? = some (g.frames[n]'(by omega)) := List.getElem?_eq_getElem (by omega)
    have hhl := hbl _ (by omega) hh
    rw [rev_end hh hhl]
    refine ⟨bdG_take hb (bdF_ret (hb.each _ (mem_at hh))) (by omega), by simp; omega, ?_, ?_⟩
    · simp only
      omega
    · by_cases hd : 0 ≤ f.dest
      · exact .inr (.inr (rev_reg hs hq hh hl hd))
      · exact .inr (.inl (by omega))
end
end Go.Hp
namespace Go.Hp
open Go.AL Go.Ch
end Go.Hp


set_option linter.unusedVariables false
set_option linter.unusedSimpArgs false
namespace Go.Proofs.Ythiknhmoefbanaa
open Go.AL Go.Ch Go.Hp Go.RowKit
theorem rev_ex {p : Pg} {g : Gr} (h : (((!true || !((progF instrF p && validG p g) && (decide (g.state = 0) || decide (g.state = 1)))) || decide ((g.frames.length : Int) = 0)) || decide ((g.frames.length : Int) ≥ 32)) = false) : progF instrF p = true ∧ Poss p g ∧ g.frames.length < 32 := by
 simp only [Bool.or_eq_false_iff, Bool.not_eq_false', Bool.and_eq_true, Bool.or_eq_true, decide_eq_true_eq, decide_eq_false_iff_not, Bool.not_true, true_and] at h
 obtain ⟨⟨⟨⟨h1, h2⟩, h3⟩, h4⟩, h5⟩ := h
 exact ⟨h1, ⟨h2, h3⟩, by omega⟩
theorem rev_two {a b : Int} {q : Nat} (ha : a = (q : Int)) (hb : b = 2 ↔ q = 0) : (decide (a ≠ (q : Int)) || (decide (b = 2) != decide ((q : Int) = 0))) = false := by
 rw [decide_eq_false (by omega)]
 simp only [Bool.false_or, bne_eq_false_iff_eq, decide_eq_decide]
 omega
theorem rev_tri {q : Nat} {d : Int} {a v : V} (h : q = 0 ∨ d < 0 ∨ a = v) : ((decide ((q : Int) = 0) || decide (d < 0)) || decide (a = v)) = true := by
 simp only [Bool.or_eq_true, decide_eq_true_eq]
 rcases h with h | h | h
 ·exact .inl (.inl (by omega))
 ·exact .inl (.inr h)
 ·exact .inr h
theorem law_reverse (p : Pg) (g : Gr) (hp : BdPg 1048576 p) (hb : BdG 1048576 g) (v : V) : FnP Try.prog 10 [aggP p.ps, aggP g.ps, aggP (vp v)] (eqP (.bool true)) := by
 have hb4 : BdG 4000000 g := hb.mono (by decide)
 have hbN : BdG 9223372036854775807 g := hb.mono (by decide)
 have hp4 : BdPg 9223372036854775807 p := ⟨Nat.le_trans hp.funcs (by decide), Nat.le_trans hp.globals (by decide), Nat.le_trans hp.layouts (by decide), fun l hl => Nat.le_trans (hp.lays l hl) (by decide), fun f hf => Nat.le_trans (hp.codes f hf) (by decide)⟩
 refine fn_pure' Try.func10 rfl Try.ntmps10 rfl ?_
 intro σ0 M ex Rf R hC hO
 simp only [frameOf, tokOf]
 refine tr_seq ?_
 refine tr_region (fun N0 hN => ?_)
 refine lxn (op_box (m := 3) (k := 3) rfl (.agg rfl) (by first | exact hC.low _ (by decide) | rfl)) rfl ?_
 refine lxn (op_box (m := 4) (k := 4) rfl (.agg rfl) (by first | exact hC.low _ (by decide) | rfl)) rfl ?_
 refine lxn (op_box (m := 5) (k := 5) rfl (.agg rfl) (by first | exact hC.low _ (by decide) | rfl)) rfl ?_
 refine lx (op_assign rfl) rfl ?_
 refine lx_end ⟨by kernel_rfl, ?_⟩
 refine pe_then_normal ?_
 refine tr_sub hC (.cons (t := 3) rfl (.cons (t := 4) rfl (.cons (t := 5) rfl .nil))) (.cons (t := 3) rfl (.cons (t := 4) rfl (.cons (t := 5) rfl .nil))) rfl ?_
 refine tr_seq ?_
 refine tr_seq ?_
 refine tr_region (fun N1 hN => ?_)
 first | refine lx (op_call (l := []) (awake_ok) .nil fn12) rfl ?_ | refine lx (op_call (l := []) (awake_ok) .nil fn12) rfl ?_
 first | refine lx (op_not rfl) rfl ?_ | refine lx (op_not_b rfl) rfl ?_
 refine lx (op_move rfl) rfl ?_
 refine lxs rfl rfl rfl guard_eq (.cons (t := 3) rfl (fun _ => Ent.refl _) .nil) (op_bload (m := 3) rfl rfl ag26 sz26) rfl ?_
 refine lxs rfl rfl rfl guard_eq (.cons (t := 4) rfl (fun _ => Ent.refl _) .nil) (op_bload (m := 4) rfl rfl ag29 sz29) rfl ?_
 first | refine lxs rfl rfl rfl guard_eq (.cons (t := 14) rfl (fun h => entW h) (.cons (t := 15) rfl (fun h => entW h) .nil)) (op_call (l := [(Go.Operand.tmp 14), (Go.Operand.tmp 15)]) (possible_ok p g hp4 hbN) (.cons rfl (.cons rfl .nil)) fn20) rfl ?_ | refine lxs rfl rfl rfl guard_eq (.cons (t := 14) rfl (fun h => entW h) (.cons (t := 15) rfl (fun h => entW h) .nil)) (op_call (l := [(Go.Operand.tmp 14), (Go.Operand.tmp 15)]) (possible_ok p g hp4 hbN) (.ent rfl (by exact ent_auto) (.ent rfl (by exact ent_auto) .nil)) fn20) rfl ?_
 first | refine lxs rfl rfl rfl guard_eq (.cons (t := 16) rfl (fun h => entW h) .nil) (op_not rfl) rfl ?_ | refine lxs rfl rfl rfl guard_eq (.cons (t := 16) rfl (fun h => entW h) .nil) (op_not_b rfl) rfl ?_
 refine lx (op_pick_or rfl rfl) rfl ?_
 refine lx (op_move rfl) rfl ?_
 refine lxs rfl rfl rfl guard_eq (.cons (t := 4) rfl (fun _ => Ent.refl _) .nil) (op_fieldAddr rfl fl29_3 sz27) rfl ?_
 refine lxs rfl rfl rfl guard_eq (.cons (t := 20) rfl (fun h => entW h) .nil) (op_bload_one (m := 4) rfl rfl ag27 rfl) rfl ?_
 first | refine lxs rfl rfl rfl guard_eq (.cons (t := 21) rfl (fun h => entW h) .nil) (op_len rfl el27) rfl ?_ | refine lxs rfl rfl rfl guard_eq (.cons (t := 21) rfl (fun h => entW h) .nil) (op_len_row rfl el27) rfl ?_ | refine lxs rfl rfl rfl guard_eq (.cons (t := 21) rfl (fun h => entW h) .nil) (op_len_mv rfl el27) rfl ?_ | refine lxs rfl rfl rfl guard_eq (.cons (t := 21) rfl (fun h => entW h) .nil) (op_len_nil rfl el27) rfl ?_
 refine lxs rfl rfl rfl guard_eq (.cons (t := 22) rfl (fun h => entW h) .nil) (op_eql rfl rfl) rfl ?_
 refine lx (op_pick_or rfl rfl) rfl ?_
 refine lx (op_move rfl) rfl ?_
 refine lxs rfl rfl rfl guard_eq (.cons (t := 4) rfl (fun _ => Ent.refl _) .nil) (op_fieldAddr rfl fl29_3 sz27) rfl ?_
 refine lxs rfl rfl rfl guard_eq (.cons (t := 26) rfl (fun h => entW h) .nil) (op_bload_one (m := 4) rfl rfl ag27 rfl) rfl ?_
 first | refine lxs rfl rfl rfl guard_eq (.cons (t := 27) rfl (fun h => entW h) .nil) (op_len rfl el27) rfl ?_ | refine lxs rfl rfl rfl guard_eq (.cons (t := 27) rfl (fun h => entW h) .nil) (op_len_row rfl el27) rfl ?_ | refine lxs rfl rfl rfl guard_eq (.cons (t := 27) rfl (fun h => entW h) .nil) (op_len_mv rfl el27) rfl ?_ | refine lxs rfl rfl rfl guard_eq (.cons (t := 27) rfl (fun h => entW h) .nil) (op_len_nil rfl el27) rfl ?_
 refine lxs rfl rfl rfl guard_eq (.cons (t := 28) rfl (fun h => entW h) .nil) (op_geq rfl rfl) rfl ?_
 refine lx (op_pick_or rfl rfl) rfl ?_
 refine lx_end ⟨by kernel_rfl, ?_⟩
 refine pe_then_normal ?_
 refine tr_sub hC (.cons (t := 3) rfl (.cons (t := 4) rfl (.cons (t := 5) rfl (.cons (t := 30) rfl .nil)))) (.cons (t := 3) rfl (.cons (t := 4) rfl (.cons (t := 5) rfl .nil))) rfl ?_
 refine tr_cond rfl (fun h30 => ?_) (fun h30 => ?_)
 ·(try simp only [cq1, cq2, cq3, cq4, cq5, cq6, cq7, cq8, cq9, cq10, cq11, cq12, cq13] at h30)
  refine tr_seq ?_
  refine tr_region (fun N2 hN => ?_)
  first | refine lx (op_call (l := []) (awake_ok) .nil fn12) rfl ?_ | refine lx (op_call (l := []) (awake_ok) .nil fn12) rfl ?_
  refine lx (op_assign rfl) rfl ?_
  refine lx_end ⟨by kernel_rfl, ?_⟩
  refine pe_then_normal ?_
  refine tr_sub hC (.cons (t := 6) rfl .nil) .nil rfl ?_
  refine tr_ret ?_
  refine pe_then_ret ?_
  refine pe_ret1 rfl hO rfl (.tmp rfl .nil) ?_
  exact ent_auto
 ·have hpx := rev_ex (p := p) (g := g) h30
  have hpo := progF_POK hpx.1
  have hn : g.frames.length ≤ 100000 := by omega
  obtain ⟨q, f, hq, hl⟩ := poss_top hpx.2.1
  have hbd := (hb.each f (mem_at hq)).defers
  refine tr_skip ?_
  refine pe_then_normal ?_
  refine tr_sub hC (.cons (t := 3) rfl (.cons (t := 4) rfl (.cons (t := 5) rfl .nil))) (.cons (t := 3) rfl (.cons (t := 4) rfl (.cons (t := 5) rfl .nil))) rfl ?_
  refine tr_seq ?_
  refine tr_region (fun N3 hN => ?_)
  refine lx (op_fieldAddr rfl fl29_3 sz27) rfl ?_
  refine lx (op_bload_one (m := 4) rfl rfl ag27 rfl) rfl ?_
  first | refine lx (op_len rfl el27) rfl ?_ | refine lx (op_len_row rfl el27) rfl ?_ | refine lx (op_len_mv rfl el27) rfl ?_ | refine lx (op_len_nil rfl el27) rfl ?_
  refine lx (OpJ.ent (op_sub rfl rfl (by omega)) (show Ent _ (eqP (.int .i64 (q : Int))) from (by exact entI (by omega)))) rfl ?_
  refine lx (op_assign rfl) rfl ?_
  refine lx_end ⟨by kernel_rfl, ?_⟩
  refine pe_then_normal ?_
  refine tr_sub hC (.cons (t := 3) rfl (.cons (t := 4) rfl (.cons (t := 5) rfl (.cons (t := 7) rfl .nil)))) (.cons (t := 3) rfl (.cons (t := 4) rfl (.cons (t := 5) rfl .nil))) rfl ?_
  refine tr_seq ?_
  refine tr_region (fun N4 hN => ?_)
  refine lx (op_fieldAddr rfl fl29_3 sz27) rfl ?_
  refine lx (op_bload_one (m := 4) rfl rfl ag27 rfl) rfl ?_
  refine lx (op_move rfl) rfl ?_
  refine lx (op_index rfl rfl el27 sz60 rfl hq) rfl ?_
  first | refine lx (op_load_all rfl ag60 sz60) rfl ?_ | refine lx (op_load_agg rfl ag60 sz60 rfl) rfl ?_ | refine lx (op_bload (m := 3) rfl rfl ag60 sz60) rfl ?_ | refine lx (op_bload (m := 4) rfl rfl ag60 sz60) rfl ?_ | refine lx (op_bload (m := 5) rfl rfl ag60 sz60) rfl ?_ | refine lx (op_bload_part (m := 3) (qs := [_, _, _, _, _, _, _, _, _]) rfl rfl ag60 sz60 rfl rfl) rfl ?_ | refine lx (op_bload_part (m := 4) (qs := [_, _, _, _, _, _, _, _, _]) rfl rfl ag60 sz60 rfl rfl) rfl ?_ | refine lx (op_bload_part (m := 5) (qs := [_, _, _, _, _, _, _, _, _]) rfl rfl ag60 sz60 rfl rfl) rfl ?_
  refine lxn (op_alloc (m := 8) (k := 8) (ps := [eqP (.int .i64 0), eqP (.int .i64 0), eqP (.slice none 0 0), eqP (.int .i64 0), eqP (.slice none 0 0), eqP (.bool false), eqP (.int .i64 0), eqP (.int .i64 0), eqP (.int .i64 0)]) ze60 rfl rfl (by first | exact hC.low _ (by decide) | rfl)) rfl ?_
  refine lxr (op_store_all (m := 8) rfl rfl rfl (.agg rfl) sz60 rfl) rfl ?_
  refine lx_end ⟨by kernel_rfl, ?_⟩
  refine pe_then_normal ?_
  refine tr_sub hC (.cons (t := 3) rfl (.cons (t := 4) rfl (.cons (t := 5) rfl (.cons (t := 7) rfl (.cons (t := 8) rfl .nil))))) (.cons (t := 3) rfl (.cons (t := 4) rfl (.cons (t := 5) rfl (.cons (t := 8) rfl .nil)))) rfl ?_
  refine tr_seq ?_
  refine tr_seq ?_
  refine tr_region (fun N5 hN => ?_)
  refine lx (op_fieldAddr rfl fl60_5 sz4) rfl ?_
  refine lx (op_bload_one (m := 8) rfl rfl ag4 rfl) rfl ?_
  refine lx (op_move rfl) rfl ?_
  refine lxs rfl rfl rfl guard_eq (.cons (t := 7) rfl (fun _ => Ent.refl _) .nil) (op_move rfl) rfl ?_
  refine lxs rfl rfl rfl guard_eq (.cons (t := 44) rfl (fun h => entW h) .nil) (op_gtr rfl rfl) rfl ?_
  refine lxs rfl rfl rfl guard_eq (.cons (t := 45) rfl (fun h => entW h) .nil) (op_move rfl) rfl ?_
  refine lxs rfl rfl rfl guard_w (.cons (t := 4) rfl (fun _ => Ent.refl _) .nil) (op_fieldAddr rfl fl29_3 sz27) rfl ?_
  refine lxs rfl rfl rfl guard_w (.cons (t := 47) rfl (fun h => entW h) .nil) (op_bload_one (m := 4) rfl rfl ag27 rfl) rfl ?_
  refine lxs rfl rfl rfl guard_w (.cons (t := 7) rfl (fun _ => Ent.refl _) .nil) (op_move rfl) rfl ?_
  refine lxs rfl rfl rfl guard_w (.cons (t := 49) rfl (fun h => entW h) .nil) (op_sub rfl rfl (by omega)) rfl ?_
  refine lxsc (rd := [(48, slP Fm.ps 9 g.frames), (50, eqP (.int .i64 ((q : Int) - 1)))]) (φ := cellsP (g.frames[q - 1]'(by omega)).ps) rfl rfl rfl guard_w (.cons (t := 48) rfl (fun h => entW h) (.cons (t := 50) rfl (fun h => entW h) .nil)) (fun hgd => ?_) rfl rfl ?_
  ·have hq0 : 0 < q := by
    simp at hgd
    omega
   exact op_index rfl rfl el27 sz60 (by omega : (q : Int) - 1 = ((q - 1 : Nat) : Int)) (List.getElem?_eq_getElem (by omega : q - 1 < g.frames.length))
  first | refine lxs rfl rfl rfl guard_w (.cons (t := 51) rfl (fun h => entW h) .nil) (op_fieldAddr rfl fl60_5 sz4) rfl ?_ | refine lxs rfl rfl rfl guard_w (.cons (t := 51) rfl (fun h => entW h) .nil) (op_fieldCells rfl fl60_5 sz4) rfl ?_
  first | refine lxs rfl rfl rfl guard_w (.cons (t := 52) rfl (fun h => entW h) .nil) (op_load_one rfl ag4 rfl) rfl ?_ | refine lxs rfl rfl rfl guard_w (.cons (t := 52) rfl (fun h => entW h) .nil) (op_bload_one (m := 3) rfl rfl ag4 rfl) rfl ?_ | refine lxs rfl rfl rfl guard_w (.cons (t := 52) rfl (fun h => entW h) .nil) (op_bload_one (m := 4) rfl rfl ag4 rfl) rfl ?_ | refine lxs rfl rfl rfl guard_w (.cons (t := 52) rfl (fun h => entW h) .nil) (op_bload_one (m := 5) rfl rfl ag4 rfl) rfl ?_ | refine lxs rfl rfl rfl guard_w (.cons (t := 52) rfl (fun h => entW h) .nil) (op_bload_one (m := 8) rfl rfl ag4 rfl) rfl ?_
  refine lxs rfl rfl rfl guard_eq (.cons (t := 46) rfl (fun h => entW h) (.cons (t := 53) rfl (fun h => entS h) .nil)) (op_pick_and rfl rfl) rfl ?_
  refine lx (op_pick_or rfl rfl) rfl ?_
  refine lx_end ⟨by kernel_rfl, ?_⟩
  refine pe_then_normal ?_
  refine tr_sub hC (.cons (t := 3) rfl (.cons (t := 4) rfl (.cons (t := 5) rfl (.cons (t := 7) rfl (.cons (t := 8) rfl (.cons (t := 55) rfl .nil)))))) (.cons (t := 3) rfl (.cons (t := 4) rfl (.cons (t := 5) rfl (.cons (t := 8) rfl .nil)))) rfl ?_
  refine tr_cond rfl (fun h55 => ?_) (fun h55 => ?_)
  ·(try simp only [cq1, cq2, cq3, cq4, cq5, cq6, cq7, cq8, cq9, cq10, cq11, cq12, cq13] at h55)
   have hdone : True := trivial
   refine tr_seq ?_
   refine tr_region (fun N6 hN => ?_)
   refine lx (op_assign rfl) rfl ?_
   refine lx_end ⟨by kernel_rfl, ?_⟩
   refine pe_then_normal ?_
   refine tr_sub hC (.cons (t := 6) rfl .nil) .nil rfl ?_
   refine tr_ret ?_
   refine pe_then_ret ?_
   refine pe_ret1 rfl hO rfl (.tmp rfl .nil) ?_
   exact ent_auto
  ·have hfb : f.leaving = false ∧ (0 < q → (g.frames[q - 1]'(by omega)).leaving = false) := by
    simp only [Bool.or_eq_false_iff, Bool.and_eq_false_iff, decide_eq_false_iff_not] at h55
    exact ⟨h55.1, fun hp0 => by
     rcases h55.2 with e | e
     ·omega
     ·exact e⟩
   have hfl := hfb.1
   refine tr_skip ?_
   refine pe_then_normal ?_
   refine tr_sub hC (.cons (t := 3) rfl (.cons (t := 4) rfl (.cons (t := 5) rfl (.cons (t := 7) rfl (.cons (t := 8) rfl .nil))))) (.cons (t := 3) rfl (.cons (t := 4) rfl (.cons (t := 5) rfl (.cons (t := 8) rfl .nil)))) rfl ?_
   refine tr_seq ?_
   refine tr_region (fun N7 hN => ?_)
   refine lx (op_bload (m := 3) rfl rfl ag26 sz26) rfl ?_
   refine lx (op_bload (m := 4) rfl rfl ag29 sz29) rfl ?_
   refine lx (op_bload (m := 5) rfl rfl ag43 sz43) rfl ?_
   first | refine lx (OpJ.ent (op_call (l := [(Go.Operand.tmp 56), (Go.Operand.tmp 57), (Go.Operand.tmp 58)]) (Leave_ok p hpo g hb hn v) (.cons rfl (.cons rfl (.cons rfl .nil))) fn21) (show Ent _ (aggP (revF p g f q v f.defers.length).ps) from (by rw [rev_start hq hl hfl]; exact Ent.refl _))) rfl ?_ | refine lx (OpJ.ent (op_call (l := [(Go.Operand.tmp 56), (Go.Operand.tmp 57), (Go.Operand.tmp 58)]) (Leave_ok p hpo g hb hn v) (.ent rfl (by exact ent_auto) (.ent rfl (by exact ent_auto) (.ent rfl (by exact ent_auto) .nil))) fn21) (show Ent _ (aggP (revF p g f q v f.defers.length).ps) from (by rw [rev_start hq hl hfl]; exact Ent.refl _))) rfl ?_
   refine lxn (op_alloc (m := 9) (k := 9) (ps := [eqP (.int .i64 0), eqP (.int .i64 0), eqP (.int .i64 0), eqP (.slice none 0 0)]) ze29 rfl rfl (by first | exact hC.low _ (by decide) | rfl)) rfl ?_
   refine lxr (op_store_all (m := 9) rfl rfl rfl (.agg rfl) sz29 rfl) rfl ?_
   refine lx_end ⟨by kernel_rfl, ?_⟩
   refine pe_then_normal ?_
   refine tr_sub hC (.cons (t := 3) rfl (.cons (t := 5) rfl (.cons (t := 7) rfl (.cons (t := 8) rfl (.cons (t := 9) rfl .nil))))) (.cons (t := 3) rfl (.cons (t := 5) rfl (.cons (t := 8) rfl (.cons (t := 9) rfl .nil)))) rfl ?_
   refine tr_seq ?_
   refine tr_seq ?_
   refine tr_region (fun N8 hN => ?_)
   refine lx (op_fieldAddr rfl fl60_4 sz58) rfl ?_
   refine lx (op_bload_one (m := 8) rfl rfl ag58 rfl) rfl ?_
   first | refine lx (op_len rfl el58) rfl ?_ | refine lx (op_len_row rfl el58) rfl ?_ | refine lx (op_len_mv rfl el58) rfl ?_ | refine lx (op_len_nil rfl el58) rfl ?_
   refine lx (op_sub rfl rfl (by omega)) rfl ?_
   refine lx (op_assign rfl) rfl ?_
   refine lx_end ⟨by kernel_rfl, ?_⟩
   refine pe_then_normal ?_
   refine tr_sub hC (.cons (t := 3) rfl (.cons (t := 5) rfl (.cons (t := 7) rfl (.cons (t := 8) rfl (.cons (t := 9) rfl (.cons (t := 10) rfl .nil)))))) (.cons (t := 3) rfl (.cons (t := 5) rfl (.cons (t := 8) rfl (.cons (t := 9) rfl .nil)))) rfl ?_
   refine tr_block ?_
   refine tr_loopK (α := {zz : Nat // zz ≤ f.defers.length}) (⟨(f.defers.length), Nat.le_refl _⟩) (fun zz => [(10, eqP (.int .i64 ((zz.1 : Int) - 1)))]) (fun zz => [(9, some ((N7, 9), blk 29 (revF p g f q v zz.1).ps))]) (fun zz => zz.1) hC (.cons (t := 3) rfl (.cons (t := 5) rfl (.cons (t := 7) rfl (.cons (t := 8) rfl (.cons (t := 9) rfl .nil))))) (.cons (t := 3) rfl (.cons (t := 5) rfl (.cons (t := 8) rfl .nil))) rfl ?_ ?_ (fun zz => ?_)
   ·try dsimp only [List.cons_append, List.nil_append]
    first | refine SubF.cons rfl ?_ | (refine SubF.ent rfl ?_ ?_; · exact ent_auto)
    exact SubF.nil
   ·try dsimp only [List.cons_append, List.nil_append]
    repeat (first | exact SubL.nil | refine SubL.cons rfl ?_)
   ·obtain ⟨m, hm⟩ := zz
    dsimp only [List.cons_append, List.nil_append]
    refine tr_seq ?_
    refine tr_seq ?_
    refine tr_region (fun N9 hN => ?_)
    refine lx (op_move rfl) rfl ?_
    refine lx (op_geq rfl rfl) rfl ?_
    refine lx_end ⟨by kernel_rfl, ?_⟩
    refine pe_then_normal ?_
    refine tr_sub hC (.cons (t := 3) rfl (.cons (t := 5) rfl (.cons (t := 7) rfl (.cons (t := 8) rfl (.cons (t := 9) rfl (.cons (t := 10) rfl (.cons (t := 65) rfl .nil))))))) (.cons (t := 9) rfl (.cons (t := 3) rfl (.cons (t := 5) rfl (.cons (t := 8) rfl .nil)))) rfl ?_
    refine tr_cond rfl (fun h65 => ?_) (fun h65 => ?_)
    ·(try simp only [cq1, cq2, cq3, cq4, cq5, cq6, cq7, cq8, cq9, cq10, cq11, cq12, cq13] at h65)
     obtain ⟨k, rfl⟩ : ∃ k, m = k + 1 := ⟨m - 1, by omega⟩
     have hk : k < f.defers.length := by omega
     have hd : f.defers[k]? = some f.defers[k] := List.getElem?_eq_getElem hk
     have hr := rev_facts (v := v) hpo (by decide) hb hpx.2.1 hq hl (by omega) hd
     refine tr_skip ?_
     refine pe_then_normal ?_
     refine tr_sub hC (.cons (t := 3) rfl (.cons (t := 5) rfl (.cons (t := 7) rfl (.cons (t := 8) rfl (.cons (t := 9) rfl (.cons (t := 10) rfl .nil)))))) (.cons (t := 9) rfl (.cons (t := 3) rfl (.cons (t := 5) rfl (.cons (t := 8) rfl .nil)))) rfl ?_
     refine tr_seq ?_
     refine tr_block ?_
     refine tr_seq ?_
     refine tr_seq ?_
     refine tr_drawn mixed (fun N11 hN => ?_)
     refine lx (op_fieldAddr rfl fl29_3 sz27) rfl ?_
     refine lx (op_bload_one (m := 9) rfl rfl ag27 rfl) rfl ?_
     first | refine lx (op_len rfl el27) rfl ?_ | refine lx (op_len_row rfl el27) rfl ?_ | refine lx (op_len_mv rfl el27) rfl ?_ | refine lx (op_len_nil rfl el27) rfl ?_
     refine lx (op_move rfl) rfl ?_
     refine lx (op_add rfl rfl (by omega)) rfl ?_
     refine lx (op_neq rfl rfl) rfl ?_
     refine lx (op_move rfl) rfl ?_
     refine lxs rfl rfl rfl guard_eq (.cons (t := 9) rfl (fun _ => Ent.refl _) .nil) (op_fieldAddr rfl fl29_3 sz27) rfl ?_
     refine lxs rfl rfl rfl guard_eq (.cons (t := 75) rfl (fun h => entW h) .nil) (op_bload_one (m := 9) rfl rfl ag27 rfl) rfl ?_
     refine lxs rfl rfl rfl guard_eq (.cons (t := 7) rfl (fun _ => Ent.refl _) .nil) (op_move rfl) rfl ?_
     refine lxs rfl rfl rfl guard_eq (.cons (t := 77) rfl (fun h => entW h) .nil) (op_add rfl rfl (by omega)) rfl ?_
     refine lxs rfl rfl rfl guard_eq (.cons (t := 76) rfl (fun h => entW h) (.cons (t := 78) rfl (fun h => entW h) .nil)) (op_index rfl rfl el27 sz60 (by omega : (q : Int) + 1 = ((q + 1 : Nat) : Int)) hr.2.2) rfl ?_
     first | refine lxs rfl rfl rfl guard_eq (.cons (t := 79) rfl (fun h => entW h) .nil) (op_fieldAddr rfl fl60_0 sz3) rfl ?_ | refine lxs rfl rfl rfl guard_eq (.cons (t := 79) rfl (fun h => entW h) .nil) (op_fieldCells rfl fl60_0 sz3) rfl ?_
     first | refine lxs rfl rfl rfl guard_eq (.cons (t := 80) rfl (fun h => entW h) .nil) (op_load_one rfl ag3 rfl) rfl ?_ | refine lxs rfl rfl rfl guard_eq (.cons (t := 80) rfl (fun h => entW h) .nil) (op_bload_one (m := 9) rfl rfl ag3 rfl) rfl ?_ | refine lxs rfl rfl rfl guard_eq (.cons (t := 80) rfl (fun h => entW h) .nil) (op_bload_one (m := 3) rfl rfl ag3 rfl) rfl ?_ | refine lxs rfl rfl rfl guard_eq (.cons (t := 80) rfl (fun h => entW h) .nil) (op_bload_one (m := 5) rfl rfl ag3 rfl) rfl ?_ | refine lxs rfl rfl rfl guard_eq (.cons (t := 80) rfl (fun h => entW h) .nil) (op_bload_one (m := 8) rfl rfl ag3 rfl) rfl ?_
     refine lxs rfl rfl rfl guard_eq (.cons (t := 8) rfl (fun _ => Ent.refl _) .nil) (op_fieldAddr rfl fl60_4 sz58) rfl ?_
     refine lxs rfl rfl rfl guard_eq (.cons (t := 82) rfl (fun h => entW h) .nil) (op_bload_one (m := 8) rfl rfl ag58 rfl) rfl ?_
     refine lxs rfl rfl rfl guard_eq (.cons (t := 10) rfl (fun _ => Ent.refl _) .nil) (op_move rfl) rfl ?_
     refine lxs rfl rfl rfl guard_eq (.cons (t := 83) rfl (fun h => entW h) (.cons (t := 84) rfl (fun h => entW h) .nil)) (op_index rfl rfl el58 sz47 (by omega : ((k + 1 : Nat) : Int) - 1 = ((k : Nat) : Int)) hd) rfl ?_
     first | refine lxs rfl rfl rfl guard_eq (.cons (t := 85) rfl (fun h => entW h) .nil) (op_fieldAddr rfl fl47_0 sz3) rfl ?_ | refine lxs rfl rfl rfl guard_eq (.cons (t := 85) rfl (fun h => entW h) .nil) (op_fieldCells rfl fl47_0 sz3) rfl ?_
     first | refine lxs rfl rfl rfl guard_eq (.cons (t := 86) rfl (fun h => entW h) .nil) (op_load_one rfl ag3 rfl) rfl ?_ | refine lxs rfl rfl rfl guard_eq (.cons (t := 86) rfl (fun h => entW h) .nil) (op_bload_one (m := 9) rfl rfl ag3 rfl) rfl ?_ | refine lxs rfl rfl rfl guard_eq (.cons (t := 86) rfl (fun h => entW h) .nil) (op_bload_one (m := 3) rfl rfl ag3 rfl) rfl ?_ | refine lxs rfl rfl rfl guard_eq (.cons (t := 86) rfl (fun h => entW h) .nil) (op_bload_one (m := 5) rfl rfl ag3 rfl) rfl ?_ | refine lxs rfl rfl rfl guard_eq (.cons (t := 86) rfl (fun h => entW h) .nil) (op_bload_one (m := 8) rfl rfl ag3 rfl) rfl ?_
     refine lxs rfl rfl rfl guard_eq (.cons (t := 81) rfl (fun h => entW h) (.cons (t := 87) rfl (fun h => entW h) .nil)) (op_neq rfl rfl) rfl ?_
     refine lx (op_pick_or rfl rfl) rfl ?_
     refine lx (op_move rfl) rfl ?_
     refine lxs rfl rfl rfl guard_eq (.cons (t := 9) rfl (fun _ => Ent.refl _) .nil) (op_fieldAddr rfl fl29_3 sz27) rfl ?_
     refine lxs rfl rfl rfl guard_eq (.cons (t := 91) rfl (fun h => entW h) .nil) (op_bload_one (m := 9) rfl rfl ag27 rfl) rfl ?_
     refine lxs rfl rfl rfl guard_eq (.cons (t := 7) rfl (fun _ => Ent.refl _) .nil) (op_move rfl) rfl ?_
     refine lxs rfl rfl rfl guard_eq (.cons (t := 93) rfl (fun h => entW h) .nil) (op_add rfl rfl (by omega)) rfl ?_
     refine lxs rfl rfl rfl guard_eq (.cons (t := 92) rfl (fun h => entW h) (.cons (t := 94) rfl (fun h => entW h) .nil)) (op_index rfl rfl el27 sz60 (by omega : (q : Int) + 1 = ((q + 1 : Nat) : Int)) hr.2.2) rfl ?_
     first | refine lxs rfl rfl rfl guard_eq (.cons (t := 95) rfl (fun h => entW h) .nil) (op_fieldAddr rfl fl60_1 sz3) rfl ?_ | refine lxs rfl rfl rfl guard_eq (.cons (t := 95) rfl (fun h => entW h) .nil) (op_fieldCells rfl fl60_1 sz3) rfl ?_
     first | refine lxs rfl rfl rfl guard_eq (.cons (t := 96) rfl (fun h => entW h) .nil) (op_load_one rfl ag3 rfl) rfl ?_ | refine lxs rfl rfl rfl guard_eq (.cons (t := 96) rfl (fun h => entW h) .nil) (op_bload_one (m := 9) rfl rfl ag3 rfl) rfl ?_ | refine lxs rfl rfl rfl guard_eq (.cons (t := 96) rfl (fun h => entW h) .nil) (op_bload_one (m := 3) rfl rfl ag3 rfl) rfl ?_ | refine lxs rfl rfl rfl guard_eq (.cons (t := 96) rfl (fun h => entW h) .nil) (op_bload_one (m := 5) rfl rfl ag3 rfl) rfl ?_ | refine lxs rfl rfl rfl guard_eq (.cons (t := 96) rfl (fun h => entW h) .nil) (op_bload_one (m := 8) rfl rfl ag3 rfl) rfl ?_
     refine lxs rfl rfl rfl guard_eq (.cons (t := 97) rfl (fun h => entW h) .nil) (op_neq rfl rfl) rfl ?_
     refine lx (op_pick_or rfl rfl) rfl ?_
     refine lx_end ⟨by kernel_rfl, ?_⟩
     refine pe_then_normal ?_
     refine tr_sub hC (.cons (t := 3) rfl (.cons (t := 5) rfl (.cons (t := 7) rfl (.cons (t := 8) rfl (.cons (t := 9) rfl (.cons (t := 10) rfl (.cons (t := 99) rfl .nil))))))) (.cons (t := 9) rfl (.cons (t := 3) rfl (.cons (t := 5) rfl (.cons (t := 8) rfl .nil)))) rfl ?_
     refine tr_cond rfl (fun h99 => ?_) (fun h99 => ?_)
     ·(try simp only [cq1, cq2, cq3, cq4, cq5, cq6, cq7, cq8, cq9, cq10, cq11, cq12, cq13] at h99)
      rcases h99 with (h | h) | h
      ·have := hr.2.1
       omega
      ·exact absurd rfl h
      ·exact absurd rfl h
     ·(try simp only [cq1, cq2, cq3, cq4, cq5, cq6, cq7, cq8, cq9, cq10, cq11, cq12, cq13] at h99)
      refine tr_skip ?_
      refine pe_then_normal ?_
      refine tr_sub hC (.cons (t := 3) rfl (.cons (t := 5) rfl (.cons (t := 7) rfl (.cons (t := 8) rfl (.cons (t := 9) rfl (.cons (t := 10) rfl .nil)))))) (.cons (t := 9) rfl (.cons (t := 3) rfl (.cons (t := 5) rfl (.cons (t := 8) rfl .nil)))) rfl ?_
      refine tr_region (fun N13 hN => ?_)
      refine lx (op_bload (m := 3) rfl rfl ag26 sz26) rfl ?_
      refine lx (op_bload (m := 9) rfl rfl ag29 sz29) rfl ?_
      refine lx (op_move rfl) rfl ?_
      refine lx (OpJ.ent (op_build (qs := [_, _, _]) (parts := [(1, (Go.Operand.tmp 102))]) ze43 rfl rfl fs43 (.cons rfl (.one (by (first | exact One.eq rfl | exact One.mv _ _ _ _ _ | exact One.cl _ _ _ | exact One.map _ | exact One.sl _ _ _ | exact One.row _ _ _ _ | exact One.msl _ _ _ _ | exact One.ptr _ _ | exact One.b _ | exact One.cells _))) fl43_1 sz3 rfl .nil) rfl rfl) (show Ent _ (aggP (vp ⟨0, ((k + 1 : Nat) : Int) - 1, 0⟩)) from (by exact ent_auto))) rfl ?_
      first | refine lx (OpJ.ent (op_call (l := [(Go.Operand.tmp 100), (Go.Operand.tmp 101), (Go.Operand.tmp 103)]) (Leave_ok p hpo (revF p g f q v (k + 1)) hr.1 (by have := hr.2.1; omega) ⟨0, ((k + 1 : Nat) : Int) - 1, 0⟩) (.cons rfl (.cons rfl (.cons rfl .nil))) fn21) (show Ent _ (aggP (revF p g f q v k).ps) from (by rw [← rev_step (w := ⟨0, ((k + 1 : Nat) : Int) - 1, 0⟩) hpx.2.1 hq hl (by omega) hk]; exact Ent.refl _))) rfl ?_ | refine lx (OpJ.ent (op_call (l := [(Go.Operand.tmp 100), (Go.Operand.tmp 101), (Go.Operand.tmp 103)]) (Leave_ok p hpo (revF p g f q v (k + 1)) hr.1 (by have := hr.2.1; omega) ⟨0, ((k + 1 : Nat) : Int) - 1, 0⟩) (.ent rfl (by exact ent_auto) (.ent rfl (by exact ent_auto) (.ent rfl (by exact ent_auto) .nil))) fn21) (show Ent _ (aggP (revF p g f q v k).ps) from (by rw [← rev_step (w := ⟨0, ((k + 1 : Nat) : Int) - 1, 0⟩) hpx.2.1 hq hl (by omega) hk]; exact Ent.refl _))) rfl ?_
      refine lxr (op_store_all (m := 9) rfl rfl rfl (.agg rfl) sz29 rfl) rfl ?_
      refine lx_end ⟨by kernel_rfl, ?_⟩
      refine pe_block_normal ?_
      refine pe_then_normal ?_
      refine tr_sub hC (.cons (t := 3) rfl (.cons (t := 5) rfl (.cons (t := 7) rfl (.cons (t := 8) rfl (.cons (t := 9) rfl (.cons (t := 10) rfl .nil)))))) (.cons (t := 9) rfl (.cons (t := 3) rfl (.cons (t := 5) rfl (.cons (t := 8) rfl .nil)))) rfl ?_
      refine tr_region (fun N10 hN => ?_)
      refine lx (op_move rfl) rfl ?_
      refine lx (OpJ.ent (op_sub rfl rfl (by omega)) (show Ent _ (eqP (.int .i64 ((k : Int) - 1))) from (by exact entI (by omega)))) rfl ?_
      refine lx (op_assign rfl) rfl ?_
      refine lx_end ⟨by kernel_rfl, ?_⟩
      refine pe_round (⟨(k), by omega⟩) (by dsimp only; omega) (pe_st hC ?_ ?_ rfl)
      ·try dsimp only [List.cons_append, List.nil_append]
       first | refine SubF.cons rfl ?_ | (refine SubF.ent rfl ?_ ?_; · exact ent_auto)
       first | refine SubF.cons rfl ?_ | (refine SubF.ent rfl ?_ ?_; · exact ent_auto)
       first | refine SubF.cons rfl ?_ | (refine SubF.ent rfl ?_ ?_; · exact ent_auto)
       first | refine SubF.cons rfl ?_ | (refine SubF.ent rfl ?_ ?_; · exact ent_auto)
       first | refine SubF.cons rfl ?_ | (refine SubF.ent rfl ?_ ?_; · exact ent_auto)
       first | refine SubF.cons rfl ?_ | (refine SubF.ent rfl ?_ ?_; · exact ent_auto)
       exact SubF.nil
      ·try dsimp only [List.cons_append, List.nil_append]
       repeat (first | exact SubL.nil | refine SubL.cons rfl ?_)
    ·(try simp only [cq1, cq2, cq3, cq4, cq5, cq6, cq7, cq8, cq9, cq10, cq11, cq12, cq13] at h65)
     obtain rfl : m = 0 := by omega
     have hz := rev_fin (v := v) hb hpx.2.1 hq hl (fun h h0 hh => by
      obtain ⟨_, rfl⟩ := List.getElem?_eq_some_iff.1 hh
      exact hfb.2 h0)
     refine tr_exit ?_
     refine pe_then_exit ?_
     refine pe_then_exit ?_
     refine pe_block_eq ?_
     refine pe_then_normal ?_
     refine tr_sub hC (.cons (t := 5) rfl (.cons (t := 7) rfl (.cons (t := 8) rfl (.cons (t := 9) rfl .nil)))) (.cons (t := 9) rfl (.cons (t := 5) rfl (.cons (t := 8) rfl .nil))) rfl ?_
     refine tr_seq ?_
     refine tr_seq ?_
     refine tr_region (fun N14 hN => ?_)
     refine lx (op_fieldAddr rfl fl29_3 sz27) rfl ?_
     refine lx (op_bload_one (m := 9) rfl rfl ag27 rfl) rfl ?_
     first | refine lx (op_len rfl el27) rfl ?_ | refine lx (op_len_row rfl el27) rfl ?_ | refine lx (op_len_mv rfl el27) rfl ?_ | refine lx (op_len_nil rfl el27) rfl ?_
     refine lx (op_move rfl) rfl ?_
     refine lx (op_neq rfl rfl) rfl ?_
     refine lx (op_move rfl) rfl ?_
     refine lxs rfl rfl rfl guard_eq (.cons (t := 9) rfl (fun _ => Ent.refl _) .nil) (op_fieldAddr rfl fl29_0 sz3) rfl ?_
     refine lxs rfl rfl rfl guard_eq (.cons (t := 111) rfl (fun h => entW h) .nil) (op_bload_one (m := 9) rfl rfl ag3 rfl) rfl ?_
     refine lxs rfl rfl rfl guard_eq (.cons (t := 112) rfl (fun h => entW h) .nil) (op_eql rfl rfl) rfl ?_
     refine lxs rfl rfl rfl guard_eq (.cons (t := 7) rfl (fun _ => Ent.refl _) .nil) (op_move rfl) rfl ?_
     refine lxs rfl rfl rfl guard_eq (.cons (t := 114) rfl (fun h => entW h) .nil) (op_eql rfl rfl) rfl ?_
     refine lxs rfl rfl rfl guard_eq (.cons (t := 113) rfl (fun h => entW h) (.cons (t := 115) rfl (fun h => entW h) .nil)) (op_neq_bool bo4 rfl rfl) rfl ?_
     refine lx (op_pick_or rfl rfl) rfl ?_
     refine lx_end ⟨by kernel_rfl, ?_⟩
     refine pe_then_normal ?_
     refine tr_sub hC (.cons (t := 5) rfl (.cons (t := 7) rfl (.cons (t := 8) rfl (.cons (t := 9) rfl (.cons (t := 117) rfl .nil))))) (.cons (t := 9) rfl (.cons (t := 5) rfl (.cons (t := 8) rfl .nil))) rfl ?_
     refine tr_cond rfl (fun h117 => ?_) (fun h117 => ?_)
     ·exact absurd (h117.symm.trans (rev_two (by have := hz.2.1; omega) hz.2.2.1)) (by decide)
     ·(try simp only [cq1, cq2, cq3, cq4, cq5, cq6, cq7, cq8, cq9, cq10, cq11, cq12, cq13] at h117)
      refine tr_skip ?_
      refine pe_then_normal ?_
      refine tr_sub hC (.cons (t := 5) rfl (.cons (t := 7) rfl (.cons (t := 8) rfl (.cons (t := 9) rfl .nil)))) (.cons (t := 9) rfl (.cons (t := 5) rfl (.cons (t := 8) rfl .nil))) rfl ?_
      refine tr_seq ?_
      refine tr_drawn mixed (fun N16 hN => ?_)
      refine lx (op_move rfl) rfl ?_
      refine lx (op_eql rfl rfl) rfl ?_
      refine lx (op_move rfl) rfl ?_
      refine lxs rfl rfl rfl guard_eq (.cons (t := 8) rfl (fun _ => Ent.refl _) .nil) (op_fieldAddr rfl fl60_3 sz3) rfl ?_
      refine lxs rfl rfl rfl guard_eq (.cons (t := 121) rfl (fun h => entW h) .nil) (op_bload_one (m := 8) rfl rfl ag3 rfl) rfl ?_
      refine lxs rfl rfl rfl guard_eq (.cons (t := 122) rfl (fun h => entW h) .nil) (op_lss rfl rfl) rfl ?_
      refine lx (op_pick_or rfl rfl) rfl ?_
      refine lx (op_move rfl) rfl ?_
      refine lxs rfl rfl rfl guard_eq (.cons (t := 9) rfl (fun _ => Ent.refl _) .nil) (op_bload (m := 9) rfl rfl ag29 sz29) rfl ?_
      refine lxs rfl rfl rfl guard_eq (.cons (t := 8) rfl (fun _ => Ent.refl _) .nil) (op_fieldAddr rfl fl60_3 sz3) rfl ?_
      refine lxs rfl rfl rfl guard_eq (.cons (t := 127) rfl (fun h => entW h) .nil) (op_bload_one (m := 8) rfl rfl ag3 rfl) rfl ?_
      first | refine lxs rfl rfl rfl guard_eq (.cons (t := 126) rfl (fun h => entW h) (.cons (t := 128) rfl (fun h => entW h) .nil)) (op_call (l := [(Go.Operand.tmp 126), (Go.Operand.tmp 128)]) (Reg_ok (revF p g f q v 0) hz.1 (by have := hz.2.1; omega) f.dest) (.cons rfl (.cons rfl .nil)) fn27) rfl ?_ | refine lxs rfl rfl rfl guard_eq (.cons (t := 126) rfl (fun h => entW h) (.cons (t := 128) rfl (fun h => entW h) .nil)) (op_call (l := [(Go.Operand.tmp 126), (Go.Operand.tmp 128)]) (Reg_ok (revF p g f q v 0) hz.1 (by have := hz.2.1; omega) f.dest) (.ent rfl (by exact ent_auto) (.ent rfl (by exact ent_auto) .nil)) fn27) rfl ?_
      refine lxs rfl rfl rfl guard_eq (.cons (t := 5) rfl (fun _ => Ent.refl _) .nil) (op_bload (m := 5) rfl rfl ag43 sz43) rfl ?_
      refine lxs rfl rfl rfl guard_eq (.cons (t := 129) rfl (fun h => entW h) (.cons (t := 130) rfl (fun h => entW h) .nil)) (op_eql_agg rfl rfl (eqV _ _)) rfl ?_
      refine lx (op_pick_or rfl rfl) rfl ?_
      refine lx (op_assign rfl) rfl ?_
      refine lx_end ⟨by kernel_rfl, ?_⟩
      refine pe_then_normal ?_
      refine tr_sub hC (.cons (t := 6) rfl .nil) .nil rfl ?_
      refine tr_ret ?_
      refine pe_ret1 rfl hO rfl (.tmp rfl .nil) ?_
      exact entB (rev_tri hz.2.2.2)
end Go.Proofs.Ythiknhmoefbanaa
