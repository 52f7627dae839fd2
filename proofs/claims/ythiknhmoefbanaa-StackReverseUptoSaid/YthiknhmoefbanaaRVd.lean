/- Parts of a proof that share one text: StWalk11, StWalk12, StWalk13. -/
import Derived.Test.YthiknhmoefbanaaRVb
import Derived.Test.YthiknhmoefbanaaRVc

set_option linter.unusedVariables false
set_option linter.unusedSimpArgs false
namespace Go.Proofs.Ythiknhmoefbanaa
open Go.AL Go.Ch Go.Hp Go.RowKit
theorem ag62 : aggB Try.prog 62 = some false := by kernel_rfl
theorem ag89 : aggB Try.prog 89 = some false := by kernel_rfl
theorem ag91 : aggB Try.prog 91 = some true := by kernel_rfl
theorem ag97 : aggB Try.prog 97 = some true := by kernel_rfl
theorem ag98 : aggB Try.prog 98 = some false := by kernel_rfl
theorem el89 : elemB Try.prog 89 = some 97 := by kernel_rfl
theorem el92 : elemB Try.prog 92 = some 91 := by kernel_rfl
theorem fl43_0 : fldB Try.prog 43 0 = some (0, 3) := by kernel_rfl
theorem fl43_1 : fldB Try.prog 43 1 = some (1, 3) := by kernel_rfl
theorem fl43_2 : fldB Try.prog 43 2 = some (2, 3) := by kernel_rfl
theorem fl91_0 : fldB Try.prog 91 0 = some (0, 3) := by kernel_rfl
theorem fl91_1 : fldB Try.prog 91 1 = some (1, 33) := by kernel_rfl
theorem fl91_2 : fldB Try.prog 91 2 = some (2, 4) := by kernel_rfl
theorem fl91_3 : fldB Try.prog 91 3 = some (3, 3) := by kernel_rfl
theorem fl91_4 : fldB Try.prog 91 4 = some (4, 33) := by kernel_rfl
theorem fl91_5 : fldB Try.prog 91 5 = some (5, 4) := by kernel_rfl
theorem fl91_6 : fldB Try.prog 91 6 = some (6, 3) := by kernel_rfl
theorem fl91_7 : fldB Try.prog 91 7 = some (7, 3) := by kernel_rfl
theorem fl91_8 : fldB Try.prog 91 8 = some (8, 89) := by kernel_rfl
theorem fl91_9 : fldB Try.prog 91 9 = some (9, 89) := by kernel_rfl
theorem fl97_0 : fldB Try.prog 97 0 = some (0, 3) := by kernel_rfl
theorem fl97_1 : fldB Try.prog 97 1 = some (1, 3) := by kernel_rfl
theorem fl97_2 : fldB Try.prog 97 2 = some (2, 43) := by kernel_rfl
theorem fn32 : fnB Try.prog 32 = true := by kernel_rfl
theorem fn50 : fnB Try.prog 50 = true := by kernel_rfl
theorem fn51 : fnB Try.prog 51 = true := by kernel_rfl
theorem fn52 : fnB Try.prog 52 = true := by kernel_rfl
theorem fn53 : fnB Try.prog 53 = true := by kernel_rfl
theorem fn54 : fnB Try.prog 54 = true := by kernel_rfl
theorem fn55 : fnB Try.prog 55 = true := by kernel_rfl
theorem fn56 : fnB Try.prog 56 = true := by kernel_rfl
theorem fn57 : fnB Try.prog 57 = true := by kernel_rfl
theorem fn58 : fnB Try.prog 58 = true := by kernel_rfl
theorem fn59 : fnB Try.prog 59 = true := by kernel_rfl
theorem fn60 : fnB Try.prog 60 = true := by kernel_rfl
theorem fn61 : fnB Try.prog 61 = true := by kernel_rfl
theorem fs91 : sizesB Try.prog 91 = true := by kernel_rfl
theorem sz89 : sizeB Try.prog 89 = some 1 := by kernel_rfl
theorem sz91 : sizeB Try.prog 91 = some 10 := by kernel_rfl
theorem sz97 : sizeB Try.prog 97 = some 5 := by kernel_rfl
theorem ze91 : zeroB Try.prog 91 = some (some (.agg #[.int .i64 0, .slice none 0 0, .bool false, .int .i64 0, .slice none 0 0, .bool false, .int .i64 0, .int .i64 0, .slice none 0 0, .slice none 0 0])) := by kernel_rfl
theorem rvval_ok (v : V) : FnP Try.prog 32 [aggP (vp v)] (eqP (.bool (vval v))) := by
 refine fn_pure' Try.func32 rfl Try.ntmps32 rfl ?_
 intro σ0 M ex Rf R hC hO
 simp only [frameOf, tokOf]
 refine tr_seq ?_
 refine tr_region (fun N0 hN => ?_)
 refine lxn (op_box (m := 1) (k := 1) rfl (.agg rfl) (by first | exact hC.low _ (by decide) | rfl)) rfl ?_
 refine lx (op_assign rfl) rfl ?_
 refine lx_end ⟨by kernel_rfl, ?_⟩
 refine pe_then_normal ?_
 refine tr_sub hC (.cons (t := 1) rfl .nil) (.cons (t := 1) rfl .nil) rfl ?_
 refine tr_seq ?_
 refine tr_seq ?_
 refine tr_region (fun N1 hN => ?_)
 refine lx (op_fieldAddr rfl fl43_0 sz3) rfl ?_
 refine lx (op_bload_one (m := 1) rfl rfl ag3 rfl) rfl ?_
 refine lx_end ⟨by kernel_rfl, ?_⟩
 refine pe_then_normal ?_
 refine tr_sub hC (.cons (t := 1) rfl (.cons (t := 4) rfl .nil)) (.cons (t := 1) rfl .nil) rfl ?_
 refine tr_block ?_
 refine tr_seq ?_
 refine tr_region (fun N2 hN => ?_)
 refine lx (op_eql rfl rfl) rfl ?_
 refine lx (op_assign rfl) rfl ?_
 refine lx_end ⟨by kernel_rfl, ?_⟩
 refine pe_then_normal ?_
 refine tr_sub hC (.cons (t := 1) rfl (.cons (t := 4) rfl (.cons (t := 5) rfl .nil))) (.cons (t := 1) rfl .nil) rfl ?_
 refine tr_cond rfl (fun h5 => ?_) (fun h5 => ?_)
 ·(try simp only [cq1, cq2, cq3, cq4, cq5, cq6, cq7, cq8, cq9, cq10, cq11, cq12, cq13] at h5)
  have h := vval_0 h5
  refine tr_seq ?_
  refine tr_region (fun N3 hN => ?_)
  refine lx (op_fieldAddr rfl fl43_2 sz3) rfl ?_
  refine lx (op_bload_one (m := 1) rfl rfl ag3 rfl) rfl ?_
  refine lx (op_eql rfl rfl) rfl ?_
  refine lx (op_assign rfl) rfl ?_
  refine lx_end ⟨by kernel_rfl, ?_⟩
  refine pe_then_normal ?_
  refine tr_sub hC (.cons (t := 2) rfl .nil) .nil rfl ?_
  refine tr_ret ?_
  refine pe_block_ret ?_
  refine pe_then_ret ?_
  refine pe_ret1 rfl hO rfl (.tmp rfl .nil) ?_
  exact entB h.symm
 ·(try simp only [cq1, cq2, cq3, cq4, cq5, cq6, cq7, cq8, cq9, cq10, cq11, cq12, cq13] at h5)
  refine tr_seq ?_
  refine tr_region (fun N4 hN => ?_)
  refine lx (op_eql rfl rfl) rfl ?_
  refine lx (op_assign rfl) rfl ?_
  refine lx_end ⟨by kernel_rfl, ?_⟩
  refine pe_then_normal ?_
  refine tr_sub hC (.cons (t := 1) rfl (.cons (t := 4) rfl (.cons (t := 10) rfl .nil))) (.cons (t := 1) rfl .nil) rfl ?_
  refine tr_cond rfl (fun h10 => ?_) (fun h10 => ?_)
  ·(try simp only [cq1, cq2, cq3, cq4, cq5, cq6, cq7, cq8, cq9, cq10, cq11, cq12, cq13] at h10)
   have h := vval_1 h5 h10
   refine tr_seq ?_
   refine tr_region (fun N5 hN => ?_)
   refine lx (op_fieldAddr rfl fl43_1 sz3) rfl ?_
   refine lx (op_bload_one (m := 1) rfl rfl ag3 rfl) rfl ?_
   refine lx (op_eql rfl rfl) rfl ?_
   refine lx (op_move rfl) rfl ?_
   refine lxs rfl rfl rfl guard_eq (.cons (t := 1) rfl (fun _ => Ent.refl _) .nil) (op_fieldAddr rfl fl43_2 sz3) rfl ?_
   refine lxs rfl rfl rfl guard_eq (.cons (t := 16) rfl (fun h => entW h) .nil) (op_bload_one (m := 1) rfl rfl ag3 rfl) rfl ?_
   refine lxs rfl rfl rfl guard_eq (.cons (t := 17) rfl (fun h => entW h) .nil) (op_eql rfl rfl) rfl ?_
   refine lx (op_pick_and rfl rfl) rfl ?_
   refine lx (op_assign rfl) rfl ?_
   refine lx_end ⟨by kernel_rfl, ?_⟩
   refine pe_then_normal ?_
   refine tr_sub hC (.cons (t := 2) rfl .nil) .nil rfl ?_
   refine tr_ret ?_
   refine pe_block_ret ?_
   refine pe_then_ret ?_
   refine pe_ret1 rfl hO rfl (.tmp rfl .nil) ?_
   exact entB h.symm
  ·(try simp only [cq1, cq2, cq3, cq4, cq5, cq6, cq7, cq8, cq9, cq10, cq11, cq12, cq13] at h10)
   refine tr_seq ?_
   refine tr_region (fun N6 hN => ?_)
   refine lx (op_eql rfl rfl) rfl ?_
   refine lx (op_assign rfl) rfl ?_
   refine lx_end ⟨by kernel_rfl, ?_⟩
   refine pe_then_normal ?_
   refine tr_sub hC (.cons (t := 1) rfl (.cons (t := 20) rfl .nil)) (.cons (t := 1) rfl .nil) rfl ?_
   refine tr_cond rfl (fun h20 => ?_) (fun h20 => ?_)
   ·(try simp only [cq1, cq2, cq3, cq4, cq5, cq6, cq7, cq8, cq9, cq10, cq11, cq12, cq13] at h20)
    have h := vval_2 h5 h10 h20
    refine tr_seq ?_
    refine tr_region (fun N7 hN => ?_)
    refine lx (op_fieldAddr rfl fl43_1 sz3) rfl ?_
    refine lx (op_bload_one (m := 1) rfl rfl ag3 rfl) rfl ?_
    refine lx (op_geq rfl rfl) rfl ?_
    refine lx (op_move rfl) rfl ?_
    refine lxs rfl rfl rfl guard_eq (.cons (t := 1) rfl (fun _ => Ent.refl _) .nil) (op_fieldAddr rfl fl43_2 sz3) rfl ?_
    refine lxs rfl rfl rfl guard_eq (.cons (t := 26) rfl (fun h => entW h) .nil) (op_bload_one (m := 1) rfl rfl ag3 rfl) rfl ?_
    refine lxs rfl rfl rfl guard_eq (.cons (t := 27) rfl (fun h => entW h) .nil) (op_geq rfl rfl) rfl ?_
    refine lx (op_pick_and rfl rfl) rfl ?_
    refine lx (op_move rfl) rfl ?_
    refine lxs rfl rfl rfl guard_eq (.cons (t := 1) rfl (fun _ => Ent.refl _) .nil) (op_fieldAddr rfl fl43_2 sz3) rfl ?_
    refine lxs rfl rfl rfl guard_eq (.cons (t := 31) rfl (fun h => entW h) .nil) (op_bload_one (m := 1) rfl rfl ag3 rfl) rfl ?_
    refine lxs rfl rfl rfl guard_eq (.cons (t := 32) rfl (fun h => entW h) .nil) (op_leq rfl rfl) rfl ?_
    refine lx (op_pick_and rfl rfl) rfl ?_
    refine lx (op_assign rfl) rfl ?_
    refine lx_end ⟨by kernel_rfl, ?_⟩
    refine pe_then_normal ?_
    refine tr_sub hC (.cons (t := 2) rfl .nil) .nil rfl ?_
    refine tr_ret ?_
    refine pe_block_ret ?_
    refine pe_then_ret ?_
    refine pe_ret1 rfl hO rfl (.tmp rfl .nil) ?_
    exact entB h.symm
   ·(try simp only [cq1, cq2, cq3, cq4, cq5, cq6, cq7, cq8, cq9, cq10, cq11, cq12, cq13] at h20)
    have h := vval_3 h5 h10 h20
    refine tr_skip ?_
    refine pe_block_normal ?_
    refine pe_then_normal ?_
    refine tr_sub hC .nil .nil rfl ?_
    refine tr_seq ?_
    refine tr_region (fun N8 hN => ?_)
    refine lx (op_assign rfl) rfl ?_
    refine lx_end ⟨by kernel_rfl, ?_⟩
    refine pe_then_normal ?_
    refine tr_sub hC (.cons (t := 2) rfl .nil) .nil rfl ?_
    refine tr_ret ?_
    refine pe_ret1 rfl hO rfl (.tmp rfl .nil) ?_
    exact entB h.symm
theorem vval_ok (v : V) : FnP Try.prog 53 [aggP (vp v)] (eqP (.bool (vval v))) := by
 refine fn_pure' Try.func53 rfl Try.ntmps53 rfl ?_
 intro σ0 M ex Rf R hC hO
 simp only [frameOf, tokOf]
 refine tr_seq ?_
 refine tr_region (fun N0 hN => ?_)
 refine lxn (op_box (m := 1) (k := 1) rfl (.agg rfl) (by first | exact hC.low _ (by decide) | rfl)) rfl ?_
 refine lx (op_assign rfl) rfl ?_
 refine lx_end ⟨by kernel_rfl, ?_⟩
 refine pe_then_normal ?_
 refine tr_sub hC (.cons (t := 1) rfl .nil) (.cons (t := 1) rfl .nil) rfl ?_
 refine tr_seq ?_
 refine tr_seq ?_
 refine tr_region (fun N1 hN => ?_)
 refine lx (op_fieldAddr rfl fl43_0 sz3) rfl ?_
 refine lx (op_bload_one (m := 1) rfl rfl ag3 rfl) rfl ?_
 refine lx_end ⟨by kernel_rfl, ?_⟩
 refine pe_then_normal ?_
 refine tr_sub hC (.cons (t := 1) rfl (.cons (t := 4) rfl .nil)) (.cons (t := 1) rfl .nil) rfl ?_
 refine tr_block ?_
 refine tr_seq ?_
 refine tr_region (fun N2 hN => ?_)
 refine lx (op_eql rfl rfl) rfl ?_
 refine lx (op_assign rfl) rfl ?_
 refine lx_end ⟨by kernel_rfl, ?_⟩
 refine pe_then_normal ?_
 refine tr_sub hC (.cons (t := 1) rfl (.cons (t := 4) rfl (.cons (t := 5) rfl .nil))) (.cons (t := 1) rfl .nil) rfl ?_
 refine tr_cond rfl (fun h5 => ?_) (fun h5 => ?_)
 ·(try simp only [cq1, cq2, cq3, cq4, cq5, cq6, cq7, cq8, cq9, cq10, cq11, cq12, cq13] at h5)
  have h := vval_0 h5
  refine tr_seq ?_
  refine tr_region (fun N3 hN => ?_)
  refine lx (op_fieldAddr rfl fl43_2 sz3) rfl ?_
  refine lx (op_bload_one (m := 1) rfl rfl ag3 rfl) rfl ?_
  refine lx (op_eql rfl rfl) rfl ?_
  refine lx (op_assign rfl) rfl ?_
  refine lx_end ⟨by kernel_rfl, ?_⟩
  refine pe_then_normal ?_
  refine tr_sub hC (.cons (t := 2) rfl .nil) .nil rfl ?_
  refine tr_ret ?_
  refine pe_block_ret ?_
  refine pe_then_ret ?_
  refine pe_ret1 rfl hO rfl (.tmp rfl .nil) ?_
  exact entB h.symm
 ·(try simp only [cq1, cq2, cq3, cq4, cq5, cq6, cq7, cq8, cq9, cq10, cq11, cq12, cq13] at h5)
  refine tr_seq ?_
  refine tr_region (fun N4 hN => ?_)
  refine lx (op_eql rfl rfl) rfl ?_
  refine lx (op_assign rfl) rfl ?_
  refine lx_end ⟨by kernel_rfl, ?_⟩
  refine pe_then_normal ?_
  refine tr_sub hC (.cons (t := 1) rfl (.cons (t := 4) rfl (.cons (t := 10) rfl .nil))) (.cons (t := 1) rfl .nil) rfl ?_
  refine tr_cond rfl (fun h10 => ?_) (fun h10 => ?_)
  ·(try simp only [cq1, cq2, cq3, cq4, cq5, cq6, cq7, cq8, cq9, cq10, cq11, cq12, cq13] at h10)
   have h := vval_1 h5 h10
   refine tr_seq ?_
   refine tr_region (fun N5 hN => ?_)
   refine lx (op_fieldAddr rfl fl43_1 sz3) rfl ?_
   refine lx (op_bload_one (m := 1) rfl rfl ag3 rfl) rfl ?_
   refine lx (op_eql rfl rfl) rfl ?_
   refine lx (op_move rfl) rfl ?_
   refine lxs rfl rfl rfl guard_eq (.cons (t := 1) rfl (fun _ => Ent.refl _) .nil) (op_fieldAddr rfl fl43_2 sz3) rfl ?_
   refine lxs rfl rfl rfl guard_eq (.cons (t := 16) rfl (fun h => entW h) .nil) (op_bload_one (m := 1) rfl rfl ag3 rfl) rfl ?_
   refine lxs rfl rfl rfl guard_eq (.cons (t := 17) rfl (fun h => entW h) .nil) (op_eql rfl rfl) rfl ?_
   refine lx (op_pick_and rfl rfl) rfl ?_
   refine lx (op_assign rfl) rfl ?_
   refine lx_end ⟨by kernel_rfl, ?_⟩
   refine pe_then_normal ?_
   refine tr_sub hC (.cons (t := 2) rfl .nil) .nil rfl ?_
   refine tr_ret ?_
   refine pe_block_ret ?_
   refine pe_then_ret ?_
   refine pe_ret1 rfl hO rfl (.tmp rfl .nil) ?_
   exact entB h.symm
  ·(try simp only [cq1, cq2, cq3, cq4, cq5, cq6, cq7, cq8, cq9, cq10, cq11, cq12, cq13] at h10)
   refine tr_seq ?_
   refine tr_region (fun N6 hN => ?_)
   refine lx (op_eql rfl rfl) rfl ?_
   refine lx (op_assign rfl) rfl ?_
   refine lx_end ⟨by kernel_rfl, ?_⟩
   refine pe_then_normal ?_
   refine tr_sub hC (.cons (t := 1) rfl (.cons (t := 20) rfl .nil)) (.cons (t := 1) rfl .nil) rfl ?_
   refine tr_cond rfl (fun h20 => ?_) (fun h20 => ?_)
   ·(try simp only [cq1, cq2, cq3, cq4, cq5, cq6, cq7, cq8, cq9, cq10, cq11, cq12, cq13] at h20)
    have h := vval_2 h5 h10 h20
    refine tr_seq ?_
    refine tr_region (fun N7 hN => ?_)
    refine lx (op_fieldAddr rfl fl43_1 sz3) rfl ?_
    refine lx (op_bload_one (m := 1) rfl rfl ag3 rfl) rfl ?_
    refine lx (op_geq rfl rfl) rfl ?_
    refine lx (op_move rfl) rfl ?_
    refine lxs rfl rfl rfl guard_eq (.cons (t := 1) rfl (fun _ => Ent.refl _) .nil) (op_fieldAddr rfl fl43_2 sz3) rfl ?_
    refine lxs rfl rfl rfl guard_eq (.cons (t := 26) rfl (fun h => entW h) .nil) (op_bload_one (m := 1) rfl rfl ag3 rfl) rfl ?_
    refine lxs rfl rfl rfl guard_eq (.cons (t := 27) rfl (fun h => entW h) .nil) (op_geq rfl rfl) rfl ?_
    refine lx (op_pick_and rfl rfl) rfl ?_
    refine lx (op_move rfl) rfl ?_
    refine lxs rfl rfl rfl guard_eq (.cons (t := 1) rfl (fun _ => Ent.refl _) .nil) (op_fieldAddr rfl fl43_2 sz3) rfl ?_
    refine lxs rfl rfl rfl guard_eq (.cons (t := 31) rfl (fun h => entW h) .nil) (op_bload_one (m := 1) rfl rfl ag3 rfl) rfl ?_
    refine lxs rfl rfl rfl guard_eq (.cons (t := 32) rfl (fun h => entW h) .nil) (op_leq rfl rfl) rfl ?_
    refine lx (op_pick_and rfl rfl) rfl ?_
    refine lx (op_assign rfl) rfl ?_
    refine lx_end ⟨by kernel_rfl, ?_⟩
    refine pe_then_normal ?_
    refine tr_sub hC (.cons (t := 2) rfl .nil) .nil rfl ?_
    refine tr_ret ?_
    refine pe_block_ret ?_
    refine pe_then_ret ?_
    refine pe_ret1 rfl hO rfl (.tmp rfl .nil) ?_
    exact entB h.symm
   ·(try simp only [cq1, cq2, cq3, cq4, cq5, cq6, cq7, cq8, cq9, cq10, cq11, cq12, cq13] at h20)
    have h := vval_3 h5 h10 h20
    refine tr_skip ?_
    refine pe_block_normal ?_
    refine pe_then_normal ?_
    refine tr_sub hC .nil .nil rfl ?_
    refine tr_seq ?_
    refine tr_region (fun N8 hN => ?_)
    refine lx (op_assign rfl) rfl ?_
    refine lx_end ⟨by kernel_rfl, ?_⟩
    refine pe_then_normal ?_
    refine tr_sub hC (.cons (t := 2) rfl .nil) .nil rfl ?_
    refine tr_ret ?_
    refine pe_ret1 rfl hO rfl (.tmp rfl .nil) ?_
    exact entB h.symm
theorem rvvals_ok (xs : List V) (hx : xs.length ≤ 9223372036854775807) : FnP Try.prog 33 [slP vp 3 xs] (eqP (.bool (xs.all vval))) := by
 refine fn_pure' Try.func33 rfl Try.ntmps33 rfl ?_
 intro σ0 M ex Rf R hC hO
 simp only [frameOf, tokOf]
 refine tr_seq ?_
 refine tr_region (fun N0 hN => ?_)
 refine lx (op_assign rfl) rfl ?_
 refine lx_end ⟨by kernel_rfl, ?_⟩
 refine pe_then_normal ?_
 refine tr_sub hC (.cons (t := 0) rfl .nil) .nil rfl ?_
 refine tr_seq ?_
 refine tr_seq ?_
 refine tr_region (fun N1 hN => ?_)
 refine lx (op_assign rfl) rfl ?_
 refine lx_end ⟨by kernel_rfl, ?_⟩
 refine pe_then_normal ?_
 refine tr_sub hC (.cons (t := 0) rfl (.cons (t := 3) rfl .nil)) .nil rfl ?_
 refine tr_block ?_
 refine tr_loopK (α := {zz : Nat // zz ≤ xs.length ∧ (xs.take zz).all vval = true}) (⟨(0), Nat.zero_le _, by simp⟩) (fun zz => [(3, eqP (.int .i64 (zz.1 : Int)))]) (fun zz => []) (fun zz => xs.length - zz.1) hC (.cons (t := 0) rfl .nil) .nil rfl ?_ ?_ (fun zz => ?_)
 ·try dsimp only [List.cons_append, List.nil_append]
  first | refine SubF.cons rfl ?_ | (refine SubF.ent rfl ?_ ?_; · exact ent_auto)
  exact SubF.nil
 ·try dsimp only [List.cons_append, List.nil_append]
  repeat (first | exact SubL.nil | refine SubL.cons rfl ?_)
 ·obtain ⟨k, hk1, hk2⟩ := zz
  dsimp only [List.cons_append, List.nil_append]
  refine tr_seq ?_
  refine tr_seq ?_
  refine tr_region (fun N2 hN => ?_)
  refine lx (op_move rfl) rfl ?_
  refine lx (op_move rfl) rfl ?_
  first | refine lx (op_len rfl el33) rfl ?_ | refine lx (op_len_row rfl el33) rfl ?_ | refine lx (op_len_mv rfl el33) rfl ?_ | refine lx (op_len_nil rfl el33) rfl ?_
  refine lx (op_lss rfl rfl) rfl ?_
  refine lx_end ⟨by kernel_rfl, ?_⟩
  refine pe_then_normal ?_
  refine tr_sub hC (.cons (t := 0) rfl (.cons (t := 3) rfl (.cons (t := 7) rfl .nil))) .nil rfl ?_
  refine tr_cond rfl (fun h7 => ?_) (fun h7 => ?_)
  ·(try simp only [cq1, cq2, cq3, cq4, cq5, cq6, cq7, cq8, cq9, cq10, cq11, cq12, cq13] at h7)
   refine tr_skip ?_
   refine pe_then_normal ?_
   refine tr_sub hC (.cons (t := 0) rfl (.cons (t := 3) rfl .nil)) .nil rfl ?_
   refine tr_seq ?_
   refine tr_block ?_
   refine tr_seq ?_
   refine tr_region (fun N4 hN => ?_)
   refine lx (op_move rfl) rfl ?_
   refine lx (op_move rfl) rfl ?_
   refine lx (op_index rfl rfl el33 sz43 rfl (List.getElem?_eq_getElem (by omega : k < xs.length))) rfl ?_
   first | refine lx (op_load_all rfl ag43 sz43) rfl ?_ | refine lx (op_load_agg rfl ag43 sz43 rfl) rfl ?_
   first | refine lx (op_call (l := [(Go.Operand.tmp 13)]) (rvval_ok xs[k]) (.cons rfl .nil) fn32) rfl ?_ | refine lx (op_call (l := [(Go.Operand.tmp 13)]) (rvval_ok xs[k]) (.ent rfl (by exact ent_auto) .nil) fn32) rfl ?_
   first | refine lx (op_not rfl) rfl ?_ | refine lx (op_not_b rfl) rfl ?_
   refine lx_end ⟨by kernel_rfl, ?_⟩
   refine pe_then_normal ?_
   refine tr_sub hC (.cons (t := 0) rfl (.cons (t := 3) rfl (.cons (t := 15) rfl .nil))) .nil rfl ?_
   refine tr_cond rfl (fun h15 => ?_) (fun h15 => ?_)
   ·(try simp only [cq1, cq2, cq3, cq4, cq5, cq6, cq7, cq8, cq9, cq10, cq11, cq12, cq13] at h15)
    have hbad := all_bad (φ := vval) (by omega : k < xs.length) h15
    refine tr_seq ?_
    refine tr_region (fun N5 hN => ?_)
    refine lx (op_assign rfl) rfl ?_
    refine lx_end ⟨by kernel_rfl, ?_⟩
    refine pe_then_normal ?_
    refine tr_sub hC (.cons (t := 2) rfl .nil) .nil rfl ?_
    refine tr_ret ?_
    refine pe_block_ret ?_
    refine pe_then_ret ?_
    refine pe_then_ret ?_
    refine pe_block_ret ?_
    refine pe_then_ret ?_
    refine pe_ret1 rfl hO rfl (.tmp rfl .nil) ?_
    exact entB hbad.symm
   ·(try simp only [cq1, cq2, cq3, cq4, cq5, cq6, cq7, cq8, cq9, cq10, cq11, cq12, cq13] at h15)
    refine tr_skip ?_
    refine pe_block_normal ?_
    refine pe_then_normal ?_
    refine tr_sub hC (.cons (t := 0) rfl (.cons (t := 3) rfl .nil)) .nil rfl ?_
    refine tr_region (fun N3 hN => ?_)
    refine lx (op_move rfl) rfl ?_
    refine lx (op_add rfl rfl (by omega)) rfl ?_
    refine lx (op_assign rfl) rfl ?_
    refine lx_end ⟨by kernel_rfl, ?_⟩
    refine pe_round (⟨(k + 1), by omega, all_step (φ := vval) hk2 (by omega) h15⟩) (by dsimp only; omega) (pe_st hC ?_ ?_ rfl)
    ·try dsimp only [List.cons_append, List.nil_append]
     first | refine SubF.cons rfl ?_ | (refine SubF.ent rfl ?_ ?_; · exact ent_auto)
     first | refine SubF.cons rfl ?_ | (refine SubF.ent rfl ?_ ?_; · exact ent_auto)
     exact SubF.nil
    ·try dsimp only [List.cons_append, List.nil_append]
     repeat (first | exact SubL.nil | refine SubL.cons rfl ?_)
  ·(try simp only [cq1, cq2, cq3, cq4, cq5, cq6, cq7, cq8, cq9, cq10, cq11, cq12, cq13] at h7)
   have hfin := all_end hk2 (by omega)
   refine tr_exit ?_
   refine pe_then_exit ?_
   refine pe_then_exit ?_
   refine pe_block_eq ?_
   refine pe_then_normal ?_
   refine tr_sub hC .nil .nil rfl ?_
   refine tr_seq ?_
   refine tr_region (fun N6 hN => ?_)
   refine lx (op_assign rfl) rfl ?_
   refine lx_end ⟨by kernel_rfl, ?_⟩
   refine pe_then_normal ?_
   refine tr_sub hC (.cons (t := 2) rfl .nil) .nil rfl ?_
   refine tr_ret ?_
   refine pe_ret1 rfl hO rfl (.tmp rfl .nil) ?_
   exact entB hfin.symm
theorem wval_ok (w : Wt) : FnP Try.prog 55 [aggP (wp w)] (eqP (.bool (wval w))) := by
 refine fn_pure' Try.func55 rfl Try.ntmps55 rfl ?_
 intro σ0 M ex Rf R hC hO
 simp only [frameOf, tokOf]
 refine tr_seq ?_
 refine tr_region (fun N0 hN => ?_)
 refine lxn (op_box (m := 1) (k := 1) rfl (.agg rfl) (by first | exact hC.low _ (by decide) | rfl)) rfl ?_
 refine lx (op_assign rfl) rfl ?_
 refine lx_end ⟨by kernel_rfl, ?_⟩
 refine pe_then_normal ?_
 refine tr_sub hC (.cons (t := 1) rfl .nil) (.cons (t := 1) rfl .nil) rfl ?_
 refine tr_seq ?_
 refine tr_region (fun N1 hN => ?_)
 refine lx (op_fieldAddr rfl fl97_0 sz3) rfl ?_
 refine lx (op_bload_one (m := 1) rfl rfl ag3 rfl) rfl ?_
 refine lx (op_geq rfl rfl) rfl ?_
 refine lx (op_move rfl) rfl ?_
 refine lxs rfl rfl rfl guard_eq (.cons (t := 1) rfl (fun _ => Ent.refl _) .nil) (op_fieldAddr rfl fl97_0 sz3) rfl ?_
 refine lxs rfl rfl rfl guard_eq (.cons (t := 7) rfl (fun h => entW h) .nil) (op_bload_one (m := 1) rfl rfl ag3 rfl) rfl ?_
 refine lxs rfl rfl rfl guard_eq (.cons (t := 8) rfl (fun h => entW h) .nil) (op_lss rfl rfl) rfl ?_
 refine lx (op_pick_and rfl rfl) rfl ?_
 refine lx (op_move rfl) rfl ?_
 refine lxs rfl rfl rfl guard_eq (.cons (t := 1) rfl (fun _ => Ent.refl _) .nil) (op_fieldAddr rfl fl97_1 sz3) rfl ?_
 refine lxs rfl rfl rfl guard_eq (.cons (t := 12) rfl (fun h => entW h) .nil) (op_bload_one (m := 1) rfl rfl ag3 rfl) rfl ?_
 refine lxs rfl rfl rfl guard_eq (.cons (t := 13) rfl (fun h => entW h) .nil) (op_geq rfl rfl) rfl ?_
 refine lx (op_pick_and rfl rfl) rfl ?_
 refine lx (op_move rfl) rfl ?_
 refine lxs rfl rfl rfl guard_eq (.cons (t := 1) rfl (fun _ => Ent.refl _) .nil) (op_fieldAddr rfl fl97_1 sz3) rfl ?_
 refine lxs rfl rfl rfl guard_eq (.cons (t := 17) rfl (fun h => entW h) .nil) (op_bload_one (m := 1) rfl rfl ag3 rfl) rfl ?_
 refine lxs rfl rfl rfl guard_eq (.cons (t := 18) rfl (fun h => entW h) .nil) (op_leq rfl rfl) rfl ?_
 refine lx (op_pick_and rfl rfl) rfl ?_
 refine lx (op_move rfl) rfl ?_
 refine lxs rfl rfl rfl guard_eq (.cons (t := 1) rfl (fun _ => Ent.refl _) .nil) (op_fieldAddr rfl fl97_2 sz43) rfl ?_
 refine lxs rfl rfl rfl guard_eq (.cons (t := 22) rfl (fun h => entW h) .nil) (op_bload_part (m := 1) (qs := [_, _, _]) rfl rfl ag43 sz43 rfl rfl) rfl ?_
 first | refine lxs rfl rfl rfl guard_eq (.cons (t := 23) rfl (fun h => entW h) .nil) (op_call (l := [(Go.Operand.tmp 23)]) (vval_ok w.v) (.cons rfl .nil) fn53) rfl ?_ | refine lxs rfl rfl rfl guard_eq (.cons (t := 23) rfl (fun h => entW h) .nil) (op_call (l := [(Go.Operand.tmp 23)]) (vval_ok w.v) (.ent rfl (by exact ent_auto) .nil) fn53) rfl ?_
 refine lx (op_pick_and rfl rfl) rfl ?_
 refine lx (op_assign rfl) rfl ?_
 refine lx_end ⟨by kernel_rfl, ?_⟩
 refine pe_then_normal ?_
 refine tr_sub hC (.cons (t := 2) rfl .nil) .nil rfl ?_
 refine tr_ret ?_
 refine pe_ret1 rfl hO rfl (.tmp rfl .nil) ?_
 exact ent_auto
theorem idxV_ok (q : FuncId) (caps : List Pred) (φ : V → Bool) (hq : ∀ w, FnP Try.prog q ([] ++ [aggP (vp w)] ++ caps) (eqP (.bool (φ w)))) (hf : fnB Try.prog q = true) (xs : List V) (hx : xs.length ≤ 9223372036854775807) : FnP Try.prog 60 [slP vp 3 xs, clP q [] caps] (eqP (.int .i64 (idxF φ xs))) := by
 refine fn_pure' Try.func60 rfl Try.ntmps60 rfl ?_
 intro σ0 M ex Rf R hC hO
 simp only [frameOf, tokOf]
 refine tr_seq ?_
 refine tr_region (fun N0 hN => ?_)
 refine lx (op_assign rfl) rfl ?_
 refine lx_end ⟨by kernel_rfl, ?_⟩
 refine pe_then_normal ?_
 refine tr_sub hC (.cons (t := 0) rfl (.cons (t := 1) rfl .nil)) .nil rfl ?_
 refine tr_seq ?_
 refine tr_seq ?_
 refine tr_region (fun N1 hN => ?_)
 refine lx (op_move rfl) rfl ?_
 first | refine lx (op_len rfl el33) rfl ?_ | refine lx (op_len_row rfl el33) rfl ?_ | refine lx (op_len_mv rfl el33) rfl ?_ | refine lx (op_len_nil rfl el33) rfl ?_
 refine lx (op_move rfl) rfl ?_
 refine lx_end ⟨by kernel_rfl, ?_⟩
 refine pe_then_normal ?_
 refine tr_sub hC (.cons (t := 0) rfl (.cons (t := 1) rfl (.cons (t := 7) rfl (.cons (t := 8) rfl .nil)))) .nil rfl ?_
 refine tr_block ?_
 refine tr_loopK (α := {zz : Nat // zz ≤ xs.length ∧ ∀ x ∈ xs.take zz, φ x = false}) (⟨(0), Nat.zero_le _, by simp⟩) (fun zz => [(8, eqP (.int .i64 (zz.1 : Int)))]) (fun zz => []) (fun zz => xs.length - zz.1) hC (.cons (t := 0) rfl (.cons (t := 1) rfl (.cons (t := 7) rfl .nil))) .nil rfl ?_ ?_ (fun zz => ?_)
 ·try dsimp only [List.cons_append, List.nil_append]
  first | refine SubF.cons rfl ?_ | (refine SubF.ent rfl ?_ ?_; · exact ent_auto)
  exact SubF.nil
 ·try dsimp only [List.cons_append, List.nil_append]
  repeat (first | exact SubL.nil | refine SubL.cons rfl ?_)
 ·obtain ⟨k, hk1, hk2⟩ := zz
  dsimp only [List.cons_append, List.nil_append]
  refine tr_seq ?_
  refine tr_region (fun N2 hN => ?_)
  refine lx (op_lss rfl rfl) rfl ?_
  refine lx_end ⟨by kernel_rfl, ?_⟩
  refine pe_then_normal ?_
  refine tr_sub hC (.cons (t := 0) rfl (.cons (t := 1) rfl (.cons (t := 7) rfl (.cons (t := 8) rfl (.cons (t := 9) rfl .nil))))) .nil rfl ?_
  refine tr_seq ?_
  refine tr_cond rfl (fun h9 => ?_) (fun h9 => ?_)
  ·(try simp only [cq1, cq2, cq3, cq4, cq5, cq6, cq7, cq8, cq9, cq10, cq11, cq12, cq13] at h9)
   refine tr_skip ?_
   refine pe_then_normal ?_
   refine tr_sub hC (.cons (t := 0) rfl (.cons (t := 1) rfl (.cons (t := 7) rfl (.cons (t := 8) rfl .nil)))) .nil rfl ?_
   refine tr_seq ?_
   refine tr_block ?_
   refine tr_seq ?_
   refine tr_region (fun N3 hN => ?_)
   refine lx (op_move rfl) rfl ?_
   refine lx (op_assign rfl) rfl ?_
   refine lx_end ⟨by kernel_rfl, ?_⟩
   refine pe_then_normal ?_
   refine tr_sub hC (.cons (t := 0) rfl (.cons (t := 1) rfl (.cons (t := 5) rfl (.cons (t := 7) rfl (.cons (t := 8) rfl .nil))))) .nil rfl ?_
   refine tr_seq ?_
   refine tr_region (fun N4 hN => ?_)
   refine lx (op_move rfl) rfl ?_
   refine lx (op_move rfl) rfl ?_
   refine lx (op_move rfl) rfl ?_
   refine lx (op_index rfl rfl el33 sz43 rfl (List.getElem?_eq_getElem (by omega : k < xs.length))) rfl ?_
   first | refine lx (op_load_all rfl ag43 sz43) rfl ?_ | refine lx (op_load_agg rfl ag43 sz43 rfl) rfl ?_
   first | refine lx (op_callV (l := [(Go.Operand.tmp 15)]) rfl (hq _) (.cons rfl .nil) hf) rfl ?_ | refine lx (op_callV (l := [(Go.Operand.tmp 15)]) rfl (hq _) (.ent rfl (by exact ent_auto) .nil) hf) rfl ?_
   refine lx_end ⟨by kernel_rfl, ?_⟩
   refine pe_then_normal ?_
   refine tr_sub hC (.cons (t := 0) rfl (.cons (t := 1) rfl (.cons (t := 5) rfl (.cons (t := 7) rfl (.cons (t := 8) rfl (.cons (t := 16) rfl .nil)))))) .nil rfl ?_
   refine tr_cond rfl (fun h16 => ?_) (fun h16 => ?_)
   ·(try simp only [cq1, cq2, cq3, cq4, cq5, cq6, cq7, cq8, cq9, cq10, cq11, cq12, cq13] at h16)
    refine tr_seq ?_
    refine tr_region (fun N5 hN => ?_)
    refine lx (op_move rfl) rfl ?_
    refine lx (op_assign rfl) rfl ?_
    refine lx_end ⟨by kernel_rfl, ?_⟩
    refine pe_then_normal ?_
    refine tr_sub hC (.cons (t := 4) rfl .nil) .nil rfl ?_
    refine tr_ret ?_
    refine pe_block_ret ?_
    refine pe_then_ret ?_
    refine pe_then_ret ?_
    refine pe_block_ret ?_
    refine pe_then_ret ?_
    refine pe_ret1 rfl hO rfl (.tmp rfl .nil) ?_
    exact entI (idxF_at (by omega) hk2 h16).symm
   ·(try simp only [cq1, cq2, cq3, cq4, cq5, cq6, cq7, cq8, cq9, cq10, cq11, cq12, cq13] at h16)
    refine tr_skip ?_
    refine pe_block_normal ?_
    refine pe_then_normal ?_
    refine tr_sub hC (.cons (t := 0) rfl (.cons (t := 1) rfl (.cons (t := 7) rfl (.cons (t := 8) rfl .nil)))) .nil rfl ?_
    refine tr_region (fun N6 hN => ?_)
    refine lx (op_add rfl rfl (by omega)) rfl ?_
    refine lx (op_move rfl) rfl ?_
    refine lx_end ⟨by kernel_rfl, ?_⟩
    refine pe_round (⟨(k + 1), by omega, take_all hk2 (by omega) h16⟩) (by dsimp only; omega) (pe_st hC ?_ ?_ rfl)
    ·try dsimp only [List.cons_append, List.nil_append]
     first | refine SubF.cons rfl ?_ | (refine SubF.ent rfl ?_ ?_; · exact ent_auto)
     first | refine SubF.cons rfl ?_ | (refine SubF.ent rfl ?_ ?_; · exact ent_auto)
     first | refine SubF.cons rfl ?_ | (refine SubF.ent rfl ?_ ?_; · exact ent_auto)
     first | refine SubF.cons rfl ?_ | (refine SubF.ent rfl ?_ ?_; · exact ent_auto)
     exact SubF.nil
    ·try dsimp only [List.cons_append, List.nil_append]
     repeat (first | exact SubL.nil | refine SubL.cons rfl ?_)
  ·(try simp only [cq1, cq2, cq3, cq4, cq5, cq6, cq7, cq8, cq9, cq10, cq11, cq12, cq13] at h9)
   have hk3 : k = xs.length := by omega
   refine tr_exit ?_
   refine pe_then_exit ?_
   refine pe_then_exit ?_
   refine pe_block_eq ?_
   refine pe_then_normal ?_
   refine tr_sub hC .nil .nil rfl ?_
   refine tr_seq ?_
   refine tr_region (fun N7 hN => ?_)
   refine lx (op_assign rfl) rfl ?_
   refine lx_end ⟨by kernel_rfl, ?_⟩
   refine pe_then_normal ?_
   refine tr_sub hC (.cons (t := 4) rfl .nil) .nil rfl ?_
   refine tr_ret ?_
   refine pe_ret1 rfl hO rfl (.tmp rfl .nil) ?_
   exact entI (idxF_none (by rwa [hk3, List.take_of_length_le (Nat.le_refl _)] at hk2)).symm
theorem idxW_ok (q : FuncId) (caps : List Pred) (φ : Wt → Bool) (hq : ∀ w, FnP Try.prog q ([] ++ [aggP (wp w)] ++ caps) (eqP (.bool (φ w)))) (hf : fnB Try.prog q = true) (xs : List Wt) (hx : xs.length ≤ 9223372036854775807) : FnP Try.prog 61 [slP wp 5 xs, clP q [] caps] (eqP (.int .i64 (idxF φ xs))) := by
 refine fn_pure' Try.func61 rfl Try.ntmps61 rfl ?_
 intro σ0 M ex Rf R hC hO
 simp only [frameOf, tokOf]
 refine tr_seq ?_
 refine tr_region (fun N0 hN => ?_)
 refine lx (op_assign rfl) rfl ?_
 refine lx_end ⟨by kernel_rfl, ?_⟩
 refine pe_then_normal ?_
 refine tr_sub hC (.cons (t := 0) rfl (.cons (t := 1) rfl .nil)) .nil rfl ?_
 refine tr_seq ?_
 refine tr_seq ?_
 refine tr_region (fun N1 hN => ?_)
 refine lx (op_move rfl) rfl ?_
 first | refine lx (op_len rfl el89) rfl ?_ | refine lx (op_len_row rfl el89) rfl ?_ | refine lx (op_len_mv rfl el89) rfl ?_ | refine lx (op_len_nil rfl el89) rfl ?_
 refine lx (op_move rfl) rfl ?_
 refine lx_end ⟨by kernel_rfl, ?_⟩
 refine pe_then_normal ?_
 refine tr_sub hC (.cons (t := 0) rfl (.cons (t := 1) rfl (.cons (t := 7) rfl (.cons (t := 8) rfl .nil)))) .nil rfl ?_
 refine tr_block ?_
 refine tr_loopK (α := {zz : Nat // zz ≤ xs.length ∧ ∀ x ∈ xs.take zz, φ x = false}) (⟨(0), Nat.zero_le _, by simp⟩) (fun zz => [(8, eqP (.int .i64 (zz.1 : Int)))]) (fun zz => []) (fun zz => xs.length - zz.1) hC (.cons (t := 0) rfl (.cons (t := 1) rfl (.cons (t := 7) rfl .nil))) .nil rfl ?_ ?_ (fun zz => ?_)
 ·try dsimp only [List.cons_append, List.nil_append]
  first | refine SubF.cons rfl ?_ | (refine SubF.ent rfl ?_ ?_; · exact ent_auto)
  exact SubF.nil
 ·try dsimp only [List.cons_append, List.nil_append]
  repeat (first | exact SubL.nil | refine SubL.cons rfl ?_)
 ·obtain ⟨k, hk1, hk2⟩ := zz
  dsimp only [List.cons_append, List.nil_append]
  refine tr_seq ?_
  refine tr_region (fun N2 hN => ?_)
  refine lx (op_lss rfl rfl) rfl ?_
  refine lx_end ⟨by kernel_rfl, ?_⟩
  refine pe_then_normal ?_
  refine tr_sub hC (.cons (t := 0) rfl (.cons (t := 1) rfl (.cons (t := 7) rfl (.cons (t := 8) rfl (.cons (t := 9) rfl .nil))))) .nil rfl ?_
  refine tr_seq ?_
  refine tr_cond rfl (fun h9 => ?_) (fun h9 => ?_)
  ·(try simp only [cq1, cq2, cq3, cq4, cq5, cq6, cq7, cq8, cq9, cq10, cq11, cq12, cq13] at h9)
   refine tr_skip ?_
   refine pe_then_normal ?_
   refine tr_sub hC (.cons (t := 0) rfl (.cons (t := 1) rfl (.cons (t := 7) rfl (.cons (t := 8) rfl .nil)))) .nil rfl ?_
   refine tr_seq ?_
   refine tr_block ?_
   refine tr_seq ?_
   refine tr_region (fun N3 hN => ?_)
   refine lx (op_move rfl) rfl ?_
   refine lx (op_assign rfl) rfl ?_
   refine lx_end ⟨by kernel_rfl, ?_⟩
   refine pe_then_normal ?_
   refine tr_sub hC (.cons (t := 0) rfl (.cons (t := 1) rfl (.cons (t := 5) rfl (.cons (t := 7) rfl (.cons (t := 8) rfl .nil))))) .nil rfl ?_
   refine tr_seq ?_
   refine tr_region (fun N4 hN => ?_)
   refine lx (op_move rfl) rfl ?_
   refine lx (op_move rfl) rfl ?_
   refine lx (op_move rfl) rfl ?_
   refine lx (op_index rfl rfl el89 sz97 rfl (List.getElem?_eq_getElem (by omega : k < xs.length))) rfl ?_
   first | refine lx (op_load_all rfl ag97 sz97) rfl ?_ | refine lx (op_load_agg rfl ag97 sz97 rfl) rfl ?_
   first | refine lx (op_callV (l := [(Go.Operand.tmp 15)]) rfl (hq _) (.cons rfl .nil) hf) rfl ?_ | refine lx (op_callV (l := [(Go.Operand.tmp 15)]) rfl (hq _) (.ent rfl (by exact ent_auto) .nil) hf) rfl ?_
   refine lx_end ⟨by kernel_rfl, ?_⟩
   refine pe_then_normal ?_
   refine tr_sub hC (.cons (t := 0) rfl (.cons (t := 1) rfl (.cons (t := 5) rfl (.cons (t := 7) rfl (.cons (t := 8) rfl (.cons (t := 16) rfl .nil)))))) .nil rfl ?_
   refine tr_cond rfl (fun h16 => ?_) (fun h16 => ?_)
   ·(try simp only [cq1, cq2, cq3, cq4, cq5, cq6, cq7, cq8, cq9, cq10, cq11, cq12, cq13] at h16)
    refine tr_seq ?_
    refine tr_region (fun N5 hN => ?_)
    refine lx (op_move rfl) rfl ?_
    refine lx (op_assign rfl) rfl ?_
    refine lx_end ⟨by kernel_rfl, ?_⟩
    refine pe_then_normal ?_
    refine tr_sub hC (.cons (t := 4) rfl .nil) .nil rfl ?_
    refine tr_ret ?_
    refine pe_block_ret ?_
    refine pe_then_ret ?_
    refine pe_then_ret ?_
    refine pe_block_ret ?_
    refine pe_then_ret ?_
    refine pe_ret1 rfl hO rfl (.tmp rfl .nil) ?_
    exact entI (idxF_at (by omega) hk2 h16).symm
   ·(try simp only [cq1, cq2, cq3, cq4, cq5, cq6, cq7, cq8, cq9, cq10, cq11, cq12, cq13] at h16)
    refine tr_skip ?_
    refine pe_block_normal ?_
    refine pe_then_normal ?_
    refine tr_sub hC (.cons (t := 0) rfl (.cons (t := 1) rfl (.cons (t := 7) rfl (.cons (t := 8) rfl .nil)))) .nil rfl ?_
    refine tr_region (fun N6 hN => ?_)
    refine lx (op_add rfl rfl (by omega)) rfl ?_
    refine lx (op_move rfl) rfl ?_
    refine lx_end ⟨by kernel_rfl, ?_⟩
    refine pe_round (⟨(k + 1), by omega, take_all hk2 (by omega) h16⟩) (by dsimp only; omega) (pe_st hC ?_ ?_ rfl)
    ·try dsimp only [List.cons_append, List.nil_append]
     first | refine SubF.cons rfl ?_ | (refine SubF.ent rfl ?_ ?_; · exact ent_auto)
     first | refine SubF.cons rfl ?_ | (refine SubF.ent rfl ?_ ?_; · exact ent_auto)
     first | refine SubF.cons rfl ?_ | (refine SubF.ent rfl ?_ ?_; · exact ent_auto)
     first | refine SubF.cons rfl ?_ | (refine SubF.ent rfl ?_ ?_; · exact ent_auto)
     exact SubF.nil
    ·try dsimp only [List.cons_append, List.nil_append]
     repeat (first | exact SubL.nil | refine SubL.cons rfl ?_)
  ·(try simp only [cq1, cq2, cq3, cq4, cq5, cq6, cq7, cq8, cq9, cq10, cq11, cq12, cq13] at h9)
   have hk3 : k = xs.length := by omega
   refine tr_exit ?_
   refine pe_then_exit ?_
   refine pe_then_exit ?_
   refine pe_block_eq ?_
   refine pe_then_normal ?_
   refine tr_sub hC .nil .nil rfl ?_
   refine tr_seq ?_
   refine tr_region (fun N7 hN => ?_)
   refine lx (op_assign rfl) rfl ?_
   refine lx_end ⟨by kernel_rfl, ?_⟩
   refine pe_then_normal ?_
   refine tr_sub hC (.cons (t := 4) rfl .nil) .nil rfl ?_
   refine tr_ret ?_
   refine pe_ret1 rfl hO rfl (.tmp rfl .nil) ?_
   exact entI (idxF_none (by rwa [hk3, List.take_of_length_le (Nat.le_refl _)] at hk2)).symm
theorem clo57_ok (w : V) : FnP Try.prog 57 [aggP (vp w), cellsP [clP 53 [] []]] (eqP (.bool (!(vval w)))) := by
 refine fn_pure' Try.func57 rfl Try.ntmps57 rfl ?_
 intro σ0 M ex Rf R hC hO
 simp only [frameOf, tokOf]
 refine tr_seq ?_
 refine tr_region (fun N0 hN => ?_)
 refine lxn (op_box (m := 2) (k := 2) rfl (.agg rfl) (by first | exact hC.low _ (by decide) | rfl)) rfl ?_
 refine lx (op_assign rfl) rfl ?_
 refine lx_end ⟨by kernel_rfl, ?_⟩
 refine pe_then_normal ?_
 refine tr_sub hC (.cons (t := 1) rfl (.cons (t := 2) rfl .nil)) (.cons (t := 2) rfl .nil) rfl ?_
 refine tr_seq ?_
 refine tr_region (fun N1 hN => ?_)
 first | refine lx (op_load_one rfl ag62 rfl) rfl ?_ | refine lx (op_bload_one (m := 2) rfl rfl ag62 rfl) rfl ?_
 refine lx (op_bload (m := 2) rfl rfl ag43 sz43) rfl ?_
 first | refine lx (op_callV (l := [(Go.Operand.tmp 5)]) rfl (vval_ok w) (.cons rfl .nil) fn53) rfl ?_ | refine lx (op_callV (l := [(Go.Operand.tmp 5)]) rfl (vval_ok w) (.ent rfl (by exact ent_auto) .nil) fn53) rfl ?_
 first | refine lx (op_not rfl) rfl ?_ | refine lx (op_not_b rfl) rfl ?_
 refine lx (op_assign rfl) rfl ?_
 refine lx_end ⟨by kernel_rfl, ?_⟩
 refine pe_then_normal ?_
 refine tr_sub hC (.cons (t := 3) rfl .nil) .nil rfl ?_
 refine tr_ret ?_
 refine pe_ret1 rfl hO rfl (.tmp rfl .nil) ?_
 exact ent_auto
theorem cont56_ok (xs : List V) (hx : xs.length ≤ 9223372036854775807) : FnP Try.prog 56 [slP vp 3 xs, clP 57 [] [cellsP [clP 53 [] []]]] (eqP (.bool (xs.any fun w => !(vval w)))) := by
 refine fn_pure' Try.func56 rfl Try.ntmps56 rfl ?_
 intro σ0 M ex Rf R hC hO
 simp only [frameOf, tokOf]
 refine tr_seq ?_
 refine tr_region (fun N0 hN => ?_)
 refine lx (op_assign rfl) rfl ?_
 refine lx_end ⟨by kernel_rfl, ?_⟩
 refine pe_then_normal ?_
 refine tr_sub hC (.cons (t := 0) rfl (.cons (t := 1) rfl .nil)) .nil rfl ?_
 refine tr_seq ?_
 refine tr_region (fun N1 hN => ?_)
 refine lx (op_move rfl) rfl ?_
 refine lx (op_move rfl) rfl ?_
 first | refine lx (op_call (l := [(Go.Operand.tmp 5), (Go.Operand.tmp 6)]) (idxV_ok 57 [cellsP [clP 53 [] []]] (fun w => !(vval w)) (fun w => clo57_ok w) fn57 xs hx) (.cons rfl (.cons rfl .nil)) fn60) rfl ?_ | refine lx (op_call (l := [(Go.Operand.tmp 5), (Go.Operand.tmp 6)]) (idxV_ok 57 [cellsP [clP 53 [] []]] (fun w => !(vval w)) (fun w => clo57_ok w) fn57 xs hx) (.ent rfl (by exact ent_auto) (.ent rfl (by exact ent_auto) .nil)) fn60) rfl ?_
 refine lx (op_geq rfl rfl) rfl ?_
 refine lx (op_assign rfl) rfl ?_
 refine lx_end ⟨by kernel_rfl, ?_⟩
 refine pe_then_normal ?_
 refine tr_sub hC (.cons (t := 4) rfl .nil) .nil rfl ?_
 refine tr_ret ?_
 refine pe_ret1 rfl hO rfl (.tmp rfl .nil) ?_
 exact entB (idxF_any _ _)
theorem all52_ok (xs : List V) (hx : xs.length ≤ 9223372036854775807) : FnP Try.prog 52 [slP vp 3 xs, clP 53 [] []] (eqP (.bool (xs.all vval))) := by
 refine fn_pure' Try.func52 rfl Try.ntmps52 rfl ?_
 intro σ0 M ex Rf R hC hO
 simp only [frameOf, tokOf]
 refine tr_seq ?_
 refine tr_region (fun N0 hN => ?_)
 refine lxn (op_box (m := 3) (k := 3) rfl (.one (by (first | exact One.eq rfl | exact One.mv _ _ _ _ _ | exact One.cl _ _ _ | exact One.map _ | exact One.sl _ _ _ | exact One.row _ _ _ _ | exact One.msl _ _ _ _ | exact One.ptr _ _ | exact One.b _ | exact One.cells _))) (by first | exact hC.low _ (by decide) | rfl)) rfl ?_
 refine lx (op_assign rfl) rfl ?_
 refine lx_end ⟨by kernel_rfl, ?_⟩
 refine pe_then_normal ?_
 refine tr_sub hC (.cons (t := 0) rfl (.cons (t := 3) rfl .nil)) (.cons (t := 3) rfl .nil) rfl ?_
 refine tr_freeze (m := 3) rfl (.cons (t := 0) rfl (.ent (t := 3) rfl (FEnt.ptr) .nil)) ?_
 try dsimp only
 refine tr_seq ?_
 refine tr_region (fun N1 hN => ?_)
 refine lx (op_move rfl) rfl ?_
 refine lx (op_makeFunc (bs := []) (cs := [(Go.Operand.tmp 3)]) .nil (.cons rfl .nil)) rfl ?_
 first | refine lx (op_call (l := [(Go.Operand.tmp 5), (Go.Operand.tmp 6)]) (cont56_ok xs hx) (.cons rfl (.cons rfl .nil)) fn56) rfl ?_ | refine lx (op_call (l := [(Go.Operand.tmp 5), (Go.Operand.tmp 6)]) (cont56_ok xs hx) (.ent rfl (by exact ent_auto) (.ent rfl (by exact ent_auto) .nil)) fn56) rfl ?_
 first | refine lx (op_not rfl) rfl ?_ | refine lx (op_not_b rfl) rfl ?_
 refine lx (op_assign rfl) rfl ?_
 refine lx_end ⟨by kernel_rfl, ?_⟩
 refine pe_then_normal ?_
 refine tr_sub hC (.cons (t := 4) rfl .nil) .nil rfl ?_
 refine tr_ret ?_
 refine pe_ret1 rfl hO rfl (.tmp rfl .nil) ?_
 exact entB (by rw [List.not_any_eq_all_not]; simp)
theorem clo59_ok (w : Wt) : FnP Try.prog 59 [aggP (wp w), cellsP [clP 55 [] []]] (eqP (.bool (!(wval w)))) := by
 refine fn_pure' Try.func59 rfl Try.ntmps59 rfl ?_
 intro σ0 M ex Rf R hC hO
 simp only [frameOf, tokOf]
 refine tr_seq ?_
 refine tr_region (fun N0 hN => ?_)
 refine lxn (op_box (m := 2) (k := 2) rfl (.agg rfl) (by first | exact hC.low _ (by decide) | rfl)) rfl ?_
 refine lx (op_assign rfl) rfl ?_
 refine lx_end ⟨by kernel_rfl, ?_⟩
 refine pe_then_normal ?_
 refine tr_sub hC (.cons (t := 1) rfl (.cons (t := 2) rfl .nil)) (.cons (t := 2) rfl .nil) rfl ?_
 refine tr_seq ?_
 refine tr_region (fun N1 hN => ?_)
 first | refine lx (op_load_one rfl ag98 rfl) rfl ?_ | refine lx (op_bload_one (m := 2) rfl rfl ag98 rfl) rfl ?_
 refine lx (op_bload (m := 2) rfl rfl ag97 sz97) rfl ?_
 first | refine lx (op_callV (l := [(Go.Operand.tmp 5)]) rfl (wval_ok w) (.cons rfl .nil) fn55) rfl ?_ | refine lx (op_callV (l := [(Go.Operand.tmp 5)]) rfl (wval_ok w) (.ent rfl (by exact ent_auto) .nil) fn55) rfl ?_
 first | refine lx (op_not rfl) rfl ?_ | refine lx (op_not_b rfl) rfl ?_
 refine lx (op_assign rfl) rfl ?_
 refine lx_end ⟨by kernel_rfl, ?_⟩
 refine pe_then_normal ?_
 refine tr_sub hC (.cons (t := 3) rfl .nil) .nil rfl ?_
 refine tr_ret ?_
 refine pe_ret1 rfl hO rfl (.tmp rfl .nil) ?_
 exact ent_auto
theorem cont58_ok (xs : List Wt) (hx : xs.length ≤ 9223372036854775807) : FnP Try.prog 58 [slP wp 5 xs, clP 59 [] [cellsP [clP 55 [] []]]] (eqP (.bool (xs.any fun w => !(wval w)))) := by
 refine fn_pure' Try.func58 rfl Try.ntmps58 rfl ?_
 intro σ0 M ex Rf R hC hO
 simp only [frameOf, tokOf]
 refine tr_seq ?_
 refine tr_region (fun N0 hN => ?_)
 refine lx (op_assign rfl) rfl ?_
 refine lx_end ⟨by kernel_rfl, ?_⟩
 refine pe_then_normal ?_
 refine tr_sub hC (.cons (t := 0) rfl (.cons (t := 1) rfl .nil)) .nil rfl ?_
 refine tr_seq ?_
 refine tr_region (fun N1 hN => ?_)
 refine lx (op_move rfl) rfl ?_
 refine lx (op_move rfl) rfl ?_
 first | refine lx (op_call (l := [(Go.Operand.tmp 5), (Go.Operand.tmp 6)]) (idxW_ok 59 [cellsP [clP 55 [] []]] (fun w => !(wval w)) (fun w => clo59_ok w) fn59 xs hx) (.cons rfl (.cons rfl .nil)) fn61) rfl ?_ | refine lx (op_call (l := [(Go.Operand.tmp 5), (Go.Operand.tmp 6)]) (idxW_ok 59 [cellsP [clP 55 [] []]] (fun w => !(wval w)) (fun w => clo59_ok w) fn59 xs hx) (.ent rfl (by exact ent_auto) (.ent rfl (by exact ent_auto) .nil)) fn61) rfl ?_
 refine lx (op_geq rfl rfl) rfl ?_
 refine lx (op_assign rfl) rfl ?_
 refine lx_end ⟨by kernel_rfl, ?_⟩
 refine pe_then_normal ?_
 refine tr_sub hC (.cons (t := 4) rfl .nil) .nil rfl ?_
 refine tr_ret ?_
 refine pe_ret1 rfl hO rfl (.tmp rfl .nil) ?_
 exact entB (idxF_any _ _)
theorem all54_ok (xs : List Wt) (hx : xs.length ≤ 9223372036854775807) : FnP Try.prog 54 [slP wp 5 xs, clP 55 [] []] (eqP (.bool (xs.all wval))) := by
 refine fn_pure' Try.func54 rfl Try.ntmps54 rfl ?_
 intro σ0 M ex Rf R hC hO
 simp only [frameOf, tokOf]
 refine tr_seq ?_
 refine tr_region (fun N0 hN => ?_)
 refine lxn (op_box (m := 3) (k := 3) rfl (.one (by (first | exact One.eq rfl | exact One.mv _ _ _ _ _ | exact One.cl _ _ _ | exact One.map _ | exact One.sl _ _ _ | exact One.row _ _ _ _ | exact One.msl _ _ _ _ | exact One.ptr _ _ | exact One.b _ | exact One.cells _))) (by first | exact hC.low _ (by decide) | rfl)) rfl ?_
 refine lx (op_assign rfl) rfl ?_
 refine lx_end ⟨by kernel_rfl, ?_⟩
 refine pe_then_normal ?_
 refine tr_sub hC (.cons (t := 0) rfl (.cons (t := 3) rfl .nil)) (.cons (t := 3) rfl .nil) rfl ?_
 refine tr_freeze (m := 3) rfl (.cons (t := 0) rfl (.ent (t := 3) rfl (FEnt.ptr) .nil)) ?_
 try dsimp only
 refine tr_seq ?_
 refine tr_region (fun N1 hN => ?_)
 refine lx (op_move rfl) rfl ?_
 refine lx (op_makeFunc (bs := []) (cs := [(Go.Operand.tmp 3)]) .nil (.cons rfl .nil)) rfl ?_
 first | refine lx (op_call (l := [(Go.Operand.tmp 5), (Go.Operand.tmp 6)]) (cont58_ok xs hx) (.cons rfl (.cons rfl .nil)) fn58) rfl ?_ | refine lx (op_call (l := [(Go.Operand.tmp 5), (Go.Operand.tmp 6)]) (cont58_ok xs hx) (.ent rfl (by exact ent_auto) (.ent rfl (by exact ent_auto) .nil)) fn58) rfl ?_
 first | refine lx (op_not rfl) rfl ?_ | refine lx (op_not_b rfl) rfl ?_
 refine lx (op_assign rfl) rfl ?_
 refine lx_end ⟨by kernel_rfl, ?_⟩
 refine pe_then_normal ?_
 refine tr_sub hC (.cons (t := 4) rfl .nil) .nil rfl ?_
 refine tr_ret ?_
 refine pe_ret1 rfl hO rfl (.tmp rfl .nil) ?_
 exact entB (by rw [List.not_any_eq_all_not]; simp)
theorem object_ok (o : Ob) (hs : BdO 9223372036854775807 o) : FnP Try.prog 51 [aggP o.ps] (eqP (.bool (objF o))) := by
 refine fn_pure' Try.func51 rfl Try.ntmps51 rfl ?_
 intro σ0 M ex Rf R hC hO
 simp only [frameOf, tokOf]
 refine tr_seq ?_
 refine tr_region (fun N0 hN => ?_)
 refine lxn (op_box (m := 1) (k := 1) rfl (.agg rfl) (by first | exact hC.low _ (by decide) | rfl)) rfl ?_
 refine lx (op_assign rfl) rfl ?_
 refine lx_end ⟨by kernel_rfl, ?_⟩
 refine pe_then_normal ?_
 refine tr_sub hC (.cons (t := 1) rfl .nil) (.cons (t := 1) rfl .nil) rfl ?_
 refine tr_seq ?_
 refine tr_seq ?_
 refine tr_region (fun N1 hN => ?_)
 refine lx (op_fieldAddr rfl fl91_2 sz4) rfl ?_
 refine lx (op_bload_one (m := 1) rfl rfl ag4 rfl) rfl ?_
 refine lx_end ⟨by kernel_rfl, ?_⟩
 refine pe_then_normal ?_
 refine tr_sub hC (.cons (t := 1) rfl (.cons (t := 4) rfl .nil)) (.cons (t := 1) rfl .nil) rfl ?_
 refine tr_cond rfl (fun h4 => ?_) (fun h4 => ?_)
 ·(try simp only [cq1, cq2, cq3, cq4, cq5, cq6, cq7, cq8, cq9, cq10, cq11, cq12, cq13] at h4)
  have h := objF_c h4
  refine tr_seq ?_
  refine tr_region (fun N2 hN => ?_)
  refine lx (op_fieldAddr rfl fl91_1 sz33) rfl ?_
  refine lx (op_bload_one (m := 1) rfl rfl ag33 rfl) rfl ?_
  first | refine lx (op_len rfl el33) rfl ?_ | refine lx (op_len_row rfl el33) rfl ?_ | refine lx (op_len_mv rfl el33) rfl ?_ | refine lx (op_len_nil rfl el33) rfl ?_
  refine lx (op_eql rfl rfl) rfl ?_
  refine lx (op_move rfl) rfl ?_
  refine lxs rfl rfl rfl guard_eq (.cons (t := 1) rfl (fun _ => Ent.refl _) .nil) (op_fieldAddr rfl fl91_3 sz3) rfl ?_
  refine lxs rfl rfl rfl guard_eq (.cons (t := 10) rfl (fun h => entW h) .nil) (op_bload_one (m := 1) rfl rfl ag3 rfl) rfl ?_
  refine lxs rfl rfl rfl guard_eq (.cons (t := 11) rfl (fun h => entW h) .nil) (op_geq rfl rfl) rfl ?_
  refine lx (op_pick_and rfl rfl) rfl ?_
  refine lx (op_move rfl) rfl ?_
  refine lxs rfl rfl rfl guard_eq (.cons (t := 1) rfl (fun _ => Ent.refl _) .nil) (op_fieldAddr rfl fl91_3 sz3) rfl ?_
  refine lxs rfl rfl rfl guard_eq (.cons (t := 15) rfl (fun h => entW h) .nil) (op_bload_one (m := 1) rfl rfl ag3 rfl) rfl ?_
  refine lxs rfl rfl rfl guard_eq (.cons (t := 16) rfl (fun h => entW h) .nil) (op_leq rfl rfl) rfl ?_
  refine lx (op_pick_and rfl rfl) rfl ?_
  refine lx (op_move rfl) rfl ?_
  refine lxs rfl rfl rfl guard_eq (.cons (t := 1) rfl (fun _ => Ent.refl _) .nil) (op_fieldAddr rfl fl91_4 sz33) rfl ?_
  refine lxs rfl rfl rfl guard_eq (.cons (t := 20) rfl (fun h => entW h) .nil) (op_bload_one (m := 1) rfl rfl ag33 rfl) rfl ?_
  first | refine lxs rfl rfl rfl guard_eq (.cons (t := 21) rfl (fun h => entW h) .nil) (op_len rfl el33) rfl ?_ | refine lxs rfl rfl rfl guard_eq (.cons (t := 21) rfl (fun h => entW h) .nil) (op_len_row rfl el33) rfl ?_ | refine lxs rfl rfl rfl guard_eq (.cons (t := 21) rfl (fun h => entW h) .nil) (op_len_mv rfl el33) rfl ?_ | refine lxs rfl rfl rfl guard_eq (.cons (t := 21) rfl (fun h => entW h) .nil) (op_len_nil rfl el33) rfl ?_
  refine lxs rfl rfl rfl guard_eq (.cons (t := 1) rfl (fun _ => Ent.refl _) .nil) (op_fieldAddr rfl fl91_3 sz3) rfl ?_
  refine lxs rfl rfl rfl guard_eq (.cons (t := 23) rfl (fun h => entW h) .nil) (op_bload_one (m := 1) rfl rfl ag3 rfl) rfl ?_
  refine lxs rfl rfl rfl guard_eq (.cons (t := 22) rfl (fun h => entW h) (.cons (t := 24) rfl (fun h => entW h) .nil)) (op_leq rfl rfl) rfl ?_
  refine lx (op_pick_and rfl rfl) rfl ?_
  refine lx (op_move rfl) rfl ?_
  refine lxs rfl rfl rfl guard_eq (.cons (t := 1) rfl (fun _ => Ent.refl _) .nil) (op_fieldAddr rfl fl91_4 sz33) rfl ?_
  refine lxs rfl rfl rfl guard_eq (.cons (t := 28) rfl (fun h => entW h) .nil) (op_bload_one (m := 1) rfl rfl ag33 rfl) rfl ?_
  first | refine lxs rfl rfl rfl guard_eq (.cons (t := 29) rfl (fun h => entW h) .nil) (op_call (l := [(Go.Operand.tmp 29), (Go.Operand.func 53)]) (all52_ok o.queue hs.queue) (.cons rfl (.cons rfl .nil)) fn52) rfl ?_ | refine lxs rfl rfl rfl guard_eq (.cons (t := 29) rfl (fun h => entW h) .nil) (op_call (l := [(Go.Operand.tmp 29), (Go.Operand.func 53)]) (all52_ok o.queue hs.queue) (.ent rfl (by exact ent_auto) (.ent rfl (by exact ent_auto) .nil)) fn52) rfl ?_
  refine lx (op_pick_and rfl rfl) rfl ?_
  refine lx (op_move rfl) rfl ?_
  refine lxs rfl rfl rfl guard_eq (.cons (t := 1) rfl (fun _ => Ent.refl _) .nil) (op_fieldAddr rfl fl91_6 sz3) rfl ?_
  refine lxs rfl rfl rfl guard_eq (.cons (t := 33) rfl (fun h => entW h) .nil) (op_bload_one (m := 1) rfl rfl ag3 rfl) rfl ?_
  refine lxs rfl rfl rfl guard_eq (.cons (t := 34) rfl (fun h => entW h) .nil) (op_geq rfl rfl) rfl ?_
  refine lx (op_pick_and rfl rfl) rfl ?_
  refine lx (op_move rfl) rfl ?_
  refine lxs rfl rfl rfl guard_eq (.cons (t := 1) rfl (fun _ => Ent.refl _) .nil) (op_fieldAddr rfl fl91_7 sz3) rfl ?_
  refine lxs rfl rfl rfl guard_eq (.cons (t := 38) rfl (fun h => entW h) .nil) (op_bload_one (m := 1) rfl rfl ag3 rfl) rfl ?_
  refine lxs rfl rfl rfl guard_eq (.cons (t := 39) rfl (fun h => entW h) .nil) (op_geq rfl rfl) rfl ?_
  refine lx (op_pick_and rfl rfl) rfl ?_
  refine lx (op_move rfl) rfl ?_
  refine lxs rfl rfl rfl guard_eq (.cons (t := 1) rfl (fun _ => Ent.refl _) .nil) (op_fieldAddr rfl fl91_8 sz89) rfl ?_
  refine lxs rfl rfl rfl guard_eq (.cons (t := 43) rfl (fun h => entW h) .nil) (op_bload_one (m := 1) rfl rfl ag89 rfl) rfl ?_
  first | refine lxs rfl rfl rfl guard_eq (.cons (t := 44) rfl (fun h => entW h) .nil) (op_call (l := [(Go.Operand.tmp 44), (Go.Operand.func 55)]) (all54_ok o.senders hs.senders) (.cons rfl (.cons rfl .nil)) fn54) rfl ?_ | refine lxs rfl rfl rfl guard_eq (.cons (t := 44) rfl (fun h => entW h) .nil) (op_call (l := [(Go.Operand.tmp 44), (Go.Operand.func 55)]) (all54_ok o.senders hs.senders) (.ent rfl (by exact ent_auto) (.ent rfl (by exact ent_auto) .nil)) fn54) rfl ?_
  refine lx (op_pick_and rfl rfl) rfl ?_
  refine lx (op_move rfl) rfl ?_
  refine lxs rfl rfl rfl guard_eq (.cons (t := 1) rfl (fun _ => Ent.refl _) .nil) (op_fieldAddr rfl fl91_9 sz89) rfl ?_
  refine lxs rfl rfl rfl guard_eq (.cons (t := 48) rfl (fun h => entW h) .nil) (op_bload_one (m := 1) rfl rfl ag89 rfl) rfl ?_
  first | refine lxs rfl rfl rfl guard_eq (.cons (t := 49) rfl (fun h => entW h) .nil) (op_call (l := [(Go.Operand.tmp 49), (Go.Operand.func 55)]) (all54_ok o.receivers hs.receivers) (.cons rfl (.cons rfl .nil)) fn54) rfl ?_ | refine lxs rfl rfl rfl guard_eq (.cons (t := 49) rfl (fun h => entW h) .nil) (op_call (l := [(Go.Operand.tmp 49), (Go.Operand.func 55)]) (all54_ok o.receivers hs.receivers) (.ent rfl (by exact ent_auto) (.ent rfl (by exact ent_auto) .nil)) fn54) rfl ?_
  refine lx (op_pick_and rfl rfl) rfl ?_
  refine lx (op_assign rfl) rfl ?_
  refine lx_end ⟨by kernel_rfl, ?_⟩
  refine pe_then_normal ?_
  refine tr_sub hC (.cons (t := 2) rfl .nil) .nil rfl ?_
  refine tr_ret ?_
  refine pe_then_ret ?_
  refine pe_ret1 rfl hO rfl (.tmp rfl .nil) ?_
  rw [h]
  exact ent_auto
 ·(try simp only [cq1, cq2, cq3, cq4, cq5, cq6, cq7, cq8, cq9, cq10, cq11, cq12, cq13] at h4)
  have h := objF_d h4
  refine tr_skip ?_
  refine pe_then_normal ?_
  refine tr_sub hC (.cons (t := 1) rfl .nil) (.cons (t := 1) rfl .nil) rfl ?_
  refine tr_seq ?_
  refine tr_region (fun N3 hN => ?_)
  refine lx (op_fieldAddr rfl fl91_1 sz33) rfl ?_
  refine lx (op_bload_one (m := 1) rfl rfl ag33 rfl) rfl ?_
  first | refine lx (op_len rfl el33) rfl ?_ | refine lx (op_len_row rfl el33) rfl ?_ | refine lx (op_len_mv rfl el33) rfl ?_ | refine lx (op_len_nil rfl el33) rfl ?_
  refine lx (op_leq rfl rfl) rfl ?_
  refine lx (op_move rfl) rfl ?_
  refine lxs rfl rfl rfl guard_eq (.cons (t := 1) rfl (fun _ => Ent.refl _) .nil) (op_fieldAddr rfl fl91_1 sz33) rfl ?_
  refine lxs rfl rfl rfl guard_eq (.cons (t := 57) rfl (fun h => entW h) .nil) (op_bload_one (m := 1) rfl rfl ag33 rfl) rfl ?_
  first | refine lxs rfl rfl rfl guard_eq (.cons (t := 58) rfl (fun h => entW h) .nil) (op_call (l := [(Go.Operand.tmp 58), (Go.Operand.func 53)]) (all52_ok o.cells hs.cells) (.cons rfl (.cons rfl .nil)) fn52) rfl ?_ | refine lxs rfl rfl rfl guard_eq (.cons (t := 58) rfl (fun h => entW h) .nil) (op_call (l := [(Go.Operand.tmp 58), (Go.Operand.func 53)]) (all52_ok o.cells hs.cells) (.ent rfl (by exact ent_auto) (.ent rfl (by exact ent_auto) .nil)) fn52) rfl ?_
  refine lx (op_pick_and rfl rfl) rfl ?_
  refine lx (op_move rfl) rfl ?_
  refine lxs rfl rfl rfl guard_eq (.cons (t := 1) rfl (fun _ => Ent.refl _) .nil) (op_fieldAddr rfl fl91_3 sz3) rfl ?_
  refine lxs rfl rfl rfl guard_eq (.cons (t := 62) rfl (fun h => entW h) .nil) (op_bload_one (m := 1) rfl rfl ag3 rfl) rfl ?_
  refine lxs rfl rfl rfl guard_eq (.cons (t := 63) rfl (fun h => entW h) .nil) (op_eql rfl rfl) rfl ?_
  refine lx (op_pick_and rfl rfl) rfl ?_
  refine lx (op_move rfl) rfl ?_
  refine lxs rfl rfl rfl guard_eq (.cons (t := 1) rfl (fun _ => Ent.refl _) .nil) (op_fieldAddr rfl fl91_4 sz33) rfl ?_
  refine lxs rfl rfl rfl guard_eq (.cons (t := 67) rfl (fun h => entW h) .nil) (op_bload_one (m := 1) rfl rfl ag33 rfl) rfl ?_
  first | refine lxs rfl rfl rfl guard_eq (.cons (t := 68) rfl (fun h => entW h) .nil) (op_len rfl el33) rfl ?_ | refine lxs rfl rfl rfl guard_eq (.cons (t := 68) rfl (fun h => entW h) .nil) (op_len_row rfl el33) rfl ?_ | refine lxs rfl rfl rfl guard_eq (.cons (t := 68) rfl (fun h => entW h) .nil) (op_len_mv rfl el33) rfl ?_ | refine lxs rfl rfl rfl guard_eq (.cons (t := 68) rfl (fun h => entW h) .nil) (op_len_nil rfl el33) rfl ?_
  refine lxs rfl rfl rfl guard_eq (.cons (t := 69) rfl (fun h => entW h) .nil) (op_eql rfl rfl) rfl ?_
  refine lx (op_pick_and rfl rfl) rfl ?_
  refine lx (op_move rfl) rfl ?_
  refine lxs rfl rfl rfl guard_eq (.cons (t := 1) rfl (fun _ => Ent.refl _) .nil) (op_fieldAddr rfl fl91_5 sz4) rfl ?_
  refine lxs rfl rfl rfl guard_eq (.cons (t := 73) rfl (fun h => entW h) .nil) (op_bload_one (m := 1) rfl rfl ag4 rfl) rfl ?_
  first | refine lxs rfl rfl rfl guard_eq (.cons (t := 74) rfl (fun h => entW h) .nil) (op_not rfl) rfl ?_ | refine lxs rfl rfl rfl guard_eq (.cons (t := 74) rfl (fun h => entW h) .nil) (op_not_b rfl) rfl ?_
  refine lx (op_pick_and rfl rfl) rfl ?_
  refine lx (op_move rfl) rfl ?_
  refine lxs rfl rfl rfl guard_eq (.cons (t := 1) rfl (fun _ => Ent.refl _) .nil) (op_fieldAddr rfl fl91_6 sz3) rfl ?_
  refine lxs rfl rfl rfl guard_eq (.cons (t := 78) rfl (fun h => entW h) .nil) (op_bload_one (m := 1) rfl rfl ag3 rfl) rfl ?_
  refine lxs rfl rfl rfl guard_eq (.cons (t := 79) rfl (fun h => entW h) .nil) (op_eql rfl rfl) rfl ?_
  refine lx (op_pick_and rfl rfl) rfl ?_
  refine lx (op_move rfl) rfl ?_
  refine lxs rfl rfl rfl guard_eq (.cons (t := 1) rfl (fun _ => Ent.refl _) .nil) (op_fieldAddr rfl fl91_7 sz3) rfl ?_
  refine lxs rfl rfl rfl guard_eq (.cons (t := 83) rfl (fun h => entW h) .nil) (op_bload_one (m := 1) rfl rfl ag3 rfl) rfl ?_
  refine lxs rfl rfl rfl guard_eq (.cons (t := 84) rfl (fun h => entW h) .nil) (op_eql rfl rfl) rfl ?_
  refine lx (op_pick_and rfl rfl) rfl ?_
  refine lx (op_move rfl) rfl ?_
  refine lxs rfl rfl rfl guard_eq (.cons (t := 1) rfl (fun _ => Ent.refl _) .nil) (op_fieldAddr rfl fl91_8 sz89) rfl ?_
  refine lxs rfl rfl rfl guard_eq (.cons (t := 88) rfl (fun h => entW h) .nil) (op_bload_one (m := 1) rfl rfl ag89 rfl) rfl ?_
  first | refine lxs rfl rfl rfl guard_eq (.cons (t := 89) rfl (fun h => entW h) .nil) (op_len rfl el89) rfl ?_ | refine lxs rfl rfl rfl guard_eq (.cons (t := 89) rfl (fun h => entW h) .nil) (op_len_row rfl el89) rfl ?_ | refine lxs rfl rfl rfl guard_eq (.cons (t := 89) rfl (fun h => entW h) .nil) (op_len_mv rfl el89) rfl ?_ | refine lxs rfl rfl rfl guard_eq (.cons (t := 89) rfl (fun h => entW h) .nil) (op_len_nil rfl el89) rfl ?_
  refine lxs rfl rfl rfl guard_eq (.cons (t := 90) rfl (fun h => entW h) .nil) (op_eql rfl rfl) rfl ?_
  refine lx (op_pick_and rfl rfl) rfl ?_
  refine lx (op_move rfl) rfl ?_
  refine lxs rfl rfl rfl guard_eq (.cons (t := 1) rfl (fun _ => Ent.refl _) .nil) (op_fieldAddr rfl fl91_9 sz89) rfl ?_
  refine lxs rfl rfl rfl guard_eq (.cons (t := 94) rfl (fun h => entW h) .nil) (op_bload_one (m := 1) rfl rfl ag89 rfl) rfl ?_
  first | refine lxs rfl rfl rfl guard_eq (.cons (t := 95) rfl (fun h => entW h) .nil) (op_len rfl el89) rfl ?_ | refine lxs rfl rfl rfl guard_eq (.cons (t := 95) rfl (fun h => entW h) .nil) (op_len_row rfl el89) rfl ?_ | refine lxs rfl rfl rfl guard_eq (.cons (t := 95) rfl (fun h => entW h) .nil) (op_len_mv rfl el89) rfl ?_ | refine lxs rfl rfl rfl guard_eq (.cons (t := 95) rfl (fun h => entW h) .nil) (op_len_nil rfl el89) rfl ?_
  refine lxs rfl rfl rfl guard_eq (.cons (t := 96) rfl (fun h => entW h) .nil) (op_eql rfl rfl) rfl ?_
  refine lx (op_pick_and rfl rfl) rfl ?_
  refine lx (op_assign rfl) rfl ?_
  refine lx_end ⟨by kernel_rfl, ?_⟩
  refine pe_then_normal ?_
  refine tr_sub hC (.cons (t := 2) rfl .nil) .nil rfl ?_
  refine tr_ret ?_
  refine pe_ret1 rfl hO rfl (.tmp rfl .nil) ?_
  rw [h]
  exact ent_auto
theorem hValid_ok (xs : List Ob) (hx : xs.length ≤ 9223372036854775807) (hb : ∀ o ∈ xs, BdO 9223372036854775807 o) : FnP Try.prog 50 [slP Ob.ps 10 xs] (eqP (.bool (validF xs))) := by
 refine fn_pure' Try.func50 rfl Try.ntmps50 rfl ?_
 intro σ0 M ex Rf R hC hO
 simp only [frameOf, tokOf]
 refine tr_seq ?_
 refine tr_region (fun N0 hN => ?_)
 refine lx (op_assign rfl) rfl ?_
 refine lx_end ⟨by kernel_rfl, ?_⟩
 refine pe_then_normal ?_
 refine tr_sub hC (.cons (t := 0) rfl .nil) .nil rfl ?_
 refine tr_seq ?_
 refine tr_region (fun N1 hN => ?_)
 refine lx (op_assign rfl) rfl ?_
 refine lx_end ⟨by kernel_rfl, ?_⟩
 refine pe_then_normal ?_
 refine tr_sub hC (.cons (t := 0) rfl (.cons (t := 3) rfl .nil)) .nil rfl ?_
 refine tr_seq ?_
 refine tr_seq ?_
 refine tr_region (fun N2 hN => ?_)
 refine lx (op_move rfl) rfl ?_
 first | refine lx (op_len rfl el92) rfl ?_ | refine lx (op_len_row rfl el92) rfl ?_ | refine lx (op_len_mv rfl el92) rfl ?_ | refine lx (op_len_nil rfl el92) rfl ?_
 refine lx (op_move rfl) rfl ?_
 refine lx_end ⟨by kernel_rfl, ?_⟩
 refine pe_then_normal ?_
 refine tr_sub hC (.cons (t := 3) rfl (.cons (t := 6) rfl (.cons (t := 7) rfl (.cons (t := 8) rfl .nil)))) .nil rfl ?_
 refine tr_block ?_
 refine tr_loopK (α := {zz : Nat × Int // zz.1 ≤ xs.length ∧ vfrom zz.2 (xs.drop zz.1) = validF xs}) (⟨(0, -1), Nat.zero_le _, rfl⟩) (fun zz => [(3, eqP (.int .i64 zz.1.2)), (8, eqP (.int .i64 (zz.1.1 : Int)))]) (fun zz => []) (fun zz => xs.length - zz.1.1) hC (.cons (t := 6) rfl (.cons (t := 7) rfl .nil)) .nil rfl ?_ ?_ (fun zz => ?_)
 ·try dsimp only [List.cons_append, List.nil_append]
  first | refine SubF.cons rfl ?_ | (refine SubF.ent rfl ?_ ?_; · exact ent_auto)
  first | refine SubF.cons rfl ?_ | (refine SubF.ent rfl ?_ ?_; · exact ent_auto)
  exact SubF.nil
 ·try dsimp only [List.cons_append, List.nil_append]
  repeat (first | exact SubL.nil | refine SubL.cons rfl ?_)
 ·obtain ⟨⟨k, last⟩, hk1, hk2⟩ := zz
  try dsimp only at hk1
  try dsimp only at hk2
  dsimp only [List.cons_append, List.nil_append]
  refine tr_seq ?_
  refine tr_region (fun N3 hN => ?_)
  refine lx (op_lss rfl rfl) rfl ?_
  refine lx_end ⟨by kernel_rfl, ?_⟩
  refine pe_then_normal ?_
  refine tr_sub hC (.cons (t := 3) rfl (.cons (t := 6) rfl (.cons (t := 7) rfl (.cons (t := 8) rfl (.cons (t := 9) rfl .nil))))) .nil rfl ?_
  refine tr_seq ?_
  refine tr_cond rfl (fun h9 => ?_) (fun h9 => ?_)
  ·(try simp only [cq1, cq2, cq3, cq4, cq5, cq6, cq7, cq8, cq9, cq10, cq11, cq12, cq13] at h9)
   have hbk := hb _ (List.getElem_mem (by omega : k < xs.length))
   refine tr_skip ?_
   refine pe_then_normal ?_
   refine tr_sub hC (.cons (t := 3) rfl (.cons (t := 6) rfl (.cons (t := 7) rfl (.cons (t := 8) rfl .nil)))) .nil rfl ?_
   refine tr_seq ?_
   refine tr_block ?_
   refine tr_seq ?_
   refine tr_region (fun N4 hN => ?_)
   refine lx (op_index rfl rfl el92 sz91 rfl (List.getElem?_eq_getElem (by omega : k < xs.length))) rfl ?_
   first | refine lx (op_load_all rfl ag91 sz91) rfl ?_ | refine lx (op_load_agg rfl ag91 sz91 rfl) rfl ?_
   refine lxn (op_alloc (m := 5) (k := 5) (ps := [eqP (.int .i64 0), eqP (.slice none 0 0), eqP (.bool false), eqP (.int .i64 0), eqP (.slice none 0 0), eqP (.bool false), eqP (.int .i64 0), eqP (.int .i64 0), eqP (.slice none 0 0), eqP (.slice none 0 0)]) ze91 rfl rfl (by first | exact hC.low _ (by decide) | rfl)) rfl ?_
   refine lxr (op_store_all (m := 5) rfl rfl rfl (.agg rfl) sz91 rfl) rfl ?_
   refine lx_end ⟨by kernel_rfl, ?_⟩
   refine pe_then_normal ?_
   refine tr_sub hC (.cons (t := 3) rfl (.cons (t := 5) rfl (.cons (t := 6) rfl (.cons (t := 7) rfl (.cons (t := 8) rfl .nil))))) (.cons (t := 5) rfl .nil) rfl ?_
   refine tr_seq ?_
   refine tr_seq ?_
   refine tr_region (fun N5 hN => ?_)
   refine lx (op_fieldAddr rfl fl91_0 sz3) rfl ?_
   refine lx (op_bload_one (m := 5) rfl rfl ag3 rfl) rfl ?_
   refine lx (op_move rfl) rfl ?_
   refine lx (op_leq rfl rfl) rfl ?_
   refine lx (op_move rfl) rfl ?_
   refine lxs rfl rfl rfl guard_eq (.cons (t := 5) rfl (fun _ => Ent.refl _) .nil) (op_bload (m := 5) rfl rfl ag91 sz91) rfl ?_
   first | refine lxs rfl rfl rfl guard_eq (.cons (t := 17) rfl (fun h => entW h) .nil) (op_call (l := [(Go.Operand.tmp 17)]) (object_ok xs[k] hbk) (.cons rfl .nil) fn51) rfl ?_ | refine lxs rfl rfl rfl guard_eq (.cons (t := 17) rfl (fun h => entW h) .nil) (op_call (l := [(Go.Operand.tmp 17)]) (object_ok xs[k] hbk) (.ent rfl (by exact ent_auto) .nil) fn51) rfl ?_
   first | refine lxs rfl rfl rfl guard_eq (.cons (t := 18) rfl (fun h => entW h) .nil) (op_not rfl) rfl ?_ | refine lxs rfl rfl rfl guard_eq (.cons (t := 18) rfl (fun h => entW h) .nil) (op_not_b rfl) rfl ?_
   refine lx (op_pick_or rfl rfl) rfl ?_
   refine lx_end ⟨by kernel_rfl, ?_⟩
   refine pe_then_normal ?_
   refine tr_sub hC (.cons (t := 5) rfl (.cons (t := 6) rfl (.cons (t := 7) rfl (.cons (t := 8) rfl (.cons (t := 20) rfl .nil))))) (.cons (t := 5) rfl .nil) rfl ?_
   refine tr_cond rfl (fun h20 => ?_) (fun h20 => ?_)
   ·have hbad := vfrom_bad (by omega) hk2 h20
    refine tr_seq ?_
    refine tr_region (fun N6 hN => ?_)
    refine lx (op_assign rfl) rfl ?_
    refine lx_end ⟨by kernel_rfl, ?_⟩
    refine pe_then_normal ?_
    refine tr_sub hC (.cons (t := 2) rfl .nil) .nil rfl ?_
    refine tr_ret ?_
    refine pe_then_ret ?_
    refine pe_block_ret ?_
    refine pe_then_ret ?_
    refine pe_then_ret ?_
    refine pe_block_ret ?_
    refine pe_then_ret ?_
    refine pe_ret1 rfl hO rfl (.tmp rfl .nil) ?_
    exact entB hbad.symm
   ·have hgo := h20
    refine tr_skip ?_
    refine pe_then_normal ?_
    refine tr_sub hC (.cons (t := 5) rfl (.cons (t := 6) rfl (.cons (t := 7) rfl (.cons (t := 8) rfl .nil)))) (.cons (t := 5) rfl .nil) rfl ?_
    refine tr_region (fun N7 hN => ?_)
    refine lx (op_fieldAddr rfl fl91_0 sz3) rfl ?_
    refine lx (op_bload_one (m := 5) rfl rfl ag3 rfl) rfl ?_
    refine lx (op_assign rfl) rfl ?_
    refine lx_end ⟨by kernel_rfl, ?_⟩
    refine pe_block_normal ?_
    refine pe_then_normal ?_
    refine tr_sub hC (.cons (t := 3) rfl (.cons (t := 6) rfl (.cons (t := 7) rfl (.cons (t := 8) rfl .nil)))) .nil rfl ?_
    refine tr_region (fun N8 hN => ?_)
    refine lx (op_add rfl rfl (by omega)) rfl ?_
    refine lx (op_move rfl) rfl ?_
    refine lx_end ⟨by kernel_rfl, ?_⟩
    refine pe_round (⟨(k + 1, xs[k].id), by dsimp only; omega, vfrom_next (by omega) hk2 h20⟩) (by dsimp only; omega) (pe_st hC ?_ ?_ rfl)
    ·try dsimp only [List.cons_append, List.nil_append]
     first | refine SubF.cons rfl ?_ | (refine SubF.ent rfl ?_ ?_; · exact ent_auto)
     first | refine SubF.cons rfl ?_ | (refine SubF.ent rfl ?_ ?_; · exact ent_auto)
     first | refine SubF.cons rfl ?_ | (refine SubF.ent rfl ?_ ?_; · exact ent_auto)
     first | refine SubF.cons rfl ?_ | (refine SubF.ent rfl ?_ ?_; · exact ent_auto)
     exact SubF.nil
    ·try dsimp only [List.cons_append, List.nil_append]
     repeat (first | exact SubL.nil | refine SubL.cons rfl ?_)
  ·(try simp only [cq1, cq2, cq3, cq4, cq5, cq6, cq7, cq8, cq9, cq10, cq11, cq12, cq13] at h9)
   have hfin := vfrom_end (by omega) hk2
   refine tr_exit ?_
   refine pe_then_exit ?_
   refine pe_then_exit ?_
   refine pe_block_eq ?_
   refine pe_then_normal ?_
   refine tr_sub hC .nil .nil rfl ?_
   refine tr_seq ?_
   refine tr_region (fun N9 hN => ?_)
   refine lx (op_assign rfl) rfl ?_
   refine lx_end ⟨by kernel_rfl, ?_⟩
   refine pe_then_normal ?_
   refine tr_sub hC (.cons (t := 2) rfl .nil) .nil rfl ?_
   refine tr_ret ?_
   refine pe_ret1 rfl hO rfl (.tmp rfl .nil) ?_
   exact entB hfin.symm
theorem one_ok (xs : List V) (hx : xs.length ≤ 64) : FnP Try.prog 50 [slP Ob.ps 10 [{ ob0 with cells := xs }]] (eqP (.bool (validF [{ ob0 with cells := xs }]))) :=
 hValid_ok _ (by simp) fun o ho => by
  rw [List.mem_singleton] at ho
  subst ho
  exact ⟨by show xs.length ≤ _; omega, Nat.zero_le _, Nat.zero_le _, Nat.zero_le _⟩
theorem values_small (xs : List V) (hx : xs.length ≤ 64) : FnP Try.prog 44 [slP vp 3 xs] (eqP (.bool (xs.all vval))) := by
 refine fn_pure' Try.func44 rfl Try.ntmps44 rfl ?_
 intro σ0 M ex Rf R hC hO
 simp only [frameOf, tokOf]
 refine tr_seq ?_
 refine tr_region (fun N0 hN => ?_)
 refine lx (op_assign rfl) rfl ?_
 refine lx_end ⟨by kernel_rfl, ?_⟩
 refine pe_then_normal ?_
 refine tr_sub hC (.cons (t := 0) rfl .nil) .nil rfl ?_
 refine tr_seq ?_
 refine tr_block ?_
 refine tr_loopK (α := {zz : Nat // zz = 0}) (⟨(0), rfl⟩) (fun zz => [(0, slP vp 3 xs)]) (fun zz => []) (fun zz => 0) hC .nil .nil rfl ?_ ?_ (fun zz => ?_)
 ·try dsimp only [List.cons_append, List.nil_append]
  first | refine SubF.cons rfl ?_ | (refine SubF.ent rfl ?_ ?_; · exact ent_auto)
  exact SubF.nil
 ·try dsimp only [List.cons_append, List.nil_append]
  repeat (first | exact SubL.nil | refine SubL.cons rfl ?_)
 ·obtain ⟨k, hk0⟩ := zz
  dsimp only [List.cons_append, List.nil_append]
  refine tr_seq ?_
  refine tr_seq ?_
  refine tr_region (fun N1 hN => ?_)
  refine lx (op_move rfl) rfl ?_
  first | refine lx (op_len rfl el33) rfl ?_ | refine lx (op_len_row rfl el33) rfl ?_ | refine lx (op_len_mv rfl el33) rfl ?_ | refine lx (op_len_nil rfl el33) rfl ?_
  refine lx (op_gtr rfl rfl) rfl ?_
  refine lx_end ⟨by kernel_rfl, ?_⟩
  refine pe_then_normal ?_
  refine tr_sub hC (.cons (t := 0) rfl (.cons (t := 5) rfl .nil)) .nil rfl ?_
  refine tr_cond rfl (fun h5 => ?_) (fun h5 => ?_)
  ·(try simp only [cq1, cq2, cq3, cq4, cq5, cq6, cq7, cq8, cq9, cq10, cq11, cq12, cq13] at h5)
   omega
  ·(try simp only [cq1, cq2, cq3, cq4, cq5, cq6, cq7, cq8, cq9, cq10, cq11, cq12, cq13] at h5)
   refine tr_exit ?_
   refine pe_then_exit ?_
   refine pe_then_exit ?_
   refine pe_block_eq ?_
   refine pe_then_normal ?_
   refine tr_sub hC (.cons (t := 0) rfl .nil) .nil rfl ?_
   refine tr_seq ?_
   refine tr_region (fun N5 hN => ?_)
   refine lx (op_move rfl) rfl ?_
   refine lx (OpJ.ent (op_build (qs := [_, _, _, _, _, _, _, _, _, _]) (parts := [(1, (Go.Operand.tmp 12))]) ze91 rfl rfl fs91 (.cons rfl (.one (by (first | exact One.eq rfl | exact One.mv _ _ _ _ _ | exact One.cl _ _ _ | exact One.map _ | exact One.sl _ _ _ | exact One.row _ _ _ _ | exact One.msl _ _ _ _ | exact One.ptr _ _ | exact One.b _ | exact One.cells _))) fl91_1 sz33 rfl .nil) rfl rfl) (show Ent _ (aggP (Ob.ps { ob0 with cells := xs })) from (by exact ent_auto))) rfl ?_
   refine lx (op_buildSlice (f := Ob.ps) (xs := [{ ob0 with cells := xs }]) (l := [(0, (Go.Operand.tmp 13))]) ze91 rfl rfl (by decide) el92 sz91 Ob.len (.cons rfl (.agg rfl) .nil) rfl (by decide)) rfl ?_
   first | refine lx (op_call (l := [(Go.Operand.tmp 14)]) (one_ok xs (by omega)) (.cons rfl .nil) fn50) rfl ?_ | refine lx (op_call (l := [(Go.Operand.tmp 14)]) (one_ok xs (by omega)) (.ent rfl (by exact ent_auto) .nil) fn50) rfl ?_
   refine lx (op_assign rfl) rfl ?_
   refine lx_end ⟨by kernel_rfl, ?_⟩
   refine pe_then_normal ?_
   refine tr_sub hC (.cons (t := 2) rfl .nil) .nil rfl ?_
   refine tr_ret ?_
   refine pe_ret1 rfl hO rfl (.tmp rfl .nil) ?_
   exact entB (one_obj hx)
end Go.Proofs.Ythiknhmoefbanaa


set_option linter.unusedVariables false
set_option linter.unusedSimpArgs false
namespace Go.Proofs.Ythiknhmoefbanaa
open Go.AL Go.Ch Go.Hp Go.RowKit
theorem ag64 : aggB Try.prog 64 = some false := by kernel_rfl
theorem ag66 : aggB Try.prog 66 = some true := by kernel_rfl
theorem el64 : elemB Try.prog 64 = some 80 := by kernel_rfl
theorem fl66_3 : fldB Try.prog 66 3 = some (3, 64) := by kernel_rfl
theorem fn37 : fnB Try.prog 37 = true := by kernel_rfl
theorem fn44 : fnB Try.prog 44 = true := by kernel_rfl
theorem sz64 : sizeB Try.prog 64 = some 1 := by kernel_rfl
theorem ze66 : zeroB Try.prog 66 = some (some (.agg #[.string ⟨#[]⟩, .int .i64 0, .int .i64 0, .slice none 0 0])) := by kernel_rfl
theorem values_ok (xs : List V) (hx : xs.length ≤ 9223372036854775807) : FnP Try.prog 44 [slP vp 3 xs] (eqP (.bool (xs.all vval))) := by
 refine fn_pure' Try.func44 rfl Try.ntmps44 rfl ?_
 intro σ0 M ex Rf R hC hO
 simp only [frameOf, tokOf]
 refine tr_seq ?_
 refine tr_region (fun N0 hN => ?_)
 refine lx (op_assign rfl) rfl ?_
 refine lx_end ⟨by kernel_rfl, ?_⟩
 refine pe_then_normal ?_
 refine tr_sub hC (.cons (t := 0) rfl .nil) .nil rfl ?_
 refine tr_seq ?_
 refine tr_block ?_
 refine tr_loopK (α := {zz : Nat // 64 * zz ≤ xs.length ∧ (xs.drop (64 * zz)).all vval = xs.all vval}) (⟨(0), Nat.zero_le _, rfl⟩) (fun zz => [(0, slP vp 3 (xs.drop (64 * zz.1)))]) (fun zz => []) (fun zz => xs.length - 64 * zz.1) hC .nil .nil rfl ?_ ?_ (fun zz => ?_)
 ·try dsimp only [List.cons_append, List.nil_append]
  first | refine SubF.cons rfl ?_ | (refine SubF.ent rfl ?_ ?_; · exact ent_auto)
  exact SubF.nil
 ·try dsimp only [List.cons_append, List.nil_append]
  repeat (first | exact SubL.nil | refine SubL.cons rfl ?_)
 ·obtain ⟨k, hk1, hk2⟩ := zz
  dsimp only [List.cons_append, List.nil_append]
  refine tr_seq ?_
  refine tr_seq ?_
  refine tr_region (fun N1 hN => ?_)
  refine lx (op_move rfl) rfl ?_
  first | refine lx (op_len rfl el33) rfl ?_ | refine lx (op_len_row rfl el33) rfl ?_ | refine lx (op_len_mv rfl el33) rfl ?_ | refine lx (op_len_nil rfl el33) rfl ?_
  refine lx (op_gtr rfl rfl) rfl ?_
  refine lx_end ⟨by kernel_rfl, ?_⟩
  refine pe_then_normal ?_
  refine tr_sub hC (.cons (t := 0) rfl (.cons (t := 5) rfl .nil)) .nil rfl ?_
  refine tr_cond rfl (fun h5 => ?_) (fun h5 => ?_)
  ·(try simp only [cq1, cq2, cq3, cq4, cq5, cq6, cq7, cq8, cq9, cq10, cq11, cq12, cq13] at h5)
   have hl : (xs.drop (64 * k)).length = xs.length - 64 * k := List.length_drop ..
   rw [hl] at h5
   refine tr_skip ?_
   refine pe_then_normal ?_
   refine tr_sub hC (.cons (t := 0) rfl .nil) .nil rfl ?_
   refine tr_block ?_
   refine tr_seq ?_
   refine tr_seq ?_
   refine tr_region (fun N2 hN => ?_)
   refine lx (op_move rfl) rfl ?_
   refine lx (op_slice_h rfl rfl el33 sz43 (show (64 : Int) = ((64 : Nat) : Int) from rfl) (by omega)) rfl ?_
   first | refine lx (op_call (l := [(Go.Operand.tmp 7)]) (values_small ((xs.drop (64 * k)).take 64) (by simp; omega)) (.cons rfl .nil) fn44) rfl ?_ | refine lx (op_call (l := [(Go.Operand.tmp 7)]) (values_small ((xs.drop (64 * k)).take 64) (by simp; omega)) (.ent rfl (by exact ent_auto) .nil) fn44) rfl ?_
   first | refine lx (op_not rfl) rfl ?_ | refine lx (op_not_b rfl) rfl ?_
   refine lx_end ⟨by kernel_rfl, ?_⟩
   refine pe_then_normal ?_
   refine tr_sub hC (.cons (t := 0) rfl (.cons (t := 9) rfl .nil)) .nil rfl ?_
   refine tr_cond rfl (fun h9 => ?_) (fun h9 => ?_)
   ·(try simp only [cq1, cq2, cq3, cq4, cq5, cq6, cq7, cq8, cq9, cq10, cq11, cq12, cq13] at h9)
    have hbad := all64_bad h9 hk2
    refine tr_seq ?_
    refine tr_region (fun N3 hN => ?_)
    refine lx (op_assign rfl) rfl ?_
    refine lx_end ⟨by kernel_rfl, ?_⟩
    refine pe_then_normal ?_
    refine tr_sub hC (.cons (t := 2) rfl .nil) .nil rfl ?_
    refine tr_ret ?_
    refine pe_then_ret ?_
    refine pe_block_ret ?_
    refine pe_then_ret ?_
    refine pe_block_ret ?_
    refine pe_then_ret ?_
    refine pe_ret1 rfl hO rfl (.tmp rfl .nil) ?_
    exact entB hbad.symm
   ·(try simp only [cq1, cq2, cq3, cq4, cq5, cq6, cq7, cq8, cq9, cq10, cq11, cq12, cq13] at h9)
    have hgo := all64_go (k := 64 * (k + 1)) h9 hk2 (by omega)
    refine tr_skip ?_
    refine pe_then_normal ?_
    refine tr_sub hC (.cons (t := 0) rfl .nil) .nil rfl ?_
    refine tr_region (fun N4 hN => ?_)
    refine lx (op_move rfl) rfl ?_
    refine lx (OpJ.ent (op_slice_l rfl rfl el33 sz43 (show (64 : Int) = ((64 : Nat) : Int) from rfl) (by omega)) (show Ent _ (slP vp 3 (xs.drop (64 * (k + 1)))) from (by rw [show xs.drop (64 * (k + 1)) = (xs.drop (64 * k)).drop 64 by rw [List.drop_drop]; rfl]; exact Ent.refl _))) rfl ?_
    refine lx (op_assign rfl) rfl ?_
    refine lx_end ⟨by kernel_rfl, ?_⟩
    refine pe_block_normal ?_
    refine pe_round (⟨(k + 1), by omega, hgo⟩) (by dsimp only; omega) (pe_st hC ?_ ?_ rfl)
    ·try dsimp only [List.cons_append, List.nil_append]
     first | refine SubF.cons rfl ?_ | (refine SubF.ent rfl ?_ ?_; · exact ent_auto)
     exact SubF.nil
    ·try dsimp only [List.cons_append, List.nil_append]
     repeat (first | exact SubL.nil | refine SubL.cons rfl ?_)
  ·(try simp only [cq1, cq2, cq3, cq4, cq5, cq6, cq7, cq8, cq9, cq10, cq11, cq12, cq13] at h5)
   have hl : (xs.drop (64 * k)).length = xs.length - 64 * k := List.length_drop ..
   rw [hl] at h5
   have hfin := (one_obj (by omega : (xs.drop (64 * k)).length ≤ 64)).trans hk2
   refine tr_exit ?_
   refine pe_then_exit ?_
   refine pe_then_exit ?_
   refine pe_block_eq ?_
   refine pe_then_normal ?_
   refine tr_sub hC (.cons (t := 0) rfl .nil) .nil rfl ?_
   refine tr_seq ?_
   refine tr_region (fun N5 hN => ?_)
   refine lx (op_move rfl) rfl ?_
   refine lx (OpJ.ent (op_build (qs := [_, _, _, _, _, _, _, _, _, _]) (parts := [(1, (Go.Operand.tmp 12))]) ze91 rfl rfl fs91 (.cons rfl (.one (by (first | exact One.eq rfl | exact One.mv _ _ _ _ _ | exact One.cl _ _ _ | exact One.map _ | exact One.sl _ _ _ | exact One.row _ _ _ _ | exact One.msl _ _ _ _ | exact One.ptr _ _ | exact One.b _ | exact One.cells _))) fl91_1 sz33 rfl .nil) rfl rfl) (show Ent _ (aggP (Ob.ps { ob0 with cells := (xs.drop (64 * k)) })) from (by exact ent_auto))) rfl ?_
   refine lx (op_buildSlice (f := Ob.ps) (xs := [{ ob0 with cells := (xs.drop (64 * k)) }]) (l := [(0, (Go.Operand.tmp 13))]) ze91 rfl rfl (by decide) el92 sz91 Ob.len (.cons rfl (.agg rfl) .nil) rfl (by decide)) rfl ?_
   first | refine lx (op_call (l := [(Go.Operand.tmp 14)]) (one_ok (xs.drop (64 * k)) (by omega)) (.cons rfl .nil) fn50) rfl ?_ | refine lx (op_call (l := [(Go.Operand.tmp 14)]) (one_ok (xs.drop (64 * k)) (by omega)) (.ent rfl (by exact ent_auto) .nil) fn50) rfl ?_
   refine lx (op_assign rfl) rfl ?_
   refine lx_end ⟨by kernel_rfl, ?_⟩
   refine pe_then_normal ?_
   refine tr_sub hC (.cons (t := 2) rfl .nil) .nil rfl ?_
   refine tr_ret ?_
   refine pe_ret1 rfl hO rfl (.tmp rfl .nil) ?_
   exact entB hfin
theorem frame_nil (p : Pg) (f : Fm) (hb : BdF 9223372036854775807 f) : FnP Try.prog 37 [aggP p.ps, aggP f.ps, eqP (.pointer none)] (eqP (.bool (frmOK p none f))) := by
 have hbr := hb.regs
 have hbd := hb.defers
 refine fn_pure' Try.func37 rfl Try.ntmps37 rfl ?_
 intro σ0 M ex Rf R hC hO
 simp only [frameOf, tokOf]
 refine tr_seq ?_
 refine tr_region (fun N0 hN => ?_)
 refine lxn (op_box (m := 3) (k := 3) rfl (.agg rfl) (by first | exact hC.low _ (by decide) | rfl)) rfl ?_
 refine lxn (op_box (m := 4) (k := 4) rfl (.agg rfl) (by first | exact hC.low _ (by decide) | rfl)) rfl ?_
 refine lx (op_assign rfl) rfl ?_
 refine lx_end ⟨by kernel_rfl, ?_⟩
 refine pe_then_normal ?_
 refine tr_sub hC (.cons (t := 2) rfl (.cons (t := 3) rfl (.cons (t := 4) rfl .nil))) (.cons (t := 3) rfl (.cons (t := 4) rfl .nil)) rfl ?_
 refine tr_seq ?_
 refine tr_seq ?_
 refine tr_region (fun N1 hN => ?_)
 refine lx (op_fieldAddr rfl fl60_0 sz3) rfl ?_
 refine lx (op_bload_one (m := 4) rfl rfl ag3 rfl) rfl ?_
 refine lx (op_lss rfl rfl) rfl ?_
 refine lx (op_move rfl) rfl ?_
 refine lxs rfl rfl rfl guard_eq (.cons (t := 4) rfl (fun _ => Ent.refl _) .nil) (op_fieldAddr rfl fl60_0 sz3) rfl ?_
 refine lxs rfl rfl rfl guard_eq (.cons (t := 14) rfl (fun h => entW h) .nil) (op_bload_one (m := 4) rfl rfl ag3 rfl) rfl ?_
 refine lxs rfl rfl rfl guard_eq (.cons (t := 3) rfl (fun _ => Ent.refl _) .nil) (op_fieldAddr rfl fl26_0 sz22) rfl ?_
 refine lxs rfl rfl rfl guard_eq (.cons (t := 16) rfl (fun h => entW h) .nil) (op_bload_one (m := 3) rfl rfl ag22 rfl) rfl ?_
 first | refine lxs rfl rfl rfl guard_eq (.cons (t := 17) rfl (fun h => entW h) .nil) (op_len rfl el22) rfl ?_ | refine lxs rfl rfl rfl guard_eq (.cons (t := 17) rfl (fun h => entW h) .nil) (op_len_row rfl el22) rfl ?_ | refine lxs rfl rfl rfl guard_eq (.cons (t := 17) rfl (fun h => entW h) .nil) (op_len_mv rfl el22) rfl ?_ | refine lxs rfl rfl rfl guard_eq (.cons (t := 17) rfl (fun h => entW h) .nil) (op_len_nil rfl el22) rfl ?_
 refine lxs rfl rfl rfl guard_eq (.cons (t := 15) rfl (fun h => entW h) (.cons (t := 18) rfl (fun h => entW h) .nil)) (op_geq rfl rfl) rfl ?_
 refine lx (op_pick_or rfl rfl) rfl ?_
 refine lx_end ⟨by kernel_rfl, ?_⟩
 refine pe_then_normal ?_
 refine tr_sub hC (.cons (t := 2) rfl (.cons (t := 3) rfl (.cons (t := 4) rfl (.cons (t := 20) rfl .nil)))) (.cons (t := 3) rfl (.cons (t := 4) rfl .nil)) rfl ?_
 refine tr_cond rfl (fun h20 => ?_) (fun h20 => ?_)
 ·(try simp only [cq1, cq2, cq3, cq4, cq5, cq6, cq7, cq8, cq9, cq10, cq11, cq12, cq13] at h20)
  have hno := frm_no1 (p := p) (b := none) (f := f) (by omega)
  refine tr_seq ?_
  refine tr_region (fun N2 hN => ?_)
  refine lx (op_assign rfl) rfl ?_
  refine lx_end ⟨by kernel_rfl, ?_⟩
  refine pe_then_normal ?_
  refine tr_sub hC (.cons (t := 6) rfl .nil) .nil rfl ?_
  refine tr_ret ?_
  refine pe_then_ret ?_
  refine pe_ret1 rfl hO rfl (.tmp rfl .nil) ?_
  rw [hno]
  exact ent_auto
 ·(try simp only [cq1, cq2, cq3, cq4, cq5, cq6, cq7, cq8, cq9, cq10, cq11, cq12, cq13] at h20)
  have h1 : 0 ≤ f.fn ∧ f.fn < (p.funcs.length : Int) := by omega
  refine tr_skip ?_
  refine pe_then_normal ?_
  refine tr_sub hC (.cons (t := 2) rfl (.cons (t := 3) rfl (.cons (t := 4) rfl .nil))) (.cons (t := 3) rfl (.cons (t := 4) rfl .nil)) rfl ?_
  refine tr_seq ?_
  refine tr_region (fun N3 hN => ?_)
  refine lx (op_fieldAddr rfl fl26_0 sz22) rfl ?_
  refine lx (op_bload_one (m := 3) rfl rfl ag22 rfl) rfl ?_
  refine lx (op_fieldAddr rfl fl60_0 sz3) rfl ?_
  refine lx (op_bload_one (m := 4) rfl rfl ag3 rfl) rfl ?_
  refine lx (op_index rfl rfl el22 sz66 (by omega : f.fn = ((f.fn.toNat : Nat) : Int)) (pfn_at (by omega) (by omega))) rfl ?_
  first | refine lx (op_load_all rfl ag66 sz66) rfl ?_ | refine lx (op_load_agg rfl ag66 sz66 rfl) rfl ?_ | refine lx (op_bload (m := 3) rfl rfl ag66 sz66) rfl ?_ | refine lx (op_bload (m := 4) rfl rfl ag66 sz66) rfl ?_ | refine lx (op_bload_part (m := 3) (qs := [_, _, _, _]) rfl rfl ag66 sz66 rfl rfl) rfl ?_ | refine lx (op_bload_part (m := 4) (qs := [_, _, _, _]) rfl rfl ag66 sz66 rfl rfl) rfl ?_
  refine lxn (op_alloc (m := 7) (k := 7) (ps := [eqP (.string ⟨#[]⟩), eqP (.int .i64 0), eqP (.int .i64 0), eqP (.slice none 0 0)]) ze66 rfl rfl (by first | exact hC.low _ (by decide) | rfl)) rfl ?_
  refine lxr (op_store_all (m := 7) rfl rfl rfl (.agg rfl) sz66 rfl) rfl ?_
  refine lx_end ⟨by kernel_rfl, ?_⟩
  refine pe_then_normal ?_
  refine tr_sub hC (.cons (t := 2) rfl (.cons (t := 3) rfl (.cons (t := 4) rfl (.cons (t := 7) rfl .nil)))) (.cons (t := 3) rfl (.cons (t := 4) rfl (.cons (t := 7) rfl .nil))) rfl ?_
  refine tr_seq ?_
  refine tr_seq ?_
  refine tr_region (fun N4 hN => ?_)
  refine lx (op_fieldAddr rfl fl60_2 sz33) rfl ?_
  refine lx (op_bload_one (m := 4) rfl rfl ag33 rfl) rfl ?_
  first | refine lx (op_len rfl el33) rfl ?_ | refine lx (op_len_row rfl el33) rfl ?_ | refine lx (op_len_mv rfl el33) rfl ?_ | refine lx (op_len_nil rfl el33) rfl ?_
  refine lx (op_fieldAddr rfl fl66_2 sz3) rfl ?_
  refine lx (op_bload_one (m := 7) rfl rfl ag3 rfl) rfl ?_
  refine lx (op_neq rfl rfl) rfl ?_
  refine lx (op_move rfl) rfl ?_
  refine lxs rfl rfl rfl guard_eq (.cons (t := 4) rfl (fun _ => Ent.refl _) .nil) (op_fieldAddr rfl fl60_1 sz3) rfl ?_
  refine lxs rfl rfl rfl guard_eq (.cons (t := 34) rfl (fun h => entW h) .nil) (op_bload_one (m := 4) rfl rfl ag3 rfl) rfl ?_
  refine lxs rfl rfl rfl guard_eq (.cons (t := 35) rfl (fun h => entW h) .nil) (op_lss rfl rfl) rfl ?_
  refine lx (op_pick_or rfl rfl) rfl ?_
  refine lx (op_move rfl) rfl ?_
  refine lxs rfl rfl rfl guard_eq (.cons (t := 4) rfl (fun _ => Ent.refl _) .nil) (op_fieldAddr rfl fl60_1 sz3) rfl ?_
  refine lxs rfl rfl rfl guard_eq (.cons (t := 39) rfl (fun h => entW h) .nil) (op_bload_one (m := 4) rfl rfl ag3 rfl) rfl ?_
  refine lxs rfl rfl rfl guard_eq (.cons (t := 7) rfl (fun _ => Ent.refl _) .nil) (op_fieldAddr rfl fl66_3 sz64) rfl ?_
  refine lxs rfl rfl rfl guard_eq (.cons (t := 41) rfl (fun h => entW h) .nil) (op_bload_one (m := 7) rfl rfl ag64 rfl) rfl ?_
  first | refine lxs rfl rfl rfl guard_eq (.cons (t := 42) rfl (fun h => entW h) .nil) (op_len rfl el64) rfl ?_ | refine lxs rfl rfl rfl guard_eq (.cons (t := 42) rfl (fun h => entW h) .nil) (op_len_row rfl el64) rfl ?_ | refine lxs rfl rfl rfl guard_eq (.cons (t := 42) rfl (fun h => entW h) .nil) (op_len_mv rfl el64) rfl ?_ | refine lxs rfl rfl rfl guard_eq (.cons (t := 42) rfl (fun h => entW h) .nil) (op_len_nil rfl el64) rfl ?_
  refine lxs rfl rfl rfl guard_eq (.cons (t := 40) rfl (fun h => entW h) (.cons (t := 43) rfl (fun h => entW h) .nil)) (op_geq rfl rfl) rfl ?_
  refine lx (op_pick_or rfl rfl) rfl ?_
  refine lx (op_move rfl) rfl ?_
  refine lxs rfl rfl rfl guard_eq (.cons (t := 4) rfl (fun _ => Ent.refl _) .nil) (op_fieldAddr rfl fl60_2 sz33) rfl ?_
  refine lxs rfl rfl rfl guard_eq (.cons (t := 47) rfl (fun h => entW h) .nil) (op_bload_one (m := 4) rfl rfl ag33 rfl) rfl ?_
  first | refine lxs rfl rfl rfl guard_eq (.cons (t := 48) rfl (fun h => entW h) .nil) (op_call (l := [(Go.Operand.tmp 48)]) (values_ok f.regs (by omega)) (.cons rfl .nil) fn44) rfl ?_ | refine lxs rfl rfl rfl guard_eq (.cons (t := 48) rfl (fun h => entW h) .nil) (op_call (l := [(Go.Operand.tmp 48)]) (values_ok f.regs (by omega)) (.ent rfl (by exact ent_auto) .nil) fn44) rfl ?_
  first | refine lxs rfl rfl rfl guard_eq (.cons (t := 49) rfl (fun h => entW h) .nil) (op_not rfl) rfl ?_ | refine lxs rfl rfl rfl guard_eq (.cons (t := 49) rfl (fun h => entW h) .nil) (op_not_b rfl) rfl ?_
  refine lx (op_pick_or rfl rfl) rfl ?_
  refine lx (op_move rfl) rfl ?_
  refine lxs rfl rfl rfl guard_eq (.cons (t := 4) rfl (fun _ => Ent.refl _) .nil) (op_fieldAddr rfl fl60_6 sz43) rfl ?_
  refine lxs rfl rfl rfl guard_eq (.cons (t := 53) rfl (fun h => entW h) .nil) (op_bload_part (m := 4) (qs := [_, _, _]) rfl rfl ag43 sz43 rfl rfl) rfl ?_
  refine lxs rfl rfl rfl guard_eq (.cons (t := 54) rfl (fun h => entW h) .nil) (op_buildSlice (f := vp) (xs := [f.result]) (l := [(0, (Go.Operand.tmp 54))]) ze43 rfl rfl (by decide) el33 sz43 vp_len (.cons rfl (.agg rfl) .nil) rfl (by decide)) rfl ?_
  first | refine lxs rfl rfl rfl guard_eq (.cons (t := 55) rfl (fun h => entW h) .nil) (op_call (l := [(Go.Operand.tmp 55)]) (values_ok [f.result] (by simp)) (.cons rfl .nil) fn44) rfl ?_ | refine lxs rfl rfl rfl guard_eq (.cons (t := 55) rfl (fun h => entW h) .nil) (op_call (l := [(Go.Operand.tmp 55)]) (values_ok [f.result] (by simp)) (.ent rfl (by exact ent_auto) .nil) fn44) rfl ?_
  first | refine lxs rfl rfl rfl guard_eq (.cons (t := 56) rfl (fun h => entW h) .nil) (op_not rfl) rfl ?_ | refine lxs rfl rfl rfl guard_eq (.cons (t := 56) rfl (fun h => entW h) .nil) (op_not_b rfl) rfl ?_
  refine lx (op_pick_or rfl rfl) rfl ?_
  refine lx (op_move rfl) rfl ?_
  refine lxs rfl rfl rfl guard_eq (.cons (t := 4) rfl (fun _ => Ent.refl _) .nil) (op_fieldAddr rfl fl60_3 sz3) rfl ?_
  refine lxs rfl rfl rfl guard_eq (.cons (t := 60) rfl (fun h => entW h) .nil) (op_bload_one (m := 4) rfl rfl ag3 rfl) rfl ?_
  refine lxs rfl rfl rfl guard_eq (.cons (t := 61) rfl (fun h => entW h) .nil) (op_lss rfl rfl) rfl ?_
  refine lx (op_pick_or rfl rfl) rfl ?_
  refine lx_end ⟨by kernel_rfl, ?_⟩
  refine pe_then_normal ?_
  refine tr_sub hC (.cons (t := 2) rfl (.cons (t := 3) rfl (.cons (t := 4) rfl (.cons (t := 63) rfl .nil)))) (.cons (t := 3) rfl (.cons (t := 4) rfl .nil)) rfl ?_
  refine tr_cond rfl (fun h63 => ?_) (fun h63 => ?_)
  ·have hno := frm_no2 (b := none) (mid_no h63)
   refine tr_seq ?_
   refine tr_region (fun N5 hN => ?_)
   refine lx (op_assign rfl) rfl ?_
   refine lx_end ⟨by kernel_rfl, ?_⟩
   refine pe_then_normal ?_
   refine tr_sub hC (.cons (t := 6) rfl .nil) .nil rfl ?_
   refine tr_ret ?_
   refine pe_then_ret ?_
   refine pe_ret1 rfl hO rfl (.tmp rfl .nil) ?_
   rw [hno]
   exact ent_auto
  ·have h2 := mid_yes h63
   refine tr_skip ?_
   refine pe_then_normal ?_
   refine tr_sub hC (.cons (t := 2) rfl (.cons (t := 3) rfl (.cons (t := 4) rfl .nil))) (.cons (t := 3) rfl (.cons (t := 4) rfl .nil)) rfl ?_
   refine tr_seq ?_
   refine tr_seq ?_
   refine tr_drawn mixed (fun N6 hN => ?_)
   refine lx (op_move rfl) rfl ?_
   first | refine lxk (op_eql_ptr pt73 rfl (IsPtr.own _ _)) (rfl) rfl ?_ | refine lxk (op_eql_ptr pt73 rfl (IsPtr.cells _)) (rfl) rfl ?_ | refine lxk (op_eql_ptr pt73 rfl (IsPtr.nil)) (rfl) rfl ?_
   refine lx (op_move rfl) rfl ?_
   refine lxg rfl rfl rfl (op_fieldAddr rfl fl60_3 sz3) rfl ?_
   refine lxg rfl rfl rfl (op_bload_one (m := 4) rfl rfl ag3 rfl) rfl ?_
   refine lxg rfl rfl rfl (op_neq rfl rfl) rfl ?_
   refine lxc (op_pick_t rfl rfl) rfl (fun h70 => ?_) (fun h70 => ?_)
   ·(try simp only [cq1, cq2, cq3, cq4, cq5, cq6, cq7, cq8, cq9, cq10, cq11, cq12, cq13] at h70)
    have hno := frm_no3 (p := p) (b := none) (f := f) (decide_eq_false (by omega))
    refine lx (op_move rfl) rfl ?_
    refine lx_skip rfl rfl rfl (by first | exact notThe_bool rfl | exact notThe_undef) rfl ?_
    refine lx_skip rfl rfl rfl (by first | exact notThe_bool rfl | exact notThe_undef) rfl ?_
    refine lx_skip rfl rfl rfl (by first | exact notThe_bool rfl | exact notThe_undef) rfl ?_
    refine lx_skip rfl rfl rfl (by first | exact notThe_bool rfl | exact notThe_undef) rfl ?_
    refine lx_skip rfl rfl rfl (by first | exact notThe_bool rfl | exact notThe_undef) rfl ?_
    refine lx_skip rfl rfl rfl (by first | exact notThe_bool rfl | exact notThe_undef) rfl ?_
    refine lx_skip rfl rfl rfl (by first | exact notThe_bool rfl | exact notThe_undef) rfl ?_
    refine lx_skip rfl rfl rfl (by first | exact notThe_bool rfl | exact notThe_undef) rfl ?_
    refine lx_skip rfl rfl rfl (by first | exact notThe_bool rfl | exact notThe_undef) rfl ?_
    refine lx_skip rfl rfl rfl (by first | exact notThe_bool rfl | exact notThe_undef) rfl ?_
    refine lx_skip rfl rfl rfl (by first | exact notThe_bool rfl | exact notThe_undef) rfl ?_
    refine lx_skip rfl rfl rfl (by first | exact notThe_bool rfl | exact notThe_undef) rfl ?_
    refine lx (op_pick_t rfl rfl) rfl ?_
    refine lx_end ⟨by kernel_rfl, ?_⟩
    refine pe_then_normal ?_
    refine tr_sub hC (.cons (t := 3) rfl (.cons (t := 4) rfl (.cons (t := 84) rfl .nil))) (.cons (t := 3) rfl (.cons (t := 4) rfl .nil)) rfl ?_
    refine tr_cond_t rfl ?_
    refine tr_seq ?_
    refine tr_region (fun N7 hN => ?_)
    refine lx (op_assign rfl) rfl ?_
    refine lx_end ⟨by kernel_rfl, ?_⟩
    refine pe_then_normal ?_
    refine tr_sub hC (.cons (t := 6) rfl .nil) .nil rfl ?_
    refine tr_ret ?_
    refine pe_then_ret ?_
    refine pe_ret1 rfl hO rfl (.tmp rfl .nil) ?_
    rw [hno]
    exact ent_auto
   ·(try simp only [cq1, cq2, cq3, cq4, cq5, cq6, cq7, cq8, cq9, cq10, cq11, cq12, cq13] at h70)
    have h3 : destOK none f = true := decide_eq_true (by omega)
    refine lx (op_move rfl) rfl ?_
    refine lxg rfl rfl rfl (op_move rfl) rfl ?_
    first | refine lxgk rfl rfl rfl (op_neq_ptr pt73 rfl (IsPtr.own _ _)) (rfl) rfl ?_ | refine lxgk rfl rfl rfl (op_neq_ptr pt73 rfl (IsPtr.cells _)) (rfl) rfl ?_ | refine lxgk rfl rfl rfl (op_neq_ptr pt73 rfl (IsPtr.nil)) (rfl) rfl ?_
    refine lxg rfl rfl rfl (op_move rfl) rfl ?_
    refine lx_skip rfl rfl rfl (by first | exact notThe_bool rfl | exact notThe_undef) rfl ?_
    refine lx_skip rfl rfl rfl (by first | exact notThe_bool rfl | exact notThe_undef) rfl ?_
    refine lx_skip rfl rfl rfl (by first | exact notThe_bool rfl | exact notThe_undef) rfl ?_
    refine lx_skip rfl rfl rfl (by first | exact notThe_bool rfl | exact notThe_undef) rfl ?_
    refine lx_skip rfl rfl rfl (by first | exact notThe_bool rfl | exact notThe_undef) rfl ?_
    refine lx_skip rfl rfl rfl (by first | exact notThe_bool rfl | exact notThe_undef) rfl ?_
    refine lx_skip rfl rfl rfl (by first | exact notThe_bool rfl | exact notThe_undef) rfl ?_
    refine lx_skip rfl rfl rfl (by first | exact notThe_bool rfl | exact notThe_undef) rfl ?_
    refine lxg rfl rfl rfl (op_pick_f rfl rfl) rfl ?_
    refine lx (op_pick_f rfl rfl) rfl ?_
    refine lx_end ⟨by kernel_rfl, ?_⟩
    refine pe_then_normal ?_
    refine tr_sub hC (.cons (t := 3) rfl (.cons (t := 4) rfl (.cons (t := 84) rfl .nil))) (.cons (t := 3) rfl (.cons (t := 4) rfl .nil)) rfl ?_
    refine tr_cond_f rfl ?_
    refine tr_skip ?_
    refine pe_then_normal ?_
    refine tr_sub hC (.cons (t := 3) rfl (.cons (t := 4) rfl .nil)) (.cons (t := 3) rfl (.cons (t := 4) rfl .nil)) rfl ?_
    refine tr_seq ?_
    refine tr_seq ?_
    refine tr_region (fun N8 hN => ?_)
    refine lx (op_fieldAddr rfl fl60_4 sz58) rfl ?_
    refine lx (op_bload_one (m := 4) rfl rfl ag58 rfl) rfl ?_
    first | refine lx (op_len rfl el58) rfl ?_ | refine lx (op_len_row rfl el58) rfl ?_ | refine lx (op_len_mv rfl el58) rfl ?_ | refine lx (op_len_nil rfl el58) rfl ?_
    refine lx (op_move rfl) rfl ?_
    refine lx_end ⟨by kernel_rfl, ?_⟩
    refine pe_then_normal ?_
    refine tr_sub hC (.cons (t := 3) rfl (.cons (t := 86) rfl (.cons (t := 87) rfl (.cons (t := 88) rfl .nil)))) (.cons (t := 3) rfl .nil) rfl ?_
    refine tr_block ?_
    refine tr_loopK (α := {zz : Nat // zz ≤ f.defers.length ∧ (f.defers.take zz).all (defOK p) = true}) (⟨(0), Nat.zero_le _, by simp⟩) (fun zz => [(88, eqP (.int .i64 (zz.1 : Int)))]) (fun zz => []) (fun zz => f.defers.length - zz.1) hC (.cons (t := 3) rfl (.cons (t := 86) rfl (.cons (t := 87) rfl .nil))) (.cons (t := 3) rfl .nil) rfl ?_ ?_ (fun zz => ?_)
    ·try dsimp only [List.cons_append, List.nil_append]
     first | refine SubF.cons rfl ?_ | (refine SubF.ent rfl ?_ ?_; · exact ent_auto)
     exact SubF.nil
    ·try dsimp only [List.cons_append, List.nil_append]
     repeat (first | exact SubL.nil | refine SubL.cons rfl ?_)
    ·obtain ⟨k, hk1, hk2⟩ := zz
     dsimp only [List.cons_append, List.nil_append]
     refine tr_seq ?_
     refine tr_region (fun N9 hN => ?_)
     refine lx (op_lss rfl rfl) rfl ?_
     refine lx_end ⟨by kernel_rfl, ?_⟩
     refine pe_then_normal ?_
     refine tr_sub hC (.cons (t := 3) rfl (.cons (t := 86) rfl (.cons (t := 87) rfl (.cons (t := 88) rfl (.cons (t := 89) rfl .nil))))) (.cons (t := 3) rfl .nil) rfl ?_
     refine tr_seq ?_
     refine tr_cond rfl (fun h89 => ?_) (fun h89 => ?_)
     ·(try simp only [cq1, cq2, cq3, cq4, cq5, cq6, cq7, cq8, cq9, cq10, cq11, cq12, cq13] at h89)
      refine tr_skip ?_
      refine pe_then_normal ?_
      refine tr_sub hC (.cons (t := 3) rfl (.cons (t := 86) rfl (.cons (t := 87) rfl (.cons (t := 88) rfl .nil)))) (.cons (t := 3) rfl .nil) rfl ?_
      refine tr_seq ?_
      refine tr_block ?_
      refine tr_seq ?_
      refine tr_region (fun N10 hN => ?_)
      refine lx (op_index rfl rfl el58 sz47 rfl (List.getElem?_eq_getElem (by omega : k < f.defers.length))) rfl ?_
      first | refine lx (op_load_all rfl ag47 sz47) rfl ?_ | refine lx (op_load_agg rfl ag47 sz47 rfl) rfl ?_ | refine lx (op_bload (m := 3) rfl rfl ag47 sz47) rfl ?_ | refine lx (op_bload_part (m := 3) (qs := [_, _]) rfl rfl ag47 sz47 rfl rfl) rfl ?_
      refine lxn (op_alloc (m := 9) (k := 9) (ps := [eqP (.int .i64 0), eqP (.slice none 0 0)]) ze47 rfl rfl (by first | exact hC.low _ (by decide) | rfl)) rfl ?_
      refine lxr (op_store_all (m := 9) rfl rfl rfl (.agg rfl) sz47 rfl) rfl ?_
      refine lx_end ⟨by kernel_rfl, ?_⟩
      refine pe_then_normal ?_
      refine tr_sub hC (.cons (t := 3) rfl (.cons (t := 9) rfl (.cons (t := 86) rfl (.cons (t := 87) rfl (.cons (t := 88) rfl .nil))))) (.cons (t := 3) rfl (.cons (t := 9) rfl .nil)) rfl ?_
      refine tr_seq ?_
      refine tr_drawn mixed (fun N11 hN => ?_)
      refine lx (op_fieldAddr rfl fl47_0 sz3) rfl ?_
      refine lx (op_bload_one (m := 9) rfl rfl ag3 rfl) rfl ?_
      refine lx (op_lss rfl rfl) rfl ?_
      refine lx (op_move rfl) rfl ?_
      refine lxs rfl rfl rfl guard_eq (.cons (t := 9) rfl (fun _ => Ent.refl _) .nil) (op_fieldAddr rfl fl47_0 sz3) rfl ?_
      refine lxs rfl rfl rfl guard_eq (.cons (t := 96) rfl (fun h => entW h) .nil) (op_bload_one (m := 9) rfl rfl ag3 rfl) rfl ?_
      refine lxs rfl rfl rfl guard_eq (.cons (t := 3) rfl (fun _ => Ent.refl _) .nil) (op_fieldAddr rfl fl26_0 sz22) rfl ?_
      refine lxs rfl rfl rfl guard_eq (.cons (t := 98) rfl (fun h => entW h) .nil) (op_bload_one (m := 3) rfl rfl ag22 rfl) rfl ?_
      first | refine lxs rfl rfl rfl guard_eq (.cons (t := 99) rfl (fun h => entW h) .nil) (op_len rfl el22) rfl ?_ | refine lxs rfl rfl rfl guard_eq (.cons (t := 99) rfl (fun h => entW h) .nil) (op_len_row rfl el22) rfl ?_ | refine lxs rfl rfl rfl guard_eq (.cons (t := 99) rfl (fun h => entW h) .nil) (op_len_mv rfl el22) rfl ?_ | refine lxs rfl rfl rfl guard_eq (.cons (t := 99) rfl (fun h => entW h) .nil) (op_len_nil rfl el22) rfl ?_
      refine lxs rfl rfl rfl guard_eq (.cons (t := 97) rfl (fun h => entW h) (.cons (t := 100) rfl (fun h => entW h) .nil)) (op_geq rfl rfl) rfl ?_
      refine lx (op_pick_or rfl rfl) rfl ?_
      refine lx (op_move rfl) rfl ?_
      refine lxs rfl rfl rfl guard_eq (.cons (t := 9) rfl (fun _ => Ent.refl _) .nil) (op_fieldAddr rfl fl47_1 sz33) rfl ?_
      refine lxs rfl rfl rfl guard_eq (.cons (t := 104) rfl (fun h => entW h) .nil) (op_bload_one (m := 9) rfl rfl ag33 rfl) rfl ?_
      first | refine lxs rfl rfl rfl guard_eq (.cons (t := 105) rfl (fun h => entW h) .nil) (op_len rfl el33) rfl ?_ | refine lxs rfl rfl rfl guard_eq (.cons (t := 105) rfl (fun h => entW h) .nil) (op_len_row rfl el33) rfl ?_ | refine lxs rfl rfl rfl guard_eq (.cons (t := 105) rfl (fun h => entW h) .nil) (op_len_mv rfl el33) rfl ?_ | refine lxs rfl rfl rfl guard_eq (.cons (t := 105) rfl (fun h => entW h) .nil) (op_len_nil rfl el33) rfl ?_
      refine lxs rfl rfl rfl guard_eq (.cons (t := 3) rfl (fun _ => Ent.refl _) .nil) (op_fieldAddr rfl fl26_0 sz22) rfl ?_
      refine lxs rfl rfl rfl guard_eq (.cons (t := 107) rfl (fun h => entW h) .nil) (op_bload_one (m := 3) rfl rfl ag22 rfl) rfl ?_
      refine lxs rfl rfl rfl guard_eq (.cons (t := 9) rfl (fun _ => Ent.refl _) .nil) (op_fieldAddr rfl fl47_0 sz3) rfl ?_
      refine lxs rfl rfl rfl guard_eq (.cons (t := 109) rfl (fun h => entW h) .nil) (op_bload_one (m := 9) rfl rfl ag3 rfl) rfl ?_
      refine lxsc (rd := [(108, slP Fu.ps 4 p.funcs), (110, eqP (.int .i64 f.defers[k].fn))]) (φ := cellsP (pfn p f.defers[k].fn).ps) rfl rfl rfl guard_eq (.cons (t := 108) rfl (fun h => entW h) (.cons (t := 110) rfl (fun h => entW h) .nil)) (fun hgd => ?_) rfl rfl ?_
      ·have hq0 : 0 ≤ f.defers[k].fn ∧ f.defers[k].fn < (p.funcs.length : Int) := by
        simp at hgd
        omega
       exact op_index rfl rfl el22 sz66 (by omega : f.defers[k].fn = ((f.defers[k].fn.toNat : Nat) : Int)) (pfn_at (by omega) (by omega))
      first | refine lxs rfl rfl rfl guard_eq (.cons (t := 111) rfl (fun h => entW h) .nil) (op_fieldAddr rfl fl66_1 sz3) rfl ?_ | refine lxs rfl rfl rfl guard_eq (.cons (t := 111) rfl (fun h => entW h) .nil) (op_fieldCells rfl fl66_1 sz3) rfl ?_
      first | refine lxs rfl rfl rfl guard_eq (.cons (t := 112) rfl (fun h => entW h) .nil) (op_load_one rfl ag3 rfl) rfl ?_ | refine lxs rfl rfl rfl guard_eq (.cons (t := 112) rfl (fun h => entW h) .nil) (op_bload_one (m := 3) rfl rfl ag3 rfl) rfl ?_ | refine lxs rfl rfl rfl guard_eq (.cons (t := 112) rfl (fun h => entW h) .nil) (op_bload_one (m := 9) rfl rfl ag3 rfl) rfl ?_
      refine lxs rfl rfl rfl guard_eq (.cons (t := 106) rfl (fun h => entW h) (.cons (t := 113) rfl (fun h => entW h) .nil)) (op_neq rfl rfl) rfl ?_
      refine lx (op_pick_or rfl rfl) rfl ?_
      refine lx (op_move rfl) rfl ?_
      refine lxs rfl rfl rfl guard_eq (.cons (t := 9) rfl (fun _ => Ent.refl _) .nil) (op_fieldAddr rfl fl47_1 sz33) rfl ?_
      refine lxs rfl rfl rfl guard_eq (.cons (t := 117) rfl (fun h => entW h) .nil) (op_bload_one (m := 9) rfl rfl ag33 rfl) rfl ?_
      first | refine lxs rfl rfl rfl guard_eq (.cons (t := 118) rfl (fun h => entW h) .nil) (op_call (l := [(Go.Operand.tmp 118)]) (values_ok f.defers[k].args (by have := hb.args f.defers[k] (List.getElem_mem ..); omega)) (.cons rfl .nil) fn44) rfl ?_ | refine lxs rfl rfl rfl guard_eq (.cons (t := 118) rfl (fun h => entW h) .nil) (op_call (l := [(Go.Operand.tmp 118)]) (values_ok f.defers[k].args (by have := hb.args f.defers[k] (List.getElem_mem ..); omega)) (.ent rfl (by exact ent_auto) .nil) fn44) rfl ?_
      first | refine lxs rfl rfl rfl guard_eq (.cons (t := 119) rfl (fun h => entW h) .nil) (op_not rfl) rfl ?_ | refine lxs rfl rfl rfl guard_eq (.cons (t := 119) rfl (fun h => entW h) .nil) (op_not_b rfl) rfl ?_
      refine lx (op_pick_or rfl rfl) rfl ?_
      refine lx_end ⟨by kernel_rfl, ?_⟩
      refine pe_then_normal ?_
      refine tr_sub hC (.cons (t := 3) rfl (.cons (t := 86) rfl (.cons (t := 87) rfl (.cons (t := 88) rfl (.cons (t := 121) rfl .nil))))) (.cons (t := 3) rfl .nil) rfl ?_
      refine tr_cond rfl (fun h121 => ?_) (fun h121 => ?_)
      ·have hno := frm_no4 (p := p) (b := none) (all_bad (φ := defOK p) (by omega : k < f.defers.length) (def_no h121))
       refine tr_seq ?_
       refine tr_region (fun N12 hN => ?_)
       refine lx (op_assign rfl) rfl ?_
       refine lx_end ⟨by kernel_rfl, ?_⟩
       refine pe_then_normal ?_
       refine tr_sub hC (.cons (t := 6) rfl .nil) .nil rfl ?_
       refine tr_ret ?_
       refine pe_block_ret ?_
       refine pe_then_ret ?_
       refine pe_then_ret ?_
       refine pe_block_ret ?_
       refine pe_then_ret ?_
       refine pe_ret1 rfl hO rfl (.tmp rfl .nil) ?_
       rw [hno]
       exact ent_auto
      ·have hdy := def_yes h121
       refine tr_skip ?_
       refine pe_block_normal ?_
       refine pe_then_normal ?_
       refine tr_sub hC (.cons (t := 3) rfl (.cons (t := 86) rfl (.cons (t := 87) rfl (.cons (t := 88) rfl .nil)))) (.cons (t := 3) rfl .nil) rfl ?_
       refine tr_region (fun N13 hN => ?_)
       refine lx (op_add rfl rfl (by omega)) rfl ?_
       refine lx (op_move rfl) rfl ?_
       refine lx_end ⟨by kernel_rfl, ?_⟩
       refine pe_round (⟨(k + 1), by omega, all_step (φ := defOK p) hk2 (by omega) hdy⟩) (by dsimp only; omega) (pe_st hC ?_ ?_ rfl)
       ·try dsimp only [List.cons_append, List.nil_append]
        first | refine SubF.cons rfl ?_ | (refine SubF.ent rfl ?_ ?_; · exact ent_auto)
        first | refine SubF.cons rfl ?_ | (refine SubF.ent rfl ?_ ?_; · exact ent_auto)
        first | refine SubF.cons rfl ?_ | (refine SubF.ent rfl ?_ ?_; · exact ent_auto)
        first | refine SubF.cons rfl ?_ | (refine SubF.ent rfl ?_ ?_; · exact ent_auto)
        exact SubF.nil
       ·try dsimp only [List.cons_append, List.nil_append]
        repeat (first | exact SubL.nil | refine SubL.cons rfl ?_)
     ·(try simp only [cq1, cq2, cq3, cq4, cq5, cq6, cq7, cq8, cq9, cq10, cq11, cq12, cq13] at h89)
      have hfin := frm_yes h1 h2 h3 (all_end hk2 (by omega))
      refine tr_exit ?_
      refine pe_then_exit ?_
      refine pe_then_exit ?_
      refine pe_block_eq ?_
      refine pe_then_normal ?_
      refine tr_sub hC .nil .nil rfl ?_
      refine tr_seq ?_
      refine tr_region (fun N14 hN => ?_)
      refine lx (op_assign rfl) rfl ?_
      refine lx_end ⟨by kernel_rfl, ?_⟩
      refine pe_then_normal ?_
      refine tr_sub hC (.cons (t := 6) rfl .nil) .nil rfl ?_
      refine tr_ret ?_
      refine pe_ret1 rfl hO rfl (.tmp rfl .nil) ?_
      rw [hfin]
      exact ent_auto
theorem frame_some (p : Pg) (f : Fm) (hb : BdF 9223372036854775807 f) (h : Fm) : FnP Try.prog 37 [aggP p.ps, aggP f.ps, cellsP h.ps] (eqP (.bool (frmOK p (some h) f))) := by
 have hbr := hb.regs
 have hbd := hb.defers
 refine fn_pure' Try.func37 rfl Try.ntmps37 rfl ?_
 intro σ0 M ex Rf R hC hO
 simp only [frameOf, tokOf]
 refine tr_seq ?_
 refine tr_region (fun N0 hN => ?_)
 refine lxn (op_box (m := 3) (k := 3) rfl (.agg rfl) (by first | exact hC.low _ (by decide) | rfl)) rfl ?_
 refine lxn (op_box (m := 4) (k := 4) rfl (.agg rfl) (by first | exact hC.low _ (by decide) | rfl)) rfl ?_
 refine lx (op_assign rfl) rfl ?_
 refine lx_end ⟨by kernel_rfl, ?_⟩
 refine pe_then_normal ?_
 refine tr_sub hC (.cons (t := 2) rfl (.cons (t := 3) rfl (.cons (t := 4) rfl .nil))) (.cons (t := 3) rfl (.cons (t := 4) rfl .nil)) rfl ?_
 refine tr_seq ?_
 refine tr_seq ?_
 refine tr_region (fun N1 hN => ?_)
 refine lx (op_fieldAddr rfl fl60_0 sz3) rfl ?_
 refine lx (op_bload_one (m := 4) rfl rfl ag3 rfl) rfl ?_
 refine lx (op_lss rfl rfl) rfl ?_
 refine lx (op_move rfl) rfl ?_
 refine lxs rfl rfl rfl guard_eq (.cons (t := 4) rfl (fun _ => Ent.refl _) .nil) (op_fieldAddr rfl fl60_0 sz3) rfl ?_
 refine lxs rfl rfl rfl guard_eq (.cons (t := 14) rfl (fun h => entW h) .nil) (op_bload_one (m := 4) rfl rfl ag3 rfl) rfl ?_
 refine lxs rfl rfl rfl guard_eq (.cons (t := 3) rfl (fun _ => Ent.refl _) .nil) (op_fieldAddr rfl fl26_0 sz22) rfl ?_
 refine lxs rfl rfl rfl guard_eq (.cons (t := 16) rfl (fun h => entW h) .nil) (op_bload_one (m := 3) rfl rfl ag22 rfl) rfl ?_
 first | refine lxs rfl rfl rfl guard_eq (.cons (t := 17) rfl (fun h => entW h) .nil) (op_len rfl el22) rfl ?_ | refine lxs rfl rfl rfl guard_eq (.cons (t := 17) rfl (fun h => entW h) .nil) (op_len_row rfl el22) rfl ?_ | refine lxs rfl rfl rfl guard_eq (.cons (t := 17) rfl (fun h => entW h) .nil) (op_len_mv rfl el22) rfl ?_ | refine lxs rfl rfl rfl guard_eq (.cons (t := 17) rfl (fun h => entW h) .nil) (op_len_nil rfl el22) rfl ?_
 refine lxs rfl rfl rfl guard_eq (.cons (t := 15) rfl (fun h => entW h) (.cons (t := 18) rfl (fun h => entW h) .nil)) (op_geq rfl rfl) rfl ?_
 refine lx (op_pick_or rfl rfl) rfl ?_
 refine lx_end ⟨by kernel_rfl, ?_⟩
 refine pe_then_normal ?_
 refine tr_sub hC (.cons (t := 2) rfl (.cons (t := 3) rfl (.cons (t := 4) rfl (.cons (t := 20) rfl .nil)))) (.cons (t := 3) rfl (.cons (t := 4) rfl .nil)) rfl ?_
 refine tr_cond rfl (fun h20 => ?_) (fun h20 => ?_)
 ·(try simp only [cq1, cq2, cq3, cq4, cq5, cq6, cq7, cq8, cq9, cq10, cq11, cq12, cq13] at h20)
  have hno := frm_no1 (p := p) (b := (some h)) (f := f) (by omega)
  refine tr_seq ?_
  refine tr_region (fun N2 hN => ?_)
  refine lx (op_assign rfl) rfl ?_
  refine lx_end ⟨by kernel_rfl, ?_⟩
  refine pe_then_normal ?_
  refine tr_sub hC (.cons (t := 6) rfl .nil) .nil rfl ?_
  refine tr_ret ?_
  refine pe_then_ret ?_
  refine pe_ret1 rfl hO rfl (.tmp rfl .nil) ?_
  rw [hno]
  exact ent_auto
 ·(try simp only [cq1, cq2, cq3, cq4, cq5, cq6, cq7, cq8, cq9, cq10, cq11, cq12, cq13] at h20)
  have h1 : 0 ≤ f.fn ∧ f.fn < (p.funcs.length : Int) := by omega
  refine tr_skip ?_
  refine pe_then_normal ?_
  refine tr_sub hC (.cons (t := 2) rfl (.cons (t := 3) rfl (.cons (t := 4) rfl .nil))) (.cons (t := 3) rfl (.cons (t := 4) rfl .nil)) rfl ?_
  refine tr_seq ?_
  refine tr_region (fun N3 hN => ?_)
  refine lx (op_fieldAddr rfl fl26_0 sz22) rfl ?_
  refine lx (op_bload_one (m := 3) rfl rfl ag22 rfl) rfl ?_
  refine lx (op_fieldAddr rfl fl60_0 sz3) rfl ?_
  refine lx (op_bload_one (m := 4) rfl rfl ag3 rfl) rfl ?_
  refine lx (op_index rfl rfl el22 sz66 (by omega : f.fn = ((f.fn.toNat : Nat) : Int)) (pfn_at (by omega) (by omega))) rfl ?_
  first | refine lx (op_load_all rfl ag66 sz66) rfl ?_ | refine lx (op_load_agg rfl ag66 sz66 rfl) rfl ?_ | refine lx (op_bload (m := 3) rfl rfl ag66 sz66) rfl ?_ | refine lx (op_bload (m := 4) rfl rfl ag66 sz66) rfl ?_ | refine lx (op_bload_part (m := 3) (qs := [_, _, _, _]) rfl rfl ag66 sz66 rfl rfl) rfl ?_ | refine lx (op_bload_part (m := 4) (qs := [_, _, _, _]) rfl rfl ag66 sz66 rfl rfl) rfl ?_
  refine lxn (op_alloc (m := 7) (k := 7) (ps := [eqP (.string ⟨#[]⟩), eqP (.int .i64 0), eqP (.int .i64 0), eqP (.slice none 0 0)]) ze66 rfl rfl (by first | exact hC.low _ (by decide) | rfl)) rfl ?_
  refine lxr (op_store_all (m := 7) rfl rfl rfl (.agg rfl) sz66 rfl) rfl ?_
  refine lx_end ⟨by kernel_rfl, ?_⟩
  refine pe_then_normal ?_
  refine tr_sub hC (.cons (t := 2) rfl (.cons (t := 3) rfl (.cons (t := 4) rfl (.cons (t := 7) rfl .nil)))) (.cons (t := 3) rfl (.cons (t := 4) rfl (.cons (t := 7) rfl .nil))) rfl ?_
  refine tr_seq ?_
  refine tr_seq ?_
  refine tr_region (fun N4 hN => ?_)
  refine lx (op_fieldAddr rfl fl60_2 sz33) rfl ?_
  refine lx (op_bload_one (m := 4) rfl rfl ag33 rfl) rfl ?_
  first | refine lx (op_len rfl el33) rfl ?_ | refine lx (op_len_row rfl el33) rfl ?_ | refine lx (op_len_mv rfl el33) rfl ?_ | refine lx (op_len_nil rfl el33) rfl ?_
  refine lx (op_fieldAddr rfl fl66_2 sz3) rfl ?_
  refine lx (op_bload_one (m := 7) rfl rfl ag3 rfl) rfl ?_
  refine lx (op_neq rfl rfl) rfl ?_
  refine lx (op_move rfl) rfl ?_
  refine lxs rfl rfl rfl guard_eq (.cons (t := 4) rfl (fun _ => Ent.refl _) .nil) (op_fieldAddr rfl fl60_1 sz3) rfl ?_
  refine lxs rfl rfl rfl guard_eq (.cons (t := 34) rfl (fun h => entW h) .nil) (op_bload_one (m := 4) rfl rfl ag3 rfl) rfl ?_
  refine lxs rfl rfl rfl guard_eq (.cons (t := 35) rfl (fun h => entW h) .nil) (op_lss rfl rfl) rfl ?_
  refine lx (op_pick_or rfl rfl) rfl ?_
  refine lx (op_move rfl) rfl ?_
  refine lxs rfl rfl rfl guard_eq (.cons (t := 4) rfl (fun _ => Ent.refl _) .nil) (op_fieldAddr rfl fl60_1 sz3) rfl ?_
  refine lxs rfl rfl rfl guard_eq (.cons (t := 39) rfl (fun h => entW h) .nil) (op_bload_one (m := 4) rfl rfl ag3 rfl) rfl ?_
  refine lxs rfl rfl rfl guard_eq (.cons (t := 7) rfl (fun _ => Ent.refl _) .nil) (op_fieldAddr rfl fl66_3 sz64) rfl ?_
  refine lxs rfl rfl rfl guard_eq (.cons (t := 41) rfl (fun h => entW h) .nil) (op_bload_one (m := 7) rfl rfl ag64 rfl) rfl ?_
  first | refine lxs rfl rfl rfl guard_eq (.cons (t := 42) rfl (fun h => entW h) .nil) (op_len rfl el64) rfl ?_ | refine lxs rfl rfl rfl guard_eq (.cons (t := 42) rfl (fun h => entW h) .nil) (op_len_row rfl el64) rfl ?_ | refine lxs rfl rfl rfl guard_eq (.cons (t := 42) rfl (fun h => entW h) .nil) (op_len_mv rfl el64) rfl ?_ | refine lxs rfl rfl rfl guard_eq (.cons (t := 42) rfl (fun h => entW h) .nil) (op_len_nil rfl el64) rfl ?_
  refine lxs rfl rfl rfl guard_eq (.cons (t := 40) rfl (fun h => entW h) (.cons (t := 43) rfl (fun h => entW h) .nil)) (op_geq rfl rfl) rfl ?_
  refine lx (op_pick_or rfl rfl) rfl ?_
  refine lx (op_move rfl) rfl ?_
  refine lxs rfl rfl rfl guard_eq (.cons (t := 4) rfl (fun _ => Ent.refl _) .nil) (op_fieldAddr rfl fl60_2 sz33) rfl ?_
  refine lxs rfl rfl rfl guard_eq (.cons (t := 47) rfl (fun h => entW h) .nil) (op_bload_one (m := 4) rfl rfl ag33 rfl) rfl ?_
  first | refine lxs rfl rfl rfl guard_eq (.cons (t := 48) rfl (fun h => entW h) .nil) (op_call (l := [(Go.Operand.tmp 48)]) (values_ok f.regs (by omega)) (.cons rfl .nil) fn44) rfl ?_ | refine lxs rfl rfl rfl guard_eq (.cons (t := 48) rfl (fun h => entW h) .nil) (op_call (l := [(Go.Operand.tmp 48)]) (values_ok f.regs (by omega)) (.ent rfl (by exact ent_auto) .nil) fn44) rfl ?_
  first | refine lxs rfl rfl rfl guard_eq (.cons (t := 49) rfl (fun h => entW h) .nil) (op_not rfl) rfl ?_ | refine lxs rfl rfl rfl guard_eq (.cons (t := 49) rfl (fun h => entW h) .nil) (op_not_b rfl) rfl ?_
  refine lx (op_pick_or rfl rfl) rfl ?_
  refine lx (op_move rfl) rfl ?_
  refine lxs rfl rfl rfl guard_eq (.cons (t := 4) rfl (fun _ => Ent.refl _) .nil) (op_fieldAddr rfl fl60_6 sz43) rfl ?_
  refine lxs rfl rfl rfl guard_eq (.cons (t := 53) rfl (fun h => entW h) .nil) (op_bload_part (m := 4) (qs := [_, _, _]) rfl rfl ag43 sz43 rfl rfl) rfl ?_
  refine lxs rfl rfl rfl guard_eq (.cons (t := 54) rfl (fun h => entW h) .nil) (op_buildSlice (f := vp) (xs := [f.result]) (l := [(0, (Go.Operand.tmp 54))]) ze43 rfl rfl (by decide) el33 sz43 vp_len (.cons rfl (.agg rfl) .nil) rfl (by decide)) rfl ?_
  first | refine lxs rfl rfl rfl guard_eq (.cons (t := 55) rfl (fun h => entW h) .nil) (op_call (l := [(Go.Operand.tmp 55)]) (values_ok [f.result] (by simp)) (.cons rfl .nil) fn44) rfl ?_ | refine lxs rfl rfl rfl guard_eq (.cons (t := 55) rfl (fun h => entW h) .nil) (op_call (l := [(Go.Operand.tmp 55)]) (values_ok [f.result] (by simp)) (.ent rfl (by exact ent_auto) .nil) fn44) rfl ?_
  first | refine lxs rfl rfl rfl guard_eq (.cons (t := 56) rfl (fun h => entW h) .nil) (op_not rfl) rfl ?_ | refine lxs rfl rfl rfl guard_eq (.cons (t := 56) rfl (fun h => entW h) .nil) (op_not_b rfl) rfl ?_
  refine lx (op_pick_or rfl rfl) rfl ?_
  refine lx (op_move rfl) rfl ?_
  refine lxs rfl rfl rfl guard_eq (.cons (t := 4) rfl (fun _ => Ent.refl _) .nil) (op_fieldAddr rfl fl60_3 sz3) rfl ?_
  refine lxs rfl rfl rfl guard_eq (.cons (t := 60) rfl (fun h => entW h) .nil) (op_bload_one (m := 4) rfl rfl ag3 rfl) rfl ?_
  refine lxs rfl rfl rfl guard_eq (.cons (t := 61) rfl (fun h => entW h) .nil) (op_lss rfl rfl) rfl ?_
  refine lx (op_pick_or rfl rfl) rfl ?_
  refine lx_end ⟨by kernel_rfl, ?_⟩
  refine pe_then_normal ?_
  refine tr_sub hC (.cons (t := 2) rfl (.cons (t := 3) rfl (.cons (t := 4) rfl (.cons (t := 63) rfl .nil)))) (.cons (t := 3) rfl (.cons (t := 4) rfl .nil)) rfl ?_
  refine tr_cond rfl (fun h63 => ?_) (fun h63 => ?_)
  ·have hno := frm_no2 (b := (some h)) (mid_no h63)
   refine tr_seq ?_
   refine tr_region (fun N5 hN => ?_)
   refine lx (op_assign rfl) rfl ?_
   refine lx_end ⟨by kernel_rfl, ?_⟩
   refine pe_then_normal ?_
   refine tr_sub hC (.cons (t := 6) rfl .nil) .nil rfl ?_
   refine tr_ret ?_
   refine pe_then_ret ?_
   refine pe_ret1 rfl hO rfl (.tmp rfl .nil) ?_
   rw [hno]
   exact ent_auto
  ·have h2 := mid_yes h63
   refine tr_skip ?_
   refine pe_then_normal ?_
   refine tr_sub hC (.cons (t := 2) rfl (.cons (t := 3) rfl (.cons (t := 4) rfl .nil))) (.cons (t := 3) rfl (.cons (t := 4) rfl .nil)) rfl ?_
   refine tr_seq ?_
   refine tr_seq ?_
   refine tr_drawn mixed (fun N6 hN => ?_)
   refine lx (op_move rfl) rfl ?_
   first | refine lxk (op_eql_ptr pt73 rfl (IsPtr.own _ _)) (rfl) rfl ?_ | refine lxk (op_eql_ptr pt73 rfl (IsPtr.cells _)) (rfl) rfl ?_ | refine lxk (op_eql_ptr pt73 rfl (IsPtr.nil)) (rfl) rfl ?_
   refine lx (op_move rfl) rfl ?_
   refine lx_skip rfl rfl rfl (by first | exact notThe_bool rfl | exact notThe_undef) rfl ?_
   refine lx_skip rfl rfl rfl (by first | exact notThe_bool rfl | exact notThe_undef) rfl ?_
   refine lx_skip rfl rfl rfl (by first | exact notThe_bool rfl | exact notThe_undef) rfl ?_
   refine lx (op_pick_f rfl rfl) rfl ?_
   refine lx (op_move rfl) rfl ?_
   refine lxg rfl rfl rfl (op_move rfl) rfl ?_
   first | refine lxgk rfl rfl rfl (op_neq_ptr pt73 rfl (IsPtr.own _ _)) (rfl) rfl ?_ | refine lxgk rfl rfl rfl (op_neq_ptr pt73 rfl (IsPtr.cells _)) (rfl) rfl ?_ | refine lxgk rfl rfl rfl (op_neq_ptr pt73 rfl (IsPtr.nil)) (rfl) rfl ?_
   refine lxg rfl rfl rfl (op_move rfl) rfl ?_
   refine lxg rfl rfl rfl (op_fieldAddr rfl fl60_3 sz3) rfl ?_
   refine lxg rfl rfl rfl (op_bload_one (m := 4) rfl rfl ag3 rfl) rfl ?_
   refine lxg rfl rfl rfl (op_move rfl) rfl ?_
   first | refine lxg rfl rfl rfl (op_nilCheck rfl) rfl ?_ | refine lxg rfl rfl rfl (op_nilCheckC rfl) rfl ?_
   first | refine lxg rfl rfl rfl (op_fieldAddr rfl fl60_2 sz33) rfl ?_ | refine lxg rfl rfl rfl (op_fieldCells rfl fl60_2 sz33) rfl ?_
   first | refine lxg rfl rfl rfl (op_load_one rfl ag33 rfl) rfl ?_ | refine lxg rfl rfl rfl (op_bload_one (m := 3) rfl rfl ag33 rfl) rfl ?_ | refine lxg rfl rfl rfl (op_bload_one (m := 4) rfl rfl ag33 rfl) rfl ?_
   first | refine lxg rfl rfl rfl (op_len rfl el33) rfl ?_ | refine lxg rfl rfl rfl (op_len_row rfl el33) rfl ?_ | refine lxg rfl rfl rfl (op_len_mv rfl el33) rfl ?_ | refine lxg rfl rfl rfl (op_len_nil rfl el33) rfl ?_
   refine lxg rfl rfl rfl (op_geq rfl rfl) rfl ?_
   refine lxg rfl rfl rfl (op_pick_t rfl rfl) rfl ?_
   refine lx (op_pick_f rfl rfl) rfl ?_
   refine lx_end ⟨by kernel_rfl, ?_⟩
   refine pe_then_normal ?_
   refine tr_sub hC (.cons (t := 3) rfl (.cons (t := 4) rfl (.cons (t := 84) rfl .nil))) (.cons (t := 3) rfl (.cons (t := 4) rfl .nil)) rfl ?_
   refine tr_cond rfl (fun h84 => ?_) (fun h84 => ?_)
   ·(try simp only [cq1, cq2, cq3, cq4, cq5, cq6, cq7, cq8, cq9, cq10, cq11, cq12, cq13] at h84)
    have hno := frm_no3 (p := p) (b := some h) (f := f) (decide_eq_false (by omega))
    refine tr_seq ?_
    refine tr_region (fun N7 hN => ?_)
    refine lx (op_assign rfl) rfl ?_
    refine lx_end ⟨by kernel_rfl, ?_⟩
    refine pe_then_normal ?_
    refine tr_sub hC (.cons (t := 6) rfl .nil) .nil rfl ?_
    refine tr_ret ?_
    refine pe_then_ret ?_
    refine pe_ret1 rfl hO rfl (.tmp rfl .nil) ?_
    rw [hno]
    exact ent_auto
   ·(try simp only [cq1, cq2, cq3, cq4, cq5, cq6, cq7, cq8, cq9, cq10, cq11, cq12, cq13] at h84)
    have h3 : destOK (some h) f = true := decide_eq_true (by omega)
    refine tr_skip ?_
    refine pe_then_normal ?_
    refine tr_sub hC (.cons (t := 3) rfl (.cons (t := 4) rfl .nil)) (.cons (t := 3) rfl (.cons (t := 4) rfl .nil)) rfl ?_
    refine tr_seq ?_
    refine tr_seq ?_
    refine tr_region (fun N8 hN => ?_)
    refine lx (op_fieldAddr rfl fl60_4 sz58) rfl ?_
    refine lx (op_bload_one (m := 4) rfl rfl ag58 rfl) rfl ?_
    first | refine lx (op_len rfl el58) rfl ?_ | refine lx (op_len_row rfl el58) rfl ?_ | refine lx (op_len_mv rfl el58) rfl ?_ | refine lx (op_len_nil rfl el58) rfl ?_
    refine lx (op_move rfl) rfl ?_
    refine lx_end ⟨by kernel_rfl, ?_⟩
    refine pe_then_normal ?_
    refine tr_sub hC (.cons (t := 3) rfl (.cons (t := 86) rfl (.cons (t := 87) rfl (.cons (t := 88) rfl .nil)))) (.cons (t := 3) rfl .nil) rfl ?_
    refine tr_block ?_
    refine tr_loopK (α := {zz : Nat // zz ≤ f.defers.length ∧ (f.defers.take zz).all (defOK p) = true}) (⟨(0), Nat.zero_le _, by simp⟩) (fun zz => [(88, eqP (.int .i64 (zz.1 : Int)))]) (fun zz => []) (fun zz => f.defers.length - zz.1) hC (.cons (t := 3) rfl (.cons (t := 86) rfl (.cons (t := 87) rfl .nil))) (.cons (t := 3) rfl .nil) rfl ?_ ?_ (fun zz => ?_)
    ·try dsimp only [List.cons_append, List.nil_append]
     first | refine SubF.cons rfl ?_ | (refine SubF.ent rfl ?_ ?_; · exact ent_auto)
     exact SubF.nil
    ·try dsimp only [List.cons_append, List.nil_append]
     repeat (first | exact SubL.nil | refine SubL.cons rfl ?_)
    ·obtain ⟨k, hk1, hk2⟩ := zz
     dsimp only [List.cons_append, List.nil_append]
     refine tr_seq ?_
     refine tr_region (fun N9 hN => ?_)
     refine lx (op_lss rfl rfl) rfl ?_
     refine lx_end ⟨by kernel_rfl, ?_⟩
     refine pe_then_normal ?_
     refine tr_sub hC (.cons (t := 3) rfl (.cons (t := 86) rfl (.cons (t := 87) rfl (.cons (t := 88) rfl (.cons (t := 89) rfl .nil))))) (.cons (t := 3) rfl .nil) rfl ?_
     refine tr_seq ?_
     refine tr_cond rfl (fun h89 => ?_) (fun h89 => ?_)
     ·(try simp only [cq1, cq2, cq3, cq4, cq5, cq6, cq7, cq8, cq9, cq10, cq11, cq12, cq13] at h89)
      refine tr_skip ?_
      refine pe_then_normal ?_
      refine tr_sub hC (.cons (t := 3) rfl (.cons (t := 86) rfl (.cons (t := 87) rfl (.cons (t := 88) rfl .nil)))) (.cons (t := 3) rfl .nil) rfl ?_
      refine tr_seq ?_
      refine tr_block ?_
      refine tr_seq ?_
      refine tr_region (fun N10 hN => ?_)
      refine lx (op_index rfl rfl el58 sz47 rfl (List.getElem?_eq_getElem (by omega : k < f.defers.length))) rfl ?_
      first | refine lx (op_load_all rfl ag47 sz47) rfl ?_ | refine lx (op_load_agg rfl ag47 sz47 rfl) rfl ?_ | refine lx (op_bload (m := 3) rfl rfl ag47 sz47) rfl ?_ | refine lx (op_bload_part (m := 3) (qs := [_, _]) rfl rfl ag47 sz47 rfl rfl) rfl ?_
      refine lxn (op_alloc (m := 9) (k := 9) (ps := [eqP (.int .i64 0), eqP (.slice none 0 0)]) ze47 rfl rfl (by first | exact hC.low _ (by decide) | rfl)) rfl ?_
      refine lxr (op_store_all (m := 9) rfl rfl rfl (.agg rfl) sz47 rfl) rfl ?_
      refine lx_end ⟨by kernel_rfl, ?_⟩
      refine pe_then_normal ?_
      refine tr_sub hC (.cons (t := 3) rfl (.cons (t := 9) rfl (.cons (t := 86) rfl (.cons (t := 87) rfl (.cons (t := 88) rfl .nil))))) (.cons (t := 3) rfl (.cons (t := 9) rfl .nil)) rfl ?_
      refine tr_seq ?_
      refine tr_drawn mixed (fun N11 hN => ?_)
      refine lx (op_fieldAddr rfl fl47_0 sz3) rfl ?_
      refine lx (op_bload_one (m := 9) rfl rfl ag3 rfl) rfl ?_
      refine lx (op_lss rfl rfl) rfl ?_
      refine lx (op_move rfl) rfl ?_
      refine lxs rfl rfl rfl guard_eq (.cons (t := 9) rfl (fun _ => Ent.refl _) .nil) (op_fieldAddr rfl fl47_0 sz3) rfl ?_
      refine lxs rfl rfl rfl guard_eq (.cons (t := 96) rfl (fun h => entW h) .nil) (op_bload_one (m := 9) rfl rfl ag3 rfl) rfl ?_
      refine lxs rfl rfl rfl guard_eq (.cons (t := 3) rfl (fun _ => Ent.refl _) .nil) (op_fieldAddr rfl fl26_0 sz22) rfl ?_
      refine lxs rfl rfl rfl guard_eq (.cons (t := 98) rfl (fun h => entW h) .nil) (op_bload_one (m := 3) rfl rfl ag22 rfl) rfl ?_
      first | refine lxs rfl rfl rfl guard_eq (.cons (t := 99) rfl (fun h => entW h) .nil) (op_len rfl el22) rfl ?_ | refine lxs rfl rfl rfl guard_eq (.cons (t := 99) rfl (fun h => entW h) .nil) (op_len_row rfl el22) rfl ?_ | refine lxs rfl rfl rfl guard_eq (.cons (t := 99) rfl (fun h => entW h) .nil) (op_len_mv rfl el22) rfl ?_ | refine lxs rfl rfl rfl guard_eq (.cons (t := 99) rfl (fun h => entW h) .nil) (op_len_nil rfl el22) rfl ?_
      refine lxs rfl rfl rfl guard_eq (.cons (t := 97) rfl (fun h => entW h) (.cons (t := 100) rfl (fun h => entW h) .nil)) (op_geq rfl rfl) rfl ?_
      refine lx (op_pick_or rfl rfl) rfl ?_
      refine lx (op_move rfl) rfl ?_
      refine lxs rfl rfl rfl guard_eq (.cons (t := 9) rfl (fun _ => Ent.refl _) .nil) (op_fieldAddr rfl fl47_1 sz33) rfl ?_
      refine lxs rfl rfl rfl guard_eq (.cons (t := 104) rfl (fun h => entW h) .nil) (op_bload_one (m := 9) rfl rfl ag33 rfl) rfl ?_
      first | refine lxs rfl rfl rfl guard_eq (.cons (t := 105) rfl (fun h => entW h) .nil) (op_len rfl el33) rfl ?_ | refine lxs rfl rfl rfl guard_eq (.cons (t := 105) rfl (fun h => entW h) .nil) (op_len_row rfl el33) rfl ?_ | refine lxs rfl rfl rfl guard_eq (.cons (t := 105) rfl (fun h => entW h) .nil) (op_len_mv rfl el33) rfl ?_ | refine lxs rfl rfl rfl guard_eq (.cons (t := 105) rfl (fun h => entW h) .nil) (op_len_nil rfl el33) rfl ?_
      refine lxs rfl rfl rfl guard_eq (.cons (t := 3) rfl (fun _ => Ent.refl _) .nil) (op_fieldAddr rfl fl26_0 sz22) rfl ?_
      refine lxs rfl rfl rfl guard_eq (.cons (t := 107) rfl (fun h => entW h) .nil) (op_bload_one (m := 3) rfl rfl ag22 rfl) rfl ?_
      refine lxs rfl rfl rfl guard_eq (.cons (t := 9) rfl (fun _ => Ent.refl _) .nil) (op_fieldAddr rfl fl47_0 sz3) rfl ?_
      refine lxs rfl rfl rfl guard_eq (.cons (t := 109) rfl (fun h => entW h) .nil) (op_bload_one (m := 9) rfl rfl ag3 rfl) rfl ?_
      refine lxsc (rd := [(108, slP Fu.ps 4 p.funcs), (110, eqP (.int .i64 f.defers[k].fn))]) (φ := cellsP (pfn p f.defers[k].fn).ps) rfl rfl rfl guard_eq (.cons (t := 108) rfl (fun h => entW h) (.cons (t := 110) rfl (fun h => entW h) .nil)) (fun hgd => ?_) rfl rfl ?_
      ·have hq0 : 0 ≤ f.defers[k].fn ∧ f.defers[k].fn < (p.funcs.length : Int) := by
        simp at hgd
        omega
       exact op_index rfl rfl el22 sz66 (by omega : f.defers[k].fn = ((f.defers[k].fn.toNat : Nat) : Int)) (pfn_at (by omega) (by omega))
      first | refine lxs rfl rfl rfl guard_eq (.cons (t := 111) rfl (fun h => entW h) .nil) (op_fieldAddr rfl fl66_1 sz3) rfl ?_ | refine lxs rfl rfl rfl guard_eq (.cons (t := 111) rfl (fun h => entW h) .nil) (op_fieldCells rfl fl66_1 sz3) rfl ?_
      first | refine lxs rfl rfl rfl guard_eq (.cons (t := 112) rfl (fun h => entW h) .nil) (op_load_one rfl ag3 rfl) rfl ?_ | refine lxs rfl rfl rfl guard_eq (.cons (t := 112) rfl (fun h => entW h) .nil) (op_bload_one (m := 3) rfl rfl ag3 rfl) rfl ?_ | refine lxs rfl rfl rfl guard_eq (.cons (t := 112) rfl (fun h => entW h) .nil) (op_bload_one (m := 9) rfl rfl ag3 rfl) rfl ?_
      refine lxs rfl rfl rfl guard_eq (.cons (t := 106) rfl (fun h => entW h) (.cons (t := 113) rfl (fun h => entW h) .nil)) (op_neq rfl rfl) rfl ?_
      refine lx (op_pick_or rfl rfl) rfl ?_
      refine lx (op_move rfl) rfl ?_
      refine lxs rfl rfl rfl guard_eq (.cons (t := 9) rfl (fun _ => Ent.refl _) .nil) (op_fieldAddr rfl fl47_1 sz33) rfl ?_
      refine lxs rfl rfl rfl guard_eq (.cons (t := 117) rfl (fun h => entW h) .nil) (op_bload_one (m := 9) rfl rfl ag33 rfl) rfl ?_
      first | refine lxs rfl rfl rfl guard_eq (.cons (t := 118) rfl (fun h => entW h) .nil) (op_call (l := [(Go.Operand.tmp 118)]) (values_ok f.defers[k].args (by have := hb.args f.defers[k] (List.getElem_mem ..); omega)) (.cons rfl .nil) fn44) rfl ?_ | refine lxs rfl rfl rfl guard_eq (.cons (t := 118) rfl (fun h => entW h) .nil) (op_call (l := [(Go.Operand.tmp 118)]) (values_ok f.defers[k].args (by have := hb.args f.defers[k] (List.getElem_mem ..); omega)) (.ent rfl (by exact ent_auto) .nil) fn44) rfl ?_
      first | refine lxs rfl rfl rfl guard_eq (.cons (t := 119) rfl (fun h => entW h) .nil) (op_not rfl) rfl ?_ | refine lxs rfl rfl rfl guard_eq (.cons (t := 119) rfl (fun h => entW h) .nil) (op_not_b rfl) rfl ?_
      refine lx (op_pick_or rfl rfl) rfl ?_
      refine lx_end ⟨by kernel_rfl, ?_⟩
      refine pe_then_normal ?_
      refine tr_sub hC (.cons (t := 3) rfl (.cons (t := 86) rfl (.cons (t := 87) rfl (.cons (t := 88) rfl (.cons (t := 121) rfl .nil))))) (.cons (t := 3) rfl .nil) rfl ?_
      refine tr_cond rfl (fun h121 => ?_) (fun h121 => ?_)
      ·have hno := frm_no4 (p := p) (b := (some h)) (all_bad (φ := defOK p) (by omega : k < f.defers.length) (def_no h121))
       refine tr_seq ?_
       refine tr_region (fun N12 hN => ?_)
       refine lx (op_assign rfl) rfl ?_
       refine lx_end ⟨by kernel_rfl, ?_⟩
       refine pe_then_normal ?_
       refine tr_sub hC (.cons (t := 6) rfl .nil) .nil rfl ?_
       refine tr_ret ?_
       refine pe_block_ret ?_
       refine pe_then_ret ?_
       refine pe_then_ret ?_
       refine pe_block_ret ?_
       refine pe_then_ret ?_
       refine pe_ret1 rfl hO rfl (.tmp rfl .nil) ?_
       rw [hno]
       exact ent_auto
      ·have hdy := def_yes h121
       refine tr_skip ?_
       refine pe_block_normal ?_
       refine pe_then_normal ?_
       refine tr_sub hC (.cons (t := 3) rfl (.cons (t := 86) rfl (.cons (t := 87) rfl (.cons (t := 88) rfl .nil)))) (.cons (t := 3) rfl .nil) rfl ?_
       refine tr_region (fun N13 hN => ?_)
       refine lx (op_add rfl rfl (by omega)) rfl ?_
       refine lx (op_move rfl) rfl ?_
       refine lx_end ⟨by kernel_rfl, ?_⟩
       refine pe_round (⟨(k + 1), by omega, all_step (φ := defOK p) hk2 (by omega) hdy⟩) (by dsimp only; omega) (pe_st hC ?_ ?_ rfl)
       ·try dsimp only [List.cons_append, List.nil_append]
        first | refine SubF.cons rfl ?_ | (refine SubF.ent rfl ?_ ?_; · exact ent_auto)
        first | refine SubF.cons rfl ?_ | (refine SubF.ent rfl ?_ ?_; · exact ent_auto)
        first | refine SubF.cons rfl ?_ | (refine SubF.ent rfl ?_ ?_; · exact ent_auto)
        first | refine SubF.cons rfl ?_ | (refine SubF.ent rfl ?_ ?_; · exact ent_auto)
        exact SubF.nil
       ·try dsimp only [List.cons_append, List.nil_append]
        repeat (first | exact SubL.nil | refine SubL.cons rfl ?_)
     ·(try simp only [cq1, cq2, cq3, cq4, cq5, cq6, cq7, cq8, cq9, cq10, cq11, cq12, cq13] at h89)
      have hfin := frm_yes h1 h2 h3 (all_end hk2 (by omega))
      refine tr_exit ?_
      refine pe_then_exit ?_
      refine pe_then_exit ?_
      refine pe_block_eq ?_
      refine pe_then_normal ?_
      refine tr_sub hC .nil .nil rfl ?_
      refine tr_seq ?_
      refine tr_region (fun N14 hN => ?_)
      refine lx (op_assign rfl) rfl ?_
      refine lx_end ⟨by kernel_rfl, ?_⟩
      refine pe_then_normal ?_
      refine tr_sub hC (.cons (t := 6) rfl .nil) .nil rfl ?_
      refine tr_ret ?_
      refine pe_ret1 rfl hO rfl (.tmp rfl .nil) ?_
      rw [hfin]
      exact ent_auto
theorem frame_ok (p : Pg) (f : Fm) (hb : BdF 9223372036854775807 f) (b : Option Fm) : FnP Try.prog 37 [aggP p.ps, aggP f.ps, belP b] (eqP (.bool (frmOK p b f))) := by
 cases b with
 | none => exact frame_nil p f hb
 | some h => exact frame_some p f hb h
theorem Valid_ok (p : Pg) (g : Gr) (hb : BdG 9223372036854775807 g) : FnP Try.prog 14 [aggP p.ps, aggP g.ps] (eqP (.bool (validG p g))) := by
 refine fn_pure' Try.func14 rfl Try.ntmps14 rfl ?_
 intro σ0 M ex Rf R hC hO
 simp only [frameOf, tokOf]
 refine tr_seq ?_
 refine tr_region (fun N0 hN => ?_)
 refine lxn (op_box (m := 2) (k := 2) rfl (.agg rfl) (by first | exact hC.low _ (by decide) | rfl)) rfl ?_
 refine lxn (op_box (m := 3) (k := 3) rfl (.agg rfl) (by first | exact hC.low _ (by decide) | rfl)) rfl ?_
 refine lx (op_assign rfl) rfl ?_
 refine lx_end ⟨by kernel_rfl, ?_⟩
 refine pe_then_normal ?_
 refine tr_sub hC (.cons (t := 2) rfl (.cons (t := 3) rfl .nil)) (.cons (t := 2) rfl (.cons (t := 3) rfl .nil)) rfl ?_
 refine tr_seq ?_
 refine tr_block ?_
 refine tr_seq ?_
 refine tr_region (fun N1 hN => ?_)
 refine lx (op_fieldAddr rfl fl29_0 sz3) rfl ?_
 refine lx (op_bload_one (m := 3) rfl rfl ag3 rfl) rfl ?_
 refine lx (op_lss rfl rfl) rfl ?_
 refine lx (op_move rfl) rfl ?_
 refine lxs rfl rfl rfl guard_eq (.cons (t := 3) rfl (fun _ => Ent.refl _) .nil) (op_fieldAddr rfl fl29_0 sz3) rfl ?_
 refine lxs rfl rfl rfl guard_eq (.cons (t := 12) rfl (fun h => entW h) .nil) (op_bload_one (m := 3) rfl rfl ag3 rfl) rfl ?_
 refine lxs rfl rfl rfl guard_eq (.cons (t := 13) rfl (fun h => entW h) .nil) (op_gtr rfl rfl) rfl ?_
 refine lx (op_pick_or rfl rfl) rfl ?_
 refine lx (op_move rfl) rfl ?_
 refine lxs rfl rfl rfl guard_eq (.cons (t := 3) rfl (fun _ => Ent.refl _) .nil) (op_fieldAddr rfl fl29_1 sz3) rfl ?_
 refine lxs rfl rfl rfl guard_eq (.cons (t := 17) rfl (fun h => entW h) .nil) (op_bload_one (m := 3) rfl rfl ag3 rfl) rfl ?_
 refine lxs rfl rfl rfl guard_eq (.cons (t := 18) rfl (fun h => entW h) .nil) (op_lss rfl rfl) rfl ?_
 refine lx (op_pick_or rfl rfl) rfl ?_
 refine lx (op_move rfl) rfl ?_
 refine lxs rfl rfl rfl guard_eq (.cons (t := 3) rfl (fun _ => Ent.refl _) .nil) (op_fieldAddr rfl fl29_1 sz3) rfl ?_
 refine lxs rfl rfl rfl guard_eq (.cons (t := 22) rfl (fun h => entW h) .nil) (op_bload_one (m := 3) rfl rfl ag3 rfl) rfl ?_
 refine lxs rfl rfl rfl guard_eq (.cons (t := 23) rfl (fun h => entW h) .nil) (op_gtr rfl rfl) rfl ?_
 refine lx (op_pick_or rfl rfl) rfl ?_
 refine lx (op_assign rfl) rfl ?_
 refine lx_end ⟨by kernel_rfl, ?_⟩
 refine pe_then_normal ?_
 refine tr_sub hC (.cons (t := 2) rfl (.cons (t := 3) rfl (.cons (t := 7) rfl .nil))) (.cons (t := 2) rfl (.cons (t := 3) rfl .nil)) rfl ?_
 refine tr_cond rfl (fun h7 => ?_) (fun h7 => ?_)
 ·(try simp only [cq1, cq2, cq3, cq4, cq5, cq6, cq7, cq8, cq9, cq10, cq11, cq12, cq13] at h7)
  have hbad := valid_hdr (p := p) (hdr_no (g := g) (by omega))
  refine tr_seq ?_
  refine tr_region (fun N2 hN => ?_)
  refine lx (op_assign rfl) rfl ?_
  refine lx_end ⟨by kernel_rfl, ?_⟩
  refine pe_then_normal ?_
  refine tr_sub hC (.cons (t := 4) rfl .nil) .nil rfl ?_
  refine tr_ret ?_
  refine pe_block_ret ?_
  refine pe_then_ret ?_
  refine pe_ret1 rfl hO rfl (.tmp rfl .nil) ?_
  rw [hbad]
  exact ent_auto
 ·(try simp only [cq1, cq2, cq3, cq4, cq5, cq6, cq7, cq8, cq9, cq10, cq11, cq12, cq13] at h7)
  refine tr_seq ?_
  refine tr_region (fun N3 hN => ?_)
  refine lx (op_fieldAddr rfl fl29_0 sz3) rfl ?_
  refine lx (op_bload_one (m := 3) rfl rfl ag3 rfl) rfl ?_
  refine lx (op_eql rfl rfl) rfl ?_
  refine lx (op_fieldAddr rfl fl29_1 sz3) rfl ?_
  refine lx (op_bload_one (m := 3) rfl rfl ag3 rfl) rfl ?_
  refine lx (op_neq rfl rfl) rfl ?_
  refine lx (op_neq_bool bo4 rfl rfl) rfl ?_
  refine lx (op_move rfl) rfl ?_
  refine lxs rfl rfl rfl guard_eq (.cons (t := 3) rfl (fun _ => Ent.refl _) .nil) (op_fieldAddr rfl fl29_0 sz3) rfl ?_
  refine lxs rfl rfl rfl guard_eq (.cons (t := 35) rfl (fun h => entW h) .nil) (op_bload_one (m := 3) rfl rfl ag3 rfl) rfl ?_
  refine lxs rfl rfl rfl guard_eq (.cons (t := 36) rfl (fun h => entW h) .nil) (op_eql rfl rfl) rfl ?_
  refine lxs rfl rfl rfl guard_eq (.cons (t := 3) rfl (fun _ => Ent.refl _) .nil) (op_fieldAddr rfl fl29_3 sz27) rfl ?_
  refine lxs rfl rfl rfl guard_eq (.cons (t := 38) rfl (fun h => entW h) .nil) (op_bload_one (m := 3) rfl rfl ag27 rfl) rfl ?_
  first | refine lxs rfl rfl rfl guard_eq (.cons (t := 39) rfl (fun h => entW h) .nil) (op_len rfl el27) rfl ?_ | refine lxs rfl rfl rfl guard_eq (.cons (t := 39) rfl (fun h => entW h) .nil) (op_len_row rfl el27) rfl ?_ | refine lxs rfl rfl rfl guard_eq (.cons (t := 39) rfl (fun h => entW h) .nil) (op_len_mv rfl el27) rfl ?_ | refine lxs rfl rfl rfl guard_eq (.cons (t := 39) rfl (fun h => entW h) .nil) (op_len_nil rfl el27) rfl ?_
  refine lxs rfl rfl rfl guard_eq (.cons (t := 40) rfl (fun h => entW h) .nil) (op_eql rfl rfl) rfl ?_
  refine lxs rfl rfl rfl guard_eq (.cons (t := 37) rfl (fun h => entW h) (.cons (t := 41) rfl (fun h => entW h) .nil)) (op_neq_bool bo4 rfl rfl) rfl ?_
  refine lx (op_pick_or rfl rfl) rfl ?_
  refine lx (op_assign rfl) rfl ?_
  refine lx_end ⟨by kernel_rfl, ?_⟩
  refine pe_then_normal ?_
  refine tr_sub hC (.cons (t := 2) rfl (.cons (t := 3) rfl (.cons (t := 26) rfl .nil))) (.cons (t := 2) rfl (.cons (t := 3) rfl .nil)) rfl ?_
  refine tr_cond rfl (fun h26 => ?_) (fun h26 => ?_)
  ·have hbad := valid_hdr (p := p) (hdr_no (g := g) (fun hh => two_no h26 ⟨hh.2.2.2.2.1, hh.2.2.2.2.2.1⟩))
   refine tr_seq ?_
   refine tr_region (fun N4 hN => ?_)
   refine lx (op_assign rfl) rfl ?_
   refine lx_end ⟨by kernel_rfl, ?_⟩
   refine pe_then_normal ?_
   refine tr_sub hC (.cons (t := 4) rfl .nil) .nil rfl ?_
   refine tr_ret ?_
   refine pe_block_ret ?_
   refine pe_then_ret ?_
   refine pe_ret1 rfl hO rfl (.tmp rfl .nil) ?_
   rw [hbad]
   exact ent_auto
  ·have htw := two_iff h26
   refine tr_seq ?_
   refine tr_region (fun N5 hN => ?_)
   refine lx (op_fieldAddr rfl fl29_2 sz3) rfl ?_
   refine lx (op_bload_one (m := 3) rfl rfl ag3 rfl) rfl ?_
   refine lx (op_lss rfl rfl) rfl ?_
   refine lx (op_move rfl) rfl ?_
   refine lxs rfl rfl rfl guard_eq (.cons (t := 3) rfl (fun _ => Ent.refl _) .nil) (op_fieldAddr rfl fl29_2 sz3) rfl ?_
   refine lxs rfl rfl rfl guard_eq (.cons (t := 49) rfl (fun h => entW h) .nil) (op_bload_one (m := 3) rfl rfl ag3 rfl) rfl ?_
   refine lxs rfl rfl rfl guard_eq (.cons (t := 50) rfl (fun h => entW h) .nil) (op_gtr rfl rfl) rfl ?_
   refine lx (op_pick_or rfl rfl) rfl ?_
   refine lx (op_move rfl) rfl ?_
   refine lxs rfl rfl rfl guard_eq (.cons (t := 3) rfl (fun _ => Ent.refl _) .nil) (op_fieldAddr rfl fl29_3 sz27) rfl ?_
   refine lxs rfl rfl rfl guard_eq (.cons (t := 54) rfl (fun h => entW h) .nil) (op_bload_one (m := 3) rfl rfl ag27 rfl) rfl ?_
   first | refine lxs rfl rfl rfl guard_eq (.cons (t := 55) rfl (fun h => entW h) .nil) (op_len rfl el27) rfl ?_ | refine lxs rfl rfl rfl guard_eq (.cons (t := 55) rfl (fun h => entW h) .nil) (op_len_row rfl el27) rfl ?_ | refine lxs rfl rfl rfl guard_eq (.cons (t := 55) rfl (fun h => entW h) .nil) (op_len_mv rfl el27) rfl ?_ | refine lxs rfl rfl rfl guard_eq (.cons (t := 55) rfl (fun h => entW h) .nil) (op_len_nil rfl el27) rfl ?_
   refine lxs rfl rfl rfl guard_eq (.cons (t := 56) rfl (fun h => entW h) .nil) (op_gtr rfl rfl) rfl ?_
   refine lx (op_pick_or rfl rfl) rfl ?_
   refine lx (op_assign rfl) rfl ?_
   refine lx_end ⟨by kernel_rfl, ?_⟩
   refine pe_then_normal ?_
   refine tr_sub hC (.cons (t := 2) rfl (.cons (t := 3) rfl (.cons (t := 44) rfl .nil))) (.cons (t := 2) rfl (.cons (t := 3) rfl .nil)) rfl ?_
   refine tr_cond rfl (fun h44 => ?_) (fun h44 => ?_)
   ·(try simp only [cq1, cq2, cq3, cq4, cq5, cq6, cq7, cq8, cq9, cq10, cq11, cq12, cq13] at h44)
    have hbad := valid_hdr (p := p) (hdr_no (g := g) (by omega))
    refine tr_seq ?_
    refine tr_region (fun N6 hN => ?_)
    refine lx (op_assign rfl) rfl ?_
    refine lx_end ⟨by kernel_rfl, ?_⟩
    refine pe_then_normal ?_
    refine tr_sub hC (.cons (t := 4) rfl .nil) .nil rfl ?_
    refine tr_ret ?_
    refine pe_block_ret ?_
    refine pe_then_ret ?_
    refine pe_ret1 rfl hO rfl (.tmp rfl .nil) ?_
    rw [hbad]
    exact ent_auto
   ·(try simp only [cq1, cq2, cq3, cq4, cq5, cq6, cq7, cq8, cq9, cq10, cq11, cq12, cq13] at h44)
    have hyes : hdrOK g = true := hdr_yes ⟨by omega, by omega, by omega, by omega, htw.1, htw.2, by omega, by omega, by omega⟩
    have hvg := valid_frs (p := p) hyes
    refine tr_skip ?_
    refine pe_block_normal ?_
    refine pe_then_normal ?_
    refine tr_sub hC (.cons (t := 2) rfl (.cons (t := 3) rfl .nil)) (.cons (t := 2) rfl (.cons (t := 3) rfl .nil)) rfl ?_
    refine tr_seq ?_
    refine tr_region (fun N7 hN => ?_)
    refine lx (op_assign rfl) rfl ?_
    refine lx_end ⟨by kernel_rfl, ?_⟩
    refine pe_then_normal ?_
    refine tr_sub hC (.cons (t := 2) rfl (.cons (t := 3) rfl (.cons (t := 5) rfl .nil))) (.cons (t := 2) rfl (.cons (t := 3) rfl .nil)) rfl ?_
    refine tr_seq ?_
    refine tr_seq ?_
    refine tr_region (fun N8 hN => ?_)
    refine lx (op_fieldAddr rfl fl29_3 sz27) rfl ?_
    refine lx (op_bload_one (m := 3) rfl rfl ag27 rfl) rfl ?_
    first | refine lx (op_len rfl el27) rfl ?_ | refine lx (op_len_row rfl el27) rfl ?_ | refine lx (op_len_mv rfl el27) rfl ?_ | refine lx (op_len_nil rfl el27) rfl ?_
    refine lx (op_move rfl) rfl ?_
    refine lx_end ⟨by kernel_rfl, ?_⟩
    refine pe_then_normal ?_
    refine tr_sub hC (.cons (t := 2) rfl (.cons (t := 3) rfl (.cons (t := 5) rfl (.cons (t := 61) rfl (.cons (t := 62) rfl .nil))))) (.cons (t := 2) rfl (.cons (t := 3) rfl .nil)) rfl ?_
    refine tr_block ?_
    refine tr_sub hC (.cons (t := 2) rfl (.cons (t := 3) rfl (.ent (t := 5) rfl ((show Ent (eqP (.pointer none)) (belP (prvF g.frames 0)) from Ent.refl _)) (.cons (t := 61) rfl (.cons (t := 62) rfl .nil))))) (.cons (t := 2) rfl (.cons (t := 3) rfl .nil)) rfl ?_
    refine tr_loopK (α := {zz : Nat // zz ≤ g.frames.length ∧ frsOK p (prvF g.frames zz) (g.frames.drop zz) = frsOK p none g.frames}) (⟨(0), Nat.zero_le _, rfl⟩) (fun zz => [(5, belP (prvF g.frames zz.1)), (62, eqP (.int .i64 (zz.1 : Int)))]) (fun zz => []) (fun zz => g.frames.length - zz.1) hC (.cons (t := 2) rfl (.cons (t := 3) rfl (.cons (t := 61) rfl .nil))) (.cons (t := 2) rfl (.cons (t := 3) rfl .nil)) rfl ?_ ?_ (fun zz => ?_)
    ·try dsimp only [List.cons_append, List.nil_append]
     first | refine SubF.cons rfl ?_ | (refine SubF.ent rfl ?_ ?_; · exact ent_auto)
     first | refine SubF.cons rfl ?_ | (refine SubF.ent rfl ?_ ?_; · exact ent_auto)
     exact SubF.nil
    ·try dsimp only [List.cons_append, List.nil_append]
     repeat (first | exact SubL.nil | refine SubL.cons rfl ?_)
    ·obtain ⟨k, hk1, hk2⟩ := zz
     dsimp only [List.cons_append, List.nil_append]
     refine tr_seq ?_
     refine tr_region (fun N9 hN => ?_)
     refine lx (op_lss rfl rfl) rfl ?_
     refine lx_end ⟨by kernel_rfl, ?_⟩
     refine pe_then_normal ?_
     refine tr_sub hC (.cons (t := 2) rfl (.cons (t := 3) rfl (.cons (t := 5) rfl (.cons (t := 61) rfl (.cons (t := 62) rfl (.cons (t := 63) rfl .nil)))))) (.cons (t := 2) rfl (.cons (t := 3) rfl .nil)) rfl ?_
     refine tr_seq ?_
     refine tr_cond rfl (fun h63 => ?_) (fun h63 => ?_)
     ·(try simp only [cq1, cq2, cq3, cq4, cq5, cq6, cq7, cq8, cq9, cq10, cq11, cq12, cq13] at h63)
      refine tr_skip ?_
      refine pe_then_normal ?_
      refine tr_sub hC (.cons (t := 2) rfl (.cons (t := 3) rfl (.cons (t := 5) rfl (.cons (t := 61) rfl (.cons (t := 62) rfl .nil))))) (.cons (t := 2) rfl (.cons (t := 3) rfl .nil)) rfl ?_
      refine tr_seq ?_
      refine tr_block ?_
      refine tr_seq ?_
      refine tr_region (fun N10 hN => ?_)
      refine lx (op_move rfl) rfl ?_
      refine lx (op_assign rfl) rfl ?_
      refine lx_end ⟨by kernel_rfl, ?_⟩
      refine pe_then_normal ?_
      refine tr_sub hC (.cons (t := 2) rfl (.cons (t := 3) rfl (.cons (t := 5) rfl (.cons (t := 6) rfl (.cons (t := 61) rfl (.cons (t := 62) rfl .nil)))))) (.cons (t := 2) rfl (.cons (t := 3) rfl .nil)) rfl ?_
      refine tr_seq ?_
      refine tr_seq ?_
      refine tr_drawn mixed (fun N11 hN => ?_)
      refine lx (op_bload (m := 2) rfl rfl ag26 sz26) rfl ?_
      refine lx (op_fieldAddr rfl fl29_3 sz27) rfl ?_
      refine lx (op_bload_one (m := 3) rfl rfl ag27 rfl) rfl ?_
      refine lx (op_move rfl) rfl ?_
      refine lx (op_index rfl rfl el27 sz60 rfl (List.getElem?_eq_getElem (by omega : k < g.frames.length))) rfl ?_
      first | refine lx (op_load_all rfl ag60 sz60) rfl ?_ | refine lx (op_load_agg rfl ag60 sz60 rfl) rfl ?_ | refine lx (op_bload (m := 2) rfl rfl ag60 sz60) rfl ?_ | refine lx (op_bload (m := 3) rfl rfl ag60 sz60) rfl ?_ | refine lx (op_bload_part (m := 2) (qs := [_, _, _, _, _, _, _, _, _]) rfl rfl ag60 sz60 rfl rfl) rfl ?_ | refine lx (op_bload_part (m := 3) (qs := [_, _, _, _, _, _, _, _, _]) rfl rfl ag60 sz60 rfl rfl) rfl ?_
      refine lx (op_move rfl) rfl ?_
      first | refine lx (op_call (l := [(Go.Operand.tmp 65), (Go.Operand.tmp 70), (Go.Operand.tmp 71)]) (frame_ok p g.frames[k] (hb.each _ (List.getElem_mem ..)) (prvF g.frames k)) (.cons rfl (.cons rfl (.cons rfl .nil))) fn37) rfl ?_ | refine lx (op_call (l := [(Go.Operand.tmp 65), (Go.Operand.tmp 70), (Go.Operand.tmp 71)]) (frame_ok p g.frames[k] (hb.each _ (List.getElem_mem ..)) (prvF g.frames k)) (.ent rfl (by exact ent_auto) (.ent rfl (by exact ent_auto) (.ent rfl (by exact ent_auto) .nil))) fn37) rfl ?_
      first | refine lx (op_not rfl) rfl ?_ | refine lx (op_not_b rfl) rfl ?_
      refine lx_end ⟨by kernel_rfl, ?_⟩
      refine pe_then_normal ?_
      refine tr_sub hC (.cons (t := 2) rfl (.cons (t := 3) rfl (.cons (t := 6) rfl (.cons (t := 61) rfl (.cons (t := 62) rfl (.cons (t := 73) rfl .nil)))))) (.cons (t := 2) rfl (.cons (t := 3) rfl .nil)) rfl ?_
      refine tr_cond rfl (fun h73 => ?_) (fun h73 => ?_)
      ·(try simp only [cq1, cq2, cq3, cq4, cq5, cq6, cq7, cq8, cq9, cq10, cq11, cq12, cq13] at h73)
       have hbad := hvg.trans (frs_bad (by omega) hk2 h73)
       refine tr_seq ?_
       refine tr_region (fun N12 hN => ?_)
       refine lx (op_assign rfl) rfl ?_
       refine lx_end ⟨by kernel_rfl, ?_⟩
       refine pe_then_normal ?_
       refine tr_sub hC (.cons (t := 4) rfl .nil) .nil rfl ?_
       refine tr_ret ?_
       refine pe_then_ret ?_
       refine pe_block_ret ?_
       refine pe_then_ret ?_
       refine pe_then_ret ?_
       refine pe_block_ret ?_
       refine pe_then_ret ?_
       refine pe_ret1 rfl hO rfl (.tmp rfl .nil) ?_
       rw [hbad]
       exact ent_auto
      ·(try simp only [cq1, cq2, cq3, cq4, cq5, cq6, cq7, cq8, cq9, cq10, cq11, cq12, cq13] at h73)
       have hgo := frs_next (by omega) hk2 h73
       refine tr_skip ?_
       refine pe_then_normal ?_
       refine tr_sub hC (.cons (t := 2) rfl (.cons (t := 3) rfl (.cons (t := 6) rfl (.cons (t := 61) rfl (.cons (t := 62) rfl .nil))))) (.cons (t := 2) rfl (.cons (t := 3) rfl .nil)) rfl ?_
       refine tr_region (fun N13 hN => ?_)
       refine lx (op_fieldAddr rfl fl29_3 sz27) rfl ?_
       refine lx (op_bload_one (m := 3) rfl rfl ag27 rfl) rfl ?_
       refine lx (op_move rfl) rfl ?_
       refine lx (op_index rfl rfl el27 sz60 rfl (List.getElem?_eq_getElem (by omega : k < g.frames.length))) rfl ?_
       refine lx (op_assign rfl) rfl ?_
       refine lx_end ⟨by kernel_rfl, ?_⟩
       refine pe_block_normal ?_
       refine pe_then_normal ?_
       refine tr_sub hC (.cons (t := 2) rfl (.cons (t := 3) rfl (.cons (t := 5) rfl (.cons (t := 61) rfl (.cons (t := 62) rfl .nil))))) (.cons (t := 2) rfl (.cons (t := 3) rfl .nil)) rfl ?_
       have hbel : Ent (cellsP g.frames[k].ps) (belP (prvF g.frames (k + 1))) := by rw [prvF_succ (by omega)]; exact Ent.refl _
       refine tr_sub hC (.cons (t := 2) rfl (.cons (t := 3) rfl (.ent (t := 5) rfl (hbel) (.cons (t := 61) rfl (.cons (t := 62) rfl .nil))))) (.cons (t := 2) rfl (.cons (t := 3) rfl .nil)) rfl ?_
       refine tr_region (fun N14 hN => ?_)
       refine lx (op_add rfl rfl (by omega)) rfl ?_
       refine lx (op_move rfl) rfl ?_
       refine lx_end ⟨by kernel_rfl, ?_⟩
       refine pe_round (⟨(k + 1), by omega, hgo⟩) (by dsimp only; omega) (pe_st hC ?_ ?_ rfl)
       ·try dsimp only [List.cons_append, List.nil_append]
        first | refine SubF.cons rfl ?_ | (refine SubF.ent rfl ?_ ?_; · exact ent_auto)
        first | refine SubF.cons rfl ?_ | (refine SubF.ent rfl ?_ ?_; · exact ent_auto)
        first | refine SubF.cons rfl ?_ | (refine SubF.ent rfl ?_ ?_; · exact ent_auto)
        first | refine SubF.cons rfl ?_ | (refine SubF.ent rfl ?_ ?_; · exact ent_auto)
        first | refine SubF.cons rfl ?_ | (refine SubF.ent rfl ?_ ?_; · exact ent_auto)
        exact SubF.nil
       ·try dsimp only [List.cons_append, List.nil_append]
        repeat (first | exact SubL.nil | refine SubL.cons rfl ?_)
     ·(try simp only [cq1, cq2, cq3, cq4, cq5, cq6, cq7, cq8, cq9, cq10, cq11, cq12, cq13] at h63)
      have hfin := hvg.trans (frs_end (by omega) hk2)
      refine tr_exit ?_
      refine pe_then_exit ?_
      refine pe_then_exit ?_
      refine pe_block_eq ?_
      refine pe_then_normal ?_
      refine tr_sub hC .nil .nil rfl ?_
      refine tr_seq ?_
      refine tr_region (fun N15 hN => ?_)
      refine lx (op_assign rfl) rfl ?_
      refine lx_end ⟨by kernel_rfl, ?_⟩
      refine pe_then_normal ?_
      refine tr_sub hC (.cons (t := 4) rfl .nil) .nil rfl ?_
      refine tr_ret ?_
      refine pe_ret1 rfl hO rfl (.tmp rfl .nil) ?_
      rw [hfin]
      exact ent_auto
end Go.Proofs.Ythiknhmoefbanaa


set_option linter.unusedVariables false
set_option linter.unusedSimpArgs false
namespace Go.Proofs.Ythiknhmoefbanaa
open Go.AL Go.Ch Go.Hp Go.RowKit
theorem fn33 : fnB Try.prog 33 = true := by kernel_rfl
theorem rValid_ok (p : Pg) (g : Gr) (hb : BdG 9223372036854775807 g) : FnP Try.prog 15 [aggP p.ps, aggP g.ps] (eqP (.bool (validG p g))) := by
 have hbf := hb.frames
 refine fn_pure' Try.func15 rfl Try.ntmps15 rfl ?_
 intro σ0 M ex Rf R hC hO
 simp only [frameOf, tokOf]
 refine tr_seq ?_
 refine tr_region (fun N0 hN => ?_)
 refine lxn (op_box (m := 2) (k := 2) rfl (.agg rfl) (by first | exact hC.low _ (by decide) | rfl)) rfl ?_
 refine lxn (op_box (m := 3) (k := 3) rfl (.agg rfl) (by first | exact hC.low _ (by decide) | rfl)) rfl ?_
 refine lx (op_assign rfl) rfl ?_
 refine lx_end ⟨by kernel_rfl, ?_⟩
 refine pe_then_normal ?_
 refine tr_sub hC (.cons (t := 2) rfl (.cons (t := 3) rfl .nil)) (.cons (t := 2) rfl (.cons (t := 3) rfl .nil)) rfl ?_
 refine tr_seq ?_
 refine tr_seq ?_
 refine tr_region (fun N1 hN => ?_)
 refine lx (op_fieldAddr rfl fl29_0 sz3) rfl ?_
 refine lx (op_bload_one (m := 3) rfl rfl ag3 rfl) rfl ?_
 refine lx (op_lss rfl rfl) rfl ?_
 refine lx (op_move rfl) rfl ?_
 refine lxs rfl rfl rfl guard_eq (.cons (t := 3) rfl (fun _ => Ent.refl _) .nil) (op_fieldAddr rfl fl29_0 sz3) rfl ?_
 refine lxs rfl rfl rfl guard_eq (.cons (t := 13) rfl (fun h => entW h) .nil) (op_bload_one (m := 3) rfl rfl ag3 rfl) rfl ?_
 refine lxs rfl rfl rfl guard_eq (.cons (t := 14) rfl (fun h => entW h) .nil) (op_gtr rfl rfl) rfl ?_
 refine lx (op_pick_or rfl rfl) rfl ?_
 refine lx (op_move rfl) rfl ?_
 refine lxs rfl rfl rfl guard_eq (.cons (t := 3) rfl (fun _ => Ent.refl _) .nil) (op_fieldAddr rfl fl29_1 sz3) rfl ?_
 refine lxs rfl rfl rfl guard_eq (.cons (t := 18) rfl (fun h => entW h) .nil) (op_bload_one (m := 3) rfl rfl ag3 rfl) rfl ?_
 refine lxs rfl rfl rfl guard_eq (.cons (t := 19) rfl (fun h => entW h) .nil) (op_lss rfl rfl) rfl ?_
 refine lx (op_pick_or rfl rfl) rfl ?_
 refine lx (op_move rfl) rfl ?_
 refine lxs rfl rfl rfl guard_eq (.cons (t := 3) rfl (fun _ => Ent.refl _) .nil) (op_fieldAddr rfl fl29_1 sz3) rfl ?_
 refine lxs rfl rfl rfl guard_eq (.cons (t := 23) rfl (fun h => entW h) .nil) (op_bload_one (m := 3) rfl rfl ag3 rfl) rfl ?_
 refine lxs rfl rfl rfl guard_eq (.cons (t := 24) rfl (fun h => entW h) .nil) (op_gtr rfl rfl) rfl ?_
 refine lx (op_pick_or rfl rfl) rfl ?_
 refine lx (op_move rfl) rfl ?_
 refine lxs rfl rfl rfl guard_eq (.cons (t := 3) rfl (fun _ => Ent.refl _) .nil) (op_fieldAddr rfl fl29_0 sz3) rfl ?_
 refine lxs rfl rfl rfl guard_eq (.cons (t := 28) rfl (fun h => entW h) .nil) (op_bload_one (m := 3) rfl rfl ag3 rfl) rfl ?_
 refine lxs rfl rfl rfl guard_eq (.cons (t := 29) rfl (fun h => entW h) .nil) (op_eql rfl rfl) rfl ?_
 refine lxs rfl rfl rfl guard_eq (.cons (t := 3) rfl (fun _ => Ent.refl _) .nil) (op_fieldAddr rfl fl29_1 sz3) rfl ?_
 refine lxs rfl rfl rfl guard_eq (.cons (t := 31) rfl (fun h => entW h) .nil) (op_bload_one (m := 3) rfl rfl ag3 rfl) rfl ?_
 refine lxs rfl rfl rfl guard_eq (.cons (t := 32) rfl (fun h => entW h) .nil) (op_neq rfl rfl) rfl ?_
 refine lxs rfl rfl rfl guard_eq (.cons (t := 30) rfl (fun h => entW h) (.cons (t := 33) rfl (fun h => entW h) .nil)) (op_neq_bool bo4 rfl rfl) rfl ?_
 refine lx (op_pick_or rfl rfl) rfl ?_
 refine lx (op_move rfl) rfl ?_
 refine lxs rfl rfl rfl guard_eq (.cons (t := 3) rfl (fun _ => Ent.refl _) .nil) (op_fieldAddr rfl fl29_2 sz3) rfl ?_
 refine lxs rfl rfl rfl guard_eq (.cons (t := 37) rfl (fun h => entW h) .nil) (op_bload_one (m := 3) rfl rfl ag3 rfl) rfl ?_
 refine lxs rfl rfl rfl guard_eq (.cons (t := 38) rfl (fun h => entW h) .nil) (op_lss rfl rfl) rfl ?_
 refine lx (op_pick_or rfl rfl) rfl ?_
 refine lx (op_move rfl) rfl ?_
 refine lxs rfl rfl rfl guard_eq (.cons (t := 3) rfl (fun _ => Ent.refl _) .nil) (op_fieldAddr rfl fl29_2 sz3) rfl ?_
 refine lxs rfl rfl rfl guard_eq (.cons (t := 42) rfl (fun h => entW h) .nil) (op_bload_one (m := 3) rfl rfl ag3 rfl) rfl ?_
 refine lxs rfl rfl rfl guard_eq (.cons (t := 43) rfl (fun h => entW h) .nil) (op_gtr rfl rfl) rfl ?_
 refine lx (op_pick_or rfl rfl) rfl ?_
 refine lx (op_move rfl) rfl ?_
 refine lxs rfl rfl rfl guard_eq (.cons (t := 3) rfl (fun _ => Ent.refl _) .nil) (op_fieldAddr rfl fl29_3 sz27) rfl ?_
 refine lxs rfl rfl rfl guard_eq (.cons (t := 47) rfl (fun h => entW h) .nil) (op_bload_one (m := 3) rfl rfl ag27 rfl) rfl ?_
 first | refine lxs rfl rfl rfl guard_eq (.cons (t := 48) rfl (fun h => entW h) .nil) (op_len rfl el27) rfl ?_ | refine lxs rfl rfl rfl guard_eq (.cons (t := 48) rfl (fun h => entW h) .nil) (op_len_row rfl el27) rfl ?_ | refine lxs rfl rfl rfl guard_eq (.cons (t := 48) rfl (fun h => entW h) .nil) (op_len_mv rfl el27) rfl ?_ | refine lxs rfl rfl rfl guard_eq (.cons (t := 48) rfl (fun h => entW h) .nil) (op_len_nil rfl el27) rfl ?_
 refine lxs rfl rfl rfl guard_eq (.cons (t := 49) rfl (fun h => entW h) .nil) (op_gtr rfl rfl) rfl ?_
 refine lx (op_pick_or rfl rfl) rfl ?_
 refine lx (op_move rfl) rfl ?_
 refine lxs rfl rfl rfl guard_eq (.cons (t := 3) rfl (fun _ => Ent.refl _) .nil) (op_fieldAddr rfl fl29_0 sz3) rfl ?_
 refine lxs rfl rfl rfl guard_eq (.cons (t := 53) rfl (fun h => entW h) .nil) (op_bload_one (m := 3) rfl rfl ag3 rfl) rfl ?_
 refine lxs rfl rfl rfl guard_eq (.cons (t := 54) rfl (fun h => entW h) .nil) (op_eql rfl rfl) rfl ?_
 refine lxs rfl rfl rfl guard_eq (.cons (t := 3) rfl (fun _ => Ent.refl _) .nil) (op_fieldAddr rfl fl29_3 sz27) rfl ?_
 refine lxs rfl rfl rfl guard_eq (.cons (t := 56) rfl (fun h => entW h) .nil) (op_bload_one (m := 3) rfl rfl ag27 rfl) rfl ?_
 first | refine lxs rfl rfl rfl guard_eq (.cons (t := 57) rfl (fun h => entW h) .nil) (op_len rfl el27) rfl ?_ | refine lxs rfl rfl rfl guard_eq (.cons (t := 57) rfl (fun h => entW h) .nil) (op_len_row rfl el27) rfl ?_ | refine lxs rfl rfl rfl guard_eq (.cons (t := 57) rfl (fun h => entW h) .nil) (op_len_mv rfl el27) rfl ?_ | refine lxs rfl rfl rfl guard_eq (.cons (t := 57) rfl (fun h => entW h) .nil) (op_len_nil rfl el27) rfl ?_
 refine lxs rfl rfl rfl guard_eq (.cons (t := 58) rfl (fun h => entW h) .nil) (op_eql rfl rfl) rfl ?_
 refine lxs rfl rfl rfl guard_eq (.cons (t := 55) rfl (fun h => entW h) (.cons (t := 59) rfl (fun h => entW h) .nil)) (op_neq_bool bo4 rfl rfl) rfl ?_
 refine lx (op_pick_or rfl rfl) rfl ?_
 refine lx_end ⟨by kernel_rfl, ?_⟩
 refine pe_then_normal ?_
 refine tr_sub hC (.cons (t := 2) rfl (.cons (t := 3) rfl (.cons (t := 61) rfl .nil))) (.cons (t := 2) rfl (.cons (t := 3) rfl .nil)) rfl ?_
 refine tr_cond rfl (fun h61 => ?_) (fun h61 => ?_)
 ·have hbad := valid_hdr (p := p) (rhdr_no (g := g) h61)
  refine tr_seq ?_
  refine tr_region (fun N2 hN => ?_)
  refine lx (op_assign rfl) rfl ?_
  refine lx_end ⟨by kernel_rfl, ?_⟩
  refine pe_then_normal ?_
  refine tr_sub hC (.cons (t := 4) rfl .nil) .nil rfl ?_
  refine tr_ret ?_
  refine pe_then_ret ?_
  refine pe_ret1 rfl hO rfl (.tmp rfl .nil) ?_
  rw [hbad]
  exact ent_auto
 ·have hvg := valid_frs (p := p) (rhdr_yes (g := g) h61)
  refine tr_skip ?_
  refine pe_then_normal ?_
  refine tr_sub hC (.cons (t := 2) rfl (.cons (t := 3) rfl .nil)) (.cons (t := 2) rfl (.cons (t := 3) rfl .nil)) rfl ?_
  refine tr_seq ?_
  refine tr_seq ?_
  refine tr_region (fun N3 hN => ?_)
  refine lx (op_assign rfl) rfl ?_
  refine lx_end ⟨by kernel_rfl, ?_⟩
  refine pe_then_normal ?_
  refine tr_sub hC (.cons (t := 2) rfl (.cons (t := 3) rfl (.cons (t := 5) rfl .nil))) (.cons (t := 2) rfl (.cons (t := 3) rfl .nil)) rfl ?_
  refine tr_block ?_
  refine tr_loopK (α := {zz : Nat // zz ≤ g.frames.length ∧ frsOK p (prvF g.frames zz) (g.frames.drop zz) = frsOK p none g.frames}) (⟨(0), Nat.zero_le _, rfl⟩) (fun zz => [(5, eqP (.int .i64 (zz.1 : Int)))]) (fun zz => []) (fun zz => g.frames.length - zz.1) hC (.cons (t := 2) rfl (.cons (t := 3) rfl .nil)) (.cons (t := 2) rfl (.cons (t := 3) rfl .nil)) rfl ?_ ?_ (fun zz => ?_)
  ·try dsimp only [List.cons_append, List.nil_append]
   first | refine SubF.cons rfl ?_ | (refine SubF.ent rfl ?_ ?_; · exact ent_auto)
   exact SubF.nil
  ·try dsimp only [List.cons_append, List.nil_append]
   repeat (first | exact SubL.nil | refine SubL.cons rfl ?_)
  ·obtain ⟨k, hk1, hk2⟩ := zz
   dsimp only [List.cons_append, List.nil_append]
   refine tr_seq ?_
   refine tr_seq ?_
   refine tr_region (fun N4 hN => ?_)
   refine lx (op_move rfl) rfl ?_
   refine lx (op_fieldAddr rfl fl29_3 sz27) rfl ?_
   refine lx (op_bload_one (m := 3) rfl rfl ag27 rfl) rfl ?_
   first | refine lx (op_len rfl el27) rfl ?_ | refine lx (op_len_row rfl el27) rfl ?_ | refine lx (op_len_mv rfl el27) rfl ?_ | refine lx (op_len_nil rfl el27) rfl ?_
   refine lx (op_lss rfl rfl) rfl ?_
   refine lx_end ⟨by kernel_rfl, ?_⟩
   refine pe_then_normal ?_
   refine tr_sub hC (.cons (t := 2) rfl (.cons (t := 3) rfl (.cons (t := 5) rfl (.cons (t := 66) rfl .nil)))) (.cons (t := 2) rfl (.cons (t := 3) rfl .nil)) rfl ?_
   refine tr_cond rfl (fun h66 => ?_) (fun h66 => ?_)
   ·(try simp only [cq1, cq2, cq3, cq4, cq5, cq6, cq7, cq8, cq9, cq10, cq11, cq12, cq13] at h66)
    have hbk := hb.each _ (List.getElem_mem (by omega : k < g.frames.length))
    have hbd := hbk.defers
    refine tr_skip ?_
    refine pe_then_normal ?_
    refine tr_sub hC (.cons (t := 2) rfl (.cons (t := 3) rfl (.cons (t := 5) rfl .nil))) (.cons (t := 2) rfl (.cons (t := 3) rfl .nil)) rfl ?_
    refine tr_seq ?_
    refine tr_block ?_
    refine tr_seq ?_
    refine tr_region (fun N6 hN => ?_)
    refine lx (op_fieldAddr rfl fl29_3 sz27) rfl ?_
    refine lx (op_bload_one (m := 3) rfl rfl ag27 rfl) rfl ?_
    refine lx (op_move rfl) rfl ?_
    refine lx (op_index rfl rfl el27 sz60 rfl (List.getElem?_eq_getElem (by omega : k < g.frames.length))) rfl ?_
    first | refine lx (op_load_all rfl ag60 sz60) rfl ?_ | refine lx (op_load_agg rfl ag60 sz60 rfl) rfl ?_ | refine lx (op_bload (m := 2) rfl rfl ag60 sz60) rfl ?_ | refine lx (op_bload (m := 3) rfl rfl ag60 sz60) rfl ?_ | refine lx (op_bload_part (m := 2) (qs := [_, _, _, _, _, _, _, _, _]) rfl rfl ag60 sz60 rfl rfl) rfl ?_ | refine lx (op_bload_part (m := 3) (qs := [_, _, _, _, _, _, _, _, _]) rfl rfl ag60 sz60 rfl rfl) rfl ?_
    refine lxn (op_alloc (m := 6) (k := 6) (ps := [eqP (.int .i64 0), eqP (.int .i64 0), eqP (.slice none 0 0), eqP (.int .i64 0), eqP (.slice none 0 0), eqP (.bool false), eqP (.int .i64 0), eqP (.int .i64 0), eqP (.int .i64 0)]) ze60 rfl rfl (by first | exact hC.low _ (by decide) | rfl)) rfl ?_
    refine lxr (op_store_all (m := 6) rfl rfl rfl (.agg rfl) sz60 rfl) rfl ?_
    refine lx_end ⟨by kernel_rfl, ?_⟩
    refine pe_then_normal ?_
    refine tr_sub hC (.cons (t := 2) rfl (.cons (t := 3) rfl (.cons (t := 5) rfl (.cons (t := 6) rfl .nil)))) (.cons (t := 2) rfl (.cons (t := 3) rfl (.cons (t := 6) rfl .nil))) rfl ?_
    refine tr_seq ?_
    refine tr_seq ?_
    refine tr_drawn mixed (fun N7 hN => ?_)
    refine lx (op_fieldAddr rfl fl60_0 sz3) rfl ?_
    refine lx (op_bload_one (m := 6) rfl rfl ag3 rfl) rfl ?_
    refine lx (op_lss rfl rfl) rfl ?_
    refine lx (op_move rfl) rfl ?_
    refine lxs rfl rfl rfl guard_eq (.cons (t := 6) rfl (fun _ => Ent.refl _) .nil) (op_fieldAddr rfl fl60_0 sz3) rfl ?_
    refine lxs rfl rfl rfl guard_eq (.cons (t := 78) rfl (fun h => entW h) .nil) (op_bload_one (m := 6) rfl rfl ag3 rfl) rfl ?_
    refine lxs rfl rfl rfl guard_eq (.cons (t := 2) rfl (fun _ => Ent.refl _) .nil) (op_fieldAddr rfl fl26_0 sz22) rfl ?_
    refine lxs rfl rfl rfl guard_eq (.cons (t := 80) rfl (fun h => entW h) .nil) (op_bload_one (m := 2) rfl rfl ag22 rfl) rfl ?_
    first | refine lxs rfl rfl rfl guard_eq (.cons (t := 81) rfl (fun h => entW h) .nil) (op_len rfl el22) rfl ?_ | refine lxs rfl rfl rfl guard_eq (.cons (t := 81) rfl (fun h => entW h) .nil) (op_len_row rfl el22) rfl ?_ | refine lxs rfl rfl rfl guard_eq (.cons (t := 81) rfl (fun h => entW h) .nil) (op_len_mv rfl el22) rfl ?_ | refine lxs rfl rfl rfl guard_eq (.cons (t := 81) rfl (fun h => entW h) .nil) (op_len_nil rfl el22) rfl ?_
    refine lxs rfl rfl rfl guard_eq (.cons (t := 79) rfl (fun h => entW h) (.cons (t := 82) rfl (fun h => entW h) .nil)) (op_geq rfl rfl) rfl ?_
    refine lx (op_pick_or rfl rfl) rfl ?_
    refine lx (op_move rfl) rfl ?_
    refine lxs rfl rfl rfl guard_eq (.cons (t := 6) rfl (fun _ => Ent.refl _) .nil) (op_fieldAddr rfl fl60_2 sz33) rfl ?_
    refine lxs rfl rfl rfl guard_eq (.cons (t := 86) rfl (fun h => entW h) .nil) (op_bload_one (m := 6) rfl rfl ag33 rfl) rfl ?_
    first | refine lxs rfl rfl rfl guard_eq (.cons (t := 87) rfl (fun h => entW h) .nil) (op_len rfl el33) rfl ?_ | refine lxs rfl rfl rfl guard_eq (.cons (t := 87) rfl (fun h => entW h) .nil) (op_len_row rfl el33) rfl ?_ | refine lxs rfl rfl rfl guard_eq (.cons (t := 87) rfl (fun h => entW h) .nil) (op_len_mv rfl el33) rfl ?_ | refine lxs rfl rfl rfl guard_eq (.cons (t := 87) rfl (fun h => entW h) .nil) (op_len_nil rfl el33) rfl ?_
    refine lxs rfl rfl rfl guard_eq (.cons (t := 2) rfl (fun _ => Ent.refl _) .nil) (op_fieldAddr rfl fl26_0 sz22) rfl ?_
    refine lxs rfl rfl rfl guard_eq (.cons (t := 89) rfl (fun h => entW h) .nil) (op_bload_one (m := 2) rfl rfl ag22 rfl) rfl ?_
    refine lxs rfl rfl rfl guard_eq (.cons (t := 6) rfl (fun _ => Ent.refl _) .nil) (op_fieldAddr rfl fl60_0 sz3) rfl ?_
    refine lxs rfl rfl rfl guard_eq (.cons (t := 91) rfl (fun h => entW h) .nil) (op_bload_one (m := 6) rfl rfl ag3 rfl) rfl ?_
    refine lxsc (rd := [(90, slP Fu.ps 4 p.funcs), (92, eqP (.int .i64 g.frames[k].fn))]) (φ := cellsP (pfn p g.frames[k].fn).ps) rfl rfl rfl guard_eq (.cons (t := 90) rfl (fun h => entW h) (.cons (t := 92) rfl (fun h => entW h) .nil)) (fun hgd => ?_) rfl rfl ?_
    ·have hq0 : 0 ≤ g.frames[k].fn ∧ g.frames[k].fn < (p.funcs.length : Int) := by
      simp at hgd
      omega
     exact op_index rfl rfl el22 sz66 (by omega : g.frames[k].fn = ((g.frames[k].fn.toNat : Nat) : Int)) (pfn_at (by omega) (by omega))
    first | refine lxs rfl rfl rfl guard_eq (.cons (t := 93) rfl (fun h => entW h) .nil) (op_fieldAddr rfl fl66_2 sz3) rfl ?_ | refine lxs rfl rfl rfl guard_eq (.cons (t := 93) rfl (fun h => entW h) .nil) (op_fieldCells rfl fl66_2 sz3) rfl ?_
    first | refine lxs rfl rfl rfl guard_eq (.cons (t := 94) rfl (fun h => entW h) .nil) (op_load_one rfl ag3 rfl) rfl ?_ | refine lxs rfl rfl rfl guard_eq (.cons (t := 94) rfl (fun h => entW h) .nil) (op_bload_one (m := 2) rfl rfl ag3 rfl) rfl ?_ | refine lxs rfl rfl rfl guard_eq (.cons (t := 94) rfl (fun h => entW h) .nil) (op_bload_one (m := 3) rfl rfl ag3 rfl) rfl ?_ | refine lxs rfl rfl rfl guard_eq (.cons (t := 94) rfl (fun h => entW h) .nil) (op_bload_one (m := 6) rfl rfl ag3 rfl) rfl ?_
    refine lxs rfl rfl rfl guard_eq (.cons (t := 88) rfl (fun h => entW h) (.cons (t := 95) rfl (fun h => entW h) .nil)) (op_neq rfl rfl) rfl ?_
    refine lx (op_pick_or rfl rfl) rfl ?_
    refine lx (op_move rfl) rfl ?_
    refine lxs rfl rfl rfl guard_eq (.cons (t := 6) rfl (fun _ => Ent.refl _) .nil) (op_fieldAddr rfl fl60_1 sz3) rfl ?_
    refine lxs rfl rfl rfl guard_eq (.cons (t := 99) rfl (fun h => entW h) .nil) (op_bload_one (m := 6) rfl rfl ag3 rfl) rfl ?_
    refine lxs rfl rfl rfl guard_eq (.cons (t := 100) rfl (fun h => entW h) .nil) (op_lss rfl rfl) rfl ?_
    refine lx (op_pick_or rfl rfl) rfl ?_
    refine lx (op_move rfl) rfl ?_
    refine lxs rfl rfl rfl guard_eq (.cons (t := 6) rfl (fun _ => Ent.refl _) .nil) (op_fieldAddr rfl fl60_1 sz3) rfl ?_
    refine lxs rfl rfl rfl guard_eq (.cons (t := 104) rfl (fun h => entW h) .nil) (op_bload_one (m := 6) rfl rfl ag3 rfl) rfl ?_
    refine lxs rfl rfl rfl guard_eq (.cons (t := 2) rfl (fun _ => Ent.refl _) .nil) (op_fieldAddr rfl fl26_0 sz22) rfl ?_
    refine lxs rfl rfl rfl guard_eq (.cons (t := 106) rfl (fun h => entW h) .nil) (op_bload_one (m := 2) rfl rfl ag22 rfl) rfl ?_
    refine lxs rfl rfl rfl guard_eq (.cons (t := 6) rfl (fun _ => Ent.refl _) .nil) (op_fieldAddr rfl fl60_0 sz3) rfl ?_
    refine lxs rfl rfl rfl guard_eq (.cons (t := 108) rfl (fun h => entW h) .nil) (op_bload_one (m := 6) rfl rfl ag3 rfl) rfl ?_
    refine lxsc (rd := [(107, slP Fu.ps 4 p.funcs), (109, eqP (.int .i64 g.frames[k].fn))]) (φ := cellsP (pfn p g.frames[k].fn).ps) rfl rfl rfl guard_eq (.cons (t := 107) rfl (fun h => entW h) (.cons (t := 109) rfl (fun h => entW h) .nil)) (fun hgd => ?_) rfl rfl ?_
    ·have hq0 : 0 ≤ g.frames[k].fn ∧ g.frames[k].fn < (p.funcs.length : Int) := by
      simp at hgd
      omega
     exact op_index rfl rfl el22 sz66 (by omega : g.frames[k].fn = ((g.frames[k].fn.toNat : Nat) : Int)) (pfn_at (by omega) (by omega))
    first | refine lxs rfl rfl rfl guard_eq (.cons (t := 110) rfl (fun h => entW h) .nil) (op_fieldAddr rfl fl66_3 sz64) rfl ?_ | refine lxs rfl rfl rfl guard_eq (.cons (t := 110) rfl (fun h => entW h) .nil) (op_fieldCells rfl fl66_3 sz64) rfl ?_
    first | refine lxs rfl rfl rfl guard_eq (.cons (t := 111) rfl (fun h => entW h) .nil) (op_load_one rfl ag64 rfl) rfl ?_ | refine lxs rfl rfl rfl guard_eq (.cons (t := 111) rfl (fun h => entW h) .nil) (op_bload_one (m := 2) rfl rfl ag64 rfl) rfl ?_ | refine lxs rfl rfl rfl guard_eq (.cons (t := 111) rfl (fun h => entW h) .nil) (op_bload_one (m := 3) rfl rfl ag64 rfl) rfl ?_ | refine lxs rfl rfl rfl guard_eq (.cons (t := 111) rfl (fun h => entW h) .nil) (op_bload_one (m := 6) rfl rfl ag64 rfl) rfl ?_
    first | refine lxs rfl rfl rfl guard_eq (.cons (t := 112) rfl (fun h => entW h) .nil) (op_len rfl el64) rfl ?_ | refine lxs rfl rfl rfl guard_eq (.cons (t := 112) rfl (fun h => entW h) .nil) (op_len_row rfl el64) rfl ?_ | refine lxs rfl rfl rfl guard_eq (.cons (t := 112) rfl (fun h => entW h) .nil) (op_len_mv rfl el64) rfl ?_ | refine lxs rfl rfl rfl guard_eq (.cons (t := 112) rfl (fun h => entW h) .nil) (op_len_nil rfl el64) rfl ?_
    refine lxs rfl rfl rfl guard_eq (.cons (t := 105) rfl (fun h => entW h) (.cons (t := 113) rfl (fun h => entW h) .nil)) (op_geq rfl rfl) rfl ?_
    refine lx (op_pick_or rfl rfl) rfl ?_
    refine lx (op_move rfl) rfl ?_
    refine lxs rfl rfl rfl guard_eq (.cons (t := 6) rfl (fun _ => Ent.refl _) .nil) (op_fieldAddr rfl fl60_2 sz33) rfl ?_
    refine lxs rfl rfl rfl guard_eq (.cons (t := 117) rfl (fun h => entW h) .nil) (op_bload_one (m := 6) rfl rfl ag33 rfl) rfl ?_
    first | refine lxs rfl rfl rfl guard_eq (.cons (t := 118) rfl (fun h => entW h) .nil) (op_call (l := [(Go.Operand.tmp 118)]) (rvvals_ok g.frames[k].regs (by have := hbk.regs; omega)) (.cons rfl .nil) fn33) rfl ?_ | refine lxs rfl rfl rfl guard_eq (.cons (t := 118) rfl (fun h => entW h) .nil) (op_call (l := [(Go.Operand.tmp 118)]) (rvvals_ok g.frames[k].regs (by have := hbk.regs; omega)) (.ent rfl (by exact ent_auto) .nil) fn33) rfl ?_
    first | refine lxs rfl rfl rfl guard_eq (.cons (t := 119) rfl (fun h => entW h) .nil) (op_not rfl) rfl ?_ | refine lxs rfl rfl rfl guard_eq (.cons (t := 119) rfl (fun h => entW h) .nil) (op_not_b rfl) rfl ?_
    refine lx (op_pick_or rfl rfl) rfl ?_
    refine lx (op_move rfl) rfl ?_
    refine lxs rfl rfl rfl guard_eq (.cons (t := 6) rfl (fun _ => Ent.refl _) .nil) (op_fieldAddr rfl fl60_6 sz43) rfl ?_
    refine lxs rfl rfl rfl guard_eq (.cons (t := 123) rfl (fun h => entW h) .nil) (op_bload_part (m := 6) (qs := [_, _, _]) rfl rfl ag43 sz43 rfl rfl) rfl ?_
    first | refine lxs rfl rfl rfl guard_eq (.cons (t := 124) rfl (fun h => entW h) .nil) (op_call (l := [(Go.Operand.tmp 124)]) (rvval_ok g.frames[k].result) (.cons rfl .nil) fn32) rfl ?_ | refine lxs rfl rfl rfl guard_eq (.cons (t := 124) rfl (fun h => entW h) .nil) (op_call (l := [(Go.Operand.tmp 124)]) (rvval_ok g.frames[k].result) (.ent rfl (by exact ent_auto) .nil) fn32) rfl ?_
    first | refine lxs rfl rfl rfl guard_eq (.cons (t := 125) rfl (fun h => entW h) .nil) (op_not rfl) rfl ?_ | refine lxs rfl rfl rfl guard_eq (.cons (t := 125) rfl (fun h => entW h) .nil) (op_not_b rfl) rfl ?_
    refine lx (op_pick_or rfl rfl) rfl ?_
    refine lx (op_move rfl) rfl ?_
    refine lxs rfl rfl rfl guard_eq (.cons (t := 6) rfl (fun _ => Ent.refl _) .nil) (op_fieldAddr rfl fl60_3 sz3) rfl ?_
    refine lxs rfl rfl rfl guard_eq (.cons (t := 129) rfl (fun h => entW h) .nil) (op_bload_one (m := 6) rfl rfl ag3 rfl) rfl ?_
    refine lxs rfl rfl rfl guard_eq (.cons (t := 130) rfl (fun h => entW h) .nil) (op_lss rfl rfl) rfl ?_
    refine lx (op_pick_or rfl rfl) rfl ?_
    refine lx (op_move rfl) rfl ?_
    refine lxs rfl rfl rfl guard_eq (.cons (t := 5) rfl (fun _ => Ent.refl _) .nil) (op_move rfl) rfl ?_
    refine lxs rfl rfl rfl guard_eq (.cons (t := 134) rfl (fun h => entW h) .nil) (op_eql rfl rfl) rfl ?_
    refine lxs rfl rfl rfl guard_eq (.cons (t := 135) rfl (fun h => entW h) .nil) (op_move rfl) rfl ?_
    refine lxs rfl rfl rfl guard_w (.cons (t := 6) rfl (fun _ => Ent.refl _) .nil) (op_fieldAddr rfl fl60_3 sz3) rfl ?_
    refine lxs rfl rfl rfl guard_w (.cons (t := 137) rfl (fun h => entW h) .nil) (op_bload_one (m := 6) rfl rfl ag3 rfl) rfl ?_
    refine lxs rfl rfl rfl guard_w (.cons (t := 138) rfl (fun h => entW h) .nil) (op_neq rfl rfl) rfl ?_
    refine lxs rfl rfl rfl guard_eq (.cons (t := 136) rfl (fun h => entW h) (.cons (t := 139) rfl (fun h => entS h) .nil)) (op_pick_and rfl rfl) rfl ?_
    refine lx (op_pick_or rfl rfl) rfl ?_
    refine lx (op_move rfl) rfl ?_
    refine lxs rfl rfl rfl guard_eq (.cons (t := 5) rfl (fun _ => Ent.refl _) .nil) (op_move rfl) rfl ?_
    refine lxs rfl rfl rfl guard_eq (.cons (t := 143) rfl (fun h => entW h) .nil) (op_gtr rfl rfl) rfl ?_
    refine lxs rfl rfl rfl guard_eq (.cons (t := 144) rfl (fun h => entW h) .nil) (op_move rfl) rfl ?_
    refine lxs rfl rfl rfl guard_w (.cons (t := 6) rfl (fun _ => Ent.refl _) .nil) (op_fieldAddr rfl fl60_3 sz3) rfl ?_
    refine lxs rfl rfl rfl guard_w (.cons (t := 146) rfl (fun h => entW h) .nil) (op_bload_one (m := 6) rfl rfl ag3 rfl) rfl ?_
    refine lxs rfl rfl rfl guard_w (.cons (t := 3) rfl (fun _ => Ent.refl _) .nil) (op_fieldAddr rfl fl29_3 sz27) rfl ?_
    refine lxs rfl rfl rfl guard_w (.cons (t := 148) rfl (fun h => entW h) .nil) (op_bload_one (m := 3) rfl rfl ag27 rfl) rfl ?_
    refine lxs rfl rfl rfl guard_w (.cons (t := 5) rfl (fun _ => Ent.refl _) .nil) (op_move rfl) rfl ?_
    refine lxs rfl rfl rfl guard_w (.cons (t := 150) rfl (fun h => entW h) .nil) (op_sub rfl rfl (by omega)) rfl ?_
    refine lxsc (rd := [(149, slP Fm.ps 9 g.frames), (151, eqP (.int .i64 ((k : Int) - 1)))]) (φ := cellsP (g.frames[k - 1]'(by omega)).ps) rfl rfl rfl guard_w (.cons (t := 149) rfl (fun h => entW h) (.cons (t := 151) rfl (fun h => entW h) .nil)) (fun hgd => ?_) rfl rfl ?_
    ·have hq0 : 0 < k := by
      simp at hgd
      omega
     exact op_index rfl rfl el27 sz60 (by omega : (k : Int) - 1 = ((k - 1 : Nat) : Int)) (List.getElem?_eq_getElem (by omega : k - 1 < g.frames.length))
    first | refine lxs rfl rfl rfl guard_w (.cons (t := 152) rfl (fun h => entW h) .nil) (op_fieldAddr rfl fl60_2 sz33) rfl ?_ | refine lxs rfl rfl rfl guard_w (.cons (t := 152) rfl (fun h => entW h) .nil) (op_fieldCells rfl fl60_2 sz33) rfl ?_
    first | refine lxs rfl rfl rfl guard_w (.cons (t := 153) rfl (fun h => entW h) .nil) (op_load_one rfl ag33 rfl) rfl ?_ | refine lxs rfl rfl rfl guard_w (.cons (t := 153) rfl (fun h => entW h) .nil) (op_bload_one (m := 2) rfl rfl ag33 rfl) rfl ?_ | refine lxs rfl rfl rfl guard_w (.cons (t := 153) rfl (fun h => entW h) .nil) (op_bload_one (m := 3) rfl rfl ag33 rfl) rfl ?_ | refine lxs rfl rfl rfl guard_w (.cons (t := 153) rfl (fun h => entW h) .nil) (op_bload_one (m := 6) rfl rfl ag33 rfl) rfl ?_
    first | refine lxs rfl rfl rfl guard_w (.cons (t := 154) rfl (fun h => entW h) .nil) (op_len rfl el33) rfl ?_ | refine lxs rfl rfl rfl guard_w (.cons (t := 154) rfl (fun h => entW h) .nil) (op_len_row rfl el33) rfl ?_ | refine lxs rfl rfl rfl guard_w (.cons (t := 154) rfl (fun h => entW h) .nil) (op_len_mv rfl el33) rfl ?_ | refine lxs rfl rfl rfl guard_w (.cons (t := 154) rfl (fun h => entW h) .nil) (op_len_nil rfl el33) rfl ?_
    refine lxs rfl rfl rfl guard_w (.cons (t := 147) rfl (fun h => entW h) (.cons (t := 155) rfl (fun h => entW h) .nil)) (op_geq rfl rfl) rfl ?_
    refine lxs rfl rfl rfl guard_eq (.cons (t := 145) rfl (fun h => entW h) (.cons (t := 156) rfl (fun h => entS h) .nil)) (op_pick_and rfl rfl) rfl ?_
    refine lx (op_pick_or rfl rfl) rfl ?_
    refine lx_end ⟨by kernel_rfl, ?_⟩
    refine pe_then_normal ?_
    refine tr_sub hC (.cons (t := 2) rfl (.cons (t := 3) rfl (.cons (t := 5) rfl (.cons (t := 6) rfl (.cons (t := 158) rfl .nil))))) (.cons (t := 2) rfl (.cons (t := 3) rfl (.cons (t := 6) rfl .nil))) rfl ?_
    refine tr_cond rfl (fun h158 => ?_) (fun h158 => ?_)
    ·have hbad := hvg.trans (frs_bad (by omega) hk2 (rfrm_no (by omega) h158))
     refine tr_seq ?_
     refine tr_region (fun N8 hN => ?_)
     refine lx (op_assign rfl) rfl ?_
     refine lx_end ⟨by kernel_rfl, ?_⟩
     refine pe_then_normal ?_
     refine tr_sub hC (.cons (t := 4) rfl .nil) .nil rfl ?_
     refine tr_ret ?_
     refine pe_then_ret ?_
     refine pe_block_ret ?_
     refine pe_then_ret ?_
     refine pe_then_ret ?_
     refine pe_block_ret ?_
     refine pe_then_ret ?_
     refine pe_ret1 rfl hO rfl (.tmp rfl .nil) ?_
     rw [hbad]
     exact ent_auto
    ·have hmd := h158
     refine tr_skip ?_
     refine pe_then_normal ?_
     refine tr_sub hC (.cons (t := 2) rfl (.cons (t := 3) rfl (.cons (t := 5) rfl (.cons (t := 6) rfl .nil)))) (.cons (t := 2) rfl (.cons (t := 3) rfl (.cons (t := 6) rfl .nil))) rfl ?_
     refine tr_seq ?_
     refine tr_region (fun N9 hN => ?_)
     refine lx (op_assign rfl) rfl ?_
     refine lx_end ⟨by kernel_rfl, ?_⟩
     refine pe_then_normal ?_
     refine tr_sub hC (.cons (t := 2) rfl (.cons (t := 3) rfl (.cons (t := 5) rfl (.cons (t := 6) rfl (.cons (t := 7) rfl .nil))))) (.cons (t := 2) rfl (.cons (t := 3) rfl (.cons (t := 6) rfl .nil))) rfl ?_
     refine tr_block ?_
     refine tr_loopK (α := {zz : Nat // zz ≤ g.frames[k].defers.length ∧ (g.frames[k].defers.take zz).all (defOK p) = true}) (⟨(0), Nat.zero_le _, by simp⟩) (fun zz => [(7, eqP (.int .i64 (zz.1 : Int)))]) (fun zz => []) (fun zz => g.frames[k].defers.length - zz.1) hC (.cons (t := 2) rfl (.cons (t := 3) rfl (.cons (t := 5) rfl (.cons (t := 6) rfl .nil)))) (.cons (t := 2) rfl (.cons (t := 3) rfl (.cons (t := 6) rfl .nil))) rfl ?_ ?_ (fun zz => ?_)
     ·try dsimp only [List.cons_append, List.nil_append]
      first | refine SubF.cons rfl ?_ | (refine SubF.ent rfl ?_ ?_; · exact ent_auto)
      exact SubF.nil
     ·try dsimp only [List.cons_append, List.nil_append]
      repeat (first | exact SubL.nil | refine SubL.cons rfl ?_)
     ·obtain ⟨j, hj1, hj2⟩ := zz
      dsimp only [List.cons_append, List.nil_append]
      refine tr_seq ?_
      refine tr_seq ?_
      refine tr_region (fun N10 hN => ?_)
      refine lx (op_move rfl) rfl ?_
      refine lx (op_fieldAddr rfl fl60_4 sz58) rfl ?_
      refine lx (op_bload_one (m := 6) rfl rfl ag58 rfl) rfl ?_
      first | refine lx (op_len rfl el58) rfl ?_ | refine lx (op_len_row rfl el58) rfl ?_ | refine lx (op_len_mv rfl el58) rfl ?_ | refine lx (op_len_nil rfl el58) rfl ?_
      refine lx (op_lss rfl rfl) rfl ?_
      refine lx_end ⟨by kernel_rfl, ?_⟩
      refine pe_then_normal ?_
      refine tr_sub hC (.cons (t := 2) rfl (.cons (t := 3) rfl (.cons (t := 5) rfl (.cons (t := 6) rfl (.cons (t := 7) rfl (.cons (t := 163) rfl .nil)))))) (.cons (t := 2) rfl (.cons (t := 3) rfl (.cons (t := 6) rfl .nil))) rfl ?_
      refine tr_cond rfl (fun h163 => ?_) (fun h163 => ?_)
      ·(try simp only [cq1, cq2, cq3, cq4, cq5, cq6, cq7, cq8, cq9, cq10, cq11, cq12, cq13] at h163)
       refine tr_skip ?_
       refine pe_then_normal ?_
       refine tr_sub hC (.cons (t := 2) rfl (.cons (t := 3) rfl (.cons (t := 5) rfl (.cons (t := 6) rfl (.cons (t := 7) rfl .nil))))) (.cons (t := 2) rfl (.cons (t := 3) rfl (.cons (t := 6) rfl .nil))) rfl ?_
       refine tr_seq ?_
       refine tr_block ?_
       refine tr_seq ?_
       refine tr_region (fun N12 hN => ?_)
       refine lx (op_fieldAddr rfl fl60_4 sz58) rfl ?_
       refine lx (op_bload_one (m := 6) rfl rfl ag58 rfl) rfl ?_
       refine lx (op_move rfl) rfl ?_
       refine lx (op_index rfl rfl el58 sz47 rfl (List.getElem?_eq_getElem (by omega : j < g.frames[k].defers.length))) rfl ?_
       first | refine lx (op_load_all rfl ag47 sz47) rfl ?_ | refine lx (op_load_agg rfl ag47 sz47 rfl) rfl ?_ | refine lx (op_bload (m := 2) rfl rfl ag47 sz47) rfl ?_ | refine lx (op_bload (m := 3) rfl rfl ag47 sz47) rfl ?_ | refine lx (op_bload (m := 6) rfl rfl ag47 sz47) rfl ?_ | refine lx (op_bload_part (m := 2) (qs := [_, _]) rfl rfl ag47 sz47 rfl rfl) rfl ?_ | refine lx (op_bload_part (m := 3) (qs := [_, _]) rfl rfl ag47 sz47 rfl rfl) rfl ?_ | refine lx (op_bload_part (m := 6) (qs := [_, _]) rfl rfl ag47 sz47 rfl rfl) rfl ?_
       refine lxn (op_alloc (m := 8) (k := 8) (ps := [eqP (.int .i64 0), eqP (.slice none 0 0)]) ze47 rfl rfl (by first | exact hC.low _ (by decide) | rfl)) rfl ?_
       refine lxr (op_store_all (m := 8) rfl rfl rfl (.agg rfl) sz47 rfl) rfl ?_
       refine lx_end ⟨by kernel_rfl, ?_⟩
       refine pe_then_normal ?_
       refine tr_sub hC (.cons (t := 2) rfl (.cons (t := 3) rfl (.cons (t := 5) rfl (.cons (t := 6) rfl (.cons (t := 7) rfl (.cons (t := 8) rfl .nil)))))) (.cons (t := 2) rfl (.cons (t := 3) rfl (.cons (t := 6) rfl (.cons (t := 8) rfl .nil)))) rfl ?_
       refine tr_seq ?_
       refine tr_drawn mixed (fun N13 hN => ?_)
       refine lx (op_fieldAddr rfl fl47_0 sz3) rfl ?_
       refine lx (op_bload_one (m := 8) rfl rfl ag3 rfl) rfl ?_
       refine lx (op_lss rfl rfl) rfl ?_
       refine lx (op_move rfl) rfl ?_
       refine lxs rfl rfl rfl guard_eq (.cons (t := 8) rfl (fun _ => Ent.refl _) .nil) (op_fieldAddr rfl fl47_0 sz3) rfl ?_
       refine lxs rfl rfl rfl guard_eq (.cons (t := 175) rfl (fun h => entW h) .nil) (op_bload_one (m := 8) rfl rfl ag3 rfl) rfl ?_
       refine lxs rfl rfl rfl guard_eq (.cons (t := 2) rfl (fun _ => Ent.refl _) .nil) (op_fieldAddr rfl fl26_0 sz22) rfl ?_
       refine lxs rfl rfl rfl guard_eq (.cons (t := 177) rfl (fun h => entW h) .nil) (op_bload_one (m := 2) rfl rfl ag22 rfl) rfl ?_
       first | refine lxs rfl rfl rfl guard_eq (.cons (t := 178) rfl (fun h => entW h) .nil) (op_len rfl el22) rfl ?_ | refine lxs rfl rfl rfl guard_eq (.cons (t := 178) rfl (fun h => entW h) .nil) (op_len_row rfl el22) rfl ?_ | refine lxs rfl rfl rfl guard_eq (.cons (t := 178) rfl (fun h => entW h) .nil) (op_len_mv rfl el22) rfl ?_ | refine lxs rfl rfl rfl guard_eq (.cons (t := 178) rfl (fun h => entW h) .nil) (op_len_nil rfl el22) rfl ?_
       refine lxs rfl rfl rfl guard_eq (.cons (t := 176) rfl (fun h => entW h) (.cons (t := 179) rfl (fun h => entW h) .nil)) (op_geq rfl rfl) rfl ?_
       refine lx (op_pick_or rfl rfl) rfl ?_
       refine lx (op_move rfl) rfl ?_
       refine lxs rfl rfl rfl guard_eq (.cons (t := 8) rfl (fun _ => Ent.refl _) .nil) (op_fieldAddr rfl fl47_1 sz33) rfl ?_
       refine lxs rfl rfl rfl guard_eq (.cons (t := 183) rfl (fun h => entW h) .nil) (op_bload_one (m := 8) rfl rfl ag33 rfl) rfl ?_
       first | refine lxs rfl rfl rfl guard_eq (.cons (t := 184) rfl (fun h => entW h) .nil) (op_len rfl el33) rfl ?_ | refine lxs rfl rfl rfl guard_eq (.cons (t := 184) rfl (fun h => entW h) .nil) (op_len_row rfl el33) rfl ?_ | refine lxs rfl rfl rfl guard_eq (.cons (t := 184) rfl (fun h => entW h) .nil) (op_len_mv rfl el33) rfl ?_ | refine lxs rfl rfl rfl guard_eq (.cons (t := 184) rfl (fun h => entW h) .nil) (op_len_nil rfl el33) rfl ?_
       refine lxs rfl rfl rfl guard_eq (.cons (t := 2) rfl (fun _ => Ent.refl _) .nil) (op_fieldAddr rfl fl26_0 sz22) rfl ?_
       refine lxs rfl rfl rfl guard_eq (.cons (t := 186) rfl (fun h => entW h) .nil) (op_bload_one (m := 2) rfl rfl ag22 rfl) rfl ?_
       refine lxs rfl rfl rfl guard_eq (.cons (t := 8) rfl (fun _ => Ent.refl _) .nil) (op_fieldAddr rfl fl47_0 sz3) rfl ?_
       refine lxs rfl rfl rfl guard_eq (.cons (t := 188) rfl (fun h => entW h) .nil) (op_bload_one (m := 8) rfl rfl ag3 rfl) rfl ?_
       refine lxsc (rd := [(187, slP Fu.ps 4 p.funcs), (189, eqP (.int .i64 g.frames[k].defers[j].fn))]) (φ := cellsP (pfn p g.frames[k].defers[j].fn).ps) rfl rfl rfl guard_eq (.cons (t := 187) rfl (fun h => entW h) (.cons (t := 189) rfl (fun h => entW h) .nil)) (fun hgd => ?_) rfl rfl ?_
       ·have hq0 : 0 ≤ g.frames[k].defers[j].fn ∧ g.frames[k].defers[j].fn < (p.funcs.length : Int) := by
         simp at hgd
         omega
        exact op_index rfl rfl el22 sz66 (by omega : g.frames[k].defers[j].fn = ((g.frames[k].defers[j].fn.toNat : Nat) : Int)) (pfn_at (by omega) (by omega))
       first | refine lxs rfl rfl rfl guard_eq (.cons (t := 190) rfl (fun h => entW h) .nil) (op_fieldAddr rfl fl66_1 sz3) rfl ?_ | refine lxs rfl rfl rfl guard_eq (.cons (t := 190) rfl (fun h => entW h) .nil) (op_fieldCells rfl fl66_1 sz3) rfl ?_
       first | refine lxs rfl rfl rfl guard_eq (.cons (t := 191) rfl (fun h => entW h) .nil) (op_load_one rfl ag3 rfl) rfl ?_ | refine lxs rfl rfl rfl guard_eq (.cons (t := 191) rfl (fun h => entW h) .nil) (op_bload_one (m := 2) rfl rfl ag3 rfl) rfl ?_ | refine lxs rfl rfl rfl guard_eq (.cons (t := 191) rfl (fun h => entW h) .nil) (op_bload_one (m := 3) rfl rfl ag3 rfl) rfl ?_ | refine lxs rfl rfl rfl guard_eq (.cons (t := 191) rfl (fun h => entW h) .nil) (op_bload_one (m := 6) rfl rfl ag3 rfl) rfl ?_ | refine lxs rfl rfl rfl guard_eq (.cons (t := 191) rfl (fun h => entW h) .nil) (op_bload_one (m := 8) rfl rfl ag3 rfl) rfl ?_
       refine lxs rfl rfl rfl guard_eq (.cons (t := 185) rfl (fun h => entW h) (.cons (t := 192) rfl (fun h => entW h) .nil)) (op_neq rfl rfl) rfl ?_
       refine lx (op_pick_or rfl rfl) rfl ?_
       refine lx (op_move rfl) rfl ?_
       refine lxs rfl rfl rfl guard_eq (.cons (t := 8) rfl (fun _ => Ent.refl _) .nil) (op_fieldAddr rfl fl47_1 sz33) rfl ?_
       refine lxs rfl rfl rfl guard_eq (.cons (t := 196) rfl (fun h => entW h) .nil) (op_bload_one (m := 8) rfl rfl ag33 rfl) rfl ?_
       first | refine lxs rfl rfl rfl guard_eq (.cons (t := 197) rfl (fun h => entW h) .nil) (op_call (l := [(Go.Operand.tmp 197)]) (rvvals_ok g.frames[k].defers[j].args (by have := hbk.args g.frames[k].defers[j] (List.getElem_mem ..); omega)) (.cons rfl .nil) fn33) rfl ?_ | refine lxs rfl rfl rfl guard_eq (.cons (t := 197) rfl (fun h => entW h) .nil) (op_call (l := [(Go.Operand.tmp 197)]) (rvvals_ok g.frames[k].defers[j].args (by have := hbk.args g.frames[k].defers[j] (List.getElem_mem ..); omega)) (.ent rfl (by exact ent_auto) .nil) fn33) rfl ?_
       first | refine lxs rfl rfl rfl guard_eq (.cons (t := 198) rfl (fun h => entW h) .nil) (op_not rfl) rfl ?_ | refine lxs rfl rfl rfl guard_eq (.cons (t := 198) rfl (fun h => entW h) .nil) (op_not_b rfl) rfl ?_
       refine lx (op_pick_or rfl rfl) rfl ?_
       refine lx_end ⟨by kernel_rfl, ?_⟩
       refine pe_then_normal ?_
       refine tr_sub hC (.cons (t := 2) rfl (.cons (t := 3) rfl (.cons (t := 5) rfl (.cons (t := 6) rfl (.cons (t := 7) rfl (.cons (t := 200) rfl .nil)))))) (.cons (t := 2) rfl (.cons (t := 3) rfl (.cons (t := 6) rfl .nil))) rfl ?_
       refine tr_cond rfl (fun h200 => ?_) (fun h200 => ?_)
       ·have hbad := hvg.trans (frs_bad (by omega) hk2 (frm_no4 (all_bad (φ := defOK p) (by omega : j < g.frames[k].defers.length) (def_no h200))))
        refine tr_seq ?_
        refine tr_region (fun N14 hN => ?_)
        refine lx (op_assign rfl) rfl ?_
        refine lx_end ⟨by kernel_rfl, ?_⟩
        refine pe_then_normal ?_
        refine tr_sub hC (.cons (t := 4) rfl .nil) .nil rfl ?_
        refine tr_ret ?_
        refine pe_block_ret ?_
        refine pe_then_ret ?_
        refine pe_then_ret ?_
        refine pe_block_ret ?_
        refine pe_block_ret ?_
        refine pe_then_ret ?_
        refine pe_then_ret ?_
        refine pe_block_ret ?_
        refine pe_then_ret ?_
        refine pe_ret1 rfl hO rfl (.tmp rfl .nil) ?_
        rw [hbad]
        exact ent_auto
       ·have hdy := def_yes h200
        refine tr_skip ?_
        refine pe_block_normal ?_
        refine pe_then_normal ?_
        refine tr_sub hC (.cons (t := 2) rfl (.cons (t := 3) rfl (.cons (t := 5) rfl (.cons (t := 6) rfl (.cons (t := 7) rfl .nil))))) (.cons (t := 2) rfl (.cons (t := 3) rfl (.cons (t := 6) rfl .nil))) rfl ?_
        refine tr_region (fun N11 hN => ?_)
        refine lx (op_move rfl) rfl ?_
        refine lx (op_add rfl rfl (by omega)) rfl ?_
        refine lx (op_assign rfl) rfl ?_
        refine lx_end ⟨by kernel_rfl, ?_⟩
        refine pe_round (⟨(j + 1), by omega, all_step (φ := defOK p) hj2 (by omega) hdy⟩) (by dsimp only; omega) (pe_st hC ?_ ?_ rfl)
        ·try dsimp only [List.cons_append, List.nil_append]
         first | refine SubF.cons rfl ?_ | (refine SubF.ent rfl ?_ ?_; · exact ent_auto)
         first | refine SubF.cons rfl ?_ | (refine SubF.ent rfl ?_ ?_; · exact ent_auto)
         first | refine SubF.cons rfl ?_ | (refine SubF.ent rfl ?_ ?_; · exact ent_auto)
         first | refine SubF.cons rfl ?_ | (refine SubF.ent rfl ?_ ?_; · exact ent_auto)
         first | refine SubF.cons rfl ?_ | (refine SubF.ent rfl ?_ ?_; · exact ent_auto)
         exact SubF.nil
        ·try dsimp only [List.cons_append, List.nil_append]
         repeat (first | exact SubL.nil | refine SubL.cons rfl ?_)
      ·(try simp only [cq1, cq2, cq3, cq4, cq5, cq6, cq7, cq8, cq9, cq10, cq11, cq12, cq13] at h163)
       have hgo := frs_next (by omega) hk2 (rfrm_yes (by omega) hmd (all_end hj2 (by omega)))
       refine tr_exit ?_
       refine pe_then_exit ?_
       refine pe_then_exit ?_
       refine pe_block_eq ?_
       refine pe_block_normal ?_
       refine pe_then_normal ?_
       refine tr_sub hC (.cons (t := 2) rfl (.cons (t := 3) rfl (.cons (t := 5) rfl .nil))) (.cons (t := 2) rfl (.cons (t := 3) rfl .nil)) rfl ?_
       refine tr_region (fun N5 hN => ?_)
       refine lx (op_move rfl) rfl ?_
       refine lx (op_add rfl rfl (by omega)) rfl ?_
       refine lx (op_assign rfl) rfl ?_
       refine lx_end ⟨by kernel_rfl, ?_⟩
       refine pe_round (⟨(k + 1), by omega, hgo⟩) (by dsimp only; omega) (pe_st hC ?_ ?_ rfl)
       ·try dsimp only [List.cons_append, List.nil_append]
        first | refine SubF.cons rfl ?_ | (refine SubF.ent rfl ?_ ?_; · exact ent_auto)
        first | refine SubF.cons rfl ?_ | (refine SubF.ent rfl ?_ ?_; · exact ent_auto)
        first | refine SubF.cons rfl ?_ | (refine SubF.ent rfl ?_ ?_; · exact ent_auto)
        exact SubF.nil
       ·try dsimp only [List.cons_append, List.nil_append]
        repeat (first | exact SubL.nil | refine SubL.cons rfl ?_)
   ·(try simp only [cq1, cq2, cq3, cq4, cq5, cq6, cq7, cq8, cq9, cq10, cq11, cq12, cq13] at h66)
    have hfin := hvg.trans (frs_end (by omega) hk2)
    refine tr_exit ?_
    refine pe_then_exit ?_
    refine pe_then_exit ?_
    refine pe_block_eq ?_
    refine pe_then_normal ?_
    refine tr_sub hC .nil .nil rfl ?_
    refine tr_seq ?_
    refine tr_region (fun N15 hN => ?_)
    refine lx (op_assign rfl) rfl ?_
    refine lx_end ⟨by kernel_rfl, ?_⟩
    refine pe_then_normal ?_
    refine tr_sub hC (.cons (t := 4) rfl .nil) .nil rfl ?_
    refine tr_ret ?_
    refine pe_ret1 rfl hO rfl (.tmp rfl .nil) ?_
    rw [hfin]
    exact ent_auto
end Go.Proofs.Ythiknhmoefbanaa
