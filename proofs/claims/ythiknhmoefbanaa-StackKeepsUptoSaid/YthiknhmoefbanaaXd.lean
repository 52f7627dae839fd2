/- Parts of a proof that share one text: StWalk9, StWalk10. -/
import Derived.Test.YthiknhmoefbanaaXb
import Derived.Test.YthiknhmoefbanaaXc

set_option linter.unusedVariables false
set_option linter.unusedSimpArgs false
namespace Go.Proofs.Ythiknhmoefbanaa
open Go.AL Go.Ch Go.Hp Go.RowKit
theorem ag26 : aggB Try.prog 26 = some true := by kernel_rfl
theorem fn17 : fnB Try.prog 17 = true := by kernel_rfl
theorem sz26 : sizeB Try.prog 26 = some 4 := by kernel_rfl
set_option maxHeartbeats 4000000 in
theorem Leave_ok (p : Pg) (hp : POK p) (g : Gr) (hb : BdG 1048576 g) (hn : g.frames.length ≤ 100000) (v : V) : FnP Try.prog 21 [aggP p.ps, aggP g.ps, aggP (vp v)] (aggP (leaveF p g v).ps) := by
 have hb4 : BdG 4000000 g := hb.mono (by decide)
 refine fn_pure' Try.func21 rfl Try.ntmps21 rfl ?_
 intro σ0 M ex Rf R hC hO
 have hC0 := hC
 simp only [frameOf, tokOf]
 refine tr_seq ?_
 refine tr_region (fun N0 hN => ?_)
 refine lxn (op_box (m := 3) (k := 3) rfl (.agg rfl) (by first | exact hC.low _ (by decide) | rfl)) rfl ?_
 refine lxn (op_box (m := 4) (k := 4) rfl (.agg rfl) (by first | exact hC.low _ (by decide) | rfl)) rfl ?_
 refine lxn (op_box (m := 5) (k := 5) rfl (.agg rfl) (by first | exact hC.low _ (by decide) | rfl)) rfl ?_
 refine lxn (op_alloc (m := 6) (k := 6) (ps := [eqP (.int .i64 0), eqP (.int .i64 0), eqP (.int .i64 0), eqP (.slice none 0 0)]) ze29 rfl rfl (by first | exact hC.low _ (by decide) | rfl)) rfl ?_
 refine lx_end ⟨by kernel_rfl, ?_⟩
 refine pe_then_normal ?_
 refine tr_sub hC (.cons (t := 3) rfl (.cons (t := 4) rfl (.cons (t := 5) rfl (.cons (t := 6) rfl .nil)))) (.cons (t := 3) rfl (.cons (t := 4) rfl (.cons (t := 5) rfl (.cons (t := 6) rfl .nil)))) rfl ?_
 refine tr_seq ?_
 refine tr_region (fun N1 hN => ?_)
 refine lx (op_bload (m := 4) rfl rfl ag29 sz29) rfl ?_
 first | refine lx_any rfl (op_callFam (l := [(Go.Operand.tmp 13)]) (K := 2 * g.frames.length) 602 200 (own_fam g hb4 hn) (fun ι => rfl) (.cons rfl .nil) fn38 (by omega) rfl (by first | exact hC.low _ (by decide) | rfl) (fam_free hC (by omega) rfl)) (dOK_spec rfl) ?_ | refine lx_any rfl (op_callFam (l := [(Go.Operand.tmp 13)]) (K := 2 * g.frames.length) 602 200 (own_fam g hb4 hn) (fun ι => rfl) (.ent rfl (by exact ent_auto) .nil) fn38 (by omega) rfl (by first | exact hC.low _ (by decide) | rfl) (fam_free hC (by omega) rfl)) (dOK_spec rfl) ?_
 refine lx_tail _ (fam_upd rfl) (fun _ _ _ _ e h => ⟨h.1, post_congr e h.2⟩) ?_
 refine lxr (op_store_all (m := 4) rfl rfl rfl (.agg rfl) sz29 rfl) rfl ?_
 refine lx_end ⟨nodup_one _ _, ?_⟩
 refine pe_then_normal ?_
 refine tr_post (fun X hX => post_famIn2 (K := 2 * g.frames.length) (ids := fun j => fid N1 (200) (2 * g.frames.length) (j + 1)) (r := famR 43 47 g.frames) hC (by omega) (.cons (t := 3) rfl (.cons (t := 4) rfl (.cons (t := 5) rfl (.cons (t := 6) rfl (.cons (t := 602) rfl .nil))))) rfl (fun j hj => by simp only [updL, addL, delL, List.cons_append, List.nil_append, lk_cons]; (repeat (rw [if_neg (by omega)])); exact lk_famT_at hj) (fun n hn => by simp only [updL, addL, delL, List.cons_append, List.nil_append, lk_cons]; (repeat (rw [if_neg (by omega)])); exact lk_famT_none (fun j hj => by omega)) hX) ?_
 have hC : CxOK (famC ⟨σ0, M, ex, Rf, 124⟩ (2 * g.frames.length) (fun j => fid N1 (200) (2 * g.frames.length) (j + 1)) (famR 43 47 g.frames)) := famC_ok
 refine tr_sub hC (.cons (t := 3) rfl (.cons (t := 4) rfl (.cons (t := 5) rfl (.cons (t := 6) rfl .nil)))) (.cons (t := 3) rfl (.cons (t := 4) rfl (.cons (t := 5) rfl (.cons (t := 6) rfl (.cons (t := 602) rfl .nil))))) rfl ?_
 rcases hl : g.frames.length with _ | q
 ·have hC : CxOK (famC ⟨σ0, M, ex, Rf, 124⟩ (2 * 0) (fun j => fid N1 (200) (2 * 0) (j + 1)) (famR 43 47 g.frames)) := famC_ok
  refine tr_post (fun X hX => post_rowEq (n := 602) rfl ((rowE_full (m := 0) (by omega)).symm) hX) ?_
  refine tr_post (fun X hX => post_sealFm (n := 602) (t := 699) hC0 rfl (by omega) (by omega) rfl (.inl rfl) rfl hX) ?_
  have hC := hC0
  refine tr_post (fun X hX => post_rowPs (n := 602) rfl (rowPure0 hl) hX) ?_
  refine tr_bound 698 (m := 602) rfl ?_
  refine tr_freeze (m := 602) rfl (.cons (t := 3) rfl (.cons (t := 4) rfl (.cons (t := 5) rfl (.cons (t := 6) rfl (.ent (t := 698) rfl FEnt.frz_bound .nil))))) ?_
  refine tr_thaw (t := 698) (n := 4) (qs' := _) rfl (.cons (t := 3) rfl (.cons (t := 4) rfl (.cons (t := 5) rfl (.cons (t := 6) rfl .nil)))) rfl (.cons (.of (Ent.refl _)) (.cons (.of (Ent.refl _)) (.cons (.of (Ent.refl _)) (.cons (fment_row Fm.len hl.symm) .nil)))) ?_
  refine tr_seq ?_
  refine tr_region (fun N2 hN => ?_)
  refine lx (op_bload (m := 4) rfl rfl ag29 sz29) rfl ?_
  first | refine lx (op_call (l := [(Go.Operand.tmp 15)]) (cur_pure0 g hl) (.cons rfl .nil) fn40) rfl ?_ | refine lx (op_call (l := [(Go.Operand.tmp 15)]) (cur_pure0 g hl) (.ent rfl (by exact ent_auto) .nil) fn40) rfl ?_
  refine lx (op_assign rfl) rfl ?_
  refine lx_end ⟨by kernel_rfl, ?_⟩
  refine pe_then_normal ?_
  refine tr_sub hC (.cons (t := 3) rfl (.cons (t := 4) rfl (.cons (t := 5) rfl (.cons (t := 6) rfl (.cons (t := 7) rfl .nil))))) (.cons (t := 3) rfl (.cons (t := 4) rfl (.cons (t := 5) rfl (.cons (t := 6) rfl .nil)))) rfl ?_
  refine tr_seq ?_
  refine tr_seq ?_
  refine tr_region (fun N3 hN => ?_)
  refine lx (op_move rfl) rfl ?_
  first | refine lxk (op_eql_ptr pt73 rfl (IsPtr.own _ _)) (rfl) rfl ?_ | refine lxk (op_eql_ptr pt73 rfl (IsPtr.cells _)) (rfl) rfl ?_ | refine lxk (op_eql_ptr pt73 rfl (IsPtr.nil)) (rfl) rfl ?_
  refine lx_end ⟨by kernel_rfl, ?_⟩
  refine pe_then_normal ?_
  refine tr_sub hC (.cons (t := 3) rfl (.cons (t := 4) rfl (.cons (t := 5) rfl (.cons (t := 6) rfl (.cons (t := 7) rfl (.cons (t := 18) rfl .nil)))))) (.cons (t := 3) rfl (.cons (t := 4) rfl (.cons (t := 5) rfl (.cons (t := 6) rfl .nil)))) rfl ?_
  refine tr_cond_t rfl ?_
  refine tr_seq ?_
  refine tr_region (fun N4 hN => ?_)
  refine lx (op_bload (m := 4) rfl rfl ag29 sz29) rfl ?_
  refine lxr (op_store_all (m := 6) rfl rfl rfl (.agg rfl) sz29 rfl) rfl ?_
  refine lx_end ⟨by kernel_rfl, ?_⟩
  refine pe_then_normal ?_
  refine tr_sub hC (.cons (t := 6) rfl .nil) (.cons (t := 6) rfl .nil) rfl ?_
  refine tr_ret ?_
  refine pe_then_ret ?_
  refine pe_ret1 rfl hO rfl (.cell (m := 6) rfl rfl ag29 sz29 .nil) ?_
  rw [leaveF_none hl]
  exact ent_auto
 ·have hC : CxOK (famC ⟨σ0, M, ex, Rf, 124⟩ (2 * (q + 1)) (fun j => fid N1 (200) (2 * (q + 1)) (j + 1)) (famR 43 47 g.frames)) := famC_ok
  obtain ⟨f, hq⟩ : ∃ f, g.frames[q]? = some f := ⟨_, List.getElem?_eq_getElem (by omega)⟩
  have hbf := hb.each f (List.mem_of_getElem? hq)
  have hbr := hbf.regs
  have hbd := hbf.defers
  refine tr_post (fun X hX => post_rowEq (n := 602) rfl (rowE_first hq hl) hX) ?_
  refine tr_post (fun X hX => post_famK (show 2 * (q + 1) = 2 * q + 2 by omega) hX) ?_
  have hC : CxOK (famC ⟨σ0, M, ex, Rf, 124⟩ (2 * q + 2) (fun j => fid N1 (200) (2 * (q + 1)) (j + 1)) (famR 43 47 g.frames)) := famC_ok
  refine tr_post (fun X hX => post_take2 605 606 hq rfl rfl (by omega) rfl (.inl rfl) (.inl rfl) hX) ?_
  have hC : CxOK (famC ⟨σ0, M, ex, Rf, 124⟩ (2 * q) (fun j => fid N1 (200) (2 * (q + 1)) (j + 1)) (famR 43 47 g.frames)) := famC_ok
  refine tr_post (fun X hX => post_seal (m := 605) (n := 602) rfl rfl (by decide) (seal_regs (by simp)) hX) ?_
  refine tr_post (fun X hX => post_seal (m := 606) (n := 602) rfl rfl (by decide) (seal_defs (by simp)) hX) ?_
  refine tr_seq ?_
  refine tr_region (fun N2 hN => ?_)
  refine lx (op_bload (m := 4) rfl rfl ag29 sz29) rfl ?_
  first | refine lx (op_call (l := [(Go.Operand.tmp 15)]) (cur_some _ _ _ _ q _ (by omega)) (.cons rfl .nil) fn40) rfl ?_ | refine lx (op_call (l := [(Go.Operand.tmp 15)]) (cur_some _ _ _ _ q _ (by omega)) (.ent rfl (by exact ent_auto) .nil) fn40) rfl ?_
  refine lx (op_assign rfl) rfl ?_
  refine lx_end ⟨by kernel_rfl, ?_⟩
  refine pe_then_normal ?_
  refine tr_sub hC (.cons (t := 3) rfl (.cons (t := 4) rfl (.cons (t := 5) rfl (.cons (t := 6) rfl (.cons (t := 7) rfl .nil))))) (.cons (t := 3) rfl (.cons (t := 4) rfl (.cons (t := 5) rfl (.cons (t := 6) rfl (.cons (t := 602) rfl .nil))))) rfl ?_
  refine tr_seq ?_
  refine tr_seq ?_
  refine tr_region (fun N3 hN => ?_)
  refine lx (op_move rfl) rfl ?_
  first | refine lxk (op_eql_ptr pt73 rfl (IsPtr.own _ _)) (rfl) rfl ?_ | refine lxk (op_eql_ptr pt73 rfl (IsPtr.cells _)) (rfl) rfl ?_ | refine lxk (op_eql_ptr pt73 rfl (IsPtr.nil)) (rfl) rfl ?_
  refine lx_end ⟨by kernel_rfl, ?_⟩
  refine pe_then_normal ?_
  refine tr_sub hC (.cons (t := 3) rfl (.cons (t := 4) rfl (.cons (t := 5) rfl (.cons (t := 6) rfl (.cons (t := 7) rfl (.cons (t := 18) rfl .nil)))))) (.cons (t := 3) rfl (.cons (t := 4) rfl (.cons (t := 5) rfl (.cons (t := 6) rfl (.cons (t := 602) rfl .nil))))) rfl ?_
  refine tr_cond_f rfl ?_
  refine tr_skip ?_
  refine pe_then_normal ?_
  refine tr_sub hC (.cons (t := 3) rfl (.cons (t := 4) rfl (.cons (t := 5) rfl (.cons (t := 6) rfl (.cons (t := 7) rfl .nil))))) (.cons (t := 3) rfl (.cons (t := 4) rfl (.cons (t := 5) rfl (.cons (t := 6) rfl (.cons (t := 602) rfl .nil))))) rfl ?_
  refine tr_seq ?_
  refine tr_seq ?_
  refine tr_region (fun N5 hN => ?_)
  refine lx (op_move rfl) rfl ?_
  first | refine lx (op_nilCheck rfl) rfl ?_ | refine lx (op_nilCheckC rfl) rfl ?_
  refine lx (op_fieldAddr rfl fl60_5 sz4) rfl ?_
  refine lx (OpJ.ent (op_tload_one (m := 602) (j := q) (fo := 5) rfl rfl ag4 fmE_len (by omega) (rowE_top (by omega)) rfl) (show Ent _ (eqP (.bool f.leaving)) from (by exact ent_auto))) rfl ?_
  first | refine lx (op_not rfl) rfl ?_ | refine lx (op_not_b rfl) rfl ?_
  refine lx_end ⟨by kernel_rfl, ?_⟩
  refine pe_then_normal ?_
  refine tr_sub hC (.cons (t := 3) rfl (.cons (t := 4) rfl (.cons (t := 5) rfl (.cons (t := 6) rfl (.cons (t := 7) rfl (.cons (t := 24) rfl .nil)))))) (.cons (t := 3) rfl (.cons (t := 4) rfl (.cons (t := 5) rfl (.cons (t := 6) rfl (.cons (t := 602) rfl .nil))))) rfl ?_
  refine tr_cond rfl (fun h24 => ?_) (fun h24 => ?_)
  ·(try simp only [cq1, cq2, cq3, cq4, cq5, cq6, cq7, cq8, cq9, cq10, cq11, cq12, cq13] at h24)
   have htl : topL f v = { f with leaving := true, result := v } := by unfold topL; rw [if_neg (by rw [h24]; simp)]
   refine tr_drawn mixed (fun N6 hN => ?_)
   refine lx (op_move rfl) rfl ?_
   refine lx (op_move rfl) rfl ?_
   refine lx (op_bload (m := 5) rfl rfl ag43 sz43) rfl ?_
   first | refine lx (op_nilCheck rfl) rfl ?_ | refine lx (op_nilCheckC rfl) rfl ?_
   refine lx (op_fieldAddr rfl fl60_5 sz4) rfl ?_
   refine lxr (op_tstore (m := 602) (j := q) (fo := 5) (z' := (pureE { f with leaving := true })) rfl rfl rfl (.one (by (first | exact One.eq rfl | exact One.mv _ _ _ _ _ | exact One.cl _ _ _ | exact One.map _ | exact One.sl _ _ _ | exact One.row _ _ _ _ | exact One.msl _ _ _ _ | exact One.ptr _ _ | exact One.b _ | exact One.cells _))) sz4 rfl fmE_len (by omega) (rowE_top (by omega)) rfl rfl) rfl ?_
   first | refine lx (op_nilCheck rfl) rfl ?_ | refine lx (op_nilCheckC rfl) rfl ?_
   refine lx (op_fieldAddr rfl fl60_6 sz43) rfl ?_
   refine lxr (op_tstore (m := 602) (j := q) (fo := 6) (z' := (pureE { f with leaving := true, result := v })) rfl rfl rfl (.agg rfl) sz43 rfl fmE_len (by omega) (set_at (by rw [rowE_len (by omega)]; simp)) rfl rfl) rfl ?_
   refine lx_end ⟨by kernel_rfl, ?_⟩
   refine pe_then_normal ?_
   refine tr_sub hC (.cons (t := 3) rfl (.cons (t := 4) rfl (.cons (t := 6) rfl (.cons (t := 7) rfl .nil)))) (.cons (t := 3) rfl (.cons (t := 4) rfl (.cons (t := 6) rfl (.cons (t := 602) rfl .nil)))) rfl ?_
   first | refine tr_post (fun X hX => post_rowEq (n := 602) rfl (rowE_set2 (by omega)) hX) ?_ | skip
   refine tr_seq ?_
   refine tr_block ?_
   refine tr_loopKC (α := {zz : Nat × Fm × (List FmE) // zz.1 ≤ q + 1 ∧ lst g.frames zz.1 zz.2.1 = lst g.frames (q + 1) (topL f v) ∧ BdF 1048576 zz.2.1}) (⟨(q + 1, { f with leaving := true, result := v }, []), Nat.le_refl _, (by rw [htl]), (by rw [← htl]; exact bdF_topL hbf)⟩) (fun zz => famC ⟨σ0, M, ex, Rf, 124⟩ (kf zz.1.1) ((fun j => fid N1 (200) (2 * (q + 1)) (j + 1))) (famR 43 47 g.frames)) (fun zz => [(7, curP (fid N1 200 (2 * (q + 1)) 0) zz.1.1)]) (fun zz => [(602, some ((fid N1 200 (2 * (q + 1)) 0), blkX 9 60 ((rowS g.frames (fun j => fid N1 (200) (2 * (q + 1)) (j + 1)) zz.1.1 zz.1.2.1 zz.1.2.2).flatMap fmE))), (4, some ((N0, 4), blk 29 [eqP (.int .i64 g.state), eqP (.int .i64 g.fault), eqP (.int .i64 g.allocs), mvP (fid N1 200 (2 * (q + 1)) 0) 9 0 zz.1.1 (q + 1)]))]) (fun zz => zz.1.1) hC rfl (.cons (t := 3) rfl (.cons (t := 4) rfl (.cons (t := 6) rfl .nil))) (.cons (t := 3) rfl (.cons (t := 6) rfl .nil)) rfl ?_ ?_ (fun zz => ?_)
   ·try dsimp only [List.cons_append, List.nil_append]
    first | refine SubF.cons rfl ?_ | (refine SubF.ent rfl ?_ ?_; · exact ent_auto)
    exact SubF.nil
   ·try dsimp only [List.cons_append, List.nil_append]
    repeat (first | exact SubL.nil | refine SubL.cons rfl ?_)
   ·obtain ⟨⟨p, u, zs⟩, hp1, hst, hub⟩ := zz
    try dsimp only at hp1
    try dsimp only at hst
    try dsimp only at hub
    dsimp only [List.cons_append, List.nil_append]
    have hC : CxOK (famC ⟨σ0, M, ex, Rf, 124⟩ (kf p) ((fun j => fid N1 (200) (2 * (q + 1)) (j + 1))) (famR 43 47 g.frames)) := famC_ok
    rcases p with _ | t
    ·refine tr_post (fun X hX => post_famK (show kf 0 = 0 from rfl) hX) ?_
     have hC : CxOK (famC ⟨σ0, M, ex, Rf, 124⟩ (0) ((fun j => fid N1 (200) (2 * (q + 1)) (j + 1))) (famR 43 47 g.frames)) := famC_ok
     refine tr_post (fun X hX => post_rowEq (n := 602) (ys := rowE g.frames (fun j => fid N1 (200) (2 * (q + 1)) (j + 1)) 0 0 zs) rfl rfl hX) ?_
     refine tr_sub hC (.cons (t := 3) rfl (.cons (t := 4) rfl (.cons (t := 6) rfl (.ent (t := 7) rfl ((show Ent (curP _ 0) (eqP (.pointer none)) from Ent.refl _)) .nil)))) (.cons (t := 602) rfl (.cons (t := 4) rfl (.cons (t := 3) rfl (.cons (t := 6) rfl .nil)))) rfl ?_
     refine tr_seq ?_
     refine tr_seq ?_
     refine tr_region (fun N7 hN => ?_)
     refine lx (op_move rfl) rfl ?_
     first | refine lxk (op_neq_ptr pt73 rfl (IsPtr.own _ _)) (rfl) rfl ?_ | refine lxk (op_neq_ptr pt73 rfl (IsPtr.cells _)) (rfl) rfl ?_ | refine lxk (op_neq_ptr pt73 rfl (IsPtr.nil)) (rfl) rfl ?_
     refine lx (op_move rfl) rfl ?_
     refine lx_skip rfl rfl rfl (by first | exact notThe_bool rfl | exact notThe_undef) rfl ?_
     refine lx_skip rfl rfl rfl (by first | exact notThe_bool rfl | exact notThe_undef) rfl ?_
     refine lx_skip rfl rfl rfl (by first | exact notThe_bool rfl | exact notThe_undef) rfl ?_
     refine lx_skip rfl rfl rfl (by first | exact notThe_bool rfl | exact notThe_undef) rfl ?_
     refine lx (op_pick_f rfl rfl) rfl ?_
     refine lx_end ⟨by kernel_rfl, ?_⟩
     refine pe_then_normal ?_
     refine tr_sub hC (.cons (t := 3) rfl (.cons (t := 4) rfl (.cons (t := 6) rfl (.cons (t := 7) rfl (.cons (t := 39) rfl .nil))))) (.cons (t := 602) rfl (.cons (t := 4) rfl (.cons (t := 3) rfl (.cons (t := 6) rfl .nil)))) rfl ?_
     refine tr_cond_f rfl ?_
     refine tr_exit ?_
     refine pe_then_exit ?_
     refine pe_then_exit ?_
     refine pe_block_eq ?_
     refine pe_then_normal ?_
     refine tr_sub hC (.cons (t := 4) rfl (.cons (t := 6) rfl (.cons (t := 7) rfl .nil))) (.cons (t := 602) rfl (.cons (t := 4) rfl (.cons (t := 6) rfl .nil))) rfl ?_
     refine tr_seq ?_
     refine tr_seq ?_
     refine tr_region (fun N22 hN => ?_)
     refine lx (op_move rfl) rfl ?_
     first | refine lxk (op_eql_ptr pt73 rfl (IsPtr.own _ _)) (rfl) rfl ?_ | refine lxk (op_eql_ptr pt73 rfl (IsPtr.cells _)) (rfl) rfl ?_ | refine lxk (op_eql_ptr pt73 rfl (IsPtr.nil)) (rfl) rfl ?_
     refine lx_end ⟨by kernel_rfl, ?_⟩
     refine pe_then_normal ?_
     refine tr_sub hC (.cons (t := 4) rfl (.cons (t := 6) rfl (.cons (t := 121) rfl .nil))) (.cons (t := 602) rfl (.cons (t := 4) rfl (.cons (t := 6) rfl .nil))) rfl ?_
     refine tr_cond_t rfl ?_
     refine tr_region (fun N23 hN => ?_)
     refine lx (op_fieldAddr rfl fl29_0 sz3) rfl ?_
     refine lxr (op_store (m := 4) (rs := [_, _, _, _]) rfl rfl rfl (.one (by (first | exact One.eq rfl | exact One.mv _ _ _ _ _ | exact One.cl _ _ _ | exact One.map _ | exact One.sl _ _ _ | exact One.row _ _ _ _ | exact One.msl _ _ _ _ | exact One.ptr _ _ | exact One.b _ | exact One.cells _))) sz3 rfl rfl rfl) rfl ?_
     refine lx_end ⟨by kernel_rfl, ?_⟩
     refine pe_then_normal ?_
     refine tr_sub hC (.cons (t := 4) rfl (.cons (t := 6) rfl .nil)) (.cons (t := 602) rfl (.cons (t := 4) rfl (.cons (t := 6) rfl .nil))) rfl ?_
     have hfin := leaveF_done (p := p) hq hl hst
     refine tr_post (fun X hX => post_sealFm (n := 602) (t := 699) hC0 rfl (by omega) (by omega) rfl (.inl rfl) rfl hX) ?_
     have hC := hC0
     refine tr_bound 698 (m := 602) rfl ?_
     refine tr_freeze (m := 602) rfl (.cons (t := 4) rfl (.cons (t := 6) rfl (.ent (t := 698) rfl FEnt.frz_bound .nil))) ?_
     refine tr_thaw (t := 698) (n := 4) (qs' := _) rfl (.cons (t := 4) rfl (.cons (t := 6) rfl .nil)) rfl (.cons (.of (Ent.refl _)) (.cons (.of (Ent.refl _)) (.cons (.of (Ent.refl _)) (.cons (fment_none (f := Fm.ps)) .nil)))) ?_
     refine tr_seq ?_
     refine tr_region (fun N24 hN => ?_)
     refine lx (op_bload (m := 4) rfl rfl ag29 sz29) rfl ?_
     refine lxr (op_store_all (m := 6) rfl rfl rfl (.agg rfl) sz29 rfl) rfl ?_
     refine lx_end ⟨by kernel_rfl, ?_⟩
     refine pe_then_normal ?_
     refine tr_sub hC (.cons (t := 6) rfl .nil) (.cons (t := 6) rfl .nil) rfl ?_
     refine tr_ret ?_
     refine pe_ret1 rfl hO rfl (.cell (m := 6) rfl rfl ag29 sz29 .nil) ?_
     rw [hfin]
     exact ent_auto
    ·refine tr_post (fun X hX => post_famK (show kf (t + 1) = 2 * t from rfl) hX) ?_
     have hC : CxOK (famC ⟨σ0, M, ex, Rf, 124⟩ (2 * t) ((fun j => fid N1 (200) (2 * (q + 1)) (j + 1))) (famR 43 47 g.frames)) := famC_ok
     refine tr_post (fun X hX => post_rowEq (n := 602) (ys := rowE g.frames (fun j => fid N1 (200) (2 * (q + 1)) (j + 1)) t (2 * t) (pureE u :: zs)) rfl rfl hX) ?_
     refine tr_sub hC (.cons (t := 3) rfl (.cons (t := 4) rfl (.cons (t := 6) rfl (.ent (t := 7) rfl ((show Ent (curP _ (t + 1)) (ptrP _ (t * 9)) from Ent.refl _)) .nil)))) (.cons (t := 602) rfl (.cons (t := 4) rfl (.cons (t := 3) rfl (.cons (t := 6) rfl .nil)))) rfl ?_
     refine tr_seq ?_
     refine tr_seq ?_
     refine tr_region (fun N7 hN => ?_)
     refine lx (op_move rfl) rfl ?_
     first | refine lxk (op_neq_ptr pt73 rfl (IsPtr.own _ _)) (rfl) rfl ?_ | refine lxk (op_neq_ptr pt73 rfl (IsPtr.cells _)) (rfl) rfl ?_ | refine lxk (op_neq_ptr pt73 rfl (IsPtr.nil)) (rfl) rfl ?_
     refine lx (op_move rfl) rfl ?_
     refine lxg rfl rfl rfl (op_move rfl) rfl ?_
     first | refine lxg rfl rfl rfl (op_nilCheck rfl) rfl ?_ | refine lxg rfl rfl rfl (op_nilCheckC rfl) rfl ?_
     refine lxg rfl rfl rfl (op_fieldAddr rfl fl60_5 sz4) rfl ?_
     refine lxg rfl rfl rfl (OpJ.ent (op_tload_one (m := 602) (j := t) (fo := 5) rfl rfl ag4 fmE_len (by omega) (rowE_top (by omega)) rfl) (show Ent _ (eqP (.bool u.leaving)) from (by exact ent_auto))) rfl ?_
     refine lx (op_pick_t rfl rfl) rfl ?_
     refine lx_end ⟨by kernel_rfl, ?_⟩
     refine pe_then_normal ?_
     refine tr_sub hC (.cons (t := 3) rfl (.cons (t := 4) rfl (.cons (t := 6) rfl (.cons (t := 7) rfl (.cons (t := 39) rfl .nil))))) (.cons (t := 602) rfl (.cons (t := 4) rfl (.cons (t := 3) rfl (.cons (t := 6) rfl .nil)))) rfl ?_
     refine tr_cond rfl (fun h39 => ?_) (fun h39 => ?_)
     ·(try simp only [cq1, cq2, cq3, cq4, cq5, cq6, cq7, cq8, cq9, cq10, cq11, cq12, cq13] at h39)
      have hlv : u.leaving = true := h39
      refine tr_skip ?_
      refine pe_then_normal ?_
      refine tr_sub hC (.cons (t := 3) rfl (.cons (t := 4) rfl (.cons (t := 6) rfl (.cons (t := 7) rfl .nil)))) (.cons (t := 602) rfl (.cons (t := 4) rfl (.cons (t := 3) rfl (.cons (t := 6) rfl .nil)))) rfl ?_
      refine tr_block ?_
      refine tr_seq ?_
      refine tr_seq ?_
      refine tr_region (fun N8 hN => ?_)
      refine lx (op_move rfl) rfl ?_
      first | refine lx (op_nilCheck rfl) rfl ?_ | refine lx (op_nilCheckC rfl) rfl ?_
      refine lx (op_fieldAddr rfl fl60_4 sz58) rfl ?_
      refine lx (OpJ.ent (op_tload_one (m := 602) (j := t) (fo := 4) rfl rfl ag58 fmE_len (by omega) (rowE_top (by omega)) rfl) (show Ent _ (slP Df.ps 2 u.defers) from (by exact ent_auto))) rfl ?_
      first | refine lx (op_len rfl el58) rfl ?_ | refine lx (op_len_row rfl el58) rfl ?_ | refine lx (op_len_mv rfl el58) rfl ?_ | refine lx (op_len_nil rfl el58) rfl ?_
      refine lx (op_assign rfl) rfl ?_
      refine lx_end ⟨by kernel_rfl, ?_⟩
      refine pe_then_normal ?_
      refine tr_sub hC (.cons (t := 3) rfl (.cons (t := 4) rfl (.cons (t := 6) rfl (.cons (t := 7) rfl (.cons (t := 8) rfl .nil))))) (.cons (t := 602) rfl (.cons (t := 4) rfl (.cons (t := 3) rfl (.cons (t := 6) rfl .nil)))) rfl ?_
      refine tr_seq ?_
      refine tr_region (fun N9 hN => ?_)
      refine lx (op_move rfl) rfl ?_
      refine lx (op_gtr rfl rfl) rfl ?_
      refine lx_end ⟨by kernel_rfl, ?_⟩
      refine pe_then_normal ?_
      refine tr_sub hC (.cons (t := 3) rfl (.cons (t := 4) rfl (.cons (t := 6) rfl (.cons (t := 7) rfl (.cons (t := 8) rfl (.cons (t := 46) rfl .nil)))))) (.cons (t := 602) rfl (.cons (t := 4) rfl (.cons (t := 3) rfl (.cons (t := 6) rfl .nil)))) rfl ?_
      refine tr_cond rfl (fun h46 => ?_) (fun h46 => ?_)
      ·(try simp only [cq1, cq2, cq3, cq4, cq5, cq6, cq7, cq8, cq9, cq10, cq11, cq12, cq13] at h46)
       have hud := hub.defers
       obtain ⟨d, hd⟩ : ∃ d, u.defers[u.defers.length - 1]? = some d := ⟨_, List.getElem?_eq_getElem (by omega)⟩
       have hcall := leaveF_call (p := p) hq hl hst hlv hd
       refine tr_seq ?_
       refine tr_region (fun N10 hN => ?_)
       refine lx (op_move rfl) rfl ?_
       first | refine lx (op_nilCheck rfl) rfl ?_ | refine lx (op_nilCheckC rfl) rfl ?_
       refine lx (op_fieldAddr rfl fl60_4 sz58) rfl ?_
       refine lx (OpJ.ent (op_tload_one (m := 602) (j := t) (fo := 4) rfl rfl ag58 fmE_len (by omega) (rowE_top (by omega)) rfl) (show Ent _ (slP Df.ps 2 u.defers) from (by exact ent_auto))) rfl ?_
       refine lx (op_move rfl) rfl ?_
       refine lx (op_sub rfl rfl (by omega)) rfl ?_
       refine lx (op_index rfl rfl el58 sz47 (by omega : ((u.defers.length : Nat) : Int) - 1 = ((u.defers.length - 1 : Nat) : Int)) hd) rfl ?_
       first | refine lx (op_load_all rfl ag47 sz47) rfl ?_ | refine lx (op_load_agg rfl ag47 sz47 rfl) rfl ?_ | refine lx (op_bload (m := 602) rfl rfl ag47 sz47) rfl ?_ | refine lx (op_bload (m := 4) rfl rfl ag47 sz47) rfl ?_ | refine lx (op_bload (m := 3) rfl rfl ag47 sz47) rfl ?_ | refine lx (op_bload (m := 6) rfl rfl ag47 sz47) rfl ?_ | refine lx (op_bload_part (m := 602) (qs := [_, _]) rfl rfl ag47 sz47 rfl rfl) rfl ?_ | refine lx (op_bload_part (m := 4) (qs := [_, _]) rfl rfl ag47 sz47 rfl rfl) rfl ?_ | refine lx (op_bload_part (m := 3) (qs := [_, _]) rfl rfl ag47 sz47 rfl rfl) rfl ?_ | refine lx (op_bload_part (m := 6) (qs := [_, _]) rfl rfl ag47 sz47 rfl rfl) rfl ?_
       refine lxn (op_alloc (m := 9) (k := 9) (ps := [eqP (.int .i64 0), eqP (.slice none 0 0)]) ze47 rfl rfl (by first | exact hC.low _ (by decide) | rfl)) rfl ?_
       refine lxr (op_store_all (m := 9) rfl rfl rfl (.agg rfl) sz47 rfl) rfl ?_
       refine lx_end ⟨by kernel_rfl, ?_⟩
       refine pe_then_normal ?_
       refine tr_sub hC (.cons (t := 3) rfl (.cons (t := 4) rfl (.cons (t := 6) rfl (.cons (t := 7) rfl (.cons (t := 8) rfl (.cons (t := 9) rfl .nil)))))) (.cons (t := 602) rfl (.cons (t := 4) rfl (.cons (t := 3) rfl (.cons (t := 6) rfl (.cons (t := 9) rfl .nil))))) rfl ?_
       refine tr_seq ?_
       refine tr_region (fun N11 hN => ?_)
       refine lx (op_move rfl) rfl ?_
       refine lx (op_move rfl) rfl ?_
       first | refine lx (op_nilCheck rfl) rfl ?_ | refine lx (op_nilCheckC rfl) rfl ?_
       refine lx (op_fieldAddr rfl fl60_4 sz58) rfl ?_
       refine lx (OpJ.ent (op_tload_one (m := 602) (j := t) (fo := 4) rfl rfl ag58 fmE_len (by omega) (rowE_top (by omega)) rfl) (show Ent _ (slP Df.ps 2 u.defers) from (by exact ent_auto))) rfl ?_
       refine lx (op_move rfl) rfl ?_
       refine lx (op_sub rfl rfl (by omega)) rfl ?_
       refine lx (op_slice_h rfl rfl el58 sz47 (by omega : ((u.defers.length : Nat) : Int) - 1 = ((u.defers.length - 1 : Nat) : Int)) (by omega)) rfl ?_
       first | refine lx (op_nilCheck rfl) rfl ?_ | refine lx (op_nilCheckC rfl) rfl ?_
       refine lx (op_fieldAddr rfl fl60_4 sz58) rfl ?_
       refine lxr (op_tstore (m := 602) (j := t) (fo := 4) (z' := (pureE { u with defers := u.defers.take (u.defers.length - 1) })) rfl rfl rfl (.one (by (first | exact One.eq rfl | exact One.mv _ _ _ _ _ | exact One.cl _ _ _ | exact One.map _ | exact One.sl _ _ _ | exact One.row _ _ _ _ | exact One.msl _ _ _ _ | exact One.ptr _ _ | exact One.b _ | exact One.cells _))) sz58 rfl fmE_len (by omega) (rowE_top (by omega)) rfl rfl) rfl ?_
       refine lx_end ⟨by kernel_rfl, ?_⟩
       refine pe_then_normal ?_
       refine tr_sub hC (.cons (t := 3) rfl (.cons (t := 4) rfl (.cons (t := 6) rfl (.cons (t := 9) rfl .nil)))) (.cons (t := 602) rfl (.cons (t := 4) rfl (.cons (t := 3) rfl (.cons (t := 6) rfl (.cons (t := 9) rfl .nil))))) rfl ?_
       try refine tr_post (fun X hX => post_rowEq (n := 602) rfl (rowE_set (by omega)) hX) ?_
       refine tr_post (fun X hX => post_sealFm (n := 602) (t := 699) hC0 rfl (by omega) (by omega) rfl (.inl rfl) rfl hX) ?_
       have hC := hC0
       refine tr_post (fun X hX => post_rowPs (n := 602) rfl rowPureT hX) ?_
       refine tr_bound 698 (m := 602) rfl ?_
       refine tr_freeze (m := 602) rfl (.cons (t := 3) rfl (.cons (t := 4) rfl (.cons (t := 6) rfl (.cons (t := 9) rfl (.ent (t := 698) rfl FEnt.frz_bound .nil))))) ?_
       refine tr_thaw (t := 698) (n := 4) (qs' := _) rfl (.cons (t := 3) rfl (.cons (t := 4) rfl (.cons (t := 6) rfl (.cons (t := 9) rfl .nil)))) rfl (.cons (.of (Ent.refl _)) (.cons (.of (Ent.refl _)) (.cons (.of (Ent.refl _)) (.cons (fment_part Fm.len (take_part (by omega))) .nil)))) ?_
       refine tr_seq ?_
       refine tr_region (fun N12 hN => ?_)
       refine lx (op_bload (m := 3) rfl rfl ag26 sz26) rfl ?_
       refine lx (op_bload (m := 4) rfl rfl ag29 sz29) rfl ?_
       refine lx (op_fieldAddr rfl fl47_0 sz3) rfl ?_
       refine lx (op_bload_one (m := 9) rfl rfl ag3 rfl) rfl ?_
       refine lx (op_fieldAddr rfl fl47_1 sz33) rfl ?_
       refine lx (op_bload_one (m := 9) rfl rfl ag33 rfl) rfl ?_
       first | refine lx (op_call (l := [(Go.Operand.tmp 66), (Go.Operand.tmp 67), (Go.Operand.tmp 69), (Go.Operand.tmp 71), (Go.Operand.const (Go.Value.int Go.IntKind.i64 (-1)))]) (Enter_ok p hp { g with frames := g.frames.take t ++ [{ u with defers := u.defers.take (u.defers.length - 1) }] } (bdG_take hb (bdF_drop hub) (by omega)) (by simp; omega) d.fn d.args (-1)) (.cons rfl (.cons rfl (.cons rfl (.cons rfl (.cons rfl .nil))))) fn17) rfl ?_ | refine lx (op_call (l := [(Go.Operand.tmp 66), (Go.Operand.tmp 67), (Go.Operand.tmp 69), (Go.Operand.tmp 71), (Go.Operand.const (Go.Value.int Go.IntKind.i64 (-1)))]) (Enter_ok p hp { g with frames := g.frames.take t ++ [{ u with defers := u.defers.take (u.defers.length - 1) }] } (bdG_take hb (bdF_drop hub) (by omega)) (by simp; omega) d.fn d.args (-1)) (.ent rfl (by exact ent_auto) (.ent rfl (by exact ent_auto) (.ent rfl (by exact ent_auto) (.ent rfl (by exact ent_auto) (.ent rfl (by exact ent_auto) .nil))))) fn17) rfl ?_
       refine lx (op_move rfl) rfl ?_
       refine lx (op_extract rfl rfl) rfl ?_
       refine lx (op_extract rfl rfl) rfl ?_
       refine lxn (op_alloc (m := 10) (k := 10) (ps := [eqP (.int .i64 0), eqP (.int .i64 0), eqP (.int .i64 0), eqP (.slice none 0 0)]) ze29 rfl rfl (by first | exact hC.low _ (by decide) | rfl)) rfl ?_
       refine lxr (op_store_all (m := 10) rfl rfl rfl (.agg rfl) sz29 rfl) rfl ?_
       refine lx (op_assign rfl) rfl ?_
       refine lx_end ⟨by kernel_rfl, ?_⟩
       refine pe_then_normal ?_
       refine tr_sub hC (.cons (t := 4) rfl (.cons (t := 6) rfl (.cons (t := 10) rfl (.cons (t := 11) rfl .nil)))) (.cons (t := 4) rfl (.cons (t := 6) rfl (.cons (t := 10) rfl .nil))) rfl ?_
       refine tr_seq ?_
       refine tr_seq ?_
       refine tr_region (fun N13 hN => ?_)
       refine lx (op_move rfl) rfl ?_
       refine lx (op_neq rfl rfl) rfl ?_
       refine lx_end ⟨by kernel_rfl, ?_⟩
       refine pe_then_normal ?_
       refine tr_sub hC (.cons (t := 4) rfl (.cons (t := 6) rfl (.cons (t := 10) rfl (.cons (t := 76) rfl .nil)))) (.cons (t := 4) rfl (.cons (t := 6) rfl (.cons (t := 10) rfl .nil))) rfl ?_
       refine tr_cond rfl (fun h76 => ?_) (fun h76 => ?_)
       ·(try simp only [cq1, cq2, cq3, cq4, cq5, cq6, cq7, cq8, cq9, cq10, cq11, cq12, cq13] at h76)
        rw [if_neg h76] at hcall
        refine tr_seq ?_
        refine tr_region (fun N14 hN => ?_)
        refine lx (op_fieldAddr rfl fl29_0 sz3) rfl ?_
        refine lxr (op_store (m := 4) (rs := [_, _, _, _]) rfl rfl rfl (.one (by (first | exact One.eq rfl | exact One.mv _ _ _ _ _ | exact One.cl _ _ _ | exact One.map _ | exact One.sl _ _ _ | exact One.row _ _ _ _ | exact One.msl _ _ _ _ | exact One.ptr _ _ | exact One.b _ | exact One.cells _))) sz3 rfl rfl rfl) rfl ?_
        refine lx (op_fieldAddr rfl fl29_1 sz3) rfl ?_
        refine lxr (op_store (m := 4) (rs := [_, _, _, _]) rfl rfl rfl (.one (by (first | exact One.eq rfl | exact One.mv _ _ _ _ _ | exact One.cl _ _ _ | exact One.map _ | exact One.sl _ _ _ | exact One.row _ _ _ _ | exact One.msl _ _ _ _ | exact One.ptr _ _ | exact One.b _ | exact One.cells _))) sz3 rfl rfl rfl) rfl ?_
        refine lx_end ⟨by kernel_rfl, ?_⟩
        refine pe_then_normal ?_
        refine tr_sub hC (.cons (t := 4) rfl (.cons (t := 6) rfl .nil)) (.cons (t := 4) rfl (.cons (t := 6) rfl .nil)) rfl ?_
        refine tr_seq ?_
        refine tr_region (fun N15 hN => ?_)
        refine lx (op_bload (m := 4) rfl rfl ag29 sz29) rfl ?_
        refine lxr (op_store_all (m := 6) rfl rfl rfl (.agg rfl) sz29 rfl) rfl ?_
        refine lx_end ⟨by kernel_rfl, ?_⟩
        refine pe_then_normal ?_
        refine tr_sub hC (.cons (t := 6) rfl .nil) (.cons (t := 6) rfl .nil) rfl ?_
        refine tr_ret ?_
        refine pe_then_ret ?_
        refine pe_then_ret ?_
        refine pe_block_ret ?_
        refine pe_then_ret ?_
        refine pe_block_ret ?_
        refine pe_then_ret ?_
        refine pe_ret1 rfl hO rfl (.cell (m := 6) rfl rfl ag29 sz29 .nil) ?_
        rw [hcall]
        exact ent_auto
       ·(try simp only [cq1, cq2, cq3, cq4, cq5, cq6, cq7, cq8, cq9, cq10, cq11, cq12, cq13] at h76)
        rw [if_pos h76] at hcall
        refine tr_skip ?_
        refine pe_then_normal ?_
        refine tr_sub hC (.cons (t := 6) rfl (.cons (t := 10) rfl .nil)) (.cons (t := 6) rfl (.cons (t := 10) rfl .nil)) rfl ?_
        refine tr_seq ?_
        refine tr_region (fun N16 hN => ?_)
        refine lx (op_bload (m := 10) rfl rfl ag29 sz29) rfl ?_
        refine lxr (op_store_all (m := 6) rfl rfl rfl (.agg rfl) sz29 rfl) rfl ?_
        refine lx_end ⟨by kernel_rfl, ?_⟩
        refine pe_then_normal ?_
        refine tr_sub hC (.cons (t := 6) rfl .nil) (.cons (t := 6) rfl .nil) rfl ?_
        refine tr_ret ?_
        refine pe_then_ret ?_
        refine pe_block_ret ?_
        refine pe_then_ret ?_
        refine pe_block_ret ?_
        refine pe_then_ret ?_
        refine pe_ret1 rfl hO rfl (.cell (m := 6) rfl rfl ag29 sz29 .nil) ?_
        rw [hcall]
        exact ent_auto
      ·(try simp only [cq1, cq2, cq3, cq4, cq5, cq6, cq7, cq8, cq9, cq10, cq11, cq12, cq13] at h46)
       have hnd : u.defers.length = 0 := by omega
       refine tr_skip ?_
       refine pe_then_normal ?_
       refine tr_sub hC (.cons (t := 3) rfl (.cons (t := 4) rfl (.cons (t := 6) rfl (.cons (t := 7) rfl .nil)))) (.cons (t := 602) rfl (.cons (t := 4) rfl (.cons (t := 3) rfl (.cons (t := 6) rfl .nil)))) rfl ?_
       refine tr_seq ?_
       refine tr_region (fun N17 hN => ?_)
       refine lx (op_move rfl) rfl ?_
       first | refine lx (op_nilCheck rfl) rfl ?_ | refine lx (op_nilCheckC rfl) rfl ?_
       refine lx (OpJ.ent (op_tload (m := 602) (j := t) (fo := 0) rfl rfl ag60 sz60 fmE_len (by omega) (rowE_top (by omega)) rfl rfl) (show Ent _ (aggP u.ps) from (by exact ent_auto))) rfl ?_
       refine lxn (op_alloc (m := 12) (k := 12) (ps := [eqP (.int .i64 0), eqP (.int .i64 0), eqP (.slice none 0 0), eqP (.int .i64 0), eqP (.slice none 0 0), eqP (.bool false), eqP (.int .i64 0), eqP (.int .i64 0), eqP (.int .i64 0)]) ze60 rfl rfl (by first | exact hC.low _ (by decide) | rfl)) rfl ?_
       refine lxr (op_store_all (m := 12) rfl rfl rfl (.agg rfl) sz60 rfl) rfl ?_
       refine lx_end ⟨by kernel_rfl, ?_⟩
       refine pe_then_normal ?_
       refine tr_sub hC (.cons (t := 3) rfl (.cons (t := 4) rfl (.cons (t := 6) rfl (.cons (t := 12) rfl .nil)))) (.cons (t := 602) rfl (.cons (t := 4) rfl (.cons (t := 3) rfl (.cons (t := 6) rfl (.cons (t := 12) rfl .nil))))) rfl ?_
       refine tr_seq ?_
       refine tr_region (fun N18 hN => ?_)
       refine lx (op_fieldAddr rfl fl29_3 sz27) rfl ?_
       refine lx (op_bload_one (m := 4) rfl rfl ag27 rfl) rfl ?_
       refine lx (op_fieldAddr rfl fl29_3 sz27) rfl ?_
       refine lx (op_bload_one (m := 4) rfl rfl ag27 rfl) rfl ?_
       first | refine lx (op_len rfl el27) rfl ?_ | refine lx (op_len_row rfl el27) rfl ?_ | refine lx (op_len_mv rfl el27) rfl ?_ | refine lx (op_len_nil rfl el27) rfl ?_
       refine lx (op_sub rfl rfl (by omega)) rfl ?_
       refine lx (op_mslice_h rfl rfl el27 sz60 (by omega : ((t + 1 : Nat) : Int) - 1 = ((t : Nat) : Int)) (by omega)) rfl ?_
       refine lx (op_fieldAddr rfl fl29_3 sz27) rfl ?_
       refine lxr (op_store (m := 4) (rs := [_, _, _, _]) rfl rfl rfl (.one (by (first | exact One.eq rfl | exact One.mv _ _ _ _ _ | exact One.cl _ _ _ | exact One.map _ | exact One.sl _ _ _ | exact One.row _ _ _ _ | exact One.msl _ _ _ _ | exact One.ptr _ _ | exact One.b _ | exact One.cells _))) sz27 rfl rfl rfl) rfl ?_
       refine lx_end ⟨by kernel_rfl, ?_⟩
       refine pe_then_normal ?_
       refine tr_sub hC (.cons (t := 3) rfl (.cons (t := 4) rfl (.cons (t := 6) rfl (.cons (t := 12) rfl .nil)))) (.cons (t := 602) rfl (.cons (t := 4) rfl (.cons (t := 3) rfl (.cons (t := 6) rfl (.cons (t := 12) rfl .nil))))) rfl ?_
       rcases t with _ | t
       ·have hC : CxOK (famC ⟨σ0, M, ex, Rf, 124⟩ (2 * 0) ((fun j => fid N1 (200) (2 * (q + 1)) (j + 1))) (famR 43 47 g.frames)) := famC_ok
        refine tr_seq ?_
        refine tr_region (fun N19 hN => ?_)
        refine lx (op_bload (m := 4) rfl rfl ag29 sz29) rfl ?_
        first | refine lx (op_call (l := [(Go.Operand.tmp 92)]) (cur_none _ _ _ _ _) (.cons rfl .nil) fn40) rfl ?_ | refine lx (op_call (l := [(Go.Operand.tmp 92)]) (cur_none _ _ _ _ _) (.ent rfl (by exact ent_auto) .nil) fn40) rfl ?_
        refine lx (op_assign rfl) rfl ?_
        refine lx_end ⟨by kernel_rfl, ?_⟩
        refine pe_then_normal ?_
        refine tr_sub hC (.cons (t := 3) rfl (.cons (t := 4) rfl (.cons (t := 6) rfl (.cons (t := 7) rfl (.cons (t := 12) rfl .nil))))) (.cons (t := 602) rfl (.cons (t := 4) rfl (.cons (t := 3) rfl (.cons (t := 6) rfl (.cons (t := 12) rfl .nil))))) rfl ?_
        refine tr_seq ?_
        refine tr_drawn mixed (fun N20 hN => ?_)
        refine lx (op_move rfl) rfl ?_
        first | refine lxk (op_neq_ptr pt73 rfl (IsPtr.own _ _)) (rfl) rfl ?_ | refine lxk (op_neq_ptr pt73 rfl (IsPtr.cells _)) (rfl) rfl ?_ | refine lxk (op_neq_ptr pt73 rfl (IsPtr.nil)) (rfl) rfl ?_
        refine lx (op_move rfl) rfl ?_
        refine lx_skip rfl rfl rfl (by first | exact notThe_bool rfl | exact notThe_undef) rfl ?_
        refine lx_skip rfl rfl rfl (by first | exact notThe_bool rfl | exact notThe_undef) rfl ?_
        refine lx_skip rfl rfl rfl (by first | exact notThe_bool rfl | exact notThe_undef) rfl ?_
        refine lx (op_pick_f rfl rfl) rfl ?_
        refine lx (op_move rfl) rfl ?_
        refine lx_skip rfl rfl rfl (by first | exact notThe_bool rfl | exact notThe_undef) rfl ?_
        refine lx_skip rfl rfl rfl (by first | exact notThe_bool rfl | exact notThe_undef) rfl ?_
        refine lx_skip rfl rfl rfl (by first | exact notThe_bool rfl | exact notThe_undef) rfl ?_
        refine lx_skip rfl rfl rfl (by first | exact notThe_bool rfl | exact notThe_undef) rfl ?_
        refine lx_skip rfl rfl rfl (by first | exact notThe_bool rfl | exact notThe_undef) rfl ?_
        refine lx_skip rfl rfl rfl (by first | exact notThe_bool rfl | exact notThe_undef) rfl ?_
        refine lx_skip rfl rfl rfl (by first | exact notThe_bool rfl | exact notThe_undef) rfl ?_
        refine lx_skip rfl rfl rfl (by first | exact notThe_bool rfl | exact notThe_undef) rfl ?_
        refine lx (op_pick_f rfl rfl) rfl ?_
        refine lx_end ⟨by kernel_rfl, ?_⟩
        refine pe_then_normal ?_
        refine tr_sub hC (.cons (t := 3) rfl (.cons (t := 4) rfl (.cons (t := 6) rfl (.cons (t := 7) rfl (.cons (t := 12) rfl (.cons (t := 110) rfl .nil)))))) (.cons (t := 602) rfl (.cons (t := 4) rfl (.cons (t := 3) rfl (.cons (t := 6) rfl (.cons (t := 12) rfl .nil))))) rfl ?_
        refine tr_cond_f rfl ?_
        refine tr_skip ?_
        refine pe_block_normal ?_
        refine pe_roundC (⟨(0, u, pureE u :: zs), Nat.zero_le _, (leave_last hlv hnd).symm.trans hst, hub⟩) (by dsimp only; omega) (pe_st hC ?_ ?_ rfl)
        ·try dsimp only [List.cons_append, List.nil_append]
         first | refine SubF.cons rfl ?_ | (refine SubF.ent rfl ?_ ?_; · exact ent_auto)
         first | refine SubF.cons rfl ?_ | (refine SubF.ent rfl ?_ ?_; · exact ent_auto)
         first | refine SubF.cons rfl ?_ | (refine SubF.ent rfl ?_ ?_; · exact ent_auto)
         first | refine SubF.cons rfl ?_ | (refine SubF.ent rfl ?_ ?_; · exact ent_auto)
         exact SubF.nil
        ·try dsimp only [List.cons_append, List.nil_append]
         repeat (first | exact SubL.nil | refine SubL.cons rfl ?_)
       ·have hC : CxOK (famC ⟨σ0, M, ex, Rf, 124⟩ (2 * (t + 1)) ((fun j => fid N1 (200) (2 * (q + 1)) (j + 1))) (famR 43 47 g.frames)) := famC_ok
        obtain ⟨h, hh⟩ : ∃ h, g.frames[t]? = some h := ⟨_, List.getElem?_eq_getElem (by omega)⟩
        have hbh := hb.each h (List.mem_of_getElem? hh)
        refine tr_post (fun X hX => post_rowEq (n := 602) rfl (show rowE g.frames (fun j => fid N1 (200) (2 * (q + 1)) (j + 1)) (t + 1) (2 * (t + 1)) _ = _ from rowE_pop hh) hX) ?_
        refine tr_post (fun X hX => post_famK (show 2 * (t + 1) = 2 * t + 2 by omega) hX) ?_
        have hC : CxOK (famC ⟨σ0, M, ex, Rf, 124⟩ (2 * t + 2) ((fun j => fid N1 (200) (2 * (q + 1)) (j + 1))) (famR 43 47 g.frames)) := famC_ok
        refine tr_post (fun X hX => post_take2 605 606 hh rfl rfl (by omega) rfl (.inl rfl) (.inl rfl) hX) ?_
        have hC : CxOK (famC ⟨σ0, M, ex, Rf, 124⟩ (2 * t) ((fun j => fid N1 (200) (2 * (q + 1)) (j + 1))) (famR 43 47 g.frames)) := famC_ok
        refine tr_seq ?_
        refine tr_region (fun N19 hN => ?_)
        refine lx (op_bload (m := 4) rfl rfl ag29 sz29) rfl ?_
        first | refine lx (op_call (l := [(Go.Operand.tmp 92)]) (cur_some _ _ _ _ t _ (by omega)) (.cons rfl .nil) fn40) rfl ?_ | refine lx (op_call (l := [(Go.Operand.tmp 92)]) (cur_some _ _ _ _ t _ (by omega)) (.ent rfl (by exact ent_auto) .nil) fn40) rfl ?_
        refine lx (op_assign rfl) rfl ?_
        refine lx_end ⟨by kernel_rfl, ?_⟩
        refine pe_then_normal ?_
        refine tr_sub hC (.cons (t := 3) rfl (.cons (t := 4) rfl (.cons (t := 6) rfl (.cons (t := 7) rfl (.cons (t := 12) rfl .nil))))) (.cons (t := 602) rfl (.cons (t := 4) rfl (.cons (t := 3) rfl (.cons (t := 6) rfl (.cons (t := 12) rfl (.cons (t := 605) rfl (.cons (t := 606) rfl .nil))))))) rfl ?_
        refine tr_seq ?_
        refine tr_drawn mixed (fun N20 hN => ?_)
        refine lx (op_move rfl) rfl ?_
        first | refine lxk (op_neq_ptr pt73 rfl (IsPtr.own _ _)) (rfl) rfl ?_ | refine lxk (op_neq_ptr pt73 rfl (IsPtr.cells _)) (rfl) rfl ?_ | refine lxk (op_neq_ptr pt73 rfl (IsPtr.nil)) (rfl) rfl ?_
        refine lx (op_move rfl) rfl ?_
        refine lxg rfl rfl rfl (op_fieldAddr rfl fl60_3 sz3) rfl ?_
        refine lxg rfl rfl rfl (op_bload_one (m := 12) rfl rfl ag3 rfl) rfl ?_
        refine lxg rfl rfl rfl (op_geq rfl rfl) rfl ?_
        refine lx (op_pick_t rfl rfl) rfl ?_
        refine lx (op_move rfl) rfl ?_
        refine lxs rfl rfl rfl guard_eq (.cons (t := 12) rfl (fun _ => Ent.refl _) .nil) (op_fieldAddr rfl fl60_3 sz3) rfl ?_
        refine lxs rfl rfl rfl guard_eq (.cons (t := 102) rfl (fun h => entW h) .nil) (op_bload_one (m := 12) rfl rfl ag3 rfl) rfl ?_
        refine lxs rfl rfl rfl guard_eq (.cons (t := 7) rfl (fun _ => Ent.refl _) .nil) (op_move rfl) rfl ?_
        first | refine lxs rfl rfl rfl guard_eq (.cons (t := 104) rfl (fun h => entW h) .nil) (op_nilCheck rfl) rfl ?_ | refine lxs rfl rfl rfl guard_eq (.cons (t := 104) rfl (fun h => entW h) .nil) (op_nilCheckC rfl) rfl ?_
        refine lxs rfl rfl rfl guard_eq (.cons (t := 105) rfl (fun h => entW h) .nil) (op_fieldAddr rfl fl60_2 sz33) rfl ?_
        refine lxs rfl rfl rfl guard_eq (.cons (t := 106) rfl (fun h => entW h) .nil) (op_tload_one (m := 602) (j := t) (fo := 2) rfl rfl ag33 fmE_len (by omega) (rowE_top (by omega)) rfl) rfl ?_
        first | refine lxs rfl rfl rfl guard_eq (.cons (t := 107) rfl (fun h => entW h) .nil) (op_len rfl el33) rfl ?_ | refine lxs rfl rfl rfl guard_eq (.cons (t := 107) rfl (fun h => entW h) .nil) (op_len_row rfl el33) rfl ?_ | refine lxs rfl rfl rfl guard_eq (.cons (t := 107) rfl (fun h => entW h) .nil) (op_len_mv rfl el33) rfl ?_ | refine lxs rfl rfl rfl guard_eq (.cons (t := 107) rfl (fun h => entW h) .nil) (op_len_nil rfl el33) rfl ?_
        refine lxs rfl rfl rfl guard_eq (.cons (t := 103) rfl (fun h => entW h) (.cons (t := 108) rfl (fun h => entW h) .nil)) (op_lss rfl rfl) rfl ?_
        refine lx (op_pick_and rfl rfl) rfl ?_
        refine lx_end ⟨by kernel_rfl, ?_⟩
        refine pe_then_normal ?_
        refine tr_sub hC (.cons (t := 3) rfl (.cons (t := 4) rfl (.cons (t := 6) rfl (.cons (t := 7) rfl (.cons (t := 12) rfl (.cons (t := 110) rfl .nil)))))) (.cons (t := 602) rfl (.cons (t := 4) rfl (.cons (t := 3) rfl (.cons (t := 6) rfl (.cons (t := 12) rfl (.cons (t := 605) rfl (.cons (t := 606) rfl .nil))))))) rfl ?_
        refine tr_cond rfl (fun h110 => ?_) (fun h110 => ?_)
        ·(try simp only [cq1, cq2, cq3, cq4, cq5, cq6, cq7, cq8, cq9, cq10, cq11, cq12, cq13] at h110)
         refine tr_drawn mixed (fun N21 hN => ?_)
         refine lx (op_move rfl) rfl ?_
         first | refine lx (op_nilCheck rfl) rfl ?_ | refine lx (op_nilCheckC rfl) rfl ?_
         refine lx (op_fieldAddr rfl fl60_2 sz33) rfl ?_
         refine lx (OpJ.ent (op_tload_one (m := 602) (j := t) (fo := 2) rfl rfl ag33 fmE_len (by omega) (rowE_top (by omega)) rfl) (show Ent _ (mvP ((fun j => fid N1 (200) (2 * (q + 1)) (j + 1)) (2 * t)) 3 0 h.regs.length h.regs.length) from (by exact ent_auto))) rfl ?_
         refine lx (op_fieldAddr rfl fl60_3 sz3) rfl ?_
         refine lx (op_bload_one (m := 12) rfl rfl ag3 rfl) rfl ?_
         refine lx (op_fieldAddr rfl fl60_6 sz43) rfl ?_
         refine lx (op_bload_part (m := 12) (qs := [_, _, _]) rfl rfl ag43 sz43 rfl rfl) rfl ?_
         refine lx (op_index_mv rfl rfl el33 sz43 (by omega : u.dest = ((u.dest.toNat : Nat) : Int)) (show u.dest.toNat < h.regs.length by omega)) rfl ?_
         refine lxr (op_tstore (m := 605) (j := u.dest.toNat) (fo := 0) (z' := u.result) rfl rfl rfl (.agg rfl) sz43 rfl vp_len (by omega) (List.getElem?_eq_getElem (by omega : u.dest.toNat < h.regs.length)) rfl rfl) rfl ?_
         refine lx_end ⟨by kernel_rfl, ?_⟩
         refine pe_block_normal ?_
         refine post_seal (m := 605) (n := 602) rfl rfl (by decide) (seal_regs (by simp)) ?_
         refine post_seal (m := 606) (n := 602) rfl rfl (by decide) (seal_defs (by simp)) ?_
         refine pe_roundC (⟨(t + 1, { h with regs := h.regs.set u.dest.toNat u.result }, pureE u :: zs), (by dsimp only; omega), (congrArg (lst g.frames (t + 1)) (ret1_in (f := u) (h := h) (by omega)).symm).trans ((leave_pop hlv hnd hh).symm.trans hst), ⟨by simpa using hbh.regs, hbh.defers, hbh.args⟩⟩) (by dsimp only; omega) (pe_st hC ?_ ?_ rfl)
         ·try dsimp only [List.cons_append, List.nil_append]
          first | refine SubF.cons rfl ?_ | (refine SubF.ent rfl ?_ ?_; · exact ent_auto)
          first | refine SubF.cons rfl ?_ | (refine SubF.ent rfl ?_ ?_; · exact ent_auto)
          first | refine SubF.cons rfl ?_ | (refine SubF.ent rfl ?_ ?_; · exact ent_auto)
          first | refine SubF.cons rfl ?_ | (refine SubF.ent rfl ?_ ?_; · exact ent_auto)
          exact SubF.nil
         ·try dsimp only [List.cons_append, List.nil_append]
          repeat (first | exact SubL.nil | refine SubL.cons rfl ?_)
        ·(try simp only [cq1, cq2, cq3, cq4, cq5, cq6, cq7, cq8, cq9, cq10, cq11, cq12, cq13] at h110)
         refine tr_skip ?_
         refine pe_block_normal ?_
         refine post_seal (m := 605) (n := 602) rfl rfl (by decide) (seal_regs (by simp)) ?_
         refine post_seal (m := 606) (n := 602) rfl rfl (by decide) (seal_defs (by simp)) ?_
         refine pe_roundC (⟨(t + 1, h, pureE u :: zs), (by dsimp only; omega), (congrArg (lst g.frames (t + 1)) (ret1_out (f := u) (h := h) (by omega)).symm).trans ((leave_pop hlv hnd hh).symm.trans hst), hbh⟩) (by dsimp only; omega) (pe_st hC ?_ ?_ rfl)
         ·try dsimp only [List.cons_append, List.nil_append]
          first | refine SubF.cons rfl ?_ | (refine SubF.ent rfl ?_ ?_; · exact ent_auto)
          first | refine SubF.cons rfl ?_ | (refine SubF.ent rfl ?_ ?_; · exact ent_auto)
          first | refine SubF.cons rfl ?_ | (refine SubF.ent rfl ?_ ?_; · exact ent_auto)
          first | refine SubF.cons rfl ?_ | (refine SubF.ent rfl ?_ ?_; · exact ent_auto)
          exact SubF.nil
         ·try dsimp only [List.cons_append, List.nil_append]
          repeat (first | exact SubL.nil | refine SubL.cons rfl ?_)
     ·(try simp only [cq1, cq2, cq3, cq4, cq5, cq6, cq7, cq8, cq9, cq10, cq11, cq12, cq13] at h39)
      have hlv : u.leaving = false := h39
      refine tr_exit ?_
      refine pe_then_exit ?_
      refine pe_then_exit ?_
      refine pe_block_eq ?_
      refine pe_then_normal ?_
      refine tr_sub hC (.cons (t := 4) rfl (.cons (t := 6) rfl (.cons (t := 7) rfl .nil))) (.cons (t := 602) rfl (.cons (t := 4) rfl (.cons (t := 6) rfl .nil))) rfl ?_
      refine tr_seq ?_
      refine tr_seq ?_
      refine tr_region (fun N22 hN => ?_)
      refine lx (op_move rfl) rfl ?_
      first | refine lxk (op_eql_ptr pt73 rfl (IsPtr.own _ _)) (rfl) rfl ?_ | refine lxk (op_eql_ptr pt73 rfl (IsPtr.cells _)) (rfl) rfl ?_ | refine lxk (op_eql_ptr pt73 rfl (IsPtr.nil)) (rfl) rfl ?_
      refine lx_end ⟨by kernel_rfl, ?_⟩
      refine pe_then_normal ?_
      refine tr_sub hC (.cons (t := 4) rfl (.cons (t := 6) rfl (.cons (t := 121) rfl .nil))) (.cons (t := 602) rfl (.cons (t := 4) rfl (.cons (t := 6) rfl .nil))) rfl ?_
      refine tr_cond_f rfl ?_
      refine tr_skip ?_
      refine pe_then_normal ?_
      refine tr_sub hC (.cons (t := 4) rfl (.cons (t := 6) rfl .nil)) (.cons (t := 602) rfl (.cons (t := 4) rfl (.cons (t := 6) rfl .nil))) rfl ?_
      have hfin := leaveF_stop (p := p) hq hl hst hlv
      refine tr_post (fun X hX => post_sealFm (n := 602) (t := 699) hC0 rfl (by omega) (by omega) rfl (.inl rfl) rfl hX) ?_
      have hC := hC0
      refine tr_post (fun X hX => post_rowPs (n := 602) rfl rowPureT hX) ?_
      refine tr_bound 698 (m := 602) rfl ?_
      refine tr_freeze (m := 602) rfl (.cons (t := 4) rfl (.cons (t := 6) rfl (.ent (t := 698) rfl FEnt.frz_bound .nil))) ?_
      refine tr_thaw (t := 698) (n := 4) (qs' := _) rfl (.cons (t := 4) rfl (.cons (t := 6) rfl .nil)) rfl (.cons (.of (Ent.refl _)) (.cons (.of (Ent.refl _)) (.cons (.of (Ent.refl _)) (.cons (fment_part Fm.len (take_part (by omega))) .nil)))) ?_
      refine tr_seq ?_
      refine tr_region (fun N24 hN => ?_)
      refine lx (op_bload (m := 4) rfl rfl ag29 sz29) rfl ?_
      refine lxr (op_store_all (m := 6) rfl rfl rfl (.agg rfl) sz29 rfl) rfl ?_
      refine lx_end ⟨by kernel_rfl, ?_⟩
      refine pe_then_normal ?_
      refine tr_sub hC (.cons (t := 6) rfl .nil) (.cons (t := 6) rfl .nil) rfl ?_
      refine tr_ret ?_
      refine pe_ret1 rfl hO rfl (.cell (m := 6) rfl rfl ag29 sz29 .nil) ?_
      rw [hfin]
      exact ent_auto
  ·(try simp only [cq1, cq2, cq3, cq4, cq5, cq6, cq7, cq8, cq9, cq10, cq11, cq12, cq13] at h24)
   have htl : topL f v = f := by unfold topL; rw [if_pos h24]
   refine tr_skip ?_
   refine pe_then_normal ?_
   refine tr_sub hC (.cons (t := 3) rfl (.cons (t := 4) rfl (.cons (t := 6) rfl (.cons (t := 7) rfl .nil)))) (.cons (t := 3) rfl (.cons (t := 4) rfl (.cons (t := 6) rfl (.cons (t := 602) rfl .nil)))) rfl ?_
   first | refine tr_post (fun X hX => post_rowEq (n := 602) rfl (rowE_set2 (by omega)) hX) ?_ | skip
   refine tr_seq ?_
   refine tr_block ?_
   refine tr_loopKC (α := {zz : Nat × Fm × (List FmE) // zz.1 ≤ q + 1 ∧ lst g.frames zz.1 zz.2.1 = lst g.frames (q + 1) (topL f v) ∧ BdF 1048576 zz.2.1}) (⟨(q + 1, f, []), Nat.le_refl _, (by rw [htl]), hbf⟩) (fun zz => famC ⟨σ0, M, ex, Rf, 124⟩ (kf zz.1.1) ((fun j => fid N1 (200) (2 * (q + 1)) (j + 1))) (famR 43 47 g.frames)) (fun zz => [(7, curP (fid N1 200 (2 * (q + 1)) 0) zz.1.1)]) (fun zz => [(602, some ((fid N1 200 (2 * (q + 1)) 0), blkX 9 60 ((rowS g.frames (fun j => fid N1 (200) (2 * (q + 1)) (j + 1)) zz.1.1 zz.1.2.1 zz.1.2.2).flatMap fmE))), (4, some ((N0, 4), blk 29 [eqP (.int .i64 g.state), eqP (.int .i64 g.fault), eqP (.int .i64 g.allocs), mvP (fid N1 200 (2 * (q + 1)) 0) 9 0 zz.1.1 (q + 1)]))]) (fun zz => zz.1.1) hC rfl (.cons (t := 3) rfl (.cons (t := 4) rfl (.cons (t := 6) rfl .nil))) (.cons (t := 3) rfl (.cons (t := 6) rfl .nil)) rfl ?_ ?_ (fun zz => ?_)
   ·try dsimp only [List.cons_append, List.nil_append]
    first | refine SubF.cons rfl ?_ | (refine SubF.ent rfl ?_ ?_; · exact ent_auto)
    exact SubF.nil
   ·try dsimp only [List.cons_append, List.nil_append]
    repeat (first | exact SubL.nil | refine SubL.cons rfl ?_)
   ·obtain ⟨⟨p, u, zs⟩, hp1, hst, hub⟩ := zz
    try dsimp only at hp1
    try dsimp only at hst
    try dsimp only at hub
    dsimp only [List.cons_append, List.nil_append]
    have hC : CxOK (famC ⟨σ0, M, ex, Rf, 124⟩ (kf p) ((fun j => fid N1 (200) (2 * (q + 1)) (j + 1))) (famR 43 47 g.frames)) := famC_ok
    rcases p with _ | t
    ·refine tr_post (fun X hX => post_famK (show kf 0 = 0 from rfl) hX) ?_
     have hC : CxOK (famC ⟨σ0, M, ex, Rf, 124⟩ (0) ((fun j => fid N1 (200) (2 * (q + 1)) (j + 1))) (famR 43 47 g.frames)) := famC_ok
     refine tr_post (fun X hX => post_rowEq (n := 602) (ys := rowE g.frames (fun j => fid N1 (200) (2 * (q + 1)) (j + 1)) 0 0 zs) rfl rfl hX) ?_
     refine tr_sub hC (.cons (t := 3) rfl (.cons (t := 4) rfl (.cons (t := 6) rfl (.ent (t := 7) rfl ((show Ent (curP _ 0) (eqP (.pointer none)) from Ent.refl _)) .nil)))) (.cons (t := 602) rfl (.cons (t := 4) rfl (.cons (t := 3) rfl (.cons (t := 6) rfl .nil)))) rfl ?_
     refine tr_seq ?_
     refine tr_seq ?_
     refine tr_region (fun N7 hN => ?_)
     refine lx (op_move rfl) rfl ?_
     first | refine lxk (op_neq_ptr pt73 rfl (IsPtr.own _ _)) (rfl) rfl ?_ | refine lxk (op_neq_ptr pt73 rfl (IsPtr.cells _)) (rfl) rfl ?_ | refine lxk (op_neq_ptr pt73 rfl (IsPtr.nil)) (rfl) rfl ?_
     refine lx (op_move rfl) rfl ?_
     refine lx_skip rfl rfl rfl (by first | exact notThe_bool rfl | exact notThe_undef) rfl ?_
     refine lx_skip rfl rfl rfl (by first | exact notThe_bool rfl | exact notThe_undef) rfl ?_
     refine lx_skip rfl rfl rfl (by first | exact notThe_bool rfl | exact notThe_undef) rfl ?_
     refine lx_skip rfl rfl rfl (by first | exact notThe_bool rfl | exact notThe_undef) rfl ?_
     refine lx (op_pick_f rfl rfl) rfl ?_
     refine lx_end ⟨by kernel_rfl, ?_⟩
     refine pe_then_normal ?_
     refine tr_sub hC (.cons (t := 3) rfl (.cons (t := 4) rfl (.cons (t := 6) rfl (.cons (t := 7) rfl (.cons (t := 39) rfl .nil))))) (.cons (t := 602) rfl (.cons (t := 4) rfl (.cons (t := 3) rfl (.cons (t := 6) rfl .nil)))) rfl ?_
     refine tr_cond_f rfl ?_
     refine tr_exit ?_
     refine pe_then_exit ?_
     refine pe_then_exit ?_
     refine pe_block_eq ?_
     refine pe_then_normal ?_
     refine tr_sub hC (.cons (t := 4) rfl (.cons (t := 6) rfl (.cons (t := 7) rfl .nil))) (.cons (t := 602) rfl (.cons (t := 4) rfl (.cons (t := 6) rfl .nil))) rfl ?_
     refine tr_seq ?_
     refine tr_seq ?_
     refine tr_region (fun N22 hN => ?_)
     refine lx (op_move rfl) rfl ?_
     first | refine lxk (op_eql_ptr pt73 rfl (IsPtr.own _ _)) (rfl) rfl ?_ | refine lxk (op_eql_ptr pt73 rfl (IsPtr.cells _)) (rfl) rfl ?_ | refine lxk (op_eql_ptr pt73 rfl (IsPtr.nil)) (rfl) rfl ?_
     refine lx_end ⟨by kernel_rfl, ?_⟩
     refine pe_then_normal ?_
     refine tr_sub hC (.cons (t := 4) rfl (.cons (t := 6) rfl (.cons (t := 121) rfl .nil))) (.cons (t := 602) rfl (.cons (t := 4) rfl (.cons (t := 6) rfl .nil))) rfl ?_
     refine tr_cond_t rfl ?_
     refine tr_region (fun N23 hN => ?_)
     refine lx (op_fieldAddr rfl fl29_0 sz3) rfl ?_
     refine lxr (op_store (m := 4) (rs := [_, _, _, _]) rfl rfl rfl (.one (by (first | exact One.eq rfl | exact One.mv _ _ _ _ _ | exact One.cl _ _ _ | exact One.map _ | exact One.sl _ _ _ | exact One.row _ _ _ _ | exact One.msl _ _ _ _ | exact One.ptr _ _ | exact One.b _ | exact One.cells _))) sz3 rfl rfl rfl) rfl ?_
     refine lx_end ⟨by kernel_rfl, ?_⟩
     refine pe_then_normal ?_
     refine tr_sub hC (.cons (t := 4) rfl (.cons (t := 6) rfl .nil)) (.cons (t := 602) rfl (.cons (t := 4) rfl (.cons (t := 6) rfl .nil))) rfl ?_
     have hfin := leaveF_done (p := p) hq hl hst
     refine tr_post (fun X hX => post_sealFm (n := 602) (t := 699) hC0 rfl (by omega) (by omega) rfl (.inl rfl) rfl hX) ?_
     have hC := hC0
     refine tr_bound 698 (m := 602) rfl ?_
     refine tr_freeze (m := 602) rfl (.cons (t := 4) rfl (.cons (t := 6) rfl (.ent (t := 698) rfl FEnt.frz_bound .nil))) ?_
     refine tr_thaw (t := 698) (n := 4) (qs' := _) rfl (.cons (t := 4) rfl (.cons (t := 6) rfl .nil)) rfl (.cons (.of (Ent.refl _)) (.cons (.of (Ent.refl _)) (.cons (.of (Ent.refl _)) (.cons (fment_none (f := Fm.ps)) .nil)))) ?_
     refine tr_seq ?_
     refine tr_region (fun N24 hN => ?_)
     refine lx (op_bload (m := 4) rfl rfl ag29 sz29) rfl ?_
     refine lxr (op_store_all (m := 6) rfl rfl rfl (.agg rfl) sz29 rfl) rfl ?_
     refine lx_end ⟨by kernel_rfl, ?_⟩
     refine pe_then_normal ?_
     refine tr_sub hC (.cons (t := 6) rfl .nil) (.cons (t := 6) rfl .nil) rfl ?_
     refine tr_ret ?_
     refine pe_ret1 rfl hO rfl (.cell (m := 6) rfl rfl ag29 sz29 .nil) ?_
     rw [hfin]
     exact ent_auto
    ·refine tr_post (fun X hX => post_famK (show kf (t + 1) = 2 * t from rfl) hX) ?_
     have hC : CxOK (famC ⟨σ0, M, ex, Rf, 124⟩ (2 * t) ((fun j => fid N1 (200) (2 * (q + 1)) (j + 1))) (famR 43 47 g.frames)) := famC_ok
     refine tr_post (fun X hX => post_rowEq (n := 602) (ys := rowE g.frames (fun j => fid N1 (200) (2 * (q + 1)) (j + 1)) t (2 * t) (pureE u :: zs)) rfl rfl hX) ?_
     refine tr_sub hC (.cons (t := 3) rfl (.cons (t := 4) rfl (.cons (t := 6) rfl (.ent (t := 7) rfl ((show Ent (curP _ (t + 1)) (ptrP _ (t * 9)) from Ent.refl _)) .nil)))) (.cons (t := 602) rfl (.cons (t := 4) rfl (.cons (t := 3) rfl (.cons (t := 6) rfl .nil)))) rfl ?_
     refine tr_seq ?_
     refine tr_seq ?_
     refine tr_region (fun N7 hN => ?_)
     refine lx (op_move rfl) rfl ?_
     first | refine lxk (op_neq_ptr pt73 rfl (IsPtr.own _ _)) (rfl) rfl ?_ | refine lxk (op_neq_ptr pt73 rfl (IsPtr.cells _)) (rfl) rfl ?_ | refine lxk (op_neq_ptr pt73 rfl (IsPtr.nil)) (rfl) rfl ?_
     refine lx (op_move rfl) rfl ?_
     refine lxg rfl rfl rfl (op_move rfl) rfl ?_
     first | refine lxg rfl rfl rfl (op_nilCheck rfl) rfl ?_ | refine lxg rfl rfl rfl (op_nilCheckC rfl) rfl ?_
     refine lxg rfl rfl rfl (op_fieldAddr rfl fl60_5 sz4) rfl ?_
     refine lxg rfl rfl rfl (OpJ.ent (op_tload_one (m := 602) (j := t) (fo := 5) rfl rfl ag4 fmE_len (by omega) (rowE_top (by omega)) rfl) (show Ent _ (eqP (.bool u.leaving)) from (by exact ent_auto))) rfl ?_
     refine lx (op_pick_t rfl rfl) rfl ?_
     refine lx_end ⟨by kernel_rfl, ?_⟩
     refine pe_then_normal ?_
     refine tr_sub hC (.cons (t := 3) rfl (.cons (t := 4) rfl (.cons (t := 6) rfl (.cons (t := 7) rfl (.cons (t := 39) rfl .nil))))) (.cons (t := 602) rfl (.cons (t := 4) rfl (.cons (t := 3) rfl (.cons (t := 6) rfl .nil)))) rfl ?_
     refine tr_cond rfl (fun h39 => ?_) (fun h39 => ?_)
     ·(try simp only [cq1, cq2, cq3, cq4, cq5, cq6, cq7, cq8, cq9, cq10, cq11, cq12, cq13] at h39)
      have hlv : u.leaving = true := h39
      refine tr_skip ?_
      refine pe_then_normal ?_
      refine tr_sub hC (.cons (t := 3) rfl (.cons (t := 4) rfl (.cons (t := 6) rfl (.cons (t := 7) rfl .nil)))) (.cons (t := 602) rfl (.cons (t := 4) rfl (.cons (t := 3) rfl (.cons (t := 6) rfl .nil)))) rfl ?_
      refine tr_block ?_
      refine tr_seq ?_
      refine tr_seq ?_
      refine tr_region (fun N8 hN => ?_)
      refine lx (op_move rfl) rfl ?_
      first | refine lx (op_nilCheck rfl) rfl ?_ | refine lx (op_nilCheckC rfl) rfl ?_
      refine lx (op_fieldAddr rfl fl60_4 sz58) rfl ?_
      refine lx (OpJ.ent (op_tload_one (m := 602) (j := t) (fo := 4) rfl rfl ag58 fmE_len (by omega) (rowE_top (by omega)) rfl) (show Ent _ (slP Df.ps 2 u.defers) from (by exact ent_auto))) rfl ?_
      first | refine lx (op_len rfl el58) rfl ?_ | refine lx (op_len_row rfl el58) rfl ?_ | refine lx (op_len_mv rfl el58) rfl ?_ | refine lx (op_len_nil rfl el58) rfl ?_
      refine lx (op_assign rfl) rfl ?_
      refine lx_end ⟨by kernel_rfl, ?_⟩
      refine pe_then_normal ?_
      refine tr_sub hC (.cons (t := 3) rfl (.cons (t := 4) rfl (.cons (t := 6) rfl (.cons (t := 7) rfl (.cons (t := 8) rfl .nil))))) (.cons (t := 602) rfl (.cons (t := 4) rfl (.cons (t := 3) rfl (.cons (t := 6) rfl .nil)))) rfl ?_
      refine tr_seq ?_
      refine tr_region (fun N9 hN => ?_)
      refine lx (op_move rfl) rfl ?_
      refine lx (op_gtr rfl rfl) rfl ?_
      refine lx_end ⟨by kernel_rfl, ?_⟩
      refine pe_then_normal ?_
      refine tr_sub hC (.cons (t := 3) rfl (.cons (t := 4) rfl (.cons (t := 6) rfl (.cons (t := 7) rfl (.cons (t := 8) rfl (.cons (t := 46) rfl .nil)))))) (.cons (t := 602) rfl (.cons (t := 4) rfl (.cons (t := 3) rfl (.cons (t := 6) rfl .nil)))) rfl ?_
      refine tr_cond rfl (fun h46 => ?_) (fun h46 => ?_)
      ·(try simp only [cq1, cq2, cq3, cq4, cq5, cq6, cq7, cq8, cq9, cq10, cq11, cq12, cq13] at h46)
       have hud := hub.defers
       obtain ⟨d, hd⟩ : ∃ d, u.defers[u.defers.length - 1]? = some d := ⟨_, List.getElem?_eq_getElem (by omega)⟩
       have hcall := leaveF_call (p := p) hq hl hst hlv hd
       refine tr_seq ?_
       refine tr_region (fun N10 hN => ?_)
       refine lx (op_move rfl) rfl ?_
       first | refine lx (op_nilCheck rfl) rfl ?_ | refine lx (op_nilCheckC rfl) rfl ?_
       refine lx (op_fieldAddr rfl fl60_4 sz58) rfl ?_
       refine lx (OpJ.ent (op_tload_one (m := 602) (j := t) (fo := 4) rfl rfl ag58 fmE_len (by omega) (rowE_top (by omega)) rfl) (show Ent _ (slP Df.ps 2 u.defers) from (by exact ent_auto))) rfl ?_
       refine lx (op_move rfl) rfl ?_
       refine lx (op_sub rfl rfl (by omega)) rfl ?_
       refine lx (op_index rfl rfl el58 sz47 (by omega : ((u.defers.length : Nat) : Int) - 1 = ((u.defers.length - 1 : Nat) : Int)) hd) rfl ?_
       first | refine lx (op_load_all rfl ag47 sz47) rfl ?_ | refine lx (op_load_agg rfl ag47 sz47 rfl) rfl ?_ | refine lx (op_bload (m := 602) rfl rfl ag47 sz47) rfl ?_ | refine lx (op_bload (m := 4) rfl rfl ag47 sz47) rfl ?_ | refine lx (op_bload (m := 3) rfl rfl ag47 sz47) rfl ?_ | refine lx (op_bload (m := 6) rfl rfl ag47 sz47) rfl ?_ | refine lx (op_bload_part (m := 602) (qs := [_, _]) rfl rfl ag47 sz47 rfl rfl) rfl ?_ | refine lx (op_bload_part (m := 4) (qs := [_, _]) rfl rfl ag47 sz47 rfl rfl) rfl ?_ | refine lx (op_bload_part (m := 3) (qs := [_, _]) rfl rfl ag47 sz47 rfl rfl) rfl ?_ | refine lx (op_bload_part (m := 6) (qs := [_, _]) rfl rfl ag47 sz47 rfl rfl) rfl ?_
       refine lxn (op_alloc (m := 9) (k := 9) (ps := [eqP (.int .i64 0), eqP (.slice none 0 0)]) ze47 rfl rfl (by first | exact hC.low _ (by decide) | rfl)) rfl ?_
       refine lxr (op_store_all (m := 9) rfl rfl rfl (.agg rfl) sz47 rfl) rfl ?_
       refine lx_end ⟨by kernel_rfl, ?_⟩
       refine pe_then_normal ?_
       refine tr_sub hC (.cons (t := 3) rfl (.cons (t := 4) rfl (.cons (t := 6) rfl (.cons (t := 7) rfl (.cons (t := 8) rfl (.cons (t := 9) rfl .nil)))))) (.cons (t := 602) rfl (.cons (t := 4) rfl (.cons (t := 3) rfl (.cons (t := 6) rfl (.cons (t := 9) rfl .nil))))) rfl ?_
       refine tr_seq ?_
       refine tr_region (fun N11 hN => ?_)
       refine lx (op_move rfl) rfl ?_
       refine lx (op_move rfl) rfl ?_
       first | refine lx (op_nilCheck rfl) rfl ?_ | refine lx (op_nilCheckC rfl) rfl ?_
       refine lx (op_fieldAddr rfl fl60_4 sz58) rfl ?_
       refine lx (OpJ.ent (op_tload_one (m := 602) (j := t) (fo := 4) rfl rfl ag58 fmE_len (by omega) (rowE_top (by omega)) rfl) (show Ent _ (slP Df.ps 2 u.defers) from (by exact ent_auto))) rfl ?_
       refine lx (op_move rfl) rfl ?_
       refine lx (op_sub rfl rfl (by omega)) rfl ?_
       refine lx (op_slice_h rfl rfl el58 sz47 (by omega : ((u.defers.length : Nat) : Int) - 1 = ((u.defers.length - 1 : Nat) : Int)) (by omega)) rfl ?_
       first | refine lx (op_nilCheck rfl) rfl ?_ | refine lx (op_nilCheckC rfl) rfl ?_
       refine lx (op_fieldAddr rfl fl60_4 sz58) rfl ?_
       refine lxr (op_tstore (m := 602) (j := t) (fo := 4) (z' := (pureE { u with defers := u.defers.take (u.defers.length - 1) })) rfl rfl rfl (.one (by (first | exact One.eq rfl | exact One.mv _ _ _ _ _ | exact One.cl _ _ _ | exact One.map _ | exact One.sl _ _ _ | exact One.row _ _ _ _ | exact One.msl _ _ _ _ | exact One.ptr _ _ | exact One.b _ | exact One.cells _))) sz58 rfl fmE_len (by omega) (rowE_top (by omega)) rfl rfl) rfl ?_
       refine lx_end ⟨by kernel_rfl, ?_⟩
       refine pe_then_normal ?_
       refine tr_sub hC (.cons (t := 3) rfl (.cons (t := 4) rfl (.cons (t := 6) rfl (.cons (t := 9) rfl .nil)))) (.cons (t := 602) rfl (.cons (t := 4) rfl (.cons (t := 3) rfl (.cons (t := 6) rfl (.cons (t := 9) rfl .nil))))) rfl ?_
       try refine tr_post (fun X hX => post_rowEq (n := 602) rfl (rowE_set (by omega)) hX) ?_
       refine tr_post (fun X hX => post_sealFm (n := 602) (t := 699) hC0 rfl (by omega) (by omega) rfl (.inl rfl) rfl hX) ?_
       have hC := hC0
       refine tr_post (fun X hX => post_rowPs (n := 602) rfl rowPureT hX) ?_
       refine tr_bound 698 (m := 602) rfl ?_
       refine tr_freeze (m := 602) rfl (.cons (t := 3) rfl (.cons (t := 4) rfl (.cons (t := 6) rfl (.cons (t := 9) rfl (.ent (t := 698) rfl FEnt.frz_bound .nil))))) ?_
       refine tr_thaw (t := 698) (n := 4) (qs' := _) rfl (.cons (t := 3) rfl (.cons (t := 4) rfl (.cons (t := 6) rfl (.cons (t := 9) rfl .nil)))) rfl (.cons (.of (Ent.refl _)) (.cons (.of (Ent.refl _)) (.cons (.of (Ent.refl _)) (.cons (fment_part Fm.len (take_part (by omega))) .nil)))) ?_
       refine tr_seq ?_
       refine tr_region (fun N12 hN => ?_)
       refine lx (op_bload (m := 3) rfl rfl ag26 sz26) rfl ?_
       refine lx (op_bload (m := 4) rfl rfl ag29 sz29) rfl ?_
       refine lx (op_fieldAddr rfl fl47_0 sz3) rfl ?_
       refine lx (op_bload_one (m := 9) rfl rfl ag3 rfl) rfl ?_
       refine lx (op_fieldAddr rfl fl47_1 sz33) rfl ?_
       refine lx (op_bload_one (m := 9) rfl rfl ag33 rfl) rfl ?_
       first | refine lx (op_call (l := [(Go.Operand.tmp 66), (Go.Operand.tmp 67), (Go.Operand.tmp 69), (Go.Operand.tmp 71), (Go.Operand.const (Go.Value.int Go.IntKind.i64 (-1)))]) (Enter_ok p hp { g with frames := g.frames.take t ++ [{ u with defers := u.defers.take (u.defers.length - 1) }] } (bdG_take hb (bdF_drop hub) (by omega)) (by simp; omega) d.fn d.args (-1)) (.cons rfl (.cons rfl (.cons rfl (.cons rfl (.cons rfl .nil))))) fn17) rfl ?_ | refine lx (op_call (l := [(Go.Operand.tmp 66), (Go.Operand.tmp 67), (Go.Operand.tmp 69), (Go.Operand.tmp 71), (Go.Operand.const (Go.Value.int Go.IntKind.i64 (-1)))]) (Enter_ok p hp { g with frames := g.frames.take t ++ [{ u with defers := u.defers.take (u.defers.length - 1) }] } (bdG_take hb (bdF_drop hub) (by omega)) (by simp; omega) d.fn d.args (-1)) (.ent rfl (by exact ent_auto) (.ent rfl (by exact ent_auto) (.ent rfl (by exact ent_auto) (.ent rfl (by exact ent_auto) (.ent rfl (by exact ent_auto) .nil))))) fn17) rfl ?_
       refine lx (op_move rfl) rfl ?_
       refine lx (op_extract rfl rfl) rfl ?_
       refine lx (op_extract rfl rfl) rfl ?_
       refine lxn (op_alloc (m := 10) (k := 10) (ps := [eqP (.int .i64 0), eqP (.int .i64 0), eqP (.int .i64 0), eqP (.slice none 0 0)]) ze29 rfl rfl (by first | exact hC.low _ (by decide) | rfl)) rfl ?_
       refine lxr (op_store_all (m := 10) rfl rfl rfl (.agg rfl) sz29 rfl) rfl ?_
       refine lx (op_assign rfl) rfl ?_
       refine lx_end ⟨by kernel_rfl, ?_⟩
       refine pe_then_normal ?_
       refine tr_sub hC (.cons (t := 4) rfl (.cons (t := 6) rfl (.cons (t := 10) rfl (.cons (t := 11) rfl .nil)))) (.cons (t := 4) rfl (.cons (t := 6) rfl (.cons (t := 10) rfl .nil))) rfl ?_
       refine tr_seq ?_
       refine tr_seq ?_
       refine tr_region (fun N13 hN => ?_)
       refine lx (op_move rfl) rfl ?_
       refine lx (op_neq rfl rfl) rfl ?_
       refine lx_end ⟨by kernel_rfl, ?_⟩
       refine pe_then_normal ?_
       refine tr_sub hC (.cons (t := 4) rfl (.cons (t := 6) rfl (.cons (t := 10) rfl (.cons (t := 76) rfl .nil)))) (.cons (t := 4) rfl (.cons (t := 6) rfl (.cons (t := 10) rfl .nil))) rfl ?_
       refine tr_cond rfl (fun h76 => ?_) (fun h76 => ?_)
       ·(try simp only [cq1, cq2, cq3, cq4, cq5, cq6, cq7, cq8, cq9, cq10, cq11, cq12, cq13] at h76)
        rw [if_neg h76] at hcall
        refine tr_seq ?_
        refine tr_region (fun N14 hN => ?_)
        refine lx (op_fieldAddr rfl fl29_0 sz3) rfl ?_
        refine lxr (op_store (m := 4) (rs := [_, _, _, _]) rfl rfl rfl (.one (by (first | exact One.eq rfl | exact One.mv _ _ _ _ _ | exact One.cl _ _ _ | exact One.map _ | exact One.sl _ _ _ | exact One.row _ _ _ _ | exact One.msl _ _ _ _ | exact One.ptr _ _ | exact One.b _ | exact One.cells _))) sz3 rfl rfl rfl) rfl ?_
        refine lx (op_fieldAddr rfl fl29_1 sz3) rfl ?_
        refine lxr (op_store (m := 4) (rs := [_, _, _, _]) rfl rfl rfl (.one (by (first | exact One.eq rfl | exact One.mv _ _ _ _ _ | exact One.cl _ _ _ | exact One.map _ | exact One.sl _ _ _ | exact One.row _ _ _ _ | exact One.msl _ _ _ _ | exact One.ptr _ _ | exact One.b _ | exact One.cells _))) sz3 rfl rfl rfl) rfl ?_
        refine lx_end ⟨by kernel_rfl, ?_⟩
        refine pe_then_normal ?_
        refine tr_sub hC (.cons (t := 4) rfl (.cons (t := 6) rfl .nil)) (.cons (t := 4) rfl (.cons (t := 6) rfl .nil)) rfl ?_
        refine tr_seq ?_
        refine tr_region (fun N15 hN => ?_)
        refine lx (op_bload (m := 4) rfl rfl ag29 sz29) rfl ?_
        refine lxr (op_store_all (m := 6) rfl rfl rfl (.agg rfl) sz29 rfl) rfl ?_
        refine lx_end ⟨by kernel_rfl, ?_⟩
        refine pe_then_normal ?_
        refine tr_sub hC (.cons (t := 6) rfl .nil) (.cons (t := 6) rfl .nil) rfl ?_
        refine tr_ret ?_
        refine pe_then_ret ?_
        refine pe_then_ret ?_
        refine pe_block_ret ?_
        refine pe_then_ret ?_
        refine pe_block_ret ?_
        refine pe_then_ret ?_
        refine pe_ret1 rfl hO rfl (.cell (m := 6) rfl rfl ag29 sz29 .nil) ?_
        rw [hcall]
        exact ent_auto
       ·(try simp only [cq1, cq2, cq3, cq4, cq5, cq6, cq7, cq8, cq9, cq10, cq11, cq12, cq13] at h76)
        rw [if_pos h76] at hcall
        refine tr_skip ?_
        refine pe_then_normal ?_
        refine tr_sub hC (.cons (t := 6) rfl (.cons (t := 10) rfl .nil)) (.cons (t := 6) rfl (.cons (t := 10) rfl .nil)) rfl ?_
        refine tr_seq ?_
        refine tr_region (fun N16 hN => ?_)
        refine lx (op_bload (m := 10) rfl rfl ag29 sz29) rfl ?_
        refine lxr (op_store_all (m := 6) rfl rfl rfl (.agg rfl) sz29 rfl) rfl ?_
        refine lx_end ⟨by kernel_rfl, ?_⟩
        refine pe_then_normal ?_
        refine tr_sub hC (.cons (t := 6) rfl .nil) (.cons (t := 6) rfl .nil) rfl ?_
        refine tr_ret ?_
        refine pe_then_ret ?_
        refine pe_block_ret ?_
        refine pe_then_ret ?_
        refine pe_block_ret ?_
        refine pe_then_ret ?_
        refine pe_ret1 rfl hO rfl (.cell (m := 6) rfl rfl ag29 sz29 .nil) ?_
        rw [hcall]
        exact ent_auto
      ·(try simp only [cq1, cq2, cq3, cq4, cq5, cq6, cq7, cq8, cq9, cq10, cq11, cq12, cq13] at h46)
       have hnd : u.defers.length = 0 := by omega
       refine tr_skip ?_
       refine pe_then_normal ?_
       refine tr_sub hC (.cons (t := 3) rfl (.cons (t := 4) rfl (.cons (t := 6) rfl (.cons (t := 7) rfl .nil)))) (.cons (t := 602) rfl (.cons (t := 4) rfl (.cons (t := 3) rfl (.cons (t := 6) rfl .nil)))) rfl ?_
       refine tr_seq ?_
       refine tr_region (fun N17 hN => ?_)
       refine lx (op_move rfl) rfl ?_
       first | refine lx (op_nilCheck rfl) rfl ?_ | refine lx (op_nilCheckC rfl) rfl ?_
       refine lx (OpJ.ent (op_tload (m := 602) (j := t) (fo := 0) rfl rfl ag60 sz60 fmE_len (by omega) (rowE_top (by omega)) rfl rfl) (show Ent _ (aggP u.ps) from (by exact ent_auto))) rfl ?_
       refine lxn (op_alloc (m := 12) (k := 12) (ps := [eqP (.int .i64 0), eqP (.int .i64 0), eqP (.slice none 0 0), eqP (.int .i64 0), eqP (.slice none 0 0), eqP (.bool false), eqP (.int .i64 0), eqP (.int .i64 0), eqP (.int .i64 0)]) ze60 rfl rfl (by first | exact hC.low _ (by decide) | rfl)) rfl ?_
       refine lxr (op_store_all (m := 12) rfl rfl rfl (.agg rfl) sz60 rfl) rfl ?_
       refine lx_end ⟨by kernel_rfl, ?_⟩
       refine pe_then_normal ?_
       refine tr_sub hC (.cons (t := 3) rfl (.cons (t := 4) rfl (.cons (t := 6) rfl (.cons (t := 12) rfl .nil)))) (.cons (t := 602) rfl (.cons (t := 4) rfl (.cons (t := 3) rfl (.cons (t := 6) rfl (.cons (t := 12) rfl .nil))))) rfl ?_
       refine tr_seq ?_
       refine tr_region (fun N18 hN => ?_)
       refine lx (op_fieldAddr rfl fl29_3 sz27) rfl ?_
       refine lx (op_bload_one (m := 4) rfl rfl ag27 rfl) rfl ?_
       refine lx (op_fieldAddr rfl fl29_3 sz27) rfl ?_
       refine lx (op_bload_one (m := 4) rfl rfl ag27 rfl) rfl ?_
       first | refine lx (op_len rfl el27) rfl ?_ | refine lx (op_len_row rfl el27) rfl ?_ | refine lx (op_len_mv rfl el27) rfl ?_ | refine lx (op_len_nil rfl el27) rfl ?_
       refine lx (op_sub rfl rfl (by omega)) rfl ?_
       refine lx (op_mslice_h rfl rfl el27 sz60 (by omega : ((t + 1 : Nat) : Int) - 1 = ((t : Nat) : Int)) (by omega)) rfl ?_
       refine lx (op_fieldAddr rfl fl29_3 sz27) rfl ?_
       refine lxr (op_store (m := 4) (rs := [_, _, _, _]) rfl rfl rfl (.one (by (first | exact One.eq rfl | exact One.mv _ _ _ _ _ | exact One.cl _ _ _ | exact One.map _ | exact One.sl _ _ _ | exact One.row _ _ _ _ | exact One.msl _ _ _ _ | exact One.ptr _ _ | exact One.b _ | exact One.cells _))) sz27 rfl rfl rfl) rfl ?_
       refine lx_end ⟨by kernel_rfl, ?_⟩
       refine pe_then_normal ?_
       refine tr_sub hC (.cons (t := 3) rfl (.cons (t := 4) rfl (.cons (t := 6) rfl (.cons (t := 12) rfl .nil)))) (.cons (t := 602) rfl (.cons (t := 4) rfl (.cons (t := 3) rfl (.cons (t := 6) rfl (.cons (t := 12) rfl .nil))))) rfl ?_
       rcases t with _ | t
       ·have hC : CxOK (famC ⟨σ0, M, ex, Rf, 124⟩ (2 * 0) ((fun j => fid N1 (200) (2 * (q + 1)) (j + 1))) (famR 43 47 g.frames)) := famC_ok
        refine tr_seq ?_
        refine tr_region (fun N19 hN => ?_)
        refine lx (op_bload (m := 4) rfl rfl ag29 sz29) rfl ?_
        first | refine lx (op_call (l := [(Go.Operand.tmp 92)]) (cur_none _ _ _ _ _) (.cons rfl .nil) fn40) rfl ?_ | refine lx (op_call (l := [(Go.Operand.tmp 92)]) (cur_none _ _ _ _ _) (.ent rfl (by exact ent_auto) .nil) fn40) rfl ?_
        refine lx (op_assign rfl) rfl ?_
        refine lx_end ⟨by kernel_rfl, ?_⟩
        refine pe_then_normal ?_
        refine tr_sub hC (.cons (t := 3) rfl (.cons (t := 4) rfl (.cons (t := 6) rfl (.cons (t := 7) rfl (.cons (t := 12) rfl .nil))))) (.cons (t := 602) rfl (.cons (t := 4) rfl (.cons (t := 3) rfl (.cons (t := 6) rfl (.cons (t := 12) rfl .nil))))) rfl ?_
        refine tr_seq ?_
        refine tr_drawn mixed (fun N20 hN => ?_)
        refine lx (op_move rfl) rfl ?_
        first | refine lxk (op_neq_ptr pt73 rfl (IsPtr.own _ _)) (rfl) rfl ?_ | refine lxk (op_neq_ptr pt73 rfl (IsPtr.cells _)) (rfl) rfl ?_ | refine lxk (op_neq_ptr pt73 rfl (IsPtr.nil)) (rfl) rfl ?_
        refine lx (op_move rfl) rfl ?_
        refine lx_skip rfl rfl rfl (by first | exact notThe_bool rfl | exact notThe_undef) rfl ?_
        refine lx_skip rfl rfl rfl (by first | exact notThe_bool rfl | exact notThe_undef) rfl ?_
        refine lx_skip rfl rfl rfl (by first | exact notThe_bool rfl | exact notThe_undef) rfl ?_
        refine lx (op_pick_f rfl rfl) rfl ?_
        refine lx (op_move rfl) rfl ?_
        refine lx_skip rfl rfl rfl (by first | exact notThe_bool rfl | exact notThe_undef) rfl ?_
        refine lx_skip rfl rfl rfl (by first | exact notThe_bool rfl | exact notThe_undef) rfl ?_
        refine lx_skip rfl rfl rfl (by first | exact notThe_bool rfl | exact notThe_undef) rfl ?_
        refine lx_skip rfl rfl rfl (by first | exact notThe_bool rfl | exact notThe_undef) rfl ?_
        refine lx_skip rfl rfl rfl (by first | exact notThe_bool rfl | exact notThe_undef) rfl ?_
        refine lx_skip rfl rfl rfl (by first | exact notThe_bool rfl | exact notThe_undef) rfl ?_
        refine lx_skip rfl rfl rfl (by first | exact notThe_bool rfl | exact notThe_undef) rfl ?_
        refine lx_skip rfl rfl rfl (by first | exact notThe_bool rfl | exact notThe_undef) rfl ?_
        refine lx (op_pick_f rfl rfl) rfl ?_
        refine lx_end ⟨by kernel_rfl, ?_⟩
        refine pe_then_normal ?_
        refine tr_sub hC (.cons (t := 3) rfl (.cons (t := 4) rfl (.cons (t := 6) rfl (.cons (t := 7) rfl (.cons (t := 12) rfl (.cons (t := 110) rfl .nil)))))) (.cons (t := 602) rfl (.cons (t := 4) rfl (.cons (t := 3) rfl (.cons (t := 6) rfl (.cons (t := 12) rfl .nil))))) rfl ?_
        refine tr_cond_f rfl ?_
        refine tr_skip ?_
        refine pe_block_normal ?_
        refine pe_roundC (⟨(0, u, pureE u :: zs), Nat.zero_le _, (leave_last hlv hnd).symm.trans hst, hub⟩) (by dsimp only; omega) (pe_st hC ?_ ?_ rfl)
        ·try dsimp only [List.cons_append, List.nil_append]
         first | refine SubF.cons rfl ?_ | (refine SubF.ent rfl ?_ ?_; · exact ent_auto)
         first | refine SubF.cons rfl ?_ | (refine SubF.ent rfl ?_ ?_; · exact ent_auto)
         first | refine SubF.cons rfl ?_ | (refine SubF.ent rfl ?_ ?_; · exact ent_auto)
         first | refine SubF.cons rfl ?_ | (refine SubF.ent rfl ?_ ?_; · exact ent_auto)
         exact SubF.nil
        ·try dsimp only [List.cons_append, List.nil_append]
         repeat (first | exact SubL.nil | refine SubL.cons rfl ?_)
       ·have hC : CxOK (famC ⟨σ0, M, ex, Rf, 124⟩ (2 * (t + 1)) ((fun j => fid N1 (200) (2 * (q + 1)) (j + 1))) (famR 43 47 g.frames)) := famC_ok
        obtain ⟨h, hh⟩ : ∃ h, g.frames[t]? = some h := ⟨_, List.getElem?_eq_getElem (by omega)⟩
        have hbh := hb.each h (List.mem_of_getElem? hh)
        refine tr_post (fun X hX => post_rowEq (n := 602) rfl (show rowE g.frames (fun j => fid N1 (200) (2 * (q + 1)) (j + 1)) (t + 1) (2 * (t + 1)) _ = _ from rowE_pop hh) hX) ?_
        refine tr_post (fun X hX => post_famK (show 2 * (t + 1) = 2 * t + 2 by omega) hX) ?_
        have hC : CxOK (famC ⟨σ0, M, ex, Rf, 124⟩ (2 * t + 2) ((fun j => fid N1 (200) (2 * (q + 1)) (j + 1))) (famR 43 47 g.frames)) := famC_ok
        refine tr_post (fun X hX => post_take2 605 606 hh rfl rfl (by omega) rfl (.inl rfl) (.inl rfl) hX) ?_
        have hC : CxOK (famC ⟨σ0, M, ex, Rf, 124⟩ (2 * t) ((fun j => fid N1 (200) (2 * (q + 1)) (j + 1))) (famR 43 47 g.frames)) := famC_ok
        refine tr_seq ?_
        refine tr_region (fun N19 hN => ?_)
        refine lx (op_bload (m := 4) rfl rfl ag29 sz29) rfl ?_
        first | refine lx (op_call (l := [(Go.Operand.tmp 92)]) (cur_some _ _ _ _ t _ (by omega)) (.cons rfl .nil) fn40) rfl ?_ | refine lx (op_call (l := [(Go.Operand.tmp 92)]) (cur_some _ _ _ _ t _ (by omega)) (.ent rfl (by exact ent_auto) .nil) fn40) rfl ?_
        refine lx (op_assign rfl) rfl ?_
        refine lx_end ⟨by kernel_rfl, ?_⟩
        refine pe_then_normal ?_
        refine tr_sub hC (.cons (t := 3) rfl (.cons (t := 4) rfl (.cons (t := 6) rfl (.cons (t := 7) rfl (.cons (t := 12) rfl .nil))))) (.cons (t := 602) rfl (.cons (t := 4) rfl (.cons (t := 3) rfl (.cons (t := 6) rfl (.cons (t := 12) rfl (.cons (t := 605) rfl (.cons (t := 606) rfl .nil))))))) rfl ?_
        refine tr_seq ?_
        refine tr_drawn mixed (fun N20 hN => ?_)
        refine lx (op_move rfl) rfl ?_
        first | refine lxk (op_neq_ptr pt73 rfl (IsPtr.own _ _)) (rfl) rfl ?_ | refine lxk (op_neq_ptr pt73 rfl (IsPtr.cells _)) (rfl) rfl ?_ | refine lxk (op_neq_ptr pt73 rfl (IsPtr.nil)) (rfl) rfl ?_
        refine lx (op_move rfl) rfl ?_
        refine lxg rfl rfl rfl (op_fieldAddr rfl fl60_3 sz3) rfl ?_
        refine lxg rfl rfl rfl (op_bload_one (m := 12) rfl rfl ag3 rfl) rfl ?_
        refine lxg rfl rfl rfl (op_geq rfl rfl) rfl ?_
        refine lx (op_pick_t rfl rfl) rfl ?_
        refine lx (op_move rfl) rfl ?_
        refine lxs rfl rfl rfl guard_eq (.cons (t := 12) rfl (fun _ => Ent.refl _) .nil) (op_fieldAddr rfl fl60_3 sz3) rfl ?_
        refine lxs rfl rfl rfl guard_eq (.cons (t := 102) rfl (fun h => entW h) .nil) (op_bload_one (m := 12) rfl rfl ag3 rfl) rfl ?_
        refine lxs rfl rfl rfl guard_eq (.cons (t := 7) rfl (fun _ => Ent.refl _) .nil) (op_move rfl) rfl ?_
        first | refine lxs rfl rfl rfl guard_eq (.cons (t := 104) rfl (fun h => entW h) .nil) (op_nilCheck rfl) rfl ?_ | refine lxs rfl rfl rfl guard_eq (.cons (t := 104) rfl (fun h => entW h) .nil) (op_nilCheckC rfl) rfl ?_
        refine lxs rfl rfl rfl guard_eq (.cons (t := 105) rfl (fun h => entW h) .nil) (op_fieldAddr rfl fl60_2 sz33) rfl ?_
        refine lxs rfl rfl rfl guard_eq (.cons (t := 106) rfl (fun h => entW h) .nil) (op_tload_one (m := 602) (j := t) (fo := 2) rfl rfl ag33 fmE_len (by omega) (rowE_top (by omega)) rfl) rfl ?_
        first | refine lxs rfl rfl rfl guard_eq (.cons (t := 107) rfl (fun h => entW h) .nil) (op_len rfl el33) rfl ?_ | refine lxs rfl rfl rfl guard_eq (.cons (t := 107) rfl (fun h => entW h) .nil) (op_len_row rfl el33) rfl ?_ | refine lxs rfl rfl rfl guard_eq (.cons (t := 107) rfl (fun h => entW h) .nil) (op_len_mv rfl el33) rfl ?_ | refine lxs rfl rfl rfl guard_eq (.cons (t := 107) rfl (fun h => entW h) .nil) (op_len_nil rfl el33) rfl ?_
        refine lxs rfl rfl rfl guard_eq (.cons (t := 103) rfl (fun h => entW h) (.cons (t := 108) rfl (fun h => entW h) .nil)) (op_lss rfl rfl) rfl ?_
        refine lx (op_pick_and rfl rfl) rfl ?_
        refine lx_end ⟨by kernel_rfl, ?_⟩
        refine pe_then_normal ?_
        refine tr_sub hC (.cons (t := 3) rfl (.cons (t := 4) rfl (.cons (t := 6) rfl (.cons (t := 7) rfl (.cons (t := 12) rfl (.cons (t := 110) rfl .nil)))))) (.cons (t := 602) rfl (.cons (t := 4) rfl (.cons (t := 3) rfl (.cons (t := 6) rfl (.cons (t := 12) rfl (.cons (t := 605) rfl (.cons (t := 606) rfl .nil))))))) rfl ?_
        refine tr_cond rfl (fun h110 => ?_) (fun h110 => ?_)
        ·(try simp only [cq1, cq2, cq3, cq4, cq5, cq6, cq7, cq8, cq9, cq10, cq11, cq12, cq13] at h110)
         refine tr_drawn mixed (fun N21 hN => ?_)
         refine lx (op_move rfl) rfl ?_
         first | refine lx (op_nilCheck rfl) rfl ?_ | refine lx (op_nilCheckC rfl) rfl ?_
         refine lx (op_fieldAddr rfl fl60_2 sz33) rfl ?_
         refine lx (OpJ.ent (op_tload_one (m := 602) (j := t) (fo := 2) rfl rfl ag33 fmE_len (by omega) (rowE_top (by omega)) rfl) (show Ent _ (mvP ((fun j => fid N1 (200) (2 * (q + 1)) (j + 1)) (2 * t)) 3 0 h.regs.length h.regs.length) from (by exact ent_auto))) rfl ?_
         refine lx (op_fieldAddr rfl fl60_3 sz3) rfl ?_
         refine lx (op_bload_one (m := 12) rfl rfl ag3 rfl) rfl ?_
         refine lx (op_fieldAddr rfl fl60_6 sz43) rfl ?_
         refine lx (op_bload_part (m := 12) (qs := [_, _, _]) rfl rfl ag43 sz43 rfl rfl) rfl ?_
         refine lx (op_index_mv rfl rfl el33 sz43 (by omega : u.dest = ((u.dest.toNat : Nat) : Int)) (show u.dest.toNat < h.regs.length by omega)) rfl ?_
         refine lxr (op_tstore (m := 605) (j := u.dest.toNat) (fo := 0) (z' := u.result) rfl rfl rfl (.agg rfl) sz43 rfl vp_len (by omega) (List.getElem?_eq_getElem (by omega : u.dest.toNat < h.regs.length)) rfl rfl) rfl ?_
         refine lx_end ⟨by kernel_rfl, ?_⟩
         refine pe_block_normal ?_
         refine post_seal (m := 605) (n := 602) rfl rfl (by decide) (seal_regs (by simp)) ?_
         refine post_seal (m := 606) (n := 602) rfl rfl (by decide) (seal_defs (by simp)) ?_
         refine pe_roundC (⟨(t + 1, { h with regs := h.regs.set u.dest.toNat u.result }, pureE u :: zs), (by dsimp only; omega), (congrArg (lst g.frames (t + 1)) (ret1_in (f := u) (h := h) (by omega)).symm).trans ((leave_pop hlv hnd hh).symm.trans hst), ⟨by simpa using hbh.regs, hbh.defers, hbh.args⟩⟩) (by dsimp only; omega) (pe_st hC ?_ ?_ rfl)
         ·try dsimp only [List.cons_append, List.nil_append]
          first | refine SubF.cons rfl ?_ | (refine SubF.ent rfl ?_ ?_; · exact ent_auto)
          first | refine SubF.cons rfl ?_ | (refine SubF.ent rfl ?_ ?_; · exact ent_auto)
          first | refine SubF.cons rfl ?_ | (refine SubF.ent rfl ?_ ?_; · exact ent_auto)
          first | refine SubF.cons rfl ?_ | (refine SubF.ent rfl ?_ ?_; · exact ent_auto)
          exact SubF.nil
         ·try dsimp only [List.cons_append, List.nil_append]
          repeat (first | exact SubL.nil | refine SubL.cons rfl ?_)
        ·(try simp only [cq1, cq2, cq3, cq4, cq5, cq6, cq7, cq8, cq9, cq10, cq11, cq12, cq13] at h110)
         refine tr_skip ?_
         refine pe_block_normal ?_
         refine post_seal (m := 605) (n := 602) rfl rfl (by decide) (seal_regs (by simp)) ?_
         refine post_seal (m := 606) (n := 602) rfl rfl (by decide) (seal_defs (by simp)) ?_
         refine pe_roundC (⟨(t + 1, h, pureE u :: zs), (by dsimp only; omega), (congrArg (lst g.frames (t + 1)) (ret1_out (f := u) (h := h) (by omega)).symm).trans ((leave_pop hlv hnd hh).symm.trans hst), hbh⟩) (by dsimp only; omega) (pe_st hC ?_ ?_ rfl)
         ·try dsimp only [List.cons_append, List.nil_append]
          first | refine SubF.cons rfl ?_ | (refine SubF.ent rfl ?_ ?_; · exact ent_auto)
          first | refine SubF.cons rfl ?_ | (refine SubF.ent rfl ?_ ?_; · exact ent_auto)
          first | refine SubF.cons rfl ?_ | (refine SubF.ent rfl ?_ ?_; · exact ent_auto)
          first | refine SubF.cons rfl ?_ | (refine SubF.ent rfl ?_ ?_; · exact ent_auto)
          exact SubF.nil
         ·try dsimp only [List.cons_append, List.nil_append]
          repeat (first | exact SubL.nil | refine SubL.cons rfl ?_)
     ·(try simp only [cq1, cq2, cq3, cq4, cq5, cq6, cq7, cq8, cq9, cq10, cq11, cq12, cq13] at h39)
      have hlv : u.leaving = false := h39
      refine tr_exit ?_
      refine pe_then_exit ?_
      refine pe_then_exit ?_
      refine pe_block_eq ?_
      refine pe_then_normal ?_
      refine tr_sub hC (.cons (t := 4) rfl (.cons (t := 6) rfl (.cons (t := 7) rfl .nil))) (.cons (t := 602) rfl (.cons (t := 4) rfl (.cons (t := 6) rfl .nil))) rfl ?_
      refine tr_seq ?_
      refine tr_seq ?_
      refine tr_region (fun N22 hN => ?_)
      refine lx (op_move rfl) rfl ?_
      first | refine lxk (op_eql_ptr pt73 rfl (IsPtr.own _ _)) (rfl) rfl ?_ | refine lxk (op_eql_ptr pt73 rfl (IsPtr.cells _)) (rfl) rfl ?_ | refine lxk (op_eql_ptr pt73 rfl (IsPtr.nil)) (rfl) rfl ?_
      refine lx_end ⟨by kernel_rfl, ?_⟩
      refine pe_then_normal ?_
      refine tr_sub hC (.cons (t := 4) rfl (.cons (t := 6) rfl (.cons (t := 121) rfl .nil))) (.cons (t := 602) rfl (.cons (t := 4) rfl (.cons (t := 6) rfl .nil))) rfl ?_
      refine tr_cond_f rfl ?_
      refine tr_skip ?_
      refine pe_then_normal ?_
      refine tr_sub hC (.cons (t := 4) rfl (.cons (t := 6) rfl .nil)) (.cons (t := 602) rfl (.cons (t := 4) rfl (.cons (t := 6) rfl .nil))) rfl ?_
      have hfin := leaveF_stop (p := p) hq hl hst hlv
      refine tr_post (fun X hX => post_sealFm (n := 602) (t := 699) hC0 rfl (by omega) (by omega) rfl (.inl rfl) rfl hX) ?_
      have hC := hC0
      refine tr_post (fun X hX => post_rowPs (n := 602) rfl rowPureT hX) ?_
      refine tr_bound 698 (m := 602) rfl ?_
      refine tr_freeze (m := 602) rfl (.cons (t := 4) rfl (.cons (t := 6) rfl (.ent (t := 698) rfl FEnt.frz_bound .nil))) ?_
      refine tr_thaw (t := 698) (n := 4) (qs' := _) rfl (.cons (t := 4) rfl (.cons (t := 6) rfl .nil)) rfl (.cons (.of (Ent.refl _)) (.cons (.of (Ent.refl _)) (.cons (.of (Ent.refl _)) (.cons (fment_part Fm.len (take_part (by omega))) .nil)))) ?_
      refine tr_seq ?_
      refine tr_region (fun N24 hN => ?_)
      refine lx (op_bload (m := 4) rfl rfl ag29 sz29) rfl ?_
      refine lxr (op_store_all (m := 6) rfl rfl rfl (.agg rfl) sz29 rfl) rfl ?_
      refine lx_end ⟨by kernel_rfl, ?_⟩
      refine pe_then_normal ?_
      refine tr_sub hC (.cons (t := 6) rfl .nil) (.cons (t := 6) rfl .nil) rfl ?_
      refine tr_ret ?_
      refine pe_ret1 rfl hO rfl (.cell (m := 6) rfl rfl ag29 sz29 .nil) ?_
      rw [hfin]
      exact ent_auto
end Go.Proofs.Ythiknhmoefbanaa


set_option linter.unusedVariables false
set_option linter.unusedSimpArgs false
namespace Go.Proofs.Ythiknhmoefbanaa
open Go.AL Go.Ch Go.Hp Go.RowKit
theorem fn18 : fnB Try.prog 18 = true := by kernel_rfl
theorem fn41 : fnB Try.prog 41 = true := by kernel_rfl
theorem fail_ok (g : Gr) (k : Int) : FnP Try.prog 41 [aggP g.ps, eqP (.int .i64 k)] (aggP (Gr.ps { g with state := 3, fault := k })) := by
 refine fn_pure' Try.func41 rfl Try.ntmps41 rfl ?_
 intro σ0 M ex Rf R hC hO
 simp only [frameOf, tokOf]
 refine tr_seq ?_
 refine tr_region (fun N0 hN => ?_)
 refine lxn (op_box (m := 2) (k := 2) rfl (.agg rfl) (by first | exact hC.low _ (by decide) | rfl)) rfl ?_
 refine lxn (op_alloc (m := 4) (k := 4) (ps := [eqP (.int .i64 0), eqP (.int .i64 0), eqP (.int .i64 0), eqP (.slice none 0 0)]) ze29 rfl rfl (by first | exact hC.low _ (by decide) | rfl)) rfl ?_
 refine lx_end ⟨by kernel_rfl, ?_⟩
 refine pe_then_normal ?_
 refine tr_sub hC (.cons (t := 1) rfl (.cons (t := 2) rfl (.cons (t := 4) rfl .nil))) (.cons (t := 2) rfl (.cons (t := 4) rfl .nil)) rfl ?_
 refine tr_seq ?_
 refine tr_region (fun N1 hN => ?_)
 refine lx (op_move rfl) rfl ?_
 refine lx (op_fieldAddr rfl fl29_0 sz3) rfl ?_
 refine lxr (op_store (m := 2) (rs := [_, _, _, _]) rfl rfl rfl (.one (by (first | exact One.eq rfl | exact One.mv _ _ _ _ _ | exact One.cl _ _ _ | exact One.map _ | exact One.sl _ _ _ | exact One.row _ _ _ _ | exact One.msl _ _ _ _ | exact One.ptr _ _ | exact One.b _ | exact One.cells _))) sz3 rfl rfl rfl) rfl ?_
 refine lx (op_fieldAddr rfl fl29_1 sz3) rfl ?_
 refine lxr (op_store (m := 2) (rs := [_, _, _, _]) rfl rfl rfl (.one (by (first | exact One.eq rfl | exact One.mv _ _ _ _ _ | exact One.cl _ _ _ | exact One.map _ | exact One.sl _ _ _ | exact One.row _ _ _ _ | exact One.msl _ _ _ _ | exact One.ptr _ _ | exact One.b _ | exact One.cells _))) sz3 rfl rfl rfl) rfl ?_
 refine lx_end ⟨by kernel_rfl, ?_⟩
 refine pe_then_normal ?_
 refine tr_sub hC (.cons (t := 2) rfl (.cons (t := 4) rfl .nil)) (.cons (t := 2) rfl (.cons (t := 4) rfl .nil)) rfl ?_
 refine tr_seq ?_
 refine tr_region (fun N2 hN => ?_)
 refine lx (op_bload (m := 2) rfl rfl ag29 sz29) rfl ?_
 refine lxr (op_store_all (m := 4) rfl rfl rfl (.agg rfl) sz29 rfl) rfl ?_
 refine lx_end ⟨by kernel_rfl, ?_⟩
 refine pe_then_normal ?_
 refine tr_sub hC (.cons (t := 4) rfl .nil) (.cons (t := 4) rfl .nil) rfl ?_
 refine tr_ret ?_
 refine pe_ret1 rfl hO rfl (.cell (m := 4) rfl rfl ag29 sz29 .nil) ?_
 exact ent_auto
set_option maxHeartbeats 4000000 in
theorem rLeave_ok (p : Pg) (hp : POK p) (g : Gr) (hb : BdG 1048576 g) (hn : g.frames.length ≤ 100000) (v : V) : FnP Try.prog 22 [aggP p.ps, aggP g.ps, aggP (vp v)] (aggP (leaveF p g v).ps) := by
 have hb4 : BdG 4000000 g := hb.mono (by decide)
 refine fn_pure' Try.func22 rfl Try.ntmps22 rfl ?_
 intro σ0 M ex Rf R hC hO
 have hC0 := hC
 simp only [frameOf, tokOf]
 refine tr_seq ?_
 refine tr_region (fun N0 hN => ?_)
 refine lxn (op_box (m := 3) (k := 3) rfl (.agg rfl) (by first | exact hC.low _ (by decide) | rfl)) rfl ?_
 refine lxn (op_box (m := 4) (k := 4) rfl (.agg rfl) (by first | exact hC.low _ (by decide) | rfl)) rfl ?_
 refine lxn (op_box (m := 5) (k := 5) rfl (.agg rfl) (by first | exact hC.low _ (by decide) | rfl)) rfl ?_
 refine lxn (op_alloc (m := 6) (k := 6) (ps := [eqP (.int .i64 0), eqP (.int .i64 0), eqP (.int .i64 0), eqP (.slice none 0 0)]) ze29 rfl rfl (by first | exact hC.low _ (by decide) | rfl)) rfl ?_
 refine lx_end ⟨by kernel_rfl, ?_⟩
 refine pe_then_normal ?_
 refine tr_sub hC (.cons (t := 3) rfl (.cons (t := 4) rfl (.cons (t := 5) rfl (.cons (t := 6) rfl .nil)))) (.cons (t := 3) rfl (.cons (t := 4) rfl (.cons (t := 5) rfl (.cons (t := 6) rfl .nil)))) rfl ?_
 refine tr_seq ?_
 refine tr_region (fun N1 hN => ?_)
 refine lx (op_bload (m := 4) rfl rfl ag29 sz29) rfl ?_
 first | refine lx_any rfl (op_callFam (l := [(Go.Operand.tmp 13)]) (K := 2 * g.frames.length) 602 200 (copyG_fam g hb4 hn) (fun ι => rfl) (.cons rfl .nil) fn16 (by omega) rfl (by first | exact hC.low _ (by decide) | rfl) (fam_free hC (by omega) rfl)) (dOK_spec rfl) ?_ | refine lx_any rfl (op_callFam (l := [(Go.Operand.tmp 13)]) (K := 2 * g.frames.length) 602 200 (copyG_fam g hb4 hn) (fun ι => rfl) (.ent rfl (by exact ent_auto) .nil) fn16 (by omega) rfl (by first | exact hC.low _ (by decide) | rfl) (fam_free hC (by omega) rfl)) (dOK_spec rfl) ?_
 refine lx_tail _ (fam_upd rfl) (fun _ _ _ _ e h => ⟨h.1, post_congr e h.2⟩) ?_
 refine lxr (op_store_all (m := 4) rfl rfl rfl (.agg rfl) sz29 rfl) rfl ?_
 refine lx_end ⟨nodup_one _ _, ?_⟩
 refine pe_then_normal ?_
 refine tr_post (fun X hX => post_famIn2 (K := 2 * g.frames.length) (ids := fun j => fid N1 (200) (2 * g.frames.length) (j + 1)) (r := famR 43 47 g.frames) hC (by omega) (.cons (t := 3) rfl (.cons (t := 4) rfl (.cons (t := 5) rfl (.cons (t := 6) rfl (.cons (t := 602) rfl .nil))))) rfl (fun j hj => by simp only [updL, addL, delL, List.cons_append, List.nil_append, lk_cons]; (repeat (rw [if_neg (by omega)])); exact lk_famT_at hj) (fun n hn => by simp only [updL, addL, delL, List.cons_append, List.nil_append, lk_cons]; (repeat (rw [if_neg (by omega)])); exact lk_famT_none (fun j hj => by omega)) hX) ?_
 have hC : CxOK (famC ⟨σ0, M, ex, Rf, 145⟩ (2 * g.frames.length) (fun j => fid N1 (200) (2 * g.frames.length) (j + 1)) (famR 43 47 g.frames)) := famC_ok
 refine tr_sub hC (.cons (t := 3) rfl (.cons (t := 4) rfl (.cons (t := 5) rfl (.cons (t := 6) rfl .nil)))) (.cons (t := 3) rfl (.cons (t := 4) rfl (.cons (t := 5) rfl (.cons (t := 6) rfl (.cons (t := 602) rfl .nil))))) rfl ?_
 rcases hl : g.frames.length with _ | q
 ·have hC : CxOK (famC ⟨σ0, M, ex, Rf, 145⟩ (2 * 0) (fun j => fid N1 (200) (2 * 0) (j + 1)) (famR 43 47 g.frames)) := famC_ok
  refine tr_post (fun X hX => post_rowEq (n := 602) rfl ((rowE_full (m := 0) (by omega)).symm) hX) ?_
  refine tr_post (fun X hX => post_sealFm (n := 602) (t := 699) hC0 rfl (by omega) (by omega) rfl (.inl rfl) rfl hX) ?_
  have hC := hC0
  refine tr_post (fun X hX => post_rowPs (n := 602) rfl (rowPure0 hl) hX) ?_
  refine tr_bound 698 (m := 602) rfl ?_
  refine tr_freeze (m := 602) rfl (.cons (t := 3) rfl (.cons (t := 4) rfl (.cons (t := 5) rfl (.cons (t := 6) rfl (.ent (t := 698) rfl FEnt.frz_bound .nil))))) ?_
  refine tr_thaw (t := 698) (n := 4) (qs' := _) rfl (.cons (t := 3) rfl (.cons (t := 4) rfl (.cons (t := 5) rfl (.cons (t := 6) rfl .nil)))) rfl (.cons (.of (Ent.refl _)) (.cons (.of (Ent.refl _)) (.cons (.of (Ent.refl _)) (.cons (fment_row Fm.len hl.symm) .nil)))) ?_
  refine tr_seq ?_
  refine tr_seq ?_
  refine tr_region (fun N2 hN => ?_)
  refine lx (op_fieldAddr rfl fl29_3 sz27) rfl ?_
  refine lx (op_bload_one (m := 4) rfl rfl ag27 rfl) rfl ?_
  first | refine lx (op_len rfl el27) rfl ?_ | refine lx (op_len_row rfl el27) rfl ?_ | refine lx (op_len_mv rfl el27) rfl ?_ | refine lx (op_len_nil rfl el27) rfl ?_
  refine lxk (op_eql rfl rfl) ((decide_eq_true (by omega))) rfl ?_
  refine lx_end ⟨by kernel_rfl, ?_⟩
  refine pe_then_normal ?_
  refine tr_sub hC (.cons (t := 3) rfl (.cons (t := 4) rfl (.cons (t := 5) rfl (.cons (t := 6) rfl (.cons (t := 18) rfl .nil))))) (.cons (t := 3) rfl (.cons (t := 4) rfl (.cons (t := 5) rfl (.cons (t := 6) rfl .nil)))) rfl ?_
  refine tr_cond_t rfl ?_
  refine tr_seq ?_
  refine tr_region (fun N3 hN => ?_)
  refine lx (op_bload (m := 4) rfl rfl ag29 sz29) rfl ?_
  refine lxr (op_store_all (m := 6) rfl rfl rfl (.agg rfl) sz29 rfl) rfl ?_
  refine lx_end ⟨by kernel_rfl, ?_⟩
  refine pe_then_normal ?_
  refine tr_sub hC (.cons (t := 6) rfl .nil) (.cons (t := 6) rfl .nil) rfl ?_
  refine tr_ret ?_
  refine pe_then_ret ?_
  refine pe_ret1 rfl hO rfl (.cell (m := 6) rfl rfl ag29 sz29 .nil) ?_
  rw [leaveF_none hl]
  exact ent_auto
 ·have hC : CxOK (famC ⟨σ0, M, ex, Rf, 145⟩ (2 * (q + 1)) (fun j => fid N1 (200) (2 * (q + 1)) (j + 1)) (famR 43 47 g.frames)) := famC_ok
  obtain ⟨f, hq⟩ : ∃ f, g.frames[q]? = some f := ⟨_, List.getElem?_eq_getElem (by omega)⟩
  have hbf := hb.each f (List.mem_of_getElem? hq)
  have hbr := hbf.regs
  have hbd := hbf.defers
  refine tr_post (fun X hX => post_rowEq (n := 602) rfl (rowE_first hq hl) hX) ?_
  refine tr_post (fun X hX => post_famK (show 2 * (q + 1) = 2 * q + 2 by omega) hX) ?_
  have hC : CxOK (famC ⟨σ0, M, ex, Rf, 145⟩ (2 * q + 2) (fun j => fid N1 (200) (2 * (q + 1)) (j + 1)) (famR 43 47 g.frames)) := famC_ok
  refine tr_post (fun X hX => post_take2 605 606 hq rfl rfl (by omega) rfl (.inl rfl) (.inl rfl) hX) ?_
  have hC : CxOK (famC ⟨σ0, M, ex, Rf, 145⟩ (2 * q) (fun j => fid N1 (200) (2 * (q + 1)) (j + 1)) (famR 43 47 g.frames)) := famC_ok
  refine tr_post (fun X hX => post_seal (m := 605) (n := 602) rfl rfl (by decide) (seal_regs (by simp)) hX) ?_
  refine tr_post (fun X hX => post_seal (m := 606) (n := 602) rfl rfl (by decide) (seal_defs (by simp)) hX) ?_
  refine tr_seq ?_
  refine tr_seq ?_
  refine tr_region (fun N2 hN => ?_)
  refine lx (op_fieldAddr rfl fl29_3 sz27) rfl ?_
  refine lx (op_bload_one (m := 4) rfl rfl ag27 rfl) rfl ?_
  first | refine lx (op_len rfl el27) rfl ?_ | refine lx (op_len_row rfl el27) rfl ?_ | refine lx (op_len_mv rfl el27) rfl ?_ | refine lx (op_len_nil rfl el27) rfl ?_
  refine lxk (op_eql rfl rfl) ((decide_eq_false (by omega))) rfl ?_
  refine lx_end ⟨by kernel_rfl, ?_⟩
  refine pe_then_normal ?_
  refine tr_sub hC (.cons (t := 3) rfl (.cons (t := 4) rfl (.cons (t := 5) rfl (.cons (t := 6) rfl (.cons (t := 18) rfl .nil))))) (.cons (t := 3) rfl (.cons (t := 4) rfl (.cons (t := 5) rfl (.cons (t := 6) rfl (.cons (t := 602) rfl .nil))))) rfl ?_
  refine tr_cond_f rfl ?_
  refine tr_skip ?_
  refine pe_then_normal ?_
  refine tr_sub hC (.cons (t := 3) rfl (.cons (t := 4) rfl (.cons (t := 5) rfl (.cons (t := 6) rfl .nil)))) (.cons (t := 3) rfl (.cons (t := 4) rfl (.cons (t := 5) rfl (.cons (t := 6) rfl (.cons (t := 602) rfl .nil))))) rfl ?_
  refine tr_seq ?_
  refine tr_region (fun N4 hN => ?_)
  refine lx (op_fieldAddr rfl fl29_3 sz27) rfl ?_
  refine lx (op_bload_one (m := 4) rfl rfl ag27 rfl) rfl ?_
  first | refine lx (op_len rfl el27) rfl ?_ | refine lx (op_len_row rfl el27) rfl ?_ | refine lx (op_len_mv rfl el27) rfl ?_ | refine lx (op_len_nil rfl el27) rfl ?_
  refine lx (op_sub rfl rfl (by omega)) rfl ?_
  refine lx (op_assign rfl) rfl ?_
  refine lx_end ⟨by kernel_rfl, ?_⟩
  refine pe_then_normal ?_
  refine tr_sub hC (.cons (t := 3) rfl (.cons (t := 4) rfl (.cons (t := 5) rfl (.cons (t := 6) rfl (.cons (t := 7) rfl .nil))))) (.cons (t := 3) rfl (.cons (t := 4) rfl (.cons (t := 5) rfl (.cons (t := 6) rfl (.cons (t := 602) rfl .nil))))) rfl ?_
  refine tr_seq ?_
  refine tr_seq ?_
  refine tr_region (fun N5 hN => ?_)
  refine lx (op_fieldAddr rfl fl29_3 sz27) rfl ?_
  refine lx (op_bload_one (m := 4) rfl rfl ag27 rfl) rfl ?_
  refine lx (op_move rfl) rfl ?_
  refine lx (op_index_mv rfl rfl el27 sz60 (by omega : ((q + 1 : Nat) : Int) - 1 = ((q : Nat) : Int)) (by omega)) rfl ?_
  refine lx (op_fieldAddr rfl fl60_5 sz4) rfl ?_
  refine lx (OpJ.ent (op_tload_one (m := 602) (j := q) (fo := 5) rfl rfl ag4 fmE_len (by omega) (rowE_top (by omega)) rfl) (show Ent _ (eqP (.bool f.leaving)) from (by exact ent_auto))) rfl ?_
  first | refine lx (op_not rfl) rfl ?_ | refine lx (op_not_b rfl) rfl ?_
  refine lx_end ⟨by kernel_rfl, ?_⟩
  refine pe_then_normal ?_
  refine tr_sub hC (.cons (t := 3) rfl (.cons (t := 4) rfl (.cons (t := 5) rfl (.cons (t := 6) rfl (.cons (t := 7) rfl (.cons (t := 30) rfl .nil)))))) (.cons (t := 3) rfl (.cons (t := 4) rfl (.cons (t := 5) rfl (.cons (t := 6) rfl (.cons (t := 602) rfl .nil))))) rfl ?_
  refine tr_cond rfl (fun h30 => ?_) (fun h30 => ?_)
  ·(try simp only [cq1, cq2, cq3, cq4, cq5, cq6, cq7, cq8, cq9, cq10, cq11, cq12, cq13] at h30)
   have htl : topL f v = { f with leaving := true, result := v } := by unfold topL; rw [if_neg (by rw [h30]; simp)]
   refine tr_drawn mixed (fun N6 hN => ?_)
   refine lx (op_fieldAddr rfl fl29_3 sz27) rfl ?_
   refine lx (op_bload_one (m := 4) rfl rfl ag27 rfl) rfl ?_
   refine lx (op_move rfl) rfl ?_
   refine lx (op_fieldAddr rfl fl29_3 sz27) rfl ?_
   refine lx (op_bload_one (m := 4) rfl rfl ag27 rfl) rfl ?_
   refine lx (op_move rfl) rfl ?_
   refine lx (op_bload (m := 5) rfl rfl ag43 sz43) rfl ?_
   refine lx (op_index_mv rfl rfl el27 sz60 (by omega : ((q + 1 : Nat) : Int) - 1 = ((q : Nat) : Int)) (by omega)) rfl ?_
   refine lx (op_fieldAddr rfl fl60_5 sz4) rfl ?_
   refine lxr (op_tstore (m := 602) (j := q) (fo := 5) (z' := (pureE { f with leaving := true })) rfl rfl rfl (.one (by (first | exact One.eq rfl | exact One.mv _ _ _ _ _ | exact One.cl _ _ _ | exact One.map _ | exact One.sl _ _ _ | exact One.row _ _ _ _ | exact One.msl _ _ _ _ | exact One.ptr _ _ | exact One.b _ | exact One.cells _))) sz4 rfl fmE_len (by omega) (rowE_top (by omega)) rfl rfl) rfl ?_
   refine lx (op_index_mv rfl rfl el27 sz60 (by omega : ((q + 1 : Nat) : Int) - 1 = ((q : Nat) : Int)) (by omega)) rfl ?_
   refine lx (op_fieldAddr rfl fl60_6 sz43) rfl ?_
   refine lxr (op_tstore (m := 602) (j := q) (fo := 6) (z' := (pureE { f with leaving := true, result := v })) rfl rfl rfl (.agg rfl) sz43 rfl fmE_len (by omega) (set_at (by rw [rowE_len (by omega)]; simp)) rfl rfl) rfl ?_
   refine lx_end ⟨by kernel_rfl, ?_⟩
   refine pe_then_normal ?_
   refine tr_sub hC (.cons (t := 3) rfl (.cons (t := 4) rfl (.cons (t := 6) rfl .nil))) (.cons (t := 3) rfl (.cons (t := 4) rfl (.cons (t := 6) rfl (.cons (t := 602) rfl .nil)))) rfl ?_
   first | refine tr_post (fun X hX => post_rowEq (n := 602) rfl (rowE_set2 (by omega)) hX) ?_ | skip
   refine tr_seq ?_
   refine tr_block ?_
   refine tr_loopKC (α := {zz : Nat × Fm × (List FmE) // zz.1 ≤ q + 1 ∧ lst g.frames zz.1 zz.2.1 = lst g.frames (q + 1) (topL f v) ∧ BdF 1048576 zz.2.1}) (⟨(q + 1, { f with leaving := true, result := v }, []), Nat.le_refl _, (by rw [htl]), (by rw [← htl]; exact bdF_topL hbf)⟩) (fun zz => famC ⟨σ0, M, ex, Rf, 145⟩ (kf zz.1.1) ((fun j => fid N1 (200) (2 * (q + 1)) (j + 1))) (famR 43 47 g.frames)) (fun zz => []) (fun zz => [(602, some ((fid N1 200 (2 * (q + 1)) 0), blkX 9 60 ((rowS g.frames (fun j => fid N1 (200) (2 * (q + 1)) (j + 1)) zz.1.1 zz.1.2.1 zz.1.2.2).flatMap fmE))), (4, some ((N0, 4), blk 29 [eqP (.int .i64 g.state), eqP (.int .i64 g.fault), eqP (.int .i64 g.allocs), mvP (fid N1 200 (2 * (q + 1)) 0) 9 0 zz.1.1 (q + 1)]))]) (fun zz => zz.1.1) hC rfl (.cons (t := 3) rfl (.cons (t := 4) rfl (.cons (t := 6) rfl .nil))) (.cons (t := 3) rfl (.cons (t := 6) rfl .nil)) rfl ?_ ?_ (fun zz => ?_)
   ·try dsimp only [List.cons_append, List.nil_append]
    exact SubF.nil
   ·try dsimp only [List.cons_append, List.nil_append]
    repeat (first | exact SubL.nil | refine SubL.cons rfl ?_)
   ·obtain ⟨⟨p, u, zs⟩, hp1, hst, hub⟩ := zz
    try dsimp only at hp1
    try dsimp only at hst
    try dsimp only at hub
    dsimp only [List.cons_append, List.nil_append]
    have hC : CxOK (famC ⟨σ0, M, ex, Rf, 145⟩ (kf p) ((fun j => fid N1 (200) (2 * (q + 1)) (j + 1))) (famR 43 47 g.frames)) := famC_ok
    rcases p with _ | t
    ·refine tr_post (fun X hX => post_famK (show kf 0 = 0 from rfl) hX) ?_
     have hC : CxOK (famC ⟨σ0, M, ex, Rf, 145⟩ (0) ((fun j => fid N1 (200) (2 * (q + 1)) (j + 1))) (famR 43 47 g.frames)) := famC_ok
     refine tr_post (fun X hX => post_rowEq (n := 602) (ys := rowE g.frames (fun j => fid N1 (200) (2 * (q + 1)) (j + 1)) 0 0 zs) rfl rfl hX) ?_
     refine tr_seq ?_
     refine tr_seq ?_
     refine tr_region (fun N7 hN => ?_)
     refine lx (op_fieldAddr rfl fl29_3 sz27) rfl ?_
     refine lx (op_bload_one (m := 4) rfl rfl ag27 rfl) rfl ?_
     first | refine lx (op_len rfl el27) rfl ?_ | refine lx (op_len_row rfl el27) rfl ?_ | refine lx (op_len_mv rfl el27) rfl ?_ | refine lx (op_len_nil rfl el27) rfl ?_
     refine lxk (op_gtr rfl rfl) ((decide_eq_false (by omega))) rfl ?_
     refine lx (op_move rfl) rfl ?_
     refine lx_skip rfl rfl rfl (by first | exact notThe_bool rfl | exact notThe_undef) rfl ?_
     refine lx_skip rfl rfl rfl (by first | exact notThe_bool rfl | exact notThe_undef) rfl ?_
     refine lx_skip rfl rfl rfl (by first | exact notThe_bool rfl | exact notThe_undef) rfl ?_
     refine lx_skip rfl rfl rfl (by first | exact notThe_bool rfl | exact notThe_undef) rfl ?_
     refine lx_skip rfl rfl rfl (by first | exact notThe_bool rfl | exact notThe_undef) rfl ?_
     refine lx_skip rfl rfl rfl (by first | exact notThe_bool rfl | exact notThe_undef) rfl ?_
     refine lx_skip rfl rfl rfl (by first | exact notThe_bool rfl | exact notThe_undef) rfl ?_
     refine lx_skip rfl rfl rfl (by first | exact notThe_bool rfl | exact notThe_undef) rfl ?_
     refine lx_skip rfl rfl rfl (by first | exact notThe_bool rfl | exact notThe_undef) rfl ?_
     refine lx (op_pick_f rfl rfl) rfl ?_
     refine lx_end ⟨by kernel_rfl, ?_⟩
     refine pe_then_normal ?_
     refine tr_sub hC (.cons (t := 3) rfl (.cons (t := 4) rfl (.cons (t := 6) rfl (.cons (t := 56) rfl .nil)))) (.cons (t := 602) rfl (.cons (t := 4) rfl (.cons (t := 3) rfl (.cons (t := 6) rfl .nil)))) rfl ?_
     refine tr_cond_f rfl ?_
     refine tr_exit ?_
     refine pe_then_exit ?_
     refine pe_then_exit ?_
     refine pe_block_eq ?_
     refine pe_then_normal ?_
     refine tr_sub hC (.cons (t := 4) rfl (.cons (t := 6) rfl .nil)) (.cons (t := 602) rfl (.cons (t := 4) rfl (.cons (t := 6) rfl .nil))) rfl ?_
     refine tr_seq ?_
     refine tr_seq ?_
     refine tr_region (fun N21 hN => ?_)
     refine lx (op_fieldAddr rfl fl29_3 sz27) rfl ?_
     refine lx (op_bload_one (m := 4) rfl rfl ag27 rfl) rfl ?_
     first | refine lx (op_len rfl el27) rfl ?_ | refine lx (op_len_row rfl el27) rfl ?_ | refine lx (op_len_mv rfl el27) rfl ?_ | refine lx (op_len_nil rfl el27) rfl ?_
     refine lxk (op_eql rfl rfl) ((decide_eq_true (by omega))) rfl ?_
     refine lx_end ⟨by kernel_rfl, ?_⟩
     refine pe_then_normal ?_
     refine tr_sub hC (.cons (t := 4) rfl (.cons (t := 6) rfl (.cons (t := 142) rfl .nil))) (.cons (t := 602) rfl (.cons (t := 4) rfl (.cons (t := 6) rfl .nil))) rfl ?_
     refine tr_cond_t rfl ?_
     refine tr_region (fun N22 hN => ?_)
     refine lx (op_fieldAddr rfl fl29_0 sz3) rfl ?_
     refine lxr (op_store (m := 4) (rs := [_, _, _, _]) rfl rfl rfl (.one (by (first | exact One.eq rfl | exact One.mv _ _ _ _ _ | exact One.cl _ _ _ | exact One.map _ | exact One.sl _ _ _ | exact One.row _ _ _ _ | exact One.msl _ _ _ _ | exact One.ptr _ _ | exact One.b _ | exact One.cells _))) sz3 rfl rfl rfl) rfl ?_
     refine lx_end ⟨by kernel_rfl, ?_⟩
     refine pe_then_normal ?_
     refine tr_sub hC (.cons (t := 4) rfl (.cons (t := 6) rfl .nil)) (.cons (t := 602) rfl (.cons (t := 4) rfl (.cons (t := 6) rfl .nil))) rfl ?_
     have hfin := leaveF_done (p := p) hq hl hst
     refine tr_post (fun X hX => post_sealFm (n := 602) (t := 699) hC0 rfl (by omega) (by omega) rfl (.inl rfl) rfl hX) ?_
     have hC := hC0
     refine tr_bound 698 (m := 602) rfl ?_
     refine tr_freeze (m := 602) rfl (.cons (t := 4) rfl (.cons (t := 6) rfl (.ent (t := 698) rfl FEnt.frz_bound .nil))) ?_
     refine tr_thaw (t := 698) (n := 4) (qs' := _) rfl (.cons (t := 4) rfl (.cons (t := 6) rfl .nil)) rfl (.cons (.of (Ent.refl _)) (.cons (.of (Ent.refl _)) (.cons (.of (Ent.refl _)) (.cons (fment_none (f := Fm.ps)) .nil)))) ?_
     refine tr_seq ?_
     refine tr_region (fun N23 hN => ?_)
     refine lx (op_bload (m := 4) rfl rfl ag29 sz29) rfl ?_
     refine lxr (op_store_all (m := 6) rfl rfl rfl (.agg rfl) sz29 rfl) rfl ?_
     refine lx_end ⟨by kernel_rfl, ?_⟩
     refine pe_then_normal ?_
     refine tr_sub hC (.cons (t := 6) rfl .nil) (.cons (t := 6) rfl .nil) rfl ?_
     refine tr_ret ?_
     refine pe_ret1 rfl hO rfl (.cell (m := 6) rfl rfl ag29 sz29 .nil) ?_
     rw [hfin]
     exact ent_auto
    ·refine tr_post (fun X hX => post_famK (show kf (t + 1) = 2 * t from rfl) hX) ?_
     have hC : CxOK (famC ⟨σ0, M, ex, Rf, 145⟩ (2 * t) ((fun j => fid N1 (200) (2 * (q + 1)) (j + 1))) (famR 43 47 g.frames)) := famC_ok
     refine tr_post (fun X hX => post_rowEq (n := 602) (ys := rowE g.frames (fun j => fid N1 (200) (2 * (q + 1)) (j + 1)) t (2 * t) (pureE u :: zs)) rfl rfl hX) ?_
     refine tr_seq ?_
     refine tr_seq ?_
     refine tr_region (fun N7 hN => ?_)
     refine lx (op_fieldAddr rfl fl29_3 sz27) rfl ?_
     refine lx (op_bload_one (m := 4) rfl rfl ag27 rfl) rfl ?_
     first | refine lx (op_len rfl el27) rfl ?_ | refine lx (op_len_row rfl el27) rfl ?_ | refine lx (op_len_mv rfl el27) rfl ?_ | refine lx (op_len_nil rfl el27) rfl ?_
     refine lxk (op_gtr rfl rfl) ((decide_eq_true (by omega))) rfl ?_
     refine lx (op_move rfl) rfl ?_
     refine lxg rfl rfl rfl (op_fieldAddr rfl fl29_3 sz27) rfl ?_
     refine lxg rfl rfl rfl (op_bload_one (m := 4) rfl rfl ag27 rfl) rfl ?_
     refine lxg rfl rfl rfl (op_fieldAddr rfl fl29_3 sz27) rfl ?_
     refine lxg rfl rfl rfl (op_bload_one (m := 4) rfl rfl ag27 rfl) rfl ?_
     first | refine lxg rfl rfl rfl (op_len rfl el27) rfl ?_ | refine lxg rfl rfl rfl (op_len_row rfl el27) rfl ?_ | refine lxg rfl rfl rfl (op_len_mv rfl el27) rfl ?_ | refine lxg rfl rfl rfl (op_len_nil rfl el27) rfl ?_
     refine lxg rfl rfl rfl (op_sub rfl rfl (by omega)) rfl ?_
     refine lxg rfl rfl rfl (op_index_mv rfl rfl el27 sz60 (by omega : ((t + 1 : Nat) : Int) - 1 = ((t : Nat) : Int)) (by omega)) rfl ?_
     refine lxg rfl rfl rfl (op_fieldAddr rfl fl60_5 sz4) rfl ?_
     refine lxg rfl rfl rfl (OpJ.ent (op_tload_one (m := 602) (j := t) (fo := 5) rfl rfl ag4 fmE_len (by omega) (rowE_top (by omega)) rfl) (show Ent _ (eqP (.bool u.leaving)) from (by exact ent_auto))) rfl ?_
     refine lx (op_pick_t rfl rfl) rfl ?_
     refine lx_end ⟨by kernel_rfl, ?_⟩
     refine pe_then_normal ?_
     refine tr_sub hC (.cons (t := 3) rfl (.cons (t := 4) rfl (.cons (t := 6) rfl (.cons (t := 56) rfl .nil)))) (.cons (t := 602) rfl (.cons (t := 4) rfl (.cons (t := 3) rfl (.cons (t := 6) rfl .nil)))) rfl ?_
     refine tr_cond rfl (fun h56 => ?_) (fun h56 => ?_)
     ·(try simp only [cq1, cq2, cq3, cq4, cq5, cq6, cq7, cq8, cq9, cq10, cq11, cq12, cq13] at h56)
      have hlv : u.leaving = true := h56
      refine tr_skip ?_
      refine pe_then_normal ?_
      refine tr_sub hC (.cons (t := 3) rfl (.cons (t := 4) rfl (.cons (t := 6) rfl .nil))) (.cons (t := 602) rfl (.cons (t := 4) rfl (.cons (t := 3) rfl (.cons (t := 6) rfl .nil)))) rfl ?_
      refine tr_block ?_
      refine tr_seq ?_
      refine tr_region (fun N8 hN => ?_)
      refine lx (op_fieldAddr rfl fl29_3 sz27) rfl ?_
      refine lx (op_bload_one (m := 4) rfl rfl ag27 rfl) rfl ?_
      first | refine lx (op_len rfl el27) rfl ?_ | refine lx (op_len_row rfl el27) rfl ?_ | refine lx (op_len_mv rfl el27) rfl ?_ | refine lx (op_len_nil rfl el27) rfl ?_
      refine lx (OpJ.ent (op_sub rfl rfl (by omega)) (show Ent _ (eqP (.int .i64 (t : Int))) from (by exact entI (by omega)))) rfl ?_
      refine lx (op_assign rfl) rfl ?_
      refine lx_end ⟨by kernel_rfl, ?_⟩
      refine pe_then_normal ?_
      refine tr_sub hC (.cons (t := 3) rfl (.cons (t := 4) rfl (.cons (t := 6) rfl (.cons (t := 7) rfl .nil)))) (.cons (t := 602) rfl (.cons (t := 4) rfl (.cons (t := 3) rfl (.cons (t := 6) rfl .nil)))) rfl ?_
      refine tr_seq ?_
      refine tr_region (fun N9 hN => ?_)
      refine lx (op_fieldAddr rfl fl29_3 sz27) rfl ?_
      refine lx (op_bload_one (m := 4) rfl rfl ag27 rfl) rfl ?_
      refine lx (op_move rfl) rfl ?_
      refine lx (op_index_mv rfl rfl el27 sz60 (by omega : ((t : Nat) : Int) = ((t : Nat) : Int)) (by omega)) rfl ?_
      refine lx (OpJ.ent (op_tload (m := 602) (j := t) (fo := 0) rfl rfl ag60 sz60 fmE_len (by omega) (rowE_top (by omega)) rfl rfl) (show Ent _ (aggP u.ps) from (by exact ent_auto))) rfl ?_
      refine lxn (op_alloc (m := 8) (k := 8) (ps := [eqP (.int .i64 0), eqP (.int .i64 0), eqP (.slice none 0 0), eqP (.int .i64 0), eqP (.slice none 0 0), eqP (.bool false), eqP (.int .i64 0), eqP (.int .i64 0), eqP (.int .i64 0)]) ze60 rfl rfl (by first | exact hC.low _ (by decide) | rfl)) rfl ?_
      refine lxr (op_store_all (m := 8) rfl rfl rfl (.agg rfl) sz60 rfl) rfl ?_
      refine lx_end ⟨by kernel_rfl, ?_⟩
      refine pe_then_normal ?_
      refine tr_sub hC (.cons (t := 3) rfl (.cons (t := 4) rfl (.cons (t := 6) rfl (.cons (t := 7) rfl (.cons (t := 8) rfl .nil))))) (.cons (t := 602) rfl (.cons (t := 4) rfl (.cons (t := 3) rfl (.cons (t := 6) rfl (.cons (t := 8) rfl .nil))))) rfl ?_
      refine tr_seq ?_
      refine tr_seq ?_
      refine tr_region (fun N10 hN => ?_)
      refine lx (op_fieldAddr rfl fl60_4 sz58) rfl ?_
      refine lx (op_bload_one (m := 8) rfl rfl ag58 rfl) rfl ?_
      first | refine lx (op_len rfl el58) rfl ?_ | refine lx (op_len_row rfl el58) rfl ?_ | refine lx (op_len_mv rfl el58) rfl ?_ | refine lx (op_len_nil rfl el58) rfl ?_
      refine lx (op_assign rfl) rfl ?_
      refine lx_end ⟨by kernel_rfl, ?_⟩
      refine pe_then_normal ?_
      refine tr_sub hC (.cons (t := 3) rfl (.cons (t := 4) rfl (.cons (t := 6) rfl (.cons (t := 7) rfl (.cons (t := 8) rfl (.cons (t := 9) rfl .nil)))))) (.cons (t := 602) rfl (.cons (t := 4) rfl (.cons (t := 3) rfl (.cons (t := 6) rfl (.cons (t := 8) rfl .nil))))) rfl ?_
      refine tr_seq ?_
      refine tr_region (fun N11 hN => ?_)
      refine lx (op_move rfl) rfl ?_
      refine lx (op_gtr rfl rfl) rfl ?_
      refine lx_end ⟨by kernel_rfl, ?_⟩
      refine pe_then_normal ?_
      refine tr_sub hC (.cons (t := 3) rfl (.cons (t := 4) rfl (.cons (t := 6) rfl (.cons (t := 7) rfl (.cons (t := 8) rfl (.cons (t := 9) rfl (.cons (t := 70) rfl .nil))))))) (.cons (t := 602) rfl (.cons (t := 4) rfl (.cons (t := 3) rfl (.cons (t := 6) rfl (.cons (t := 8) rfl .nil))))) rfl ?_
      refine tr_cond rfl (fun h70 => ?_) (fun h70 => ?_)
      ·(try simp only [cq1, cq2, cq3, cq4, cq5, cq6, cq7, cq8, cq9, cq10, cq11, cq12, cq13] at h70)
       have hud := hub.defers
       obtain ⟨d, hd⟩ : ∃ d, u.defers[u.defers.length - 1]? = some d := ⟨_, List.getElem?_eq_getElem (by omega)⟩
       have hcall := leaveF_call (p := p) hq hl hst hlv hd
       refine tr_seq ?_
       refine tr_region (fun N12 hN => ?_)
       refine lx (op_fieldAddr rfl fl60_4 sz58) rfl ?_
       refine lx (op_bload_one (m := 8) rfl rfl ag58 rfl) rfl ?_
       refine lx (op_move rfl) rfl ?_
       refine lx (op_sub rfl rfl (by omega)) rfl ?_
       refine lx (op_index rfl rfl el58 sz47 (by omega : ((u.defers.length : Nat) : Int) - 1 = ((u.defers.length - 1 : Nat) : Int)) hd) rfl ?_
       first | refine lx (op_load_all rfl ag47 sz47) rfl ?_ | refine lx (op_load_agg rfl ag47 sz47 rfl) rfl ?_ | refine lx (op_bload (m := 602) rfl rfl ag47 sz47) rfl ?_ | refine lx (op_bload (m := 4) rfl rfl ag47 sz47) rfl ?_ | refine lx (op_bload (m := 3) rfl rfl ag47 sz47) rfl ?_ | refine lx (op_bload (m := 6) rfl rfl ag47 sz47) rfl ?_ | refine lx (op_bload (m := 8) rfl rfl ag47 sz47) rfl ?_ | refine lx (op_bload_part (m := 602) (qs := [_, _]) rfl rfl ag47 sz47 rfl rfl) rfl ?_ | refine lx (op_bload_part (m := 4) (qs := [_, _]) rfl rfl ag47 sz47 rfl rfl) rfl ?_ | refine lx (op_bload_part (m := 3) (qs := [_, _]) rfl rfl ag47 sz47 rfl rfl) rfl ?_ | refine lx (op_bload_part (m := 6) (qs := [_, _]) rfl rfl ag47 sz47 rfl rfl) rfl ?_ | refine lx (op_bload_part (m := 8) (qs := [_, _]) rfl rfl ag47 sz47 rfl rfl) rfl ?_
       refine lxn (op_alloc (m := 10) (k := 10) (ps := [eqP (.int .i64 0), eqP (.slice none 0 0)]) ze47 rfl rfl (by first | exact hC.low _ (by decide) | rfl)) rfl ?_
       refine lxr (op_store_all (m := 10) rfl rfl rfl (.agg rfl) sz47 rfl) rfl ?_
       refine lx_end ⟨by kernel_rfl, ?_⟩
       refine pe_then_normal ?_
       refine tr_sub hC (.cons (t := 3) rfl (.cons (t := 4) rfl (.cons (t := 6) rfl (.cons (t := 7) rfl (.cons (t := 8) rfl (.cons (t := 9) rfl (.cons (t := 10) rfl .nil))))))) (.cons (t := 602) rfl (.cons (t := 4) rfl (.cons (t := 3) rfl (.cons (t := 6) rfl (.cons (t := 8) rfl (.cons (t := 10) rfl .nil)))))) rfl ?_
       refine tr_seq ?_
       refine tr_drawn mixed (fun N13 hN => ?_)
       refine lx (op_fieldAddr rfl fl29_3 sz27) rfl ?_
       refine lx (op_bload_one (m := 4) rfl rfl ag27 rfl) rfl ?_
       refine lx (op_move rfl) rfl ?_
       refine lx (op_fieldAddr rfl fl60_4 sz58) rfl ?_
       refine lx (op_bload_one (m := 8) rfl rfl ag58 rfl) rfl ?_
       refine lx (op_move rfl) rfl ?_
       refine lx (op_sub rfl rfl (by omega)) rfl ?_
       refine lx (op_slice_h rfl rfl el58 sz47 (by omega : ((u.defers.length : Nat) : Int) - 1 = ((u.defers.length - 1 : Nat) : Int)) (by omega)) rfl ?_
       refine lx (op_index_mv rfl rfl el27 sz60 (by omega : ((t : Nat) : Int) = ((t : Nat) : Int)) (by omega)) rfl ?_
       refine lx (op_fieldAddr rfl fl60_4 sz58) rfl ?_
       refine lxr (op_tstore (m := 602) (j := t) (fo := 4) (z' := (pureE { u with defers := u.defers.take (u.defers.length - 1) })) rfl rfl rfl (.one (by (first | exact One.eq rfl | exact One.mv _ _ _ _ _ | exact One.cl _ _ _ | exact One.map _ | exact One.sl _ _ _ | exact One.row _ _ _ _ | exact One.msl _ _ _ _ | exact One.ptr _ _ | exact One.b _ | exact One.cells _))) sz58 rfl fmE_len (by omega) (rowE_top (by omega)) rfl rfl) rfl ?_
       refine lx_end ⟨by kernel_rfl, ?_⟩
       refine pe_then_normal ?_
       refine tr_sub hC (.cons (t := 3) rfl (.cons (t := 4) rfl (.cons (t := 6) rfl (.cons (t := 10) rfl .nil)))) (.cons (t := 602) rfl (.cons (t := 4) rfl (.cons (t := 3) rfl (.cons (t := 6) rfl (.cons (t := 10) rfl .nil))))) rfl ?_
       try refine tr_post (fun X hX => post_rowEq (n := 602) rfl (rowE_set (by omega)) hX) ?_
       refine tr_post (fun X hX => post_sealFm (n := 602) (t := 699) hC0 rfl (by omega) (by omega) rfl (.inl rfl) rfl hX) ?_
       have hC := hC0
       refine tr_post (fun X hX => post_rowPs (n := 602) rfl rowPureT hX) ?_
       refine tr_bound 698 (m := 602) rfl ?_
       refine tr_freeze (m := 602) rfl (.cons (t := 3) rfl (.cons (t := 4) rfl (.cons (t := 6) rfl (.cons (t := 10) rfl (.ent (t := 698) rfl FEnt.frz_bound .nil))))) ?_
       refine tr_thaw (t := 698) (n := 4) (qs' := _) rfl (.cons (t := 3) rfl (.cons (t := 4) rfl (.cons (t := 6) rfl (.cons (t := 10) rfl .nil)))) rfl (.cons (.of (Ent.refl _)) (.cons (.of (Ent.refl _)) (.cons (.of (Ent.refl _)) (.cons (fment_part Fm.len (take_part (by omega))) .nil)))) ?_
       refine tr_seq ?_
       refine tr_region (fun N14 hN => ?_)
       refine lx (op_bload (m := 3) rfl rfl ag26 sz26) rfl ?_
       refine lx (op_bload (m := 4) rfl rfl ag29 sz29) rfl ?_
       refine lx (op_fieldAddr rfl fl47_0 sz3) rfl ?_
       refine lx (op_bload_one (m := 10) rfl rfl ag3 rfl) rfl ?_
       refine lx (op_fieldAddr rfl fl47_1 sz33) rfl ?_
       refine lx (op_bload_one (m := 10) rfl rfl ag33 rfl) rfl ?_
       first | refine lx (op_call (l := [(Go.Operand.tmp 88), (Go.Operand.tmp 89), (Go.Operand.tmp 91), (Go.Operand.tmp 93), (Go.Operand.const (Go.Value.int Go.IntKind.i64 (-1)))]) (rEnter_ok p hp { g with frames := g.frames.take t ++ [{ u with defers := u.defers.take (u.defers.length - 1) }] } (bdG_take hb (bdF_drop hub) (by omega)) (by simp; omega) d.fn d.args (-1)) (.cons rfl (.cons rfl (.cons rfl (.cons rfl (.cons rfl .nil))))) fn18) rfl ?_ | refine lx (op_call (l := [(Go.Operand.tmp 88), (Go.Operand.tmp 89), (Go.Operand.tmp 91), (Go.Operand.tmp 93), (Go.Operand.const (Go.Value.int Go.IntKind.i64 (-1)))]) (rEnter_ok p hp { g with frames := g.frames.take t ++ [{ u with defers := u.defers.take (u.defers.length - 1) }] } (bdG_take hb (bdF_drop hub) (by omega)) (by simp; omega) d.fn d.args (-1)) (.ent rfl (by exact ent_auto) (.ent rfl (by exact ent_auto) (.ent rfl (by exact ent_auto) (.ent rfl (by exact ent_auto) (.ent rfl (by exact ent_auto) .nil))))) fn18) rfl ?_
       refine lx (op_move rfl) rfl ?_
       refine lx (op_extract rfl rfl) rfl ?_
       refine lx (op_extract rfl rfl) rfl ?_
       refine lxn (op_alloc (m := 11) (k := 11) (ps := [eqP (.int .i64 0), eqP (.int .i64 0), eqP (.int .i64 0), eqP (.slice none 0 0)]) ze29 rfl rfl (by first | exact hC.low _ (by decide) | rfl)) rfl ?_
       refine lxr (op_store_all (m := 11) rfl rfl rfl (.agg rfl) sz29 rfl) rfl ?_
       refine lx (op_assign rfl) rfl ?_
       refine lx_end ⟨by kernel_rfl, ?_⟩
       refine pe_then_normal ?_
       refine tr_sub hC (.cons (t := 4) rfl (.cons (t := 6) rfl (.cons (t := 11) rfl (.cons (t := 12) rfl .nil)))) (.cons (t := 4) rfl (.cons (t := 6) rfl (.cons (t := 11) rfl .nil))) rfl ?_
       refine tr_seq ?_
       refine tr_seq ?_
       refine tr_region (fun N15 hN => ?_)
       refine lx (op_move rfl) rfl ?_
       refine lx (op_neq rfl rfl) rfl ?_
       refine lx_end ⟨by kernel_rfl, ?_⟩
       refine pe_then_normal ?_
       refine tr_sub hC (.cons (t := 4) rfl (.cons (t := 6) rfl (.cons (t := 11) rfl (.cons (t := 98) rfl .nil)))) (.cons (t := 4) rfl (.cons (t := 6) rfl (.cons (t := 11) rfl .nil))) rfl ?_
       refine tr_cond rfl (fun h98 => ?_) (fun h98 => ?_)
       ·(try simp only [cq1, cq2, cq3, cq4, cq5, cq6, cq7, cq8, cq9, cq10, cq11, cq12, cq13] at h98)
        rw [if_neg h98] at hcall
        refine tr_seq ?_
        refine tr_region (fun N16 hN => ?_)
        refine lx (op_bload (m := 4) rfl rfl ag29 sz29) rfl ?_
        first | refine lx (op_call (l := [(Go.Operand.tmp 99), (Go.Operand.const (Go.Value.int Go.IntKind.i64 9))]) (fail_ok { g with frames := g.frames.take t ++ [{ u with defers := u.defers.take (u.defers.length - 1) }] } 9) (.cons rfl (.cons rfl .nil)) fn41) rfl ?_ | refine lx (op_call (l := [(Go.Operand.tmp 99), (Go.Operand.const (Go.Value.int Go.IntKind.i64 9))]) (fail_ok { g with frames := g.frames.take t ++ [{ u with defers := u.defers.take (u.defers.length - 1) }] } 9) (.ent rfl (by exact ent_auto) (.ent rfl (by exact ent_auto) .nil)) fn41) rfl ?_
        refine lxr (op_store_all (m := 6) rfl rfl rfl (.agg rfl) sz29 rfl) rfl ?_
        refine lx_end ⟨by kernel_rfl, ?_⟩
        refine pe_then_normal ?_
        refine tr_sub hC (.cons (t := 6) rfl .nil) (.cons (t := 6) rfl .nil) rfl ?_
        refine tr_ret ?_
        refine pe_then_ret ?_
        refine pe_then_ret ?_
        refine pe_block_ret ?_
        refine pe_then_ret ?_
        refine pe_block_ret ?_
        refine pe_then_ret ?_
        refine pe_ret1 rfl hO rfl (.cell (m := 6) rfl rfl ag29 sz29 .nil) ?_
        rw [hcall]
        exact ent_auto
       ·(try simp only [cq1, cq2, cq3, cq4, cq5, cq6, cq7, cq8, cq9, cq10, cq11, cq12, cq13] at h98)
        rw [if_pos h98] at hcall
        refine tr_skip ?_
        refine pe_then_normal ?_
        refine tr_sub hC (.cons (t := 6) rfl (.cons (t := 11) rfl .nil)) (.cons (t := 6) rfl (.cons (t := 11) rfl .nil)) rfl ?_
        refine tr_seq ?_
        refine tr_region (fun N17 hN => ?_)
        refine lx (op_bload (m := 11) rfl rfl ag29 sz29) rfl ?_
        refine lxr (op_store_all (m := 6) rfl rfl rfl (.agg rfl) sz29 rfl) rfl ?_
        refine lx_end ⟨by kernel_rfl, ?_⟩
        refine pe_then_normal ?_
        refine tr_sub hC (.cons (t := 6) rfl .nil) (.cons (t := 6) rfl .nil) rfl ?_
        refine tr_ret ?_
        refine pe_then_ret ?_
        refine pe_block_ret ?_
        refine pe_then_ret ?_
        refine pe_block_ret ?_
        refine pe_then_ret ?_
        refine pe_ret1 rfl hO rfl (.cell (m := 6) rfl rfl ag29 sz29 .nil) ?_
        rw [hcall]
        exact ent_auto
      ·(try simp only [cq1, cq2, cq3, cq4, cq5, cq6, cq7, cq8, cq9, cq10, cq11, cq12, cq13] at h70)
       have hnd : u.defers.length = 0 := by omega
       refine tr_skip ?_
       refine pe_then_normal ?_
       refine tr_sub hC (.cons (t := 3) rfl (.cons (t := 4) rfl (.cons (t := 6) rfl (.cons (t := 7) rfl (.cons (t := 8) rfl .nil))))) (.cons (t := 602) rfl (.cons (t := 4) rfl (.cons (t := 3) rfl (.cons (t := 6) rfl (.cons (t := 8) rfl .nil))))) rfl ?_
       refine tr_seq ?_
       refine tr_region (fun N18 hN => ?_)
       refine lx (op_fieldAddr rfl fl29_3 sz27) rfl ?_
       refine lx (op_bload_one (m := 4) rfl rfl ag27 rfl) rfl ?_
       refine lx (op_move rfl) rfl ?_
       refine lx (op_mslice_h rfl rfl el27 sz60 rfl (by omega)) rfl ?_
       refine lx (op_fieldAddr rfl fl29_3 sz27) rfl ?_
       refine lxr (op_store (m := 4) (rs := [_, _, _, _]) rfl rfl rfl (.one (by (first | exact One.eq rfl | exact One.mv _ _ _ _ _ | exact One.cl _ _ _ | exact One.map _ | exact One.sl _ _ _ | exact One.row _ _ _ _ | exact One.msl _ _ _ _ | exact One.ptr _ _ | exact One.b _ | exact One.cells _))) sz27 rfl rfl rfl) rfl ?_
       refine lx_end ⟨by kernel_rfl, ?_⟩
       refine pe_then_normal ?_
       refine tr_sub hC (.cons (t := 3) rfl (.cons (t := 4) rfl (.cons (t := 6) rfl (.cons (t := 7) rfl (.cons (t := 8) rfl .nil))))) (.cons (t := 602) rfl (.cons (t := 4) rfl (.cons (t := 3) rfl (.cons (t := 6) rfl (.cons (t := 8) rfl .nil))))) rfl ?_
       rcases t with _ | t
       ·have hC : CxOK (famC ⟨σ0, M, ex, Rf, 145⟩ (2 * 0) ((fun j => fid N1 (200) (2 * (q + 1)) (j + 1))) (famR 43 47 g.frames)) := famC_ok
        refine tr_seq ?_
        refine tr_drawn mixed (fun N19 hN => ?_)
        refine lx (op_move rfl) rfl ?_
        refine lxk (op_gtr rfl rfl) ((decide_eq_false (by omega))) rfl ?_
        refine lx (op_move rfl) rfl ?_
        refine lx_skip rfl rfl rfl (by first | exact notThe_bool rfl | exact notThe_undef) rfl ?_
        refine lx_skip rfl rfl rfl (by first | exact notThe_bool rfl | exact notThe_undef) rfl ?_
        refine lx_skip rfl rfl rfl (by first | exact notThe_bool rfl | exact notThe_undef) rfl ?_
        refine lx (op_pick_f rfl rfl) rfl ?_
        refine lx (op_move rfl) rfl ?_
        refine lx_skip rfl rfl rfl (by first | exact notThe_bool rfl | exact notThe_undef) rfl ?_
        refine lx_skip rfl rfl rfl (by first | exact notThe_bool rfl | exact notThe_undef) rfl ?_
        refine lx_skip rfl rfl rfl (by first | exact notThe_bool rfl | exact notThe_undef) rfl ?_
        refine lx_skip rfl rfl rfl (by first | exact notThe_bool rfl | exact notThe_undef) rfl ?_
        refine lx_skip rfl rfl rfl (by first | exact notThe_bool rfl | exact notThe_undef) rfl ?_
        refine lx_skip rfl rfl rfl (by first | exact notThe_bool rfl | exact notThe_undef) rfl ?_
        refine lx_skip rfl rfl rfl (by first | exact notThe_bool rfl | exact notThe_undef) rfl ?_
        refine lx_skip rfl rfl rfl (by first | exact notThe_bool rfl | exact notThe_undef) rfl ?_
        refine lx_skip rfl rfl rfl (by first | exact notThe_bool rfl | exact notThe_undef) rfl ?_
        refine lx_skip rfl rfl rfl (by first | exact notThe_bool rfl | exact notThe_undef) rfl ?_
        refine lx_skip rfl rfl rfl (by first | exact notThe_bool rfl | exact notThe_undef) rfl ?_
        refine lx (op_pick_f rfl rfl) rfl ?_
        refine lx_end ⟨by kernel_rfl, ?_⟩
        refine pe_then_normal ?_
        refine tr_sub hC (.cons (t := 3) rfl (.cons (t := 4) rfl (.cons (t := 6) rfl (.cons (t := 7) rfl (.cons (t := 8) rfl (.cons (t := 126) rfl .nil)))))) (.cons (t := 602) rfl (.cons (t := 4) rfl (.cons (t := 3) rfl (.cons (t := 6) rfl (.cons (t := 8) rfl .nil))))) rfl ?_
        refine tr_cond_f rfl ?_
        refine tr_skip ?_
        refine pe_block_normal ?_
        refine pe_roundC (⟨(0, u, pureE u :: zs), Nat.zero_le _, (leave_last hlv hnd).symm.trans hst, hub⟩) (by dsimp only; omega) (pe_st hC ?_ ?_ rfl)
        ·try dsimp only [List.cons_append, List.nil_append]
         first | refine SubF.cons rfl ?_ | (refine SubF.ent rfl ?_ ?_; · exact ent_auto)
         first | refine SubF.cons rfl ?_ | (refine SubF.ent rfl ?_ ?_; · exact ent_auto)
         first | refine SubF.cons rfl ?_ | (refine SubF.ent rfl ?_ ?_; · exact ent_auto)
         exact SubF.nil
        ·try dsimp only [List.cons_append, List.nil_append]
         repeat (first | exact SubL.nil | refine SubL.cons rfl ?_)
       ·have hC : CxOK (famC ⟨σ0, M, ex, Rf, 145⟩ (2 * (t + 1)) ((fun j => fid N1 (200) (2 * (q + 1)) (j + 1))) (famR 43 47 g.frames)) := famC_ok
        obtain ⟨h, hh⟩ : ∃ h, g.frames[t]? = some h := ⟨_, List.getElem?_eq_getElem (by omega)⟩
        have hbh := hb.each h (List.mem_of_getElem? hh)
        refine tr_post (fun X hX => post_rowEq (n := 602) rfl (show rowE g.frames (fun j => fid N1 (200) (2 * (q + 1)) (j + 1)) (t + 1) (2 * (t + 1)) _ = _ from rowE_pop hh) hX) ?_
        refine tr_post (fun X hX => post_famK (show 2 * (t + 1) = 2 * t + 2 by omega) hX) ?_
        have hC : CxOK (famC ⟨σ0, M, ex, Rf, 145⟩ (2 * t + 2) ((fun j => fid N1 (200) (2 * (q + 1)) (j + 1))) (famR 43 47 g.frames)) := famC_ok
        refine tr_post (fun X hX => post_take2 605 606 hh rfl rfl (by omega) rfl (.inl rfl) (.inl rfl) hX) ?_
        have hC : CxOK (famC ⟨σ0, M, ex, Rf, 145⟩ (2 * t) ((fun j => fid N1 (200) (2 * (q + 1)) (j + 1))) (famR 43 47 g.frames)) := famC_ok
        refine tr_seq ?_
        refine tr_drawn mixed (fun N19 hN => ?_)
        refine lx (op_move rfl) rfl ?_
        refine lxk (op_gtr rfl rfl) ((decide_eq_true (by omega))) rfl ?_
        refine lx (op_move rfl) rfl ?_
        refine lxg rfl rfl rfl (op_fieldAddr rfl fl60_3 sz3) rfl ?_
        refine lxg rfl rfl rfl (op_bload_one (m := 8) rfl rfl ag3 rfl) rfl ?_
        refine lxg rfl rfl rfl (op_geq rfl rfl) rfl ?_
        refine lx (op_pick_t rfl rfl) rfl ?_
        refine lx (op_move rfl) rfl ?_
        refine lxs rfl rfl rfl guard_eq (.cons (t := 8) rfl (fun _ => Ent.refl _) .nil) (op_fieldAddr rfl fl60_3 sz3) rfl ?_
        refine lxs rfl rfl rfl guard_eq (.cons (t := 115) rfl (fun h => entW h) .nil) (op_bload_one (m := 8) rfl rfl ag3 rfl) rfl ?_
        refine lxs rfl rfl rfl guard_eq (.cons (t := 4) rfl (fun _ => Ent.refl _) .nil) (op_fieldAddr rfl fl29_3 sz27) rfl ?_
        refine lxs rfl rfl rfl guard_eq (.cons (t := 117) rfl (fun h => entW h) .nil) (op_bload_one (m := 4) rfl rfl ag27 rfl) rfl ?_
        refine lxs rfl rfl rfl guard_eq (.cons (t := 7) rfl (fun _ => Ent.refl _) .nil) (op_move rfl) rfl ?_
        refine lxs rfl rfl rfl guard_eq (.cons (t := 119) rfl (fun h => entW h) .nil) (op_sub rfl rfl (by omega)) rfl ?_
        refine lxs rfl rfl rfl guard_eq (.cons (t := 118) rfl (fun h => entW h) (.cons (t := 120) rfl (fun h => entW h) .nil)) (op_index_mv rfl rfl el27 sz60 (by omega : ((t + 1 : Nat) : Int) - 1 = ((t : Nat) : Int)) (by omega)) rfl ?_
        refine lxs rfl rfl rfl guard_eq (.cons (t := 121) rfl (fun h => entW h) .nil) (op_fieldAddr rfl fl60_2 sz33) rfl ?_
        refine lxs rfl rfl rfl guard_eq (.cons (t := 122) rfl (fun h => entW h) .nil) (op_tload_one (m := 602) (j := t) (fo := 2) rfl rfl ag33 fmE_len (by omega) (rowE_top (by omega)) rfl) rfl ?_
        first | refine lxs rfl rfl rfl guard_eq (.cons (t := 123) rfl (fun h => entW h) .nil) (op_len rfl el33) rfl ?_ | refine lxs rfl rfl rfl guard_eq (.cons (t := 123) rfl (fun h => entW h) .nil) (op_len_row rfl el33) rfl ?_ | refine lxs rfl rfl rfl guard_eq (.cons (t := 123) rfl (fun h => entW h) .nil) (op_len_mv rfl el33) rfl ?_ | refine lxs rfl rfl rfl guard_eq (.cons (t := 123) rfl (fun h => entW h) .nil) (op_len_nil rfl el33) rfl ?_
        refine lxs rfl rfl rfl guard_eq (.cons (t := 116) rfl (fun h => entW h) (.cons (t := 124) rfl (fun h => entW h) .nil)) (op_lss rfl rfl) rfl ?_
        refine lx (op_pick_and rfl rfl) rfl ?_
        refine lx_end ⟨by kernel_rfl, ?_⟩
        refine pe_then_normal ?_
        refine tr_sub hC (.cons (t := 3) rfl (.cons (t := 4) rfl (.cons (t := 6) rfl (.cons (t := 7) rfl (.cons (t := 8) rfl (.cons (t := 126) rfl .nil)))))) (.cons (t := 602) rfl (.cons (t := 4) rfl (.cons (t := 3) rfl (.cons (t := 6) rfl (.cons (t := 8) rfl (.cons (t := 605) rfl (.cons (t := 606) rfl .nil))))))) rfl ?_
        refine tr_cond rfl (fun h126 => ?_) (fun h126 => ?_)
        ·(try simp only [cq1, cq2, cq3, cq4, cq5, cq6, cq7, cq8, cq9, cq10, cq11, cq12, cq13] at h126)
         refine tr_drawn mixed (fun N20 hN => ?_)
         refine lx (op_fieldAddr rfl fl29_3 sz27) rfl ?_
         refine lx (op_bload_one (m := 4) rfl rfl ag27 rfl) rfl ?_
         refine lx (op_move rfl) rfl ?_
         refine lx (op_sub rfl rfl (by omega)) rfl ?_
         refine lx (op_index_mv rfl rfl el27 sz60 (by omega : ((t + 1 : Nat) : Int) - 1 = ((t : Nat) : Int)) (by omega)) rfl ?_
         refine lx (op_fieldAddr rfl fl60_2 sz33) rfl ?_
         refine lx (OpJ.ent (op_tload_one (m := 602) (j := t) (fo := 2) rfl rfl ag33 fmE_len (by omega) (rowE_top (by omega)) rfl) (show Ent _ (mvP ((fun j => fid N1 (200) (2 * (q + 1)) (j + 1)) (2 * t)) 3 0 h.regs.length h.regs.length) from (by exact ent_auto))) rfl ?_
         refine lx (op_fieldAddr rfl fl60_3 sz3) rfl ?_
         refine lx (op_bload_one (m := 8) rfl rfl ag3 rfl) rfl ?_
         refine lx (op_fieldAddr rfl fl60_6 sz43) rfl ?_
         refine lx (op_bload_part (m := 8) (qs := [_, _, _]) rfl rfl ag43 sz43 rfl rfl) rfl ?_
         refine lx (op_index_mv rfl rfl el33 sz43 (by omega : u.dest = ((u.dest.toNat : Nat) : Int)) (show u.dest.toNat < h.regs.length by omega)) rfl ?_
         refine lxr (op_tstore (m := 605) (j := u.dest.toNat) (fo := 0) (z' := u.result) rfl rfl rfl (.agg rfl) sz43 rfl vp_len (by omega) (List.getElem?_eq_getElem (by omega : u.dest.toNat < h.regs.length)) rfl rfl) rfl ?_
         refine lx_end ⟨by kernel_rfl, ?_⟩
         refine pe_block_normal ?_
         refine post_seal (m := 605) (n := 602) rfl rfl (by decide) (seal_regs (by simp)) ?_
         refine post_seal (m := 606) (n := 602) rfl rfl (by decide) (seal_defs (by simp)) ?_
         refine pe_roundC (⟨(t + 1, { h with regs := h.regs.set u.dest.toNat u.result }, pureE u :: zs), (by dsimp only; omega), (congrArg (lst g.frames (t + 1)) (ret1_in (f := u) (h := h) (by omega)).symm).trans ((leave_pop hlv hnd hh).symm.trans hst), ⟨by simpa using hbh.regs, hbh.defers, hbh.args⟩⟩) (by dsimp only; omega) (pe_st hC ?_ ?_ rfl)
         ·try dsimp only [List.cons_append, List.nil_append]
          first | refine SubF.cons rfl ?_ | (refine SubF.ent rfl ?_ ?_; · exact ent_auto)
          first | refine SubF.cons rfl ?_ | (refine SubF.ent rfl ?_ ?_; · exact ent_auto)
          first | refine SubF.cons rfl ?_ | (refine SubF.ent rfl ?_ ?_; · exact ent_auto)
          exact SubF.nil
         ·try dsimp only [List.cons_append, List.nil_append]
          repeat (first | exact SubL.nil | refine SubL.cons rfl ?_)
        ·(try simp only [cq1, cq2, cq3, cq4, cq5, cq6, cq7, cq8, cq9, cq10, cq11, cq12, cq13] at h126)
         refine tr_skip ?_
         refine pe_block_normal ?_
         refine post_seal (m := 605) (n := 602) rfl rfl (by decide) (seal_regs (by simp)) ?_
         refine post_seal (m := 606) (n := 602) rfl rfl (by decide) (seal_defs (by simp)) ?_
         refine pe_roundC (⟨(t + 1, h, pureE u :: zs), (by dsimp only; omega), (congrArg (lst g.frames (t + 1)) (ret1_out (f := u) (h := h) (by omega)).symm).trans ((leave_pop hlv hnd hh).symm.trans hst), hbh⟩) (by dsimp only; omega) (pe_st hC ?_ ?_ rfl)
         ·try dsimp only [List.cons_append, List.nil_append]
          first | refine SubF.cons rfl ?_ | (refine SubF.ent rfl ?_ ?_; · exact ent_auto)
          first | refine SubF.cons rfl ?_ | (refine SubF.ent rfl ?_ ?_; · exact ent_auto)
          first | refine SubF.cons rfl ?_ | (refine SubF.ent rfl ?_ ?_; · exact ent_auto)
          exact SubF.nil
         ·try dsimp only [List.cons_append, List.nil_append]
          repeat (first | exact SubL.nil | refine SubL.cons rfl ?_)
     ·(try simp only [cq1, cq2, cq3, cq4, cq5, cq6, cq7, cq8, cq9, cq10, cq11, cq12, cq13] at h56)
      have hlv : u.leaving = false := h56
      refine tr_exit ?_
      refine pe_then_exit ?_
      refine pe_then_exit ?_
      refine pe_block_eq ?_
      refine pe_then_normal ?_
      refine tr_sub hC (.cons (t := 4) rfl (.cons (t := 6) rfl .nil)) (.cons (t := 602) rfl (.cons (t := 4) rfl (.cons (t := 6) rfl .nil))) rfl ?_
      refine tr_seq ?_
      refine tr_seq ?_
      refine tr_region (fun N21 hN => ?_)
      refine lx (op_fieldAddr rfl fl29_3 sz27) rfl ?_
      refine lx (op_bload_one (m := 4) rfl rfl ag27 rfl) rfl ?_
      first | refine lx (op_len rfl el27) rfl ?_ | refine lx (op_len_row rfl el27) rfl ?_ | refine lx (op_len_mv rfl el27) rfl ?_ | refine lx (op_len_nil rfl el27) rfl ?_
      refine lxk (op_eql rfl rfl) ((decide_eq_false (by omega))) rfl ?_
      refine lx_end ⟨by kernel_rfl, ?_⟩
      refine pe_then_normal ?_
      refine tr_sub hC (.cons (t := 4) rfl (.cons (t := 6) rfl (.cons (t := 142) rfl .nil))) (.cons (t := 602) rfl (.cons (t := 4) rfl (.cons (t := 6) rfl .nil))) rfl ?_
      refine tr_cond_f rfl ?_
      refine tr_skip ?_
      refine pe_then_normal ?_
      refine tr_sub hC (.cons (t := 4) rfl (.cons (t := 6) rfl .nil)) (.cons (t := 602) rfl (.cons (t := 4) rfl (.cons (t := 6) rfl .nil))) rfl ?_
      have hfin := leaveF_stop (p := p) hq hl hst hlv
      refine tr_post (fun X hX => post_sealFm (n := 602) (t := 699) hC0 rfl (by omega) (by omega) rfl (.inl rfl) rfl hX) ?_
      have hC := hC0
      refine tr_post (fun X hX => post_rowPs (n := 602) rfl rowPureT hX) ?_
      refine tr_bound 698 (m := 602) rfl ?_
      refine tr_freeze (m := 602) rfl (.cons (t := 4) rfl (.cons (t := 6) rfl (.ent (t := 698) rfl FEnt.frz_bound .nil))) ?_
      refine tr_thaw (t := 698) (n := 4) (qs' := _) rfl (.cons (t := 4) rfl (.cons (t := 6) rfl .nil)) rfl (.cons (.of (Ent.refl _)) (.cons (.of (Ent.refl _)) (.cons (.of (Ent.refl _)) (.cons (fment_part Fm.len (take_part (by omega))) .nil)))) ?_
      refine tr_seq ?_
      refine tr_region (fun N23 hN => ?_)
      refine lx (op_bload (m := 4) rfl rfl ag29 sz29) rfl ?_
      refine lxr (op_store_all (m := 6) rfl rfl rfl (.agg rfl) sz29 rfl) rfl ?_
      refine lx_end ⟨by kernel_rfl, ?_⟩
      refine pe_then_normal ?_
      refine tr_sub hC (.cons (t := 6) rfl .nil) (.cons (t := 6) rfl .nil) rfl ?_
      refine tr_ret ?_
      refine pe_ret1 rfl hO rfl (.cell (m := 6) rfl rfl ag29 sz29 .nil) ?_
      rw [hfin]
      exact ent_auto
  ·(try simp only [cq1, cq2, cq3, cq4, cq5, cq6, cq7, cq8, cq9, cq10, cq11, cq12, cq13] at h30)
   have htl : topL f v = f := by unfold topL; rw [if_pos h30]
   refine tr_skip ?_
   refine pe_then_normal ?_
   refine tr_sub hC (.cons (t := 3) rfl (.cons (t := 4) rfl (.cons (t := 6) rfl .nil))) (.cons (t := 3) rfl (.cons (t := 4) rfl (.cons (t := 6) rfl (.cons (t := 602) rfl .nil)))) rfl ?_
   first | refine tr_post (fun X hX => post_rowEq (n := 602) rfl (rowE_set2 (by omega)) hX) ?_ | skip
   refine tr_seq ?_
   refine tr_block ?_
   refine tr_loopKC (α := {zz : Nat × Fm × (List FmE) // zz.1 ≤ q + 1 ∧ lst g.frames zz.1 zz.2.1 = lst g.frames (q + 1) (topL f v) ∧ BdF 1048576 zz.2.1}) (⟨(q + 1, f, []), Nat.le_refl _, (by rw [htl]), hbf⟩) (fun zz => famC ⟨σ0, M, ex, Rf, 145⟩ (kf zz.1.1) ((fun j => fid N1 (200) (2 * (q + 1)) (j + 1))) (famR 43 47 g.frames)) (fun zz => []) (fun zz => [(602, some ((fid N1 200 (2 * (q + 1)) 0), blkX 9 60 ((rowS g.frames (fun j => fid N1 (200) (2 * (q + 1)) (j + 1)) zz.1.1 zz.1.2.1 zz.1.2.2).flatMap fmE))), (4, some ((N0, 4), blk 29 [eqP (.int .i64 g.state), eqP (.int .i64 g.fault), eqP (.int .i64 g.allocs), mvP (fid N1 200 (2 * (q + 1)) 0) 9 0 zz.1.1 (q + 1)]))]) (fun zz => zz.1.1) hC rfl (.cons (t := 3) rfl (.cons (t := 4) rfl (.cons (t := 6) rfl .nil))) (.cons (t := 3) rfl (.cons (t := 6) rfl .nil)) rfl ?_ ?_ (fun zz => ?_)
   ·try dsimp only [List.cons_append, List.nil_append]
    exact SubF.nil
   ·try dsimp only [List.cons_append, List.nil_append]
    repeat (first | exact SubL.nil | refine SubL.cons rfl ?_)
   ·obtain ⟨⟨p, u, zs⟩, hp1, hst, hub⟩ := zz
    try dsimp only at hp1
    try dsimp only at hst
    try dsimp only at hub
    dsimp only [List.cons_append, List.nil_append]
    have hC : CxOK (famC ⟨σ0, M, ex, Rf, 145⟩ (kf p) ((fun j => fid N1 (200) (2 * (q + 1)) (j + 1))) (famR 43 47 g.frames)) := famC_ok
    rcases p with _ | t
    ·refine tr_post (fun X hX => post_famK (show kf 0 = 0 from rfl) hX) ?_
     have hC : CxOK (famC ⟨σ0, M, ex, Rf, 145⟩ (0) ((fun j => fid N1 (200) (2 * (q + 1)) (j + 1))) (famR 43 47 g.frames)) := famC_ok
     refine tr_post (fun X hX => post_rowEq (n := 602) (ys := rowE g.frames (fun j => fid N1 (200) (2 * (q + 1)) (j + 1)) 0 0 zs) rfl rfl hX) ?_
     refine tr_seq ?_
     refine tr_seq ?_
     refine tr_region (fun N7 hN => ?_)
     refine lx (op_fieldAddr rfl fl29_3 sz27) rfl ?_
     refine lx (op_bload_one (m := 4) rfl rfl ag27 rfl) rfl ?_
     first | refine lx (op_len rfl el27) rfl ?_ | refine lx (op_len_row rfl el27) rfl ?_ | refine lx (op_len_mv rfl el27) rfl ?_ | refine lx (op_len_nil rfl el27) rfl ?_
     refine lxk (op_gtr rfl rfl) ((decide_eq_false (by omega))) rfl ?_
     refine lx (op_move rfl) rfl ?_
     refine lx_skip rfl rfl rfl (by first | exact notThe_bool rfl | exact notThe_undef) rfl ?_
     refine lx_skip rfl rfl rfl (by first | exact notThe_bool rfl | exact notThe_undef) rfl ?_
     refine lx_skip rfl rfl rfl (by first | exact notThe_bool rfl | exact notThe_undef) rfl ?_
     refine lx_skip rfl rfl rfl (by first | exact notThe_bool rfl | exact notThe_undef) rfl ?_
     refine lx_skip rfl rfl rfl (by first | exact notThe_bool rfl | exact notThe_undef) rfl ?_
     refine lx_skip rfl rfl rfl (by first | exact notThe_bool rfl | exact notThe_undef) rfl ?_
     refine lx_skip rfl rfl rfl (by first | exact notThe_bool rfl | exact notThe_undef) rfl ?_
     refine lx_skip rfl rfl rfl (by first | exact notThe_bool rfl | exact notThe_undef) rfl ?_
     refine lx_skip rfl rfl rfl (by first | exact notThe_bool rfl | exact notThe_undef) rfl ?_
     refine lx (op_pick_f rfl rfl) rfl ?_
     refine lx_end ⟨by kernel_rfl, ?_⟩
     refine pe_then_normal ?_
     refine tr_sub hC (.cons (t := 3) rfl (.cons (t := 4) rfl (.cons (t := 6) rfl (.cons (t := 56) rfl .nil)))) (.cons (t := 602) rfl (.cons (t := 4) rfl (.cons (t := 3) rfl (.cons (t := 6) rfl .nil)))) rfl ?_
     refine tr_cond_f rfl ?_
     refine tr_exit ?_
     refine pe_then_exit ?_
     refine pe_then_exit ?_
     refine pe_block_eq ?_
     refine pe_then_normal ?_
     refine tr_sub hC (.cons (t := 4) rfl (.cons (t := 6) rfl .nil)) (.cons (t := 602) rfl (.cons (t := 4) rfl (.cons (t := 6) rfl .nil))) rfl ?_
     refine tr_seq ?_
     refine tr_seq ?_
     refine tr_region (fun N21 hN => ?_)
     refine lx (op_fieldAddr rfl fl29_3 sz27) rfl ?_
     refine lx (op_bload_one (m := 4) rfl rfl ag27 rfl) rfl ?_
     first | refine lx (op_len rfl el27) rfl ?_ | refine lx (op_len_row rfl el27) rfl ?_ | refine lx (op_len_mv rfl el27) rfl ?_ | refine lx (op_len_nil rfl el27) rfl ?_
     refine lxk (op_eql rfl rfl) ((decide_eq_true (by omega))) rfl ?_
     refine lx_end ⟨by kernel_rfl, ?_⟩
     refine pe_then_normal ?_
     refine tr_sub hC (.cons (t := 4) rfl (.cons (t := 6) rfl (.cons (t := 142) rfl .nil))) (.cons (t := 602) rfl (.cons (t := 4) rfl (.cons (t := 6) rfl .nil))) rfl ?_
     refine tr_cond_t rfl ?_
     refine tr_region (fun N22 hN => ?_)
     refine lx (op_fieldAddr rfl fl29_0 sz3) rfl ?_
     refine lxr (op_store (m := 4) (rs := [_, _, _, _]) rfl rfl rfl (.one (by (first | exact One.eq rfl | exact One.mv _ _ _ _ _ | exact One.cl _ _ _ | exact One.map _ | exact One.sl _ _ _ | exact One.row _ _ _ _ | exact One.msl _ _ _ _ | exact One.ptr _ _ | exact One.b _ | exact One.cells _))) sz3 rfl rfl rfl) rfl ?_
     refine lx_end ⟨by kernel_rfl, ?_⟩
     refine pe_then_normal ?_
     refine tr_sub hC (.cons (t := 4) rfl (.cons (t := 6) rfl .nil)) (.cons (t := 602) rfl (.cons (t := 4) rfl (.cons (t := 6) rfl .nil))) rfl ?_
     have hfin := leaveF_done (p := p) hq hl hst
     refine tr_post (fun X hX => post_sealFm (n := 602) (t := 699) hC0 rfl (by omega) (by omega) rfl (.inl rfl) rfl hX) ?_
     have hC := hC0
     refine tr_bound 698 (m := 602) rfl ?_
     refine tr_freeze (m := 602) rfl (.cons (t := 4) rfl (.cons (t := 6) rfl (.ent (t := 698) rfl FEnt.frz_bound .nil))) ?_
     refine tr_thaw (t := 698) (n := 4) (qs' := _) rfl (.cons (t := 4) rfl (.cons (t := 6) rfl .nil)) rfl (.cons (.of (Ent.refl _)) (.cons (.of (Ent.refl _)) (.cons (.of (Ent.refl _)) (.cons (fment_none (f := Fm.ps)) .nil)))) ?_
     refine tr_seq ?_
     refine tr_region (fun N23 hN => ?_)
     refine lx (op_bload (m := 4) rfl rfl ag29 sz29) rfl ?_
     refine lxr (op_store_all (m := 6) rfl rfl rfl (.agg rfl) sz29 rfl) rfl ?_
     refine lx_end ⟨by kernel_rfl, ?_⟩
     refine pe_then_normal ?_
     refine tr_sub hC (.cons (t := 6) rfl .nil) (.cons (t := 6) rfl .nil) rfl ?_
     refine tr_ret ?_
     refine pe_ret1 rfl hO rfl (.cell (m := 6) rfl rfl ag29 sz29 .nil) ?_
     rw [hfin]
     exact ent_auto
    ·refine tr_post (fun X hX => post_famK (show kf (t + 1) = 2 * t from rfl) hX) ?_
     have hC : CxOK (famC ⟨σ0, M, ex, Rf, 145⟩ (2 * t) ((fun j => fid N1 (200) (2 * (q + 1)) (j + 1))) (famR 43 47 g.frames)) := famC_ok
     refine tr_post (fun X hX => post_rowEq (n := 602) (ys := rowE g.frames (fun j => fid N1 (200) (2 * (q + 1)) (j + 1)) t (2 * t) (pureE u :: zs)) rfl rfl hX) ?_
     refine tr_seq ?_
     refine tr_seq ?_
     refine tr_region (fun N7 hN => ?_)
     refine lx (op_fieldAddr rfl fl29_3 sz27) rfl ?_
     refine lx (op_bload_one (m := 4) rfl rfl ag27 rfl) rfl ?_
     first | refine lx (op_len rfl el27) rfl ?_ | refine lx (op_len_row rfl el27) rfl ?_ | refine lx (op_len_mv rfl el27) rfl ?_ | refine lx (op_len_nil rfl el27) rfl ?_
     refine lxk (op_gtr rfl rfl) ((decide_eq_true (by omega))) rfl ?_
     refine lx (op_move rfl) rfl ?_
     refine lxg rfl rfl rfl (op_fieldAddr rfl fl29_3 sz27) rfl ?_
     refine lxg rfl rfl rfl (op_bload_one (m := 4) rfl rfl ag27 rfl) rfl ?_
     refine lxg rfl rfl rfl (op_fieldAddr rfl fl29_3 sz27) rfl ?_
     refine lxg rfl rfl rfl (op_bload_one (m := 4) rfl rfl ag27 rfl) rfl ?_
     first | refine lxg rfl rfl rfl (op_len rfl el27) rfl ?_ | refine lxg rfl rfl rfl (op_len_row rfl el27) rfl ?_ | refine lxg rfl rfl rfl (op_len_mv rfl el27) rfl ?_ | refine lxg rfl rfl rfl (op_len_nil rfl el27) rfl ?_
     refine lxg rfl rfl rfl (op_sub rfl rfl (by omega)) rfl ?_
     refine lxg rfl rfl rfl (op_index_mv rfl rfl el27 sz60 (by omega : ((t + 1 : Nat) : Int) - 1 = ((t : Nat) : Int)) (by omega)) rfl ?_
     refine lxg rfl rfl rfl (op_fieldAddr rfl fl60_5 sz4) rfl ?_
     refine lxg rfl rfl rfl (OpJ.ent (op_tload_one (m := 602) (j := t) (fo := 5) rfl rfl ag4 fmE_len (by omega) (rowE_top (by omega)) rfl) (show Ent _ (eqP (.bool u.leaving)) from (by exact ent_auto))) rfl ?_
     refine lx (op_pick_t rfl rfl) rfl ?_
     refine lx_end ⟨by kernel_rfl, ?_⟩
     refine pe_then_normal ?_
     refine tr_sub hC (.cons (t := 3) rfl (.cons (t := 4) rfl (.cons (t := 6) rfl (.cons (t := 56) rfl .nil)))) (.cons (t := 602) rfl (.cons (t := 4) rfl (.cons (t := 3) rfl (.cons (t := 6) rfl .nil)))) rfl ?_
     refine tr_cond rfl (fun h56 => ?_) (fun h56 => ?_)
     ·(try simp only [cq1, cq2, cq3, cq4, cq5, cq6, cq7, cq8, cq9, cq10, cq11, cq12, cq13] at h56)
      have hlv : u.leaving = true := h56
      refine tr_skip ?_
      refine pe_then_normal ?_
      refine tr_sub hC (.cons (t := 3) rfl (.cons (t := 4) rfl (.cons (t := 6) rfl .nil))) (.cons (t := 602) rfl (.cons (t := 4) rfl (.cons (t := 3) rfl (.cons (t := 6) rfl .nil)))) rfl ?_
      refine tr_block ?_
      refine tr_seq ?_
      refine tr_region (fun N8 hN => ?_)
      refine lx (op_fieldAddr rfl fl29_3 sz27) rfl ?_
      refine lx (op_bload_one (m := 4) rfl rfl ag27 rfl) rfl ?_
      first | refine lx (op_len rfl el27) rfl ?_ | refine lx (op_len_row rfl el27) rfl ?_ | refine lx (op_len_mv rfl el27) rfl ?_ | refine lx (op_len_nil rfl el27) rfl ?_
      refine lx (OpJ.ent (op_sub rfl rfl (by omega)) (show Ent _ (eqP (.int .i64 (t : Int))) from (by exact entI (by omega)))) rfl ?_
      refine lx (op_assign rfl) rfl ?_
      refine lx_end ⟨by kernel_rfl, ?_⟩
      refine pe_then_normal ?_
      refine tr_sub hC (.cons (t := 3) rfl (.cons (t := 4) rfl (.cons (t := 6) rfl (.cons (t := 7) rfl .nil)))) (.cons (t := 602) rfl (.cons (t := 4) rfl (.cons (t := 3) rfl (.cons (t := 6) rfl .nil)))) rfl ?_
      refine tr_seq ?_
      refine tr_region (fun N9 hN => ?_)
      refine lx (op_fieldAddr rfl fl29_3 sz27) rfl ?_
      refine lx (op_bload_one (m := 4) rfl rfl ag27 rfl) rfl ?_
      refine lx (op_move rfl) rfl ?_
      refine lx (op_index_mv rfl rfl el27 sz60 (by omega : ((t : Nat) : Int) = ((t : Nat) : Int)) (by omega)) rfl ?_
      refine lx (OpJ.ent (op_tload (m := 602) (j := t) (fo := 0) rfl rfl ag60 sz60 fmE_len (by omega) (rowE_top (by omega)) rfl rfl) (show Ent _ (aggP u.ps) from (by exact ent_auto))) rfl ?_
      refine lxn (op_alloc (m := 8) (k := 8) (ps := [eqP (.int .i64 0), eqP (.int .i64 0), eqP (.slice none 0 0), eqP (.int .i64 0), eqP (.slice none 0 0), eqP (.bool false), eqP (.int .i64 0), eqP (.int .i64 0), eqP (.int .i64 0)]) ze60 rfl rfl (by first | exact hC.low _ (by decide) | rfl)) rfl ?_
      refine lxr (op_store_all (m := 8) rfl rfl rfl (.agg rfl) sz60 rfl) rfl ?_
      refine lx_end ⟨by kernel_rfl, ?_⟩
      refine pe_then_normal ?_
      refine tr_sub hC (.cons (t := 3) rfl (.cons (t := 4) rfl (.cons (t := 6) rfl (.cons (t := 7) rfl (.cons (t := 8) rfl .nil))))) (.cons (t := 602) rfl (.cons (t := 4) rfl (.cons (t := 3) rfl (.cons (t := 6) rfl (.cons (t := 8) rfl .nil))))) rfl ?_
      refine tr_seq ?_
      refine tr_seq ?_
      refine tr_region (fun N10 hN => ?_)
      refine lx (op_fieldAddr rfl fl60_4 sz58) rfl ?_
      refine lx (op_bload_one (m := 8) rfl rfl ag58 rfl) rfl ?_
      first | refine lx (op_len rfl el58) rfl ?_ | refine lx (op_len_row rfl el58) rfl ?_ | refine lx (op_len_mv rfl el58) rfl ?_ | refine lx (op_len_nil rfl el58) rfl ?_
      refine lx (op_assign rfl) rfl ?_
      refine lx_end ⟨by kernel_rfl, ?_⟩
      refine pe_then_normal ?_
      refine tr_sub hC (.cons (t := 3) rfl (.cons (t := 4) rfl (.cons (t := 6) rfl (.cons (t := 7) rfl (.cons (t := 8) rfl (.cons (t := 9) rfl .nil)))))) (.cons (t := 602) rfl (.cons (t := 4) rfl (.cons (t := 3) rfl (.cons (t := 6) rfl (.cons (t := 8) rfl .nil))))) rfl ?_
      refine tr_seq ?_
      refine tr_region (fun N11 hN => ?_)
      refine lx (op_move rfl) rfl ?_
      refine lx (op_gtr rfl rfl) rfl ?_
      refine lx_end ⟨by kernel_rfl, ?_⟩
      refine pe_then_normal ?_
      refine tr_sub hC (.cons (t := 3) rfl (.cons (t := 4) rfl (.cons (t := 6) rfl (.cons (t := 7) rfl (.cons (t := 8) rfl (.cons (t := 9) rfl (.cons (t := 70) rfl .nil))))))) (.cons (t := 602) rfl (.cons (t := 4) rfl (.cons (t := 3) rfl (.cons (t := 6) rfl (.cons (t := 8) rfl .nil))))) rfl ?_
      refine tr_cond rfl (fun h70 => ?_) (fun h70 => ?_)
      ·(try simp only [cq1, cq2, cq3, cq4, cq5, cq6, cq7, cq8, cq9, cq10, cq11, cq12, cq13] at h70)
       have hud := hub.defers
       obtain ⟨d, hd⟩ : ∃ d, u.defers[u.defers.length - 1]? = some d := ⟨_, List.getElem?_eq_getElem (by omega)⟩
       have hcall := leaveF_call (p := p) hq hl hst hlv hd
       refine tr_seq ?_
       refine tr_region (fun N12 hN => ?_)
       refine lx (op_fieldAddr rfl fl60_4 sz58) rfl ?_
       refine lx (op_bload_one (m := 8) rfl rfl ag58 rfl) rfl ?_
       refine lx (op_move rfl) rfl ?_
       refine lx (op_sub rfl rfl (by omega)) rfl ?_
       refine lx (op_index rfl rfl el58 sz47 (by omega : ((u.defers.length : Nat) : Int) - 1 = ((u.defers.length - 1 : Nat) : Int)) hd) rfl ?_
       first | refine lx (op_load_all rfl ag47 sz47) rfl ?_ | refine lx (op_load_agg rfl ag47 sz47 rfl) rfl ?_ | refine lx (op_bload (m := 602) rfl rfl ag47 sz47) rfl ?_ | refine lx (op_bload (m := 4) rfl rfl ag47 sz47) rfl ?_ | refine lx (op_bload (m := 3) rfl rfl ag47 sz47) rfl ?_ | refine lx (op_bload (m := 6) rfl rfl ag47 sz47) rfl ?_ | refine lx (op_bload (m := 8) rfl rfl ag47 sz47) rfl ?_ | refine lx (op_bload_part (m := 602) (qs := [_, _]) rfl rfl ag47 sz47 rfl rfl) rfl ?_ | refine lx (op_bload_part (m := 4) (qs := [_, _]) rfl rfl ag47 sz47 rfl rfl) rfl ?_ | refine lx (op_bload_part (m := 3) (qs := [_, _]) rfl rfl ag47 sz47 rfl rfl) rfl ?_ | refine lx (op_bload_part (m := 6) (qs := [_, _]) rfl rfl ag47 sz47 rfl rfl) rfl ?_ | refine lx (op_bload_part (m := 8) (qs := [_, _]) rfl rfl ag47 sz47 rfl rfl) rfl ?_
       refine lxn (op_alloc (m := 10) (k := 10) (ps := [eqP (.int .i64 0), eqP (.slice none 0 0)]) ze47 rfl rfl (by first | exact hC.low _ (by decide) | rfl)) rfl ?_
       refine lxr (op_store_all (m := 10) rfl rfl rfl (.agg rfl) sz47 rfl) rfl ?_
       refine lx_end ⟨by kernel_rfl, ?_⟩
       refine pe_then_normal ?_
       refine tr_sub hC (.cons (t := 3) rfl (.cons (t := 4) rfl (.cons (t := 6) rfl (.cons (t := 7) rfl (.cons (t := 8) rfl (.cons (t := 9) rfl (.cons (t := 10) rfl .nil))))))) (.cons (t := 602) rfl (.cons (t := 4) rfl (.cons (t := 3) rfl (.cons (t := 6) rfl (.cons (t := 8) rfl (.cons (t := 10) rfl .nil)))))) rfl ?_
       refine tr_seq ?_
       refine tr_drawn mixed (fun N13 hN => ?_)
       refine lx (op_fieldAddr rfl fl29_3 sz27) rfl ?_
       refine lx (op_bload_one (m := 4) rfl rfl ag27 rfl) rfl ?_
       refine lx (op_move rfl) rfl ?_
       refine lx (op_fieldAddr rfl fl60_4 sz58) rfl ?_
       refine lx (op_bload_one (m := 8) rfl rfl ag58 rfl) rfl ?_
       refine lx (op_move rfl) rfl ?_
       refine lx (op_sub rfl rfl (by omega)) rfl ?_
       refine lx (op_slice_h rfl rfl el58 sz47 (by omega : ((u.defers.length : Nat) : Int) - 1 = ((u.defers.length - 1 : Nat) : Int)) (by omega)) rfl ?_
       refine lx (op_index_mv rfl rfl el27 sz60 (by omega : ((t : Nat) : Int) = ((t : Nat) : Int)) (by omega)) rfl ?_
       refine lx (op_fieldAddr rfl fl60_4 sz58) rfl ?_
       refine lxr (op_tstore (m := 602) (j := t) (fo := 4) (z' := (pureE { u with defers := u.defers.take (u.defers.length - 1) })) rfl rfl rfl (.one (by (first | exact One.eq rfl | exact One.mv _ _ _ _ _ | exact One.cl _ _ _ | exact One.map _ | exact One.sl _ _ _ | exact One.row _ _ _ _ | exact One.msl _ _ _ _ | exact One.ptr _ _ | exact One.b _ | exact One.cells _))) sz58 rfl fmE_len (by omega) (rowE_top (by omega)) rfl rfl) rfl ?_
       refine lx_end ⟨by kernel_rfl, ?_⟩
       refine pe_then_normal ?_
       refine tr_sub hC (.cons (t := 3) rfl (.cons (t := 4) rfl (.cons (t := 6) rfl (.cons (t := 10) rfl .nil)))) (.cons (t := 602) rfl (.cons (t := 4) rfl (.cons (t := 3) rfl (.cons (t := 6) rfl (.cons (t := 10) rfl .nil))))) rfl ?_
       try refine tr_post (fun X hX => post_rowEq (n := 602) rfl (rowE_set (by omega)) hX) ?_
       refine tr_post (fun X hX => post_sealFm (n := 602) (t := 699) hC0 rfl (by omega) (by omega) rfl (.inl rfl) rfl hX) ?_
       have hC := hC0
       refine tr_post (fun X hX => post_rowPs (n := 602) rfl rowPureT hX) ?_
       refine tr_bound 698 (m := 602) rfl ?_
       refine tr_freeze (m := 602) rfl (.cons (t := 3) rfl (.cons (t := 4) rfl (.cons (t := 6) rfl (.cons (t := 10) rfl (.ent (t := 698) rfl FEnt.frz_bound .nil))))) ?_
       refine tr_thaw (t := 698) (n := 4) (qs' := _) rfl (.cons (t := 3) rfl (.cons (t := 4) rfl (.cons (t := 6) rfl (.cons (t := 10) rfl .nil)))) rfl (.cons (.of (Ent.refl _)) (.cons (.of (Ent.refl _)) (.cons (.of (Ent.refl _)) (.cons (fment_part Fm.len (take_part (by omega))) .nil)))) ?_
       refine tr_seq ?_
       refine tr_region (fun N14 hN => ?_)
       refine lx (op_bload (m := 3) rfl rfl ag26 sz26) rfl ?_
       refine lx (op_bload (m := 4) rfl rfl ag29 sz29) rfl ?_
       refine lx (op_fieldAddr rfl fl47_0 sz3) rfl ?_
       refine lx (op_bload_one (m := 10) rfl rfl ag3 rfl) rfl ?_
       refine lx (op_fieldAddr rfl fl47_1 sz33) rfl ?_
       refine lx (op_bload_one (m := 10) rfl rfl ag33 rfl) rfl ?_
       first | refine lx (op_call (l := [(Go.Operand.tmp 88), (Go.Operand.tmp 89), (Go.Operand.tmp 91), (Go.Operand.tmp 93), (Go.Operand.const (Go.Value.int Go.IntKind.i64 (-1)))]) (rEnter_ok p hp { g with frames := g.frames.take t ++ [{ u with defers := u.defers.take (u.defers.length - 1) }] } (bdG_take hb (bdF_drop hub) (by omega)) (by simp; omega) d.fn d.args (-1)) (.cons rfl (.cons rfl (.cons rfl (.cons rfl (.cons rfl .nil))))) fn18) rfl ?_ | refine lx (op_call (l := [(Go.Operand.tmp 88), (Go.Operand.tmp 89), (Go.Operand.tmp 91), (Go.Operand.tmp 93), (Go.Operand.const (Go.Value.int Go.IntKind.i64 (-1)))]) (rEnter_ok p hp { g with frames := g.frames.take t ++ [{ u with defers := u.defers.take (u.defers.length - 1) }] } (bdG_take hb (bdF_drop hub) (by omega)) (by simp; omega) d.fn d.args (-1)) (.ent rfl (by exact ent_auto) (.ent rfl (by exact ent_auto) (.ent rfl (by exact ent_auto) (.ent rfl (by exact ent_auto) (.ent rfl (by exact ent_auto) .nil))))) fn18) rfl ?_
       refine lx (op_move rfl) rfl ?_
       refine lx (op_extract rfl rfl) rfl ?_
       refine lx (op_extract rfl rfl) rfl ?_
       refine lxn (op_alloc (m := 11) (k := 11) (ps := [eqP (.int .i64 0), eqP (.int .i64 0), eqP (.int .i64 0), eqP (.slice none 0 0)]) ze29 rfl rfl (by first | exact hC.low _ (by decide) | rfl)) rfl ?_
       refine lxr (op_store_all (m := 11) rfl rfl rfl (.agg rfl) sz29 rfl) rfl ?_
       refine lx (op_assign rfl) rfl ?_
       refine lx_end ⟨by kernel_rfl, ?_⟩
       refine pe_then_normal ?_
       refine tr_sub hC (.cons (t := 4) rfl (.cons (t := 6) rfl (.cons (t := 11) rfl (.cons (t := 12) rfl .nil)))) (.cons (t := 4) rfl (.cons (t := 6) rfl (.cons (t := 11) rfl .nil))) rfl ?_
       refine tr_seq ?_
       refine tr_seq ?_
       refine tr_region (fun N15 hN => ?_)
       refine lx (op_move rfl) rfl ?_
       refine lx (op_neq rfl rfl) rfl ?_
       refine lx_end ⟨by kernel_rfl, ?_⟩
       refine pe_then_normal ?_
       refine tr_sub hC (.cons (t := 4) rfl (.cons (t := 6) rfl (.cons (t := 11) rfl (.cons (t := 98) rfl .nil)))) (.cons (t := 4) rfl (.cons (t := 6) rfl (.cons (t := 11) rfl .nil))) rfl ?_
       refine tr_cond rfl (fun h98 => ?_) (fun h98 => ?_)
       ·(try simp only [cq1, cq2, cq3, cq4, cq5, cq6, cq7, cq8, cq9, cq10, cq11, cq12, cq13] at h98)
        rw [if_neg h98] at hcall
        refine tr_seq ?_
        refine tr_region (fun N16 hN => ?_)
        refine lx (op_bload (m := 4) rfl rfl ag29 sz29) rfl ?_
        first | refine lx (op_call (l := [(Go.Operand.tmp 99), (Go.Operand.const (Go.Value.int Go.IntKind.i64 9))]) (fail_ok { g with frames := g.frames.take t ++ [{ u with defers := u.defers.take (u.defers.length - 1) }] } 9) (.cons rfl (.cons rfl .nil)) fn41) rfl ?_ | refine lx (op_call (l := [(Go.Operand.tmp 99), (Go.Operand.const (Go.Value.int Go.IntKind.i64 9))]) (fail_ok { g with frames := g.frames.take t ++ [{ u with defers := u.defers.take (u.defers.length - 1) }] } 9) (.ent rfl (by exact ent_auto) (.ent rfl (by exact ent_auto) .nil)) fn41) rfl ?_
        refine lxr (op_store_all (m := 6) rfl rfl rfl (.agg rfl) sz29 rfl) rfl ?_
        refine lx_end ⟨by kernel_rfl, ?_⟩
        refine pe_then_normal ?_
        refine tr_sub hC (.cons (t := 6) rfl .nil) (.cons (t := 6) rfl .nil) rfl ?_
        refine tr_ret ?_
        refine pe_then_ret ?_
        refine pe_then_ret ?_
        refine pe_block_ret ?_
        refine pe_then_ret ?_
        refine pe_block_ret ?_
        refine pe_then_ret ?_
        refine pe_ret1 rfl hO rfl (.cell (m := 6) rfl rfl ag29 sz29 .nil) ?_
        rw [hcall]
        exact ent_auto
       ·(try simp only [cq1, cq2, cq3, cq4, cq5, cq6, cq7, cq8, cq9, cq10, cq11, cq12, cq13] at h98)
        rw [if_pos h98] at hcall
        refine tr_skip ?_
        refine pe_then_normal ?_
        refine tr_sub hC (.cons (t := 6) rfl (.cons (t := 11) rfl .nil)) (.cons (t := 6) rfl (.cons (t := 11) rfl .nil)) rfl ?_
        refine tr_seq ?_
        refine tr_region (fun N17 hN => ?_)
        refine lx (op_bload (m := 11) rfl rfl ag29 sz29) rfl ?_
        refine lxr (op_store_all (m := 6) rfl rfl rfl (.agg rfl) sz29 rfl) rfl ?_
        refine lx_end ⟨by kernel_rfl, ?_⟩
        refine pe_then_normal ?_
        refine tr_sub hC (.cons (t := 6) rfl .nil) (.cons (t := 6) rfl .nil) rfl ?_
        refine tr_ret ?_
        refine pe_then_ret ?_
        refine pe_block_ret ?_
        refine pe_then_ret ?_
        refine pe_block_ret ?_
        refine pe_then_ret ?_
        refine pe_ret1 rfl hO rfl (.cell (m := 6) rfl rfl ag29 sz29 .nil) ?_
        rw [hcall]
        exact ent_auto
      ·(try simp only [cq1, cq2, cq3, cq4, cq5, cq6, cq7, cq8, cq9, cq10, cq11, cq12, cq13] at h70)
       have hnd : u.defers.length = 0 := by omega
       refine tr_skip ?_
       refine pe_then_normal ?_
       refine tr_sub hC (.cons (t := 3) rfl (.cons (t := 4) rfl (.cons (t := 6) rfl (.cons (t := 7) rfl (.cons (t := 8) rfl .nil))))) (.cons (t := 602) rfl (.cons (t := 4) rfl (.cons (t := 3) rfl (.cons (t := 6) rfl (.cons (t := 8) rfl .nil))))) rfl ?_
       refine tr_seq ?_
       refine tr_region (fun N18 hN => ?_)
       refine lx (op_fieldAddr rfl fl29_3 sz27) rfl ?_
       refine lx (op_bload_one (m := 4) rfl rfl ag27 rfl) rfl ?_
       refine lx (op_move rfl) rfl ?_
       refine lx (op_mslice_h rfl rfl el27 sz60 rfl (by omega)) rfl ?_
       refine lx (op_fieldAddr rfl fl29_3 sz27) rfl ?_
       refine lxr (op_store (m := 4) (rs := [_, _, _, _]) rfl rfl rfl (.one (by (first | exact One.eq rfl | exact One.mv _ _ _ _ _ | exact One.cl _ _ _ | exact One.map _ | exact One.sl _ _ _ | exact One.row _ _ _ _ | exact One.msl _ _ _ _ | exact One.ptr _ _ | exact One.b _ | exact One.cells _))) sz27 rfl rfl rfl) rfl ?_
       refine lx_end ⟨by kernel_rfl, ?_⟩
       refine pe_then_normal ?_
       refine tr_sub hC (.cons (t := 3) rfl (.cons (t := 4) rfl (.cons (t := 6) rfl (.cons (t := 7) rfl (.cons (t := 8) rfl .nil))))) (.cons (t := 602) rfl (.cons (t := 4) rfl (.cons (t := 3) rfl (.cons (t := 6) rfl (.cons (t := 8) rfl .nil))))) rfl ?_
       rcases t with _ | t
       ·have hC : CxOK (famC ⟨σ0, M, ex, Rf, 145⟩ (2 * 0) ((fun j => fid N1 (200) (2 * (q + 1)) (j + 1))) (famR 43 47 g.frames)) := famC_ok
        refine tr_seq ?_
        refine tr_drawn mixed (fun N19 hN => ?_)
        refine lx (op_move rfl) rfl ?_
        refine lxk (op_gtr rfl rfl) ((decide_eq_false (by omega))) rfl ?_
        refine lx (op_move rfl) rfl ?_
        refine lx_skip rfl rfl rfl (by first | exact notThe_bool rfl | exact notThe_undef) rfl ?_
        refine lx_skip rfl rfl rfl (by first | exact notThe_bool rfl | exact notThe_undef) rfl ?_
        refine lx_skip rfl rfl rfl (by first | exact notThe_bool rfl | exact notThe_undef) rfl ?_
        refine lx (op_pick_f rfl rfl) rfl ?_
        refine lx (op_move rfl) rfl ?_
        refine lx_skip rfl rfl rfl (by first | exact notThe_bool rfl | exact notThe_undef) rfl ?_
        refine lx_skip rfl rfl rfl (by first | exact notThe_bool rfl | exact notThe_undef) rfl ?_
        refine lx_skip rfl rfl rfl (by first | exact notThe_bool rfl | exact notThe_undef) rfl ?_
        refine lx_skip rfl rfl rfl (by first | exact notThe_bool rfl | exact notThe_undef) rfl ?_
        refine lx_skip rfl rfl rfl (by first | exact notThe_bool rfl | exact notThe_undef) rfl ?_
        refine lx_skip rfl rfl rfl (by first | exact notThe_bool rfl | exact notThe_undef) rfl ?_
        refine lx_skip rfl rfl rfl (by first | exact notThe_bool rfl | exact notThe_undef) rfl ?_
        refine lx_skip rfl rfl rfl (by first | exact notThe_bool rfl | exact notThe_undef) rfl ?_
        refine lx_skip rfl rfl rfl (by first | exact notThe_bool rfl | exact notThe_undef) rfl ?_
        refine lx_skip rfl rfl rfl (by first | exact notThe_bool rfl | exact notThe_undef) rfl ?_
        refine lx_skip rfl rfl rfl (by first | exact notThe_bool rfl | exact notThe_undef) rfl ?_
        refine lx (op_pick_f rfl rfl) rfl ?_
        refine lx_end ⟨by kernel_rfl, ?_⟩
        refine pe_then_normal ?_
        refine tr_sub hC (.cons (t := 3) rfl (.cons (t := 4) rfl (.cons (t := 6) rfl (.cons (t := 7) rfl (.cons (t := 8) rfl (.cons (t := 126) rfl .nil)))))) (.cons (t := 602) rfl (.cons (t := 4) rfl (.cons (t := 3) rfl (.cons (t := 6) rfl (.cons (t := 8) rfl .nil))))) rfl ?_
        refine tr_cond_f rfl ?_
        refine tr_skip ?_
        refine pe_block_normal ?_
        refine pe_roundC (⟨(0, u, pureE u :: zs), Nat.zero_le _, (leave_last hlv hnd).symm.trans hst, hub⟩) (by dsimp only; omega) (pe_st hC ?_ ?_ rfl)
        ·try dsimp only [List.cons_append, List.nil_append]
         first | refine SubF.cons rfl ?_ | (refine SubF.ent rfl ?_ ?_; · exact ent_auto)
         first | refine SubF.cons rfl ?_ | (refine SubF.ent rfl ?_ ?_; · exact ent_auto)
         first | refine SubF.cons rfl ?_ | (refine SubF.ent rfl ?_ ?_; · exact ent_auto)
         exact SubF.nil
        ·try dsimp only [List.cons_append, List.nil_append]
         repeat (first | exact SubL.nil | refine SubL.cons rfl ?_)
       ·have hC : CxOK (famC ⟨σ0, M, ex, Rf, 145⟩ (2 * (t + 1)) ((fun j => fid N1 (200) (2 * (q + 1)) (j + 1))) (famR 43 47 g.frames)) := famC_ok
        obtain ⟨h, hh⟩ : ∃ h, g.frames[t]? = some h := ⟨_, List.getElem?_eq_getElem (by omega)⟩
        have hbh := hb.each h (List.mem_of_getElem? hh)
        refine tr_post (fun X hX => post_rowEq (n := 602) rfl (show rowE g.frames (fun j => fid N1 (200) (2 * (q + 1)) (j + 1)) (t + 1) (2 * (t + 1)) _ = _ from rowE_pop hh) hX) ?_
        refine tr_post (fun X hX => post_famK (show 2 * (t + 1) = 2 * t + 2 by omega) hX) ?_
        have hC : CxOK (famC ⟨σ0, M, ex, Rf, 145⟩ (2 * t + 2) ((fun j => fid N1 (200) (2 * (q + 1)) (j + 1))) (famR 43 47 g.frames)) := famC_ok
        refine tr_post (fun X hX => post_take2 605 606 hh rfl rfl (by omega) rfl (.inl rfl) (.inl rfl) hX) ?_
        have hC : CxOK (famC ⟨σ0, M, ex, Rf, 145⟩ (2 * t) ((fun j => fid N1 (200) (2 * (q + 1)) (j + 1))) (famR 43 47 g.frames)) := famC_ok
        refine tr_seq ?_
        refine tr_drawn mixed (fun N19 hN => ?_)
        refine lx (op_move rfl) rfl ?_
        refine lxk (op_gtr rfl rfl) ((decide_eq_true (by omega))) rfl ?_
        refine lx (op_move rfl) rfl ?_
        refine lxg rfl rfl rfl (op_fieldAddr rfl fl60_3 sz3) rfl ?_
        refine lxg rfl rfl rfl (op_bload_one (m := 8) rfl rfl ag3 rfl) rfl ?_
        refine lxg rfl rfl rfl (op_geq rfl rfl) rfl ?_
        refine lx (op_pick_t rfl rfl) rfl ?_
        refine lx (op_move rfl) rfl ?_
        refine lxs rfl rfl rfl guard_eq (.cons (t := 8) rfl (fun _ => Ent.refl _) .nil) (op_fieldAddr rfl fl60_3 sz3) rfl ?_
        refine lxs rfl rfl rfl guard_eq (.cons (t := 115) rfl (fun h => entW h) .nil) (op_bload_one (m := 8) rfl rfl ag3 rfl) rfl ?_
        refine lxs rfl rfl rfl guard_eq (.cons (t := 4) rfl (fun _ => Ent.refl _) .nil) (op_fieldAddr rfl fl29_3 sz27) rfl ?_
        refine lxs rfl rfl rfl guard_eq (.cons (t := 117) rfl (fun h => entW h) .nil) (op_bload_one (m := 4) rfl rfl ag27 rfl) rfl ?_
        refine lxs rfl rfl rfl guard_eq (.cons (t := 7) rfl (fun _ => Ent.refl _) .nil) (op_move rfl) rfl ?_
        refine lxs rfl rfl rfl guard_eq (.cons (t := 119) rfl (fun h => entW h) .nil) (op_sub rfl rfl (by omega)) rfl ?_
        refine lxs rfl rfl rfl guard_eq (.cons (t := 118) rfl (fun h => entW h) (.cons (t := 120) rfl (fun h => entW h) .nil)) (op_index_mv rfl rfl el27 sz60 (by omega : ((t + 1 : Nat) : Int) - 1 = ((t : Nat) : Int)) (by omega)) rfl ?_
        refine lxs rfl rfl rfl guard_eq (.cons (t := 121) rfl (fun h => entW h) .nil) (op_fieldAddr rfl fl60_2 sz33) rfl ?_
        refine lxs rfl rfl rfl guard_eq (.cons (t := 122) rfl (fun h => entW h) .nil) (op_tload_one (m := 602) (j := t) (fo := 2) rfl rfl ag33 fmE_len (by omega) (rowE_top (by omega)) rfl) rfl ?_
        first | refine lxs rfl rfl rfl guard_eq (.cons (t := 123) rfl (fun h => entW h) .nil) (op_len rfl el33) rfl ?_ | refine lxs rfl rfl rfl guard_eq (.cons (t := 123) rfl (fun h => entW h) .nil) (op_len_row rfl el33) rfl ?_ | refine lxs rfl rfl rfl guard_eq (.cons (t := 123) rfl (fun h => entW h) .nil) (op_len_mv rfl el33) rfl ?_ | refine lxs rfl rfl rfl guard_eq (.cons (t := 123) rfl (fun h => entW h) .nil) (op_len_nil rfl el33) rfl ?_
        refine lxs rfl rfl rfl guard_eq (.cons (t := 116) rfl (fun h => entW h) (.cons (t := 124) rfl (fun h => entW h) .nil)) (op_lss rfl rfl) rfl ?_
        refine lx (op_pick_and rfl rfl) rfl ?_
        refine lx_end ⟨by kernel_rfl, ?_⟩
        refine pe_then_normal ?_
        refine tr_sub hC (.cons (t := 3) rfl (.cons (t := 4) rfl (.cons (t := 6) rfl (.cons (t := 7) rfl (.cons (t := 8) rfl (.cons (t := 126) rfl .nil)))))) (.cons (t := 602) rfl (.cons (t := 4) rfl (.cons (t := 3) rfl (.cons (t := 6) rfl (.cons (t := 8) rfl (.cons (t := 605) rfl (.cons (t := 606) rfl .nil))))))) rfl ?_
        refine tr_cond rfl (fun h126 => ?_) (fun h126 => ?_)
        ·(try simp only [cq1, cq2, cq3, cq4, cq5, cq6, cq7, cq8, cq9, cq10, cq11, cq12, cq13] at h126)
         refine tr_drawn mixed (fun N20 hN => ?_)
         refine lx (op_fieldAddr rfl fl29_3 sz27) rfl ?_
         refine lx (op_bload_one (m := 4) rfl rfl ag27 rfl) rfl ?_
         refine lx (op_move rfl) rfl ?_
         refine lx (op_sub rfl rfl (by omega)) rfl ?_
         refine lx (op_index_mv rfl rfl el27 sz60 (by omega : ((t + 1 : Nat) : Int) - 1 = ((t : Nat) : Int)) (by omega)) rfl ?_
         refine lx (op_fieldAddr rfl fl60_2 sz33) rfl ?_
         refine lx (OpJ.ent (op_tload_one (m := 602) (j := t) (fo := 2) rfl rfl ag33 fmE_len (by omega) (rowE_top (by omega)) rfl) (show Ent _ (mvP ((fun j => fid N1 (200) (2 * (q + 1)) (j + 1)) (2 * t)) 3 0 h.regs.length h.regs.length) from (by exact ent_auto))) rfl ?_
         refine lx (op_fieldAddr rfl fl60_3 sz3) rfl ?_
         refine lx (op_bload_one (m := 8) rfl rfl ag3 rfl) rfl ?_
         refine lx (op_fieldAddr rfl fl60_6 sz43) rfl ?_
         refine lx (op_bload_part (m := 8) (qs := [_, _, _]) rfl rfl ag43 sz43 rfl rfl) rfl ?_
         refine lx (op_index_mv rfl rfl el33 sz43 (by omega : u.dest = ((u.dest.toNat : Nat) : Int)) (show u.dest.toNat < h.regs.length by omega)) rfl ?_
         refine lxr (op_tstore (m := 605) (j := u.dest.toNat) (fo := 0) (z' := u.result) rfl rfl rfl (.agg rfl) sz43 rfl vp_len (by omega) (List.getElem?_eq_getElem (by omega : u.dest.toNat < h.regs.length)) rfl rfl) rfl ?_
         refine lx_end ⟨by kernel_rfl, ?_⟩
         refine pe_block_normal ?_
         refine post_seal (m := 605) (n := 602) rfl rfl (by decide) (seal_regs (by simp)) ?_
         refine post_seal (m := 606) (n := 602) rfl rfl (by decide) (seal_defs (by simp)) ?_
         refine pe_roundC (⟨(t + 1, { h with regs := h.regs.set u.dest.toNat u.result }, pureE u :: zs), (by dsimp only; omega), (congrArg (lst g.frames (t + 1)) (ret1_in (f := u) (h := h) (by omega)).symm).trans ((leave_pop hlv hnd hh).symm.trans hst), ⟨by simpa using hbh.regs, hbh.defers, hbh.args⟩⟩) (by dsimp only; omega) (pe_st hC ?_ ?_ rfl)
         ·try dsimp only [List.cons_append, List.nil_append]
          first | refine SubF.cons rfl ?_ | (refine SubF.ent rfl ?_ ?_; · exact ent_auto)
          first | refine SubF.cons rfl ?_ | (refine SubF.ent rfl ?_ ?_; · exact ent_auto)
          first | refine SubF.cons rfl ?_ | (refine SubF.ent rfl ?_ ?_; · exact ent_auto)
          exact SubF.nil
         ·try dsimp only [List.cons_append, List.nil_append]
          repeat (first | exact SubL.nil | refine SubL.cons rfl ?_)
        ·(try simp only [cq1, cq2, cq3, cq4, cq5, cq6, cq7, cq8, cq9, cq10, cq11, cq12, cq13] at h126)
         refine tr_skip ?_
         refine pe_block_normal ?_
         refine post_seal (m := 605) (n := 602) rfl rfl (by decide) (seal_regs (by simp)) ?_
         refine post_seal (m := 606) (n := 602) rfl rfl (by decide) (seal_defs (by simp)) ?_
         refine pe_roundC (⟨(t + 1, h, pureE u :: zs), (by dsimp only; omega), (congrArg (lst g.frames (t + 1)) (ret1_out (f := u) (h := h) (by omega)).symm).trans ((leave_pop hlv hnd hh).symm.trans hst), hbh⟩) (by dsimp only; omega) (pe_st hC ?_ ?_ rfl)
         ·try dsimp only [List.cons_append, List.nil_append]
          first | refine SubF.cons rfl ?_ | (refine SubF.ent rfl ?_ ?_; · exact ent_auto)
          first | refine SubF.cons rfl ?_ | (refine SubF.ent rfl ?_ ?_; · exact ent_auto)
          first | refine SubF.cons rfl ?_ | (refine SubF.ent rfl ?_ ?_; · exact ent_auto)
          exact SubF.nil
         ·try dsimp only [List.cons_append, List.nil_append]
          repeat (first | exact SubL.nil | refine SubL.cons rfl ?_)
     ·(try simp only [cq1, cq2, cq3, cq4, cq5, cq6, cq7, cq8, cq9, cq10, cq11, cq12, cq13] at h56)
      have hlv : u.leaving = false := h56
      refine tr_exit ?_
      refine pe_then_exit ?_
      refine pe_then_exit ?_
      refine pe_block_eq ?_
      refine pe_then_normal ?_
      refine tr_sub hC (.cons (t := 4) rfl (.cons (t := 6) rfl .nil)) (.cons (t := 602) rfl (.cons (t := 4) rfl (.cons (t := 6) rfl .nil))) rfl ?_
      refine tr_seq ?_
      refine tr_seq ?_
      refine tr_region (fun N21 hN => ?_)
      refine lx (op_fieldAddr rfl fl29_3 sz27) rfl ?_
      refine lx (op_bload_one (m := 4) rfl rfl ag27 rfl) rfl ?_
      first | refine lx (op_len rfl el27) rfl ?_ | refine lx (op_len_row rfl el27) rfl ?_ | refine lx (op_len_mv rfl el27) rfl ?_ | refine lx (op_len_nil rfl el27) rfl ?_
      refine lxk (op_eql rfl rfl) ((decide_eq_false (by omega))) rfl ?_
      refine lx_end ⟨by kernel_rfl, ?_⟩
      refine pe_then_normal ?_
      refine tr_sub hC (.cons (t := 4) rfl (.cons (t := 6) rfl (.cons (t := 142) rfl .nil))) (.cons (t := 602) rfl (.cons (t := 4) rfl (.cons (t := 6) rfl .nil))) rfl ?_
      refine tr_cond_f rfl ?_
      refine tr_skip ?_
      refine pe_then_normal ?_
      refine tr_sub hC (.cons (t := 4) rfl (.cons (t := 6) rfl .nil)) (.cons (t := 602) rfl (.cons (t := 4) rfl (.cons (t := 6) rfl .nil))) rfl ?_
      have hfin := leaveF_stop (p := p) hq hl hst hlv
      refine tr_post (fun X hX => post_sealFm (n := 602) (t := 699) hC0 rfl (by omega) (by omega) rfl (.inl rfl) rfl hX) ?_
      have hC := hC0
      refine tr_post (fun X hX => post_rowPs (n := 602) rfl rowPureT hX) ?_
      refine tr_bound 698 (m := 602) rfl ?_
      refine tr_freeze (m := 602) rfl (.cons (t := 4) rfl (.cons (t := 6) rfl (.ent (t := 698) rfl FEnt.frz_bound .nil))) ?_
      refine tr_thaw (t := 698) (n := 4) (qs' := _) rfl (.cons (t := 4) rfl (.cons (t := 6) rfl .nil)) rfl (.cons (.of (Ent.refl _)) (.cons (.of (Ent.refl _)) (.cons (.of (Ent.refl _)) (.cons (fment_part Fm.len (take_part (by omega))) .nil)))) ?_
      refine tr_seq ?_
      refine tr_region (fun N23 hN => ?_)
      refine lx (op_bload (m := 4) rfl rfl ag29 sz29) rfl ?_
      refine lxr (op_store_all (m := 6) rfl rfl rfl (.agg rfl) sz29 rfl) rfl ?_
      refine lx_end ⟨by kernel_rfl, ?_⟩
      refine pe_then_normal ?_
      refine tr_sub hC (.cons (t := 6) rfl .nil) (.cons (t := 6) rfl .nil) rfl ?_
      refine tr_ret ?_
      refine pe_ret1 rfl hO rfl (.cell (m := 6) rfl rfl ag29 sz29 .nil) ?_
      rw [hfin]
      exact ent_auto
end Go.Proofs.Ythiknhmoefbanaa
