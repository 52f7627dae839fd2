/- Parts of a proof that share one text: StWalk9, StWalk10, StWalk11, StWalk12. -/
import Derived.Test.YthiknhmoefbanaaCLb
import Derived.Test.YthiknhmoefbanaaCLc

set_option linter.unusedVariables false
set_option linter.unusedSimpArgs false
namespace Go.Proofs.Ythiknhmoefbanaa
open Go.AL Go.Ch Go.Hp Go.RowKit
theorem ag26 : aggB Try.prog 26 = some true := by kernel_rfl
theorem fn17 : fnB Try.prog 17 = true := by kernel_rfl
theorem sz26 : sizeB Try.prog 26 = some 4 := by kernel_rfl
set_option maxHeartbeats 4000000 in
theorem Leave_ok (p : Pg) (hp : POK p) (g : Gr) (hb : BdG 1048576 g) (hn : g.frames.length ≤ 100000) (v : V) : FnP Try.prog 21 [aggP p.ps, aggP g.ps, aggP (vp v)] (aggP (leaveF p g v).ps) := by
 have hb4 : BdG 4000000 g := hb.mono (by decide)
 refine fn_pure' Try.func21 rfl Try.ntmps21 rfl ?_
 intro σ0 M ex Rf R hC hO
 have hC0 := hC
 simp only [frameOf, tokOf]
 refine tr_seq ?_
 refine tr_region (fun N0 hN => ?_)
 refine lxn (op_box (m := 3) (k := 3) rfl (.agg rfl) (by first | exact hC.low _ (by decide) | rfl)) rfl ?_
 refine lxn (op_box (m := 4) (k := 4) rfl (.agg rfl) (by first | exact hC.low _ (by decide) | rfl)) rfl ?_
 refine lxn (op_box (m := 5) (k := 5) rfl (.agg rfl) (by first | exact hC.low _ (by decide) | rfl)) rfl ?_
 refine lxn (op_alloc (m := 6) (k := 6) (ps := [eqP (.int .i64 0), eqP (.int .i64 0), eqP (.int .i64 0), eqP (.slice none 0 0)]) ze29 rfl rfl (by first | exact hC.low _ (by decide) | rfl)) rfl ?_
 refine lx_end ⟨by kernel_rfl, ?_⟩
 refine pe_then_normal ?_
 refine tr_sub hC (.cons (t := 3) rfl (.cons (t := 4) rfl (.cons (t := 5) rfl (.cons (t := 6) rfl .nil)))) (.cons (t := 3) rfl (.cons (t := 4) rfl (.cons (t := 5) rfl (.cons (t := 6) rfl .nil)))) rfl ?_
 refine tr_seq ?_
 refine tr_region (fun N1 hN => ?_)
 refine lx (op_bload (m := 4) rfl rfl ag29 sz29) rfl ?_
 first | refine lx_any rfl (op_callFam (l := [(Go.Operand.tmp 13)]) (K := 2 * g.frames.length) 602 200 (own_fam g hb4 hn) (fun ι => rfl) (.cons rfl .nil) fn38 (by omega) rfl (by first | exact hC.low _ (by decide) | rfl) (fam_free hC (by omega) rfl)) (dOK_spec rfl) ?_ | refine lx_any rfl (op_callFam (l := [(Go.Operand.tmp 13)]) (K := 2 * g.frames.length) 602 200 (own_fam g hb4 hn) (fun ι => rfl) (.ent rfl (by exact ent_auto) .nil) fn38 (by omega) rfl (by first | exact hC.low _ (by decide) | rfl) (fam_free hC (by omega) rfl)) (dOK_spec rfl) ?_
 refine lx_tail _ (fam_upd rfl) (fun _ _ _ _ e h => ⟨h.1, post_congr e h.2⟩) ?_
 refine lxr (op_store_all (m := 4) rfl rfl rfl (.agg rfl) sz29 rfl) rfl ?_
 refine lx_end ⟨nodup_one _ _, ?_⟩
 refine pe_then_normal ?_
 refine tr_post (fun X hX => post_famIn2 (K := 2 * g.frames.length) (ids := fun j => fid N1 (200) (2 * g.frames.length) (j + 1)) (r := famR 43 47 g.frames) hC (by omega) (.cons (t := 3) rfl (.cons (t := 4) rfl (.cons (t := 5) rfl (.cons (t := 6) rfl (.cons (t := 602) rfl .nil))))) rfl (fun j hj => by simp only [updL, addL, delL, List.cons_append, List.nil_append, lk_cons]; (repeat (rw [if_neg (by omega)])); exact lk_famT_at hj) (fun n hn => by simp only [updL, addL, delL, List.cons_append, List.nil_append, lk_cons]; (repeat (rw [if_neg (by omega)])); exact lk_famT_none (fun j hj => by omega)) hX) ?_
 have hC : CxOK (famC ⟨σ0, M, ex, Rf, 124⟩ (2 * g.frames.length) (fun j => fid N1 (200) (2 * g.frames.length) (j + 1)) (famR 43 47 g.frames)) := famC_ok
 refine tr_sub hC (.cons (t := 3) rfl (.cons (t := 4) rfl (.cons (t := 5) rfl (.cons (t := 6) rfl .nil)))) (.cons (t := 3) rfl (.cons (t := 4) rfl (.cons (t := 5) rfl (.cons (t := 6) rfl (.cons (t := 602) rfl .nil))))) rfl ?_
 rcases hl : g.frames.length with _ | q
 ·have hC : CxOK (famC ⟨σ0, M, ex, Rf, 124⟩ (2 * 0) (fun j => fid N1 (200) (2 * 0) (j + 1)) (famR 43 47 g.frames)) := famC_ok
  refine tr_post (fun X hX => post_rowEq (n := 602) rfl ((rowE_full (m := 0) (by omega)).symm) hX) ?_
  refine tr_post (fun X hX => post_sealFm (n := 602) (t := 699) hC0 rfl (by omega) (by omega) rfl (.inl rfl) rfl hX) ?_
  have hC := hC0
  refine tr_post (fun X hX => post_rowPs (n := 602) rfl (rowPure0 hl) hX) ?_
  refine tr_bound 698 (m := 602) rfl ?_
  refine tr_freeze (m := 602) rfl (.cons (t := 3) rfl (.cons (t := 4) rfl (.cons (t := 5) rfl (.cons (t := 6) rfl (.ent (t := 698) rfl FEnt.frz_bound .nil))))) ?_
  refine tr_thaw (t := 698) (n := 4) (qs' := _) rfl (.cons (t := 3) rfl (.cons (t := 4) rfl (.cons (t := 5) rfl (.cons (t := 6) rfl .nil)))) rfl (.cons (.of (Ent.refl _)) (.cons (.of (Ent.refl _)) (.cons (.of (Ent.refl _)) (.cons (fment_row Fm.len hl.symm) .nil)))) ?_
  refine tr_seq ?_
  refine tr_region (fun N2 hN => ?_)
  refine lx (op_bload (m := 4) rfl rfl ag29 sz29) rfl ?_
  first | refine lx (op_call (l := [(Go.Operand.tmp 15)]) (cur_pure0 g hl) (.cons rfl .nil) fn40) rfl ?_ | refine lx (op_call (l := [(Go.Operand.tmp 15)]) (cur_pure0 g hl) (.ent rfl (by exact ent_auto) .nil) fn40) rfl ?_
  refine lx (op_assign rfl) rfl ?_
  refine lx_end ⟨by kernel_rfl, ?_⟩
  refine pe_then_normal ?_
  refine tr_sub hC (.cons (t := 3) rfl (.cons (t := 4) rfl (.cons (t := 5) rfl (.cons (t := 6) rfl (.cons (t := 7) rfl .nil))))) (.cons (t := 3) rfl (.cons (t := 4) rfl (.cons (t := 5) rfl (.cons (t := 6) rfl .nil)))) rfl ?_
  refine tr_seq ?_
  refine tr_seq ?_
  refine tr_region (fun N3 hN => ?_)
  refine lx (op_move rfl) rfl ?_
  first | refine lxk (op_eql_ptr pt73 rfl (IsPtr.own _ _)) (rfl) rfl ?_ | refine lxk (op_eql_ptr pt73 rfl (IsPtr.cells _)) (rfl) rfl ?_ | refine lxk (op_eql_ptr pt73 rfl (IsPtr.nil)) (rfl) rfl ?_
  refine lx_end ⟨by kernel_rfl, ?_⟩
  refine pe_then_normal ?_
  refine tr_sub hC (.cons (t := 3) rfl (.cons (t := 4) rfl (.cons (t := 5) rfl (.cons (t := 6) rfl (.cons (t := 7) rfl (.cons (t := 18) rfl .nil)))))) (.cons (t := 3) rfl (.cons (t := 4) rfl (.cons (t := 5) rfl (.cons (t := 6) rfl .nil)))) rfl ?_
  refine tr_cond_t rfl ?_
  refine tr_seq ?_
  refine tr_region (fun N4 hN => ?_)
  refine lx (op_bload (m := 4) rfl rfl ag29 sz29) rfl ?_
  refine lxr (op_store_all (m := 6) rfl rfl rfl (.agg rfl) sz29 rfl) rfl ?_
  refine lx_end ⟨by kernel_rfl, ?_⟩
  refine pe_then_normal ?_
  refine tr_sub hC (.cons (t := 6) rfl .nil) (.cons (t := 6) rfl .nil) rfl ?_
  refine tr_ret ?_
  refine pe_then_ret ?_
  refine pe_ret1 rfl hO rfl (.cell (m := 6) rfl rfl ag29 sz29 .nil) ?_
  rw [leaveF_none hl]
  exact ent_auto
 ·have hC : CxOK (famC ⟨σ0, M, ex, Rf, 124⟩ (2 * (q + 1)) (fun j => fid N1 (200) (2 * (q + 1)) (j + 1)) (famR 43 47 g.frames)) := famC_ok
  obtain ⟨f, hq⟩ : ∃ f, g.frames[q]? = some f := ⟨_, List.getElem?_eq_getElem (by omega)⟩
  have hbf := hb.each f (List.mem_of_getElem? hq)
  have hbr := hbf.regs
  have hbd := hbf.defers
  refine tr_post (fun X hX => post_rowEq (n := 602) rfl (rowE_first hq hl) hX) ?_
  refine tr_post (fun X hX => post_famK (show 2 * (q + 1) = 2 * q + 2 by omega) hX) ?_
  have hC : CxOK (famC ⟨σ0, M, ex, Rf, 124⟩ (2 * q + 2) (fun j => fid N1 (200) (2 * (q + 1)) (j + 1)) (famR 43 47 g.frames)) := famC_ok
  refine tr_post (fun X hX => post_take2 605 606 hq rfl rfl (by omega) rfl (.inl rfl) (.inl rfl) hX) ?_
  have hC : CxOK (famC ⟨σ0, M, ex, Rf, 124⟩ (2 * q) (fun j => fid N1 (200) (2 * (q + 1)) (j + 1)) (famR 43 47 g.frames)) := famC_ok
  refine tr_post (fun X hX => post_seal (m := 605) (n := 602) rfl rfl (by decide) (seal_regs (by simp)) hX) ?_
  refine tr_post (fun X hX => post_seal (m := 606) (n := 602) rfl rfl (by decide) (seal_defs (by simp)) hX) ?_
  refine tr_seq ?_
  refine tr_region (fun N2 hN => ?_)
  refine lx (op_bload (m := 4) rfl rfl ag29 sz29) rfl ?_
  first | refine lx (op_call (l := [(Go.Operand.tmp 15)]) (cur_some _ _ _ _ q _ (by omega)) (.cons rfl .nil) fn40) rfl ?_ | refine lx (op_call (l := [(Go.Operand.tmp 15)]) (cur_some _ _ _ _ q _ (by omega)) (.ent rfl (by exact ent_auto) .nil) fn40) rfl ?_
  refine lx (op_assign rfl) rfl ?_
  refine lx_end ⟨by kernel_rfl, ?_⟩
  refine pe_then_normal ?_
  refine tr_sub hC (.cons (t := 3) rfl (.cons (t := 4) rfl (.cons (t := 5) rfl (.cons (t := 6) rfl (.cons (t := 7) rfl .nil))))) (.cons (t := 3) rfl (.cons (t := 4) rfl (.cons (t := 5) rfl (.cons (t := 6) rfl (.cons (t := 602) rfl .nil))))) rfl ?_
  refine tr_seq ?_
  refine tr_seq ?_
  refine tr_region (fun N3 hN => ?_)
  refine lx (op_move rfl) rfl ?_
  first | refine lxk (op_eql_ptr pt73 rfl (IsPtr.own _ _)) (rfl) rfl ?_ | refine lxk (op_eql_ptr pt73 rfl (IsPtr.cells _)) (rfl) rfl ?_ | refine lxk (op_eql_ptr pt73 rfl (IsPtr.nil)) (rfl) rfl ?_
  refine lx_end ⟨by kernel_rfl, ?_⟩
  refine pe_then_normal ?_
  refine tr_sub hC (.cons (t := 3) rfl (.cons (t := 4) rfl (.cons (t := 5) rfl (.cons (t := 6) rfl (.cons (t := 7) rfl (.cons (t := 18) rfl .nil)))))) (.cons (t := 3) rfl (.cons (t := 4) rfl (.cons (t := 5) rfl (.cons (t := 6) rfl (.cons (t := 602) rfl .nil))))) rfl ?_
  refine tr_cond_f rfl ?_
  refine tr_skip ?_
  refine pe_then_normal ?_
  refine tr_sub hC (.cons (t := 3) rfl (.cons (t := 4) rfl (.cons (t := 5) rfl (.cons (t := 6) rfl (.cons (t := 7) rfl .nil))))) (.cons (t := 3) rfl (.cons (t := 4) rfl (.cons (t := 5) rfl (.cons (t := 6) rfl (.cons (t := 602) rfl .nil))))) rfl ?_
  refine tr_seq ?_
  refine tr_seq ?_
  refine tr_region (fun N5 hN => ?_)
  refine lx (op_move rfl) rfl ?_
  first | refine lx (op_nilCheck rfl) rfl ?_ | refine lx (op_nilCheckC rfl) rfl ?_
  refine lx (op_fieldAddr rfl fl60_5 sz4) rfl ?_
  refine lx (OpJ.ent (op_tload_one (m := 602) (j := q) (fo := 5) rfl rfl ag4 fmE_len (by omega) (rowE_top (by omega)) rfl) (show Ent _ (eqP (.bool f.leaving)) from (by exact ent_auto))) rfl ?_
  first | refine lx (op_not rfl) rfl ?_ | refine lx (op_not_b rfl) rfl ?_
  refine lx_end ⟨by kernel_rfl, ?_⟩
  refine pe_then_normal ?_
  refine tr_sub hC (.cons (t := 3) rfl (.cons (t := 4) rfl (.cons (t := 5) rfl (.cons (t := 6) rfl (.cons (t := 7) rfl (.cons (t := 24) rfl .nil)))))) (.cons (t := 3) rfl (.cons (t := 4) rfl (.cons (t := 5) rfl (.cons (t := 6) rfl (.cons (t := 602) rfl .nil))))) rfl ?_
  refine tr_cond rfl (fun h24 => ?_) (fun h24 => ?_)
  ·(try simp only [cq1, cq2, cq3, cq4, cq5, cq6, cq7, cq8, cq9, cq10, cq11, cq12, cq13] at h24)
   have htl : topL f v = { f with leaving := true, result := v } := by unfold topL; rw [if_neg (by rw [h24]; simp)]
   refine tr_drawn mixed (fun N6 hN => ?_)
   refine lx (op_move rfl) rfl ?_
   refine lx (op_move rfl) rfl ?_
   refine lx (op_bload (m := 5) rfl rfl ag43 sz43) rfl ?_
   first | refine lx (op_nilCheck rfl) rfl ?_ | refine lx (op_nilCheckC rfl) rfl ?_
   refine lx (op_fieldAddr rfl fl60_5 sz4) rfl ?_
   refine lxr (op_tstore (m := 602) (j := q) (fo := 5) (z' := (pureE { f with leaving := true })) rfl rfl rfl (.one (by (first | exact One.eq rfl | exact One.mv _ _ _ _ _ | exact One.cl _ _ _ | exact One.map _ | exact One.sl _ _ _ | exact One.row _ _ _ _ | exact One.msl _ _ _ _ | exact One.ptr _ _ | exact One.b _ | exact One.cells _))) sz4 rfl fmE_len (by omega) (rowE_top (by omega)) rfl rfl) rfl ?_
   first | refine lx (op_nilCheck rfl) rfl ?_ | refine lx (op_nilCheckC rfl) rfl ?_
   refine lx (op_fieldAddr rfl fl60_6 sz43) rfl ?_
   refine lxr (op_tstore (m := 602) (j := q) (fo := 6) (z' := (pureE { f with leaving := true, result := v })) rfl rfl rfl (.agg rfl) sz43 rfl fmE_len (by omega) (set_at (by rw [rowE_len (by omega)]; simp)) rfl rfl) rfl ?_
   refine lx_end ⟨by kernel_rfl, ?_⟩
   refine pe_then_normal ?_
   refine tr_sub hC (.cons (t := 3) rfl (.cons (t := 4) rfl (.cons (t := 6) rfl (.cons (t := 7) rfl .nil)))) (.cons (t := 3) rfl (.cons (t := 4) rfl (.cons (t := 6) rfl (.cons (t := 602) rfl .nil)))) rfl ?_
   first | refine tr_post (fun X hX => post_rowEq (n := 602) rfl (rowE_set2 (by omega)) hX) ?_ | skip
   refine tr_seq ?_
   refine tr_block ?_
   refine tr_loopKC (α := {zz : Nat × Fm × (List FmE) // zz.1 ≤ q + 1 ∧ lst g.frames zz.1 zz.2.1 = lst g.frames (q + 1) (topL f v) ∧ BdF 1048576 zz.2.1}) (⟨(q + 1, { f with leaving := true, result := v }, []), Nat.le_refl _, (by rw [htl]), (by rw [← htl]; exact bdF_topL hbf)⟩) (fun zz => famC ⟨σ0, M, ex, Rf, 124⟩ (kf zz.1.1) ((fun j => fid N1 (200) (2 * (q + 1)) (j + 1))) (famR 43 47 g.frames)) (fun zz => [(7, curP (fid N1 200 (2 * (q + 1)) 0) zz.1.1)]) (fun zz => [(602, some ((fid N1 200 (2 * (q + 1)) 0), blkX 9 60 ((rowS g.frames (fun j => fid N1 (200) (2 * (q + 1)) (j + 1)) zz.1.1 zz.1.2.1 zz.1.2.2).flatMap fmE))), (4, some ((N0, 4), blk 29 [eqP (.int .i64 g.state), eqP (.int .i64 g.fault), eqP (.int .i64 g.allocs), mvP (fid N1 200 (2 * (q + 1)) 0) 9 0 zz.1.1 (q + 1)]))]) (fun zz => zz.1.1) hC rfl (.cons (t := 3) rfl (.cons (t := 4) rfl (.cons (t := 6) rfl .nil))) (.cons (t := 3) rfl (.cons (t := 6) rfl .nil)) rfl ?_ ?_ (fun zz => ?_)
   ·try dsimp only [List.cons_append, List.nil_append]
    first | refine SubF.cons rfl ?_ | (refine SubF.ent rfl ?_ ?_; · exact ent_auto)
    exact SubF.nil
   ·try dsimp only [List.cons_append, List.nil_append]
    repeat (first | exact SubL.nil | refine SubL.cons rfl ?_)
   ·obtain ⟨⟨p, u, zs⟩, hp1, hst, hub⟩ := zz
    try dsimp only at hp1
    try dsimp only at hst
    try dsimp only at hub
    dsimp only [List.cons_append, List.nil_append]
    have hC : CxOK (famC ⟨σ0, M, ex, Rf, 124⟩ (kf p) ((fun j => fid N1 (200) (2 * (q + 1)) (j + 1))) (famR 43 47 g.frames)) := famC_ok
    rcases p with _ | t
    ·refine tr_post (fun X hX => post_famK (show kf 0 = 0 from rfl) hX) ?_
     have hC : CxOK (famC ⟨σ0, M, ex, Rf, 124⟩ (0) ((fun j => fid N1 (200) (2 * (q + 1)) (j + 1))) (famR 43 47 g.frames)) := famC_ok
     refine tr_post (fun X hX => post_rowEq (n := 602) (ys := rowE g.frames (fun j => fid N1 (200) (2 * (q + 1)) (j + 1)) 0 0 zs) rfl rfl hX) ?_
     refine tr_sub hC (.cons (t := 3) rfl (.cons (t := 4) rfl (.cons (t := 6) rfl (.ent (t := 7) rfl ((show Ent (curP _ 0) (eqP (.pointer none)) from Ent.refl _)) .nil)))) (.cons (t := 602) rfl (.cons (t := 4) rfl (.cons (t := 3) rfl (.cons (t := 6) rfl .nil)))) rfl ?_
     refine tr_seq ?_
     refine tr_seq ?_
     refine tr_region (fun N7 hN => ?_)
     refine lx (op_move rfl) rfl ?_
     first | refine lxk (op_neq_ptr pt73 rfl (IsPtr.own _ _)) (rfl) rfl ?_ | refine lxk (op_neq_ptr pt73 rfl (IsPtr.cells _)) (rfl) rfl ?_ | refine lxk (op_neq_ptr pt73 rfl (IsPtr.nil)) (rfl) rfl ?_
     refine lx (op_move rfl) rfl ?_
     refine lx_skip rfl rfl rfl (by first | exact notThe_bool rfl | exact notThe_undef) rfl ?_
     refine lx_skip rfl rfl rfl (by first | exact notThe_bool rfl | exact notThe_undef) rfl ?_
     refine lx_skip rfl rfl rfl (by first | exact notThe_bool rfl | exact notThe_undef) rfl ?_
     refine lx_skip rfl rfl rfl (by first | exact notThe_bool rfl | exact notThe_undef) rfl ?_
     refine lx (op_pick_f rfl rfl) rfl ?_
     refine lx_end ⟨by kernel_rfl, ?_⟩
     refine pe_then_normal ?_
     refine tr_sub hC (.cons (t := 3) rfl (.cons (t := 4) rfl (.cons (t := 6) rfl (.cons (t := 7) rfl (.cons (t := 39) rfl .nil))))) (.cons (t := 602) rfl (.cons (t := 4) rfl (.cons (t := 3) rfl (.cons (t := 6) rfl .nil)))) rfl ?_
     refine tr_cond_f rfl ?_
     refine tr_exit ?_
     refine pe_then_exit ?_
     refine pe_then_exit ?_
     refine pe_block_eq ?_
     refine pe_then_normal ?_
     refine tr_sub hC (.cons (t := 4) rfl (.cons (t := 6) rfl (.cons (t := 7) rfl .nil))) (.cons (t := 602) rfl (.cons (t := 4) rfl (.cons (t := 6) rfl .nil))) rfl ?_
     refine tr_seq ?_
     refine tr_seq ?_
     refine tr_region (fun N22 hN => ?_)
     refine lx (op_move rfl) rfl ?_
     first | refine lxk (op_eql_ptr pt73 rfl (IsPtr.own _ _)) (rfl) rfl ?_ | refine lxk (op_eql_ptr pt73 rfl (IsPtr.cells _)) (rfl) rfl ?_ | refine lxk (op_eql_ptr pt73 rfl (IsPtr.nil)) (rfl) rfl ?_
     refine lx_end ⟨by kernel_rfl, ?_⟩
     refine pe_then_normal ?_
     refine tr_sub hC (.cons (t := 4) rfl (.cons (t := 6) rfl (.cons (t := 121) rfl .nil))) (.cons (t := 602) rfl (.cons (t := 4) rfl (.cons (t := 6) rfl .nil))) rfl ?_
     refine tr_cond_t rfl ?_
     refine tr_region (fun N23 hN => ?_)
     refine lx (op_fieldAddr rfl fl29_0 sz3) rfl ?_
     refine lxr (op_store (m := 4) (rs := [_, _, _, _]) rfl rfl rfl (.one (by (first | exact One.eq rfl | exact One.mv _ _ _ _ _ | exact One.cl _ _ _ | exact One.map _ | exact One.sl _ _ _ | exact One.row _ _ _ _ | exact One.msl _ _ _ _ | exact One.ptr _ _ | exact One.b _ | exact One.cells _))) sz3 rfl rfl rfl) rfl ?_
     refine lx_end ⟨by kernel_rfl, ?_⟩
     refine pe_then_normal ?_
     refine tr_sub hC (.cons (t := 4) rfl (.cons (t := 6) rfl .nil)) (.cons (t := 602) rfl (.cons (t := 4) rfl (.cons (t := 6) rfl .nil))) rfl ?_
     have hfin := leaveF_done (p := p) hq hl hst
     refine tr_post (fun X hX => post_sealFm (n := 602) (t := 699) hC0 rfl (by omega) (by omega) rfl (.inl rfl) rfl hX) ?_
     have hC := hC0
     refine tr_bound 698 (m := 602) rfl ?_
     refine tr_freeze (m := 602) rfl (.cons (t := 4) rfl (.cons (t := 6) rfl (.ent (t := 698) rfl FEnt.frz_bound .nil))) ?_
     refine tr_thaw (t := 698) (n := 4) (qs' := _) rfl (.cons (t := 4) rfl (.cons (t := 6) rfl .nil)) rfl (.cons (.of (Ent.refl _)) (.cons (.of (Ent.refl _)) (.cons (.of (Ent.refl _)) (.cons (fment_none (f := Fm.ps)) .nil)))) ?_
     refine tr_seq ?_
     refine tr_region (fun N24 hN => ?_)
     refine lx (op_bload (m := 4) rfl rfl ag29 sz29) rfl ?_
     refine lxr (op_store_all (m := 6) rfl rfl rfl (.agg rfl) sz29 rfl) rfl ?_
     refine lx_end ⟨by kernel_rfl, ?_⟩
     refine pe_then_normal ?_
     refine tr_sub hC (.cons (t := 6) rfl .nil) (.cons (t := 6) rfl .nil) rfl ?_
     refine tr_ret ?_
     refine pe_ret1 rfl hO rfl (.cell (m := 6) rfl rfl ag29 sz29 .nil) ?_
     rw [hfin]
     exact ent_auto
    ·refine tr_post (fun X hX => post_famK (show kf (t + 1) = 2 * t from rfl) hX) ?_
     have hC : CxOK (famC ⟨σ0, M, ex, Rf, 124⟩ (2 * t) ((fun j => fid N1 (200) (2 * (q + 1)) (j + 1))) (famR 43 47 g.frames)) := famC_ok
     refine tr_post (fun X hX => post_rowEq (n := 602) (ys := rowE g.frames (fun j => fid N1 (200) (2 * (q + 1)) (j + 1)) t (2 * t) (pureE u :: zs)) rfl rfl hX) ?_
     refine tr_sub hC (.cons (t := 3) rfl (.cons (t := 4) rfl (.cons (t := 6) rfl (.ent (t := 7) rfl ((show Ent (curP _ (t + 1)) (ptrP _ (t * 9)) from Ent.refl _)) .nil)))) (.cons (t := 602) rfl (.cons (t := 4) rfl (.cons (t := 3) rfl (.cons (t := 6) rfl .nil)))) rfl ?_
     refine tr_seq ?_
     refine tr_seq ?_
     refine tr_region (fun N7 hN => ?_)
     refine lx (op_move rfl) rfl ?_
     first | refine lxk (op_neq_ptr pt73 rfl (IsPtr.own _ _)) (rfl) rfl ?_ | refine lxk (op_neq_ptr pt73 rfl (IsPtr.cells _)) (rfl) rfl ?_ | refine lxk (op_neq_ptr pt73 rfl (IsPtr.nil)) (rfl) rfl ?_
     refine lx (op_move rfl) rfl ?_
     refine lxg rfl rfl rfl (op_move rfl) rfl ?_
     first | refine lxg rfl rfl rfl (op_nilCheck rfl) rfl ?_ | refine lxg rfl rfl rfl (op_nilCheckC rfl) rfl ?_
     refine lxg rfl rfl rfl (op_fieldAddr rfl fl60_5 sz4) rfl ?_
     refine lxg rfl rfl rfl (OpJ.ent (op_tload_one (m := 602) (j := t) (fo := 5) rfl rfl ag4 fmE_len (by omega) (rowE_top (by omega)) rfl) (show Ent _ (eqP (.bool u.leaving)) from (by exact ent_auto))) rfl ?_
     refine lx (op_pick_t rfl rfl) rfl ?_
     refine lx_end ⟨by kernel_rfl, ?_⟩
     refine pe_then_normal ?_
     refine tr_sub hC (.cons (t := 3) rfl (.cons (t := 4) rfl (.cons (t := 6) rfl (.cons (t := 7) rfl (.cons (t := 39) rfl .nil))))) (.cons (t := 602) rfl (.cons (t := 4) rfl (.cons (t := 3) rfl (.cons (t := 6) rfl .nil)))) rfl ?_
     refine tr_cond rfl (fun h39 => ?_) (fun h39 => ?_)
     ·(try simp only [cq1, cq2, cq3, cq4, cq5, cq6, cq7, cq8, cq9, cq10, cq11, cq12, cq13] at h39)
      have hlv : u.leaving = true := h39
      refine tr_skip ?_
      refine pe_then_normal ?_
      refine tr_sub hC (.cons (t := 3) rfl (.cons (t := 4) rfl (.cons (t := 6) rfl (.cons (t := 7) rfl .nil)))) (.cons (t := 602) rfl (.cons (t := 4) rfl (.cons (t := 3) rfl (.cons (t := 6) rfl .nil)))) rfl ?_
      refine tr_block ?_
      refine tr_seq ?_
      refine tr_seq ?_
      refine tr_region (fun N8 hN => ?_)
      refine lx (op_move rfl) rfl ?_
      first | refine lx (op_nilCheck rfl) rfl ?_ | refine lx (op_nilCheckC rfl) rfl ?_
      refine lx (op_fieldAddr rfl fl60_4 sz58) rfl ?_
      refine lx (OpJ.ent (op_tload_one (m := 602) (j := t) (fo := 4) rfl rfl ag58 fmE_len (by omega) (rowE_top (by omega)) rfl) (show Ent _ (slP Df.ps 2 u.defers) from (by exact ent_auto))) rfl ?_
      first | refine lx (op_len rfl el58) rfl ?_ | refine lx (op_len_row rfl el58) rfl ?_ | refine lx (op_len_mv rfl el58) rfl ?_ | refine lx (op_len_nil rfl el58) rfl ?_
      refine lx (op_assign rfl) rfl ?_
      refine lx_end ⟨by kernel_rfl, ?_⟩
      refine pe_then_normal ?_
      refine tr_sub hC (.cons (t := 3) rfl (.cons (t := 4) rfl (.cons (t := 6) rfl (.cons (t := 7) rfl (.cons (t := 8) rfl .nil))))) (.cons (t := 602) rfl (.cons (t := 4) rfl (.cons (t := 3) rfl (.cons (t := 6) rfl .nil)))) rfl ?_
      refine tr_seq ?_
      refine tr_region (fun N9 hN => ?_)
      refine lx (op_move rfl) rfl ?_
      refine lx (op_gtr rfl rfl) rfl ?_
      refine lx_end ⟨by kernel_rfl, ?_⟩
      refine pe_then_normal ?_
      refine tr_sub hC (.cons (t := 3) rfl (.cons (t := 4) rfl (.cons (t := 6) rfl (.cons (t := 7) rfl (.cons (t := 8) rfl (.cons (t := 46) rfl .nil)))))) (.cons (t := 602) rfl (.cons (t := 4) rfl (.cons (t := 3) rfl (.cons (t := 6) rfl .nil)))) rfl ?_
      refine tr_cond rfl (fun h46 => ?_) (fun h46 => ?_)
      ·(try simp only [cq1, cq2, cq3, cq4, cq5, cq6, cq7, cq8, cq9, cq10, cq11, cq12, cq13] at h46)
       have hud := hub.defers
       obtain ⟨d, hd⟩ : ∃ d, u.defers[u.defers.length - 1]? = some d := ⟨_, List.getElem?_eq_getElem (by omega)⟩
       have hcall := leaveF_call (p := p) hq hl hst hlv hd
       refine tr_seq ?_
       refine tr_region (fun N10 hN => ?_)
       refine lx (op_move rfl) rfl ?_
       first | refine lx (op_nilCheck rfl) rfl ?_ | refine lx (op_nilCheckC rfl) rfl ?_
       refine lx (op_fieldAddr rfl fl60_4 sz58) rfl ?_
       refine lx (OpJ.ent (op_tload_one (m := 602) (j := t) (fo := 4) rfl rfl ag58 fmE_len (by omega) (rowE_top (by omega)) rfl) (show Ent _ (slP Df.ps 2 u.defers) from (by exact ent_auto))) rfl ?_
       refine lx (op_move rfl) rfl ?_
       refine lx (op_sub rfl rfl (by omega)) rfl ?_
       refine lx (op_index rfl rfl el58 sz47 (by omega : ((u.defers.length : Nat) : Int) - 1 = ((u.defers.length - 1 : Nat) : Int)) hd) rfl ?_
       first | refine lx (op_load_all rfl ag47 sz47) rfl ?_ | refine lx (op_load_agg rfl ag47 sz47 rfl) rfl ?_ | refine lx (op_bload (m := 602) rfl rfl ag47 sz47) rfl ?_ | refine lx (op_bload (m := 4) rfl rfl ag47 sz47) rfl ?_ | refine lx (op_bload (m := 3) rfl rfl ag47 sz47) rfl ?_ | refine lx (op_bload (m := 6) rfl rfl ag47 sz47) rfl ?_ | refine lx (op_bload_part (m := 602) (qs := [_, _]) rfl rfl ag47 sz47 rfl rfl) rfl ?_ | refine lx (op_bload_part (m := 4) (qs := [_, _]) rfl rfl ag47 sz47 rfl rfl) rfl ?_ | refine lx (op_bload_part (m := 3) (qs := [_, _]) rfl rfl ag47 sz47 rfl rfl) rfl ?_ | refine lx (op_bload_part (m := 6) (qs := [_, _]) rfl rfl ag47 sz47 rfl rfl) rfl ?_
       refine lxn (op_alloc (m := 9) (k := 9) (ps := [eqP (.int .i64 0), eqP (.slice none 0 0)]) ze47 rfl rfl (by first | exact hC.low _ (by decide) | rfl)) rfl ?_
       refine lxr (op_store_all (m := 9) rfl rfl rfl (.agg rfl) sz47 rfl) rfl ?_
       refine lx_end ⟨by kernel_rfl, ?_⟩
       refine pe_then_normal ?_
       refine tr_sub hC (.cons (t := 3) rfl (.cons (t := 4) rfl (.cons (t := 6) rfl (.cons (t := 7) rfl (.cons (t := 8) rfl (.cons (t := 9) rfl .nil)))))) (.cons (t := 602) rfl (.cons (t := 4) rfl (.cons (t := 3) rfl (.cons (t := 6) rfl (.cons (t := 9) rfl .nil))))) rfl ?_
       refine tr_seq ?_
       refine tr_region (fun N11 hN => ?_)
       refine lx (op_move rfl) rfl ?_
       refine lx (op_move rfl) rfl ?_
       first | refine lx (op_nilCheck rfl) rfl ?_ | refine lx (op_nilCheckC rfl) rfl ?_
       refine lx (op_fieldAddr rfl fl60_4 sz58) rfl ?_
       refine lx (OpJ.ent (op_tload_one (m := 602) (j := t) (fo := 4) rfl rfl ag58 fmE_len (by omega) (rowE_top (by omega)) rfl) (show Ent _ (slP Df.ps 2 u.defers) from (by exact ent_auto))) rfl ?_
       refine lx (op_move rfl) rfl ?_
       refine lx (op_sub rfl rfl (by omega)) rfl ?_
       refine lx (op_slice_h rfl rfl el58 sz47 (by omega : ((u.defers.length : Nat) : Int) - 1 = ((u.defers.length - 1 : Nat) : Int)) (by omega)) rfl ?_
       first | refine lx (op_nilCheck rfl) rfl ?_ | refine lx (op_nilCheckC rfl) rfl ?_
       refine lx (op_fieldAddr rfl fl60_4 sz58) rfl ?_
       refine lxr (op_tstore (m := 602) (j := t) (fo := 4) (z' := (pureE { u with defers := u.defers.take (u.defers.length - 1) })) rfl rfl rfl (.one (by (first | exact One.eq rfl | exact One.mv _ _ _ _ _ | exact One.cl _ _ _ | exact One.map _ | exact One.sl _ _ _ | exact One.row _ _ _ _ | exact One.msl _ _ _ _ | exact One.ptr _ _ | exact One.b _ | exact One.cells _))) sz58 rfl fmE_len (by omega) (rowE_top (by omega)) rfl rfl) rfl ?_
       refine lx_end ⟨by kernel_rfl, ?_⟩
       refine pe_then_normal ?_
       refine tr_sub hC (.cons (t := 3) rfl (.cons (t := 4) rfl (.cons (t := 6) rfl (.cons (t := 9) rfl .nil)))) (.cons (t := 602) rfl (.cons (t := 4) rfl (.cons (t := 3) rfl (.cons (t := 6) rfl (.cons (t := 9) rfl .nil))))) rfl ?_
       try refine tr_post (fun X hX => post_rowEq (n := 602) rfl (rowE_set (by omega)) hX) ?_
       refine tr_post (fun X hX => post_sealFm (n := 602) (t := 699) hC0 rfl (by omega) (by omega) rfl (.inl rfl) rfl hX) ?_
       have hC := hC0
       refine tr_post (fun X hX => post_rowPs (n := 602) rfl rowPureT hX) ?_
       refine tr_bound 698 (m := 602) rfl ?_
       refine tr_freeze (m := 602) rfl (.cons (t := 3) rfl (.cons (t := 4) rfl (.cons (t := 6) rfl (.cons (t := 9) rfl (.ent (t := 698) rfl FEnt.frz_bound .nil))))) ?_
       refine tr_thaw (t := 698) (n := 4) (qs' := _) rfl (.cons (t := 3) rfl (.cons (t := 4) rfl (.cons (t := 6) rfl (.cons (t := 9) rfl .nil)))) rfl (.cons (.of (Ent.refl _)) (.cons (.of (Ent.refl _)) (.cons (.of (Ent.refl _)) (.cons (fment_part Fm.len (take_part (by omega))) .nil)))) ?_
       refine tr_seq ?_
       refine tr_region (fun N12 hN => ?_)
       refine lx (op_bload (m := 3) rfl rfl ag26 sz26) rfl ?_
       refine lx (op_bload (m := 4) rfl rfl ag29 sz29) rfl ?_
       refine lx (op_fieldAddr rfl fl47_0 sz3) rfl ?_
       refine lx (op_bload_one (m := 9) rfl rfl ag3 rfl) rfl ?_
       refine lx (op_fieldAddr rfl fl47_1 sz33) rfl ?_
       refine lx (op_bload_one (m := 9) rfl rfl ag33 rfl) rfl ?_
       first | refine lx (op_call (l := [(Go.Operand.tmp 66), (Go.Operand.tmp 67), (Go.Operand.tmp 69), (Go.Operand.tmp 71), (Go.Operand.const (Go.Value.int Go.IntKind.i64 (-1)))]) (Enter_ok p hp { g with frames := g.frames.take t ++ [{ u with defers := u.defers.take (u.defers.length - 1) }] } (bdG_take hb (bdF_drop hub) (by omega)) (by simp; omega) d.fn d.args (-1)) (.cons rfl (.cons rfl (.cons rfl (.cons rfl (.cons rfl .nil))))) fn17) rfl ?_ | refine lx (op_call (l := [(Go.Operand.tmp 66), (Go.Operand.tmp 67), (Go.Operand.tmp 69), (Go.Operand.tmp 71), (Go.Operand.const (Go.Value.int Go.IntKind.i64 (-1)))]) (Enter_ok p hp { g with frames := g.frames.take t ++ [{ u with defers := u.defers.take (u.defers.length - 1) }] } (bdG_take hb (bdF_drop hub) (by omega)) (by simp; omega) d.fn d.args (-1)) (.ent rfl (by exact ent_auto) (.ent rfl (by exact ent_auto) (.ent rfl (by exact ent_auto) (.ent rfl (by exact ent_auto) (.ent rfl (by exact ent_auto) .nil))))) fn17) rfl ?_
       refine lx (op_move rfl) rfl ?_
       refine lx (op_extract rfl rfl) rfl ?_
       refine lx (op_extract rfl rfl) rfl ?_
       refine lxn (op_alloc (m := 10) (k := 10) (ps := [eqP (.int .i64 0), eqP (.int .i64 0), eqP (.int .i64 0), eqP (.slice none 0 0)]) ze29 rfl rfl (by first | exact hC.low _ (by decide) | rfl)) rfl ?_
       refine lxr (op_store_all (m := 10) rfl rfl rfl (.agg rfl) sz29 rfl) rfl ?_
       refine lx (op_assign rfl) rfl ?_
       refine lx_end ⟨by kernel_rfl, ?_⟩
       refine pe_then_normal ?_
       refine tr_sub hC (.cons (t := 4) rfl (.cons (t := 6) rfl (.cons (t := 10) rfl (.cons (t := 11) rfl .nil)))) (.cons (t := 4) rfl (.cons (t := 6) rfl (.cons (t := 10) rfl .nil))) rfl ?_
       refine tr_seq ?_
       refine tr_seq ?_
       refine tr_region (fun N13 hN => ?_)
       refine lx (op_move rfl) rfl ?_
       refine lx (op_neq rfl rfl) rfl ?_
       refine lx_end ⟨by kernel_rfl, ?_⟩
       refine pe_then_normal ?_
       refine tr_sub hC (.cons (t := 4) rfl (.cons (t := 6) rfl (.cons (t := 10) rfl (.cons (t := 76) rfl .nil)))) (.cons (t := 4) rfl (.cons (t := 6) rfl (.cons (t := 10) rfl .nil))) rfl ?_
       refine tr_cond rfl (fun h76 => ?_) (fun h76 => ?_)
       ·(try simp only [cq1, cq2, cq3, cq4, cq5, cq6, cq7, cq8, cq9, cq10, cq11, cq12, cq13] at h76)
        rw [if_neg h76] at hcall
        refine tr_seq ?_
        refine tr_region (fun N14 hN => ?_)
        refine lx (op_fieldAddr rfl fl29_0 sz3) rfl ?_
        refine lxr (op_store (m := 4) (rs := [_, _, _, _]) rfl rfl rfl (.one (by (first | exact One.eq rfl | exact One.mv _ _ _ _ _ | exact One.cl _ _ _ | exact One.map _ | exact One.sl _ _ _ | exact One.row _ _ _ _ | exact One.msl _ _ _ _ | exact One.ptr _ _ | exact One.b _ | exact One.cells _))) sz3 rfl rfl rfl) rfl ?_
        refine lx (op_fieldAddr rfl fl29_1 sz3) rfl ?_
        refine lxr (op_store (m := 4) (rs := [_, _, _, _]) rfl rfl rfl (.one (by (first | exact One.eq rfl | exact One.mv _ _ _ _ _ | exact One.cl _ _ _ | exact One.map _ | exact One.sl _ _ _ | exact One.row _ _ _ _ | exact One.msl _ _ _ _ | exact One.ptr _ _ | exact One.b _ | exact One.cells _))) sz3 rfl rfl rfl) rfl ?_
        refine lx_end ⟨by kernel_rfl, ?_⟩
        refine pe_then_normal ?_
        refine tr_sub hC (.cons (t := 4) rfl (.cons (t := 6) rfl .nil)) (.cons (t := 4) rfl (.cons (t := 6) rfl .nil)) rfl ?_
        refine tr_seq ?_
        refine tr_region (fun N15 hN => ?_)
        refine lx (op_bload (m := 4) rfl rfl ag29 sz29) rfl ?_
        refine lxr (op_store_all (m := 6) rfl rfl rfl (.agg rfl) sz29 rfl) rfl ?_
        refine lx_end ⟨by kernel_rfl, ?_⟩
        refine pe_then_normal ?_
        refine tr_sub hC (.cons (t := 6) rfl .nil) (.cons (t := 6) rfl .nil) rfl ?_
        refine tr_ret ?_
        refine pe_then_ret ?_
        refine pe_then_ret ?_
        refine pe_block_ret ?_
        refine pe_then_ret ?_
        refine pe_block_ret ?_
        refine pe_then_ret ?_
        refine pe_ret1 rfl hO rfl (.cell (m := 6) rfl rfl ag29 sz29 .nil) ?_
        rw [hcall]
        exact ent_auto
       ·(try simp only [cq1, cq2, cq3, cq4, cq5, cq6, cq7, cq8, cq9, cq10, cq11, cq12, cq13] at h76)
        rw [if_pos h76] at hcall
        refine tr_skip ?_
        refine pe_then_normal ?_
        refine tr_sub hC (.cons (t := 6) rfl (.cons (t := 10) rfl .nil)) (.cons (t := 6) rfl (.cons (t := 10) rfl .nil)) rfl ?_
        refine tr_seq ?_
        refine tr_region (fun N16 hN => ?_)
        refine lx (op_bload (m := 10) rfl rfl ag29 sz29) rfl ?_
        refine lxr (op_store_all (m := 6) rfl rfl rfl (.agg rfl) sz29 rfl) rfl ?_
        refine lx_end ⟨by kernel_rfl, ?_⟩
        refine pe_then_normal ?_
        refine tr_sub hC (.cons (t := 6) rfl .nil) (.cons (t := 6) rfl .nil) rfl ?_
        refine tr_ret ?_
        refine pe_then_ret ?_
        refine pe_block_ret ?_
        refine pe_then_ret ?_
        refine pe_block_ret ?_
        refine pe_then_ret ?_
        refine pe_ret1 rfl hO rfl (.cell (m := 6) rfl rfl ag29 sz29 .nil) ?_
        rw [hcall]
        exact ent_auto
      ·(try simp only [cq1, cq2, cq3, cq4, cq5, cq6, cq7, cq8, cq9, cq10, cq11, cq12, cq13] at h46)
       have hnd : u.defers.length = 0 := by omega
       refine tr_skip ?_
       refine pe_then_normal ?_
       refine tr_sub hC (.cons (t := 3) rfl (.cons (t := 4) rfl (.cons (t := 6) rfl (.cons (t := 7) rfl .nil)))) (.cons (t := 602) rfl (.cons (t := 4) rfl (.cons (t := 3) rfl (.cons (t := 6) rfl .nil)))) rfl ?_
       refine tr_seq ?_
       refine tr_region (fun N17 hN => ?_)
       refine lx (op_move rfl) rfl ?_
       first | refine lx (op_nilCheck rfl) rfl ?_ | refine lx (op_nilCheckC rfl) rfl ?_
       refine lx (OpJ.ent (op_tload (m := 602) (j := t) (fo := 0) rfl rfl ag60 sz60 fmE_len (by omega) (rowE_top (by omega)) rfl rfl) (show Ent _ (aggP u.ps) from (by exact ent_auto))) rfl ?_
       refine lxn (op_alloc (m := 12) (k := 12) (ps := [eqP (.int .i64 0), eqP (.int .i64 0), eqP (.slice none 0 0), eqP (.int .i64 0), eqP (.slice none 0 0), eqP (.bool false), eqP (.int .i64 0), eqP (.int .i64 0), eqP (.int .i64 0)]) ze60 rfl rfl (by first | exact hC.low _ (by decide) | rfl)) rfl ?_
       refine lxr (op_store_all (m := 12) rfl rfl rfl (.agg rfl) sz60 rfl) rfl ?_
       refine lx_end ⟨by kernel_rfl, ?_⟩
       refine pe_then_normal ?_
       refine tr_sub hC (.cons (t := 3) rfl (.cons (t := 4) rfl (.cons (t := 6) rfl (.cons (t := 12) rfl .nil)))) (.cons (t := 602) rfl (.cons (t := 4) rfl (.cons (t := 3) rfl (.cons (t := 6) rfl (.cons (t := 12) rfl .nil))))) rfl ?_
       refine tr_seq ?_
       refine tr_region (fun N18 hN => ?_)
       refine lx (op_fieldAddr rfl fl29_3 sz27) rfl ?_
       refine lx (op_bload_one (m := 4) rfl rfl ag27 rfl) rfl ?_
       refine lx (op_fieldAddr rfl fl29_3 sz27) rfl ?_
       refine lx (op_bload_one (m := 4) rfl rfl ag27 rfl) rfl ?_
       first | refine lx (op_len rfl el27) rfl ?_ | refine lx (op_len_row rfl el27) rfl ?_ | refine lx (op_len_mv rfl el27) rfl ?_ | refine lx (op_len_nil rfl el27) rfl ?_
       refine lx (op_sub rfl rfl (by omega)) rfl ?_
       refine lx (op_mslice_h rfl rfl el27 sz60 (by omega : ((t + 1 : Nat) : Int) - 1 = ((t : Nat) : Int)) (by omega)) rfl ?_
       refine lx (op_fieldAddr rfl fl29_3 sz27) rfl ?_
       refine lxr (op_store (m := 4) (rs := [_, _, _, _]) rfl rfl rfl (.one (by (first | exact One.eq rfl | exact One.mv _ _ _ _ _ | exact One.cl _ _ _ | exact One.map _ | exact One.sl _ _ _ | exact One.row _ _ _ _ | exact One.msl _ _ _ _ | exact One.ptr _ _ | exact One.b _ | exact One.cells _))) sz27 rfl rfl rfl) rfl ?_
       refine lx_end ⟨by kernel_rfl, ?_⟩
       refine pe_then_normal ?_
       refine tr_sub hC (.cons (t := 3) rfl (.cons (t := 4) rfl (.cons (t := 6) rfl (.cons (t := 12) rfl .nil)))) (.cons (t := 602) rfl (.cons (t := 4) rfl (.cons (t := 3) rfl (.cons (t := 6) rfl (.cons (t := 12) rfl .nil))))) rfl ?_
       rcases t with _ | t
       ·have hC : CxOK (famC ⟨σ0, M, ex, Rf, 124⟩ (2 * 0) ((fun j => fid N1 (200) (2 * (q + 1)) (j + 1))) (famR 43 47 g.frames)) := famC_ok
        refine tr_seq ?_
        refine tr_region (fun N19 hN => ?_)
        refine lx (op_bload (m := 4) rfl rfl ag29 sz29) rfl ?_
        first | refine lx (op_call (l := [(Go.Operand.tmp 92)]) (cur_none _ _ _ _ _) (.cons rfl .nil) fn40) rfl ?_ | refine lx (op_call (l := [(Go.Operand.tmp 92)]) (cur_none _ _ _ _ _) (.ent rfl (by exact ent_auto) .nil) fn40) rfl ?_
        refine lx (op_assign rfl) rfl ?_
        refine lx_end ⟨by kernel_rfl, ?_⟩
        refine pe_then_normal ?_
        refine tr_sub hC (.cons (t := 3) rfl (.cons (t := 4) rfl (.cons (t := 6) rfl (.cons (t := 7) rfl (.cons (t := 12) rfl .nil))))) (.cons (t := 602) rfl (.cons (t := 4) rfl (.cons (t := 3) rfl (.cons (t := 6) rfl (.cons (t := 12) rfl .nil))))) rfl ?_
        refine tr_seq ?_
        refine tr_drawn mixed (fun N20 hN => ?_)
        refine lx (op_move rfl) rfl ?_
        first | refine lxk (op_neq_ptr pt73 rfl (IsPtr.own _ _)) (rfl) rfl ?_ | refine lxk (op_neq_ptr pt73 rfl (IsPtr.cells _)) (rfl) rfl ?_ | refine lxk (op_neq_ptr pt73 rfl (IsPtr.nil)) (rfl) rfl ?_
        refine lx (op_move rfl) rfl ?_
        refine lx_skip rfl rfl rfl (by first | exact notThe_bool rfl | exact notThe_undef) rfl ?_
        refine lx_skip rfl rfl rfl (by first | exact notThe_bool rfl | exact notThe_undef) rfl ?_
        refine lx_skip rfl rfl rfl (by first | exact notThe_bool rfl | exact notThe_undef) rfl ?_
        refine lx (op_pick_f rfl rfl) rfl ?_
        refine lx (op_move rfl) rfl ?_
        refine lx_skip rfl rfl rfl (by first | exact notThe_bool rfl | exact notThe_undef) rfl ?_
        refine lx_skip rfl rfl rfl (by first | exact notThe_bool rfl | exact notThe_undef) rfl ?_
        refine lx_skip rfl rfl rfl (by first | exact notThe_bool rfl | exact notThe_undef) rfl ?_
        refine lx_skip rfl rfl rfl (by first | exact notThe_bool rfl | exact notThe_undef) rfl ?_
        refine lx_skip rfl rfl rfl (by first | exact notThe_bool rfl | exact notThe_undef) rfl ?_
        refine lx_skip rfl rfl rfl (by first | exact notThe_bool rfl | exact notThe_undef) rfl ?_
        refine lx_skip rfl rfl rfl (by first | exact notThe_bool rfl | exact notThe_undef) rfl ?_
        refine lx_skip rfl rfl rfl (by first | exact notThe_bool rfl | exact notThe_undef) rfl ?_
        refine lx (op_pick_f rfl rfl) rfl ?_
        refine lx_end ⟨by kernel_rfl, ?_⟩
        refine pe_then_normal ?_
        refine tr_sub hC (.cons (t := 3) rfl (.cons (t := 4) rfl (.cons (t := 6) rfl (.cons (t := 7) rfl (.cons (t := 12) rfl (.cons (t := 110) rfl .nil)))))) (.cons (t := 602) rfl (.cons (t := 4) rfl (.cons (t := 3) rfl (.cons (t := 6) rfl (.cons (t := 12) rfl .nil))))) rfl ?_
        refine tr_cond_f rfl ?_
        refine tr_skip ?_
        refine pe_block_normal ?_
        refine pe_roundC (⟨(0, u, pureE u :: zs), Nat.zero_le _, (leave_last hlv hnd).symm.trans hst, hub⟩) (by dsimp only; omega) (pe_st hC ?_ ?_ rfl)
        ·try dsimp only [List.cons_append, List.nil_append]
         first | refine SubF.cons rfl ?_ | (refine SubF.ent rfl ?_ ?_; · exact ent_auto)
         first | refine SubF.cons rfl ?_ | (refine SubF.ent rfl ?_ ?_; · exact ent_auto)
         first | refine SubF.cons rfl ?_ | (refine SubF.ent rfl ?_ ?_; · exact ent_auto)
         first | refine SubF.cons rfl ?_ | (refine SubF.ent rfl ?_ ?_; · exact ent_auto)
         exact SubF.nil
        ·try dsimp only [List.cons_append, List.nil_append]
         repeat (first | exact SubL.nil | refine SubL.cons rfl ?_)
       ·have hC : CxOK (famC ⟨σ0, M, ex, Rf, 124⟩ (2 * (t + 1)) ((fun j => fid N1 (200) (2 * (q + 1)) (j + 1))) (famR 43 47 g.frames)) := famC_ok
        obtain ⟨h, hh⟩ : ∃ h, g.frames[t]? = some h := ⟨_, List.getElem?_eq_getElem (by omega)⟩
        have hbh := hb.each h (List.mem_of_getElem? hh)
        refine tr_post (fun X hX => post_rowEq (n := 602) rfl (show rowE g.frames (fun j => fid N1 (200) (2 * (q + 1)) (j + 1)) (t + 1) (2 * (t + 1)) _ = _ from rowE_pop hh) hX) ?_
        refine tr_post (fun X hX => post_famK (show 2 * (t + 1) = 2 * t + 2 by omega) hX) ?_
        have hC : CxOK (famC ⟨σ0, M, ex, Rf, 124⟩ (2 * t + 2) ((fun j => fid N1 (200) (2 * (q + 1)) (j + 1))) (famR 43 47 g.frames)) := famC_ok
        refine tr_post (fun X hX => post_take2 605 606 hh rfl rfl (by omega) rfl (.inl rfl) (.inl rfl) hX) ?_
        have hC : CxOK (famC ⟨σ0, M, ex, Rf, 124⟩ (2 * t) ((fun j => fid N1 (200) (2 * (q + 1)) (j + 1))) (famR 43 47 g.frames)) := famC_ok
        refine tr_seq ?_
        refine tr_region (fun N19 hN => ?_)
        refine lx (op_bload (m := 4) rfl rfl ag29 sz29) rfl ?_
        first | refine lx (op_call (l := [(Go.Operand.tmp 92)]) (cur_some _ _ _ _ t _ (by omega)) (.cons rfl .nil) fn40) rfl ?_ | refine lx (op_call (l := [(Go.Operand.tmp 92)]) (cur_some _ _ _ _ t _ (by omega)) (.ent rfl (by exact ent_auto) .nil) fn40) rfl ?_
        refine lx (op_assign rfl) rfl ?_
        refine lx_end ⟨by kernel_rfl, ?_⟩
        refine pe_then_normal ?_
        refine tr_sub hC (.cons (t := 3) rfl (.cons (t := 4) rfl (.cons (t := 6) rfl (.cons (t := 7) rfl (.cons (t := 12) rfl .nil))))) (.cons (t := 602) rfl (.cons (t := 4) rfl (.cons (t := 3) rfl (.cons (t := 6) rfl (.cons (t := 12) rfl (.cons (t := 605) rfl (.cons (t := 606) rfl .nil))))))) rfl ?_
        refine tr_seq ?_
        refine tr_drawn mixed (fun N20 hN => ?_)
        refine lx (op_move rfl) rfl ?_
        first | refine lxk (op_neq_ptr pt73 rfl (IsPtr.own _ _)) (rfl) rfl ?_ | refine lxk (op_neq_ptr pt73 rfl (IsPtr.cells _)) (rfl) rfl ?_ | refine lxk (op_neq_ptr pt73 rfl (IsPtr.nil)) (rfl) rfl ?_
        refine lx (op_move rfl) rfl ?_
        refine lxg rfl rfl rfl (op_fieldAddr rfl fl60_3 sz3) rfl ?_
        refine lxg rfl rfl rfl (op_bload_one (m := 12) rfl rfl ag3 rfl) rfl ?_
        refine lxg rfl rfl rfl (op_geq rfl rfl) rfl ?_
        refine lx (op_pick_t rfl rfl) rfl ?_
        refine lx (op_move rfl) rfl ?_
        refine lxs rfl rfl rfl guard_eq (.cons (t := 12) rfl (fun _ => Ent.refl _) .nil) (op_fieldAddr rfl fl60_3 sz3) rfl ?_
        refine lxs rfl rfl rfl guard_eq (.cons (t := 102) rfl (fun h => entW h) .nil) (op_bload_one (m := 12) rfl rfl ag3 rfl) rfl ?_
        refine lxs rfl rfl rfl guard_eq (.cons (t := 7) rfl (fun _ => Ent.refl _) .nil) (op_move rfl) rfl ?_
        first | refine lxs rfl rfl rfl guard_eq (.cons (t := 104) rfl (fun h => entW h) .nil) (op_nilCheck rfl) rfl ?_ | refine lxs rfl rfl rfl guard_eq (.cons (t := 104) rfl (fun h => entW h) .nil) (op_nilCheckC rfl) rfl ?_
        refine lxs rfl rfl rfl guard_eq (.cons (t := 105) rfl (fun h => entW h) .nil) (op_fieldAddr rfl fl60_2 sz33) rfl ?_
        refine lxs rfl rfl rfl guard_eq (.cons (t := 106) rfl (fun h => entW h) .nil) (op_tload_one (m := 602) (j := t) (fo := 2) rfl rfl ag33 fmE_len (by omega) (rowE_top (by omega)) rfl) rfl ?_
        first | refine lxs rfl rfl rfl guard_eq (.cons (t := 107) rfl (fun h => entW h) .nil) (op_len rfl el33) rfl ?_ | refine lxs rfl rfl rfl guard_eq (.cons (t := 107) rfl (fun h => entW h) .nil) (op_len_row rfl el33) rfl ?_ | refine lxs rfl rfl rfl guard_eq (.cons (t := 107) rfl (fun h => entW h) .nil) (op_len_mv rfl el33) rfl ?_ | refine lxs rfl rfl rfl guard_eq (.cons (t := 107) rfl (fun h => entW h) .nil) (op_len_nil rfl el33) rfl ?_
        refine lxs rfl rfl rfl guard_eq (.cons (t := 103) rfl (fun h => entW h) (.cons (t := 108) rfl (fun h => entW h) .nil)) (op_lss rfl rfl) rfl ?_
        refine lx (op_pick_and rfl rfl) rfl ?_
        refine lx_end ⟨by kernel_rfl, ?_⟩
        refine pe_then_normal ?_
        refine tr_sub hC (.cons (t := 3) rfl (.cons (t := 4) rfl (.cons (t := 6) rfl (.cons (t := 7) rfl (.cons (t := 12) rfl (.cons (t := 110) rfl .nil)))))) (.cons (t := 602) rfl (.cons (t := 4) rfl (.cons (t := 3) rfl (.cons (t := 6) rfl (.cons (t := 12) rfl (.cons (t := 605) rfl (.cons (t := 606) rfl .nil))))))) rfl ?_
        refine tr_cond rfl (fun h110 => ?_) (fun h110 => ?_)
        ·(try simp only [cq1, cq2, cq3, cq4, cq5, cq6, cq7, cq8, cq9, cq10, cq11, cq12, cq13] at h110)
         refine tr_drawn mixed (fun N21 hN => ?_)
         refine lx (op_move rfl) rfl ?_
         first | refine lx (op_nilCheck rfl) rfl ?_ | refine lx (op_nilCheckC rfl) rfl ?_
         refine lx (op_fieldAddr rfl fl60_2 sz33) rfl ?_
         refine lx (OpJ.ent (op_tload_one (m := 602) (j := t) (fo := 2) rfl rfl ag33 fmE_len (by omega) (rowE_top (by omega)) rfl) (show Ent _ (mvP ((fun j => fid N1 (200) (2 * (q + 1)) (j + 1)) (2 * t)) 3 0 h.regs.length h.regs.length) from (by exact ent_auto))) rfl ?_
         refine lx (op_fieldAddr rfl fl60_3 sz3) rfl ?_
         refine lx (op_bload_one (m := 12) rfl rfl ag3 rfl) rfl ?_
         refine lx (op_fieldAddr rfl fl60_6 sz43) rfl ?_
         refine lx (op_bload_part (m := 12) (qs := [_, _, _]) rfl rfl ag43 sz43 rfl rfl) rfl ?_
         refine lx (op_index_mv rfl rfl el33 sz43 (by omega : u.dest = ((u.dest.toNat : Nat) : Int)) (show u.dest.toNat < h.regs.length by omega)) rfl ?_
         refine lxr (op_tstore (m := 605) (j := u.dest.toNat) (fo := 0) (z' := u.result) rfl rfl rfl (.agg rfl) sz43 rfl vp_len (by omega) (List.getElem?_eq_getElem (by omega : u.dest.toNat < h.regs.length)) rfl rfl) rfl ?_
         refine lx_end ⟨by kernel_rfl, ?_⟩
         refine pe_block_normal ?_
         refine post_seal (m := 605) (n := 602) rfl rfl (by decide) (seal_regs (by simp)) ?_
         refine post_seal (m := 606) (n := 602) rfl rfl (by decide) (seal_defs (by simp)) ?_
         refine pe_roundC (⟨(t + 1, { h with regs := h.regs.set u.dest.toNat u.result }, pureE u :: zs), (by dsimp only; omega), (congrArg (lst g.frames (t + 1)) (ret1_in (f := u) (h := h) (by omega)).symm).trans ((leave_pop hlv hnd hh).symm.trans hst), ⟨by simpa using hbh.regs, hbh.defers, hbh.args⟩⟩) (by dsimp only; omega) (pe_st hC ?_ ?_ rfl)
         ·try dsimp only [List.cons_append, List.nil_append]
          first | refine SubF.cons rfl ?_ | (refine SubF.ent rfl ?_ ?_; · exact ent_auto)
          first | refine SubF.cons rfl ?_ | (refine SubF.ent rfl ?_ ?_; · exact ent_auto)
          first | refine SubF.cons rfl ?_ | (refine SubF.ent rfl ?_ ?_; · exact ent_auto)
          first | refine SubF.cons rfl ?_ | (refine SubF.ent rfl ?_ ?_; · exact ent_auto)
          exact SubF.nil
         ·try dsimp only [List.cons_append, List.nil_append]
          repeat (first | exact SubL.nil | refine SubL.cons rfl ?_)
        ·(try simp only [cq1, cq2, cq3, cq4, cq5, cq6, cq7, cq8, cq9, cq10, cq11, cq12, cq13] at h110)
         refine tr_skip ?_
         refine pe_block_normal ?_
         refine post_seal (m := 605) (n := 602) rfl rfl (by decide) (seal_regs (by simp)) ?_
         refine post_seal (m := 606) (n := 602) rfl rfl (by decide) (seal_defs (by simp)) ?_
         refine pe_roundC (⟨(t + 1, h, pureE u :: zs), (by dsimp only; omega), (congrArg (lst g.frames (t + 1)) (ret1_out (f := u) (h := h) (by omega)).symm).trans ((leave_pop hlv hnd hh).symm.trans hst), hbh⟩) (by dsimp only; omega) (pe_st hC ?_ ?_ rfl)
         ·try dsimp only [List.cons_append, List.nil_append]
          first | refine SubF.cons rfl ?_ | (refine SubF.ent rfl ?_ ?_; · exact ent_auto)
          first | refine SubF.cons rfl ?_ | (refine SubF.ent rfl ?_ ?_; · exact ent_auto)
          first | refine SubF.cons rfl ?_ | (refine SubF.ent rfl ?_ ?_; · exact ent_auto)
          first | refine SubF.cons rfl ?_ | (refine SubF.ent rfl ?_ ?_; · exact ent_auto)
          exact SubF.nil
         ·try dsimp only [List.cons_append, List.nil_append]
          repeat (first | exact SubL.nil | refine SubL.cons rfl ?_)
     ·(try simp only [cq1, cq2, cq3, cq4, cq5, cq6, cq7, cq8, cq9, cq10, cq11, cq12, cq13] at h39)
      have hlv : u.leaving = false := h39
      refine tr_exit ?_
      refine pe_then_exit ?_
      refine pe_then_exit ?_
      refine pe_block_eq ?_
      refine pe_then_normal ?_
      refine tr_sub hC (.cons (t := 4) rfl (.cons (t := 6) rfl (.cons (t := 7) rfl .nil))) (.cons (t := 602) rfl (.cons (t := 4) rfl (.cons (t := 6) rfl .nil))) rfl ?_
      refine tr_seq ?_
      refine tr_seq ?_
      refine tr_region (fun N22 hN => ?_)
      refine lx (op_move rfl) rfl ?_
      first | refine lxk (op_eql_ptr pt73 rfl (IsPtr.own _ _)) (rfl) rfl ?_ | refine lxk (op_eql_ptr pt73 rfl (IsPtr.cells _)) (rfl) rfl ?_ | refine lxk (op_eql_ptr pt73 rfl (IsPtr.nil)) (rfl) rfl ?_
      refine lx_end ⟨by kernel_rfl, ?_⟩
      refine pe_then_normal ?_
      refine tr_sub hC (.cons (t := 4) rfl (.cons (t := 6) rfl (.cons (t := 121) rfl .nil))) (.cons (t := 602) rfl (.cons (t := 4) rfl (.cons (t := 6) rfl .nil))) rfl ?_
      refine tr_cond_f rfl ?_
      refine tr_skip ?_
      refine pe_then_normal ?_
      refine tr_sub hC (.cons (t := 4) rfl (.cons (t := 6) rfl .nil)) (.cons (t := 602) rfl (.cons (t := 4) rfl (.cons (t := 6) rfl .nil))) rfl ?_
      have hfin := leaveF_stop (p := p) hq hl hst hlv
      refine tr_post (fun X hX => post_sealFm (n := 602) (t := 699) hC0 rfl (by omega) (by omega) rfl (.inl rfl) rfl hX) ?_
      have hC := hC0
      refine tr_post (fun X hX => post_rowPs (n := 602) rfl rowPureT hX) ?_
      refine tr_bound 698 (m := 602) rfl ?_
      refine tr_freeze (m := 602) rfl (.cons (t := 4) rfl (.cons (t := 6) rfl (.ent (t := 698) rfl FEnt.frz_bound .nil))) ?_
      refine tr_thaw (t := 698) (n := 4) (qs' := _) rfl (.cons (t := 4) rfl (.cons (t := 6) rfl .nil)) rfl (.cons (.of (Ent.refl _)) (.cons (.of (Ent.refl _)) (.cons (.of (Ent.refl _)) (.cons (fment_part Fm.len (take_part (by omega))) .nil)))) ?_
      refine tr_seq ?_
      refine tr_region (fun N24 hN => ?_)
      refine lx (op_bload (m := 4) rfl rfl ag29 sz29) rfl ?_
      refine lxr (op_store_all (m := 6) rfl rfl rfl (.agg rfl) sz29 rfl) rfl ?_
      refine lx_end ⟨by kernel_rfl, ?_⟩
      refine pe_then_normal ?_
      refine tr_sub hC (.cons (t := 6) rfl .nil) (.cons (t := 6) rfl .nil) rfl ?_
      refine tr_ret ?_
      refine pe_ret1 rfl hO rfl (.cell (m := 6) rfl rfl ag29 sz29 .nil) ?_
      rw [hfin]
      exact ent_auto
  ·(try simp only [cq1, cq2, cq3, cq4, cq5, cq6, cq7, cq8, cq9, cq10, cq11, cq12, cq13] at h24)
   have htl : topL f v = f := by unfold topL; rw [if_pos h24]
   refine tr_skip ?_
   refine pe_then_normal ?_
   refine tr_sub hC (.cons (t := 3) rfl (.cons (t := 4) rfl (.cons (t := 6) rfl (.cons (t := 7) rfl .nil)))) (.cons (t := 3) rfl (.cons (t := 4) rfl (.cons (t := 6) rfl (.cons (t := 602) rfl .nil)))) rfl ?_
   first | refine tr_post (fun X hX => post_rowEq (n := 602) rfl (rowE_set2 (by omega)) hX) ?_ | skip
   refine tr_seq ?_
   refine tr_block ?_
   refine tr_loopKC (α := {zz : Nat × Fm × (List FmE) // zz.1 ≤ q + 1 ∧ lst g.frames zz.1 zz.2.1 = lst g.frames (q + 1) (topL f v) ∧ BdF 1048576 zz.2.1}) (⟨(q + 1, f, []), Nat.le_refl _, (by rw [htl]), hbf⟩) (fun zz => famC ⟨σ0, M, ex, Rf, 124⟩ (kf zz.1.1) ((fun j => fid N1 (200) (2 * (q + 1)) (j + 1))) (famR 43 47 g.frames)) (fun zz => [(7, curP (fid N1 200 (2 * (q + 1)) 0) zz.1.1)]) (fun zz => [(602, some ((fid N1 200 (2 * (q + 1)) 0), blkX 9 60 ((rowS g.frames (fun j => fid N1 (200) (2 * (q + 1)) (j + 1)) zz.1.1 zz.1.2.1 zz.1.2.2).flatMap fmE))), (4, some ((N0, 4), blk 29 [eqP (.int .i64 g.state), eqP (.int .i64 g.fault), eqP (.int .i64 g.allocs), mvP (fid N1 200 (2 * (q + 1)) 0) 9 0 zz.1.1 (q + 1)]))]) (fun zz => zz.1.1) hC rfl (.cons (t := 3) rfl (.cons (t := 4) rfl (.cons (t := 6) rfl .nil))) (.cons (t := 3) rfl (.cons (t := 6) rfl .nil)) rfl ?_ ?_ (fun zz => ?_)
   ·try dsimp only [List.cons_append, List.nil_append]
    first | refine SubF.cons rfl ?_ | (refine SubF.ent rfl ?_ ?_; · exact ent_auto)
    exact SubF.nil
   ·try dsimp only [List.cons_append, List.nil_append]
    repeat (first | exact SubL.nil | refine SubL.cons rfl ?_)
   ·obtain ⟨⟨p, u, zs⟩, hp1, hst, hub⟩ := zz
    try dsimp only at hp1
    try dsimp only at hst
    try dsimp only at hub
    dsimp only [List.cons_append, List.nil_append]
    have hC : CxOK (famC ⟨σ0, M, ex, Rf, 124⟩ (kf p) ((fun j => fid N1 (200) (2 * (q + 1)) (j + 1))) (famR 43 47 g.frames)) := famC_ok
    rcases p with _ | t
    ·refine tr_post (fun X hX => post_famK (show kf 0 = 0 from rfl) hX) ?_
     have hC : CxOK (famC ⟨σ0, M, ex, Rf, 124⟩ (0) ((fun j => fid N1 (200) (2 * (q + 1)) (j + 1))) (famR 43 47 g.frames)) := famC_ok
     refine tr_post (fun X hX => post_rowEq (n := 602) (ys := rowE g.frames (fun j => fid N1 (200) (2 * (q + 1)) (j + 1)) 0 0 zs) rfl rfl hX) ?_
     refine tr_sub hC (.cons (t := 3) rfl (.cons (t := 4) rfl (.cons (t := 6) rfl (.ent (t := 7) rfl ((show Ent (curP _ 0) (eqP (.pointer none)) from Ent.refl _)) .nil)))) (.cons (t := 602) rfl (.cons (t := 4) rfl (.cons (t := 3) rfl (.cons (t := 6) rfl .nil)))) rfl ?_
     refine tr_seq ?_
     refine tr_seq ?_
     refine tr_region (fun N7 hN => ?_)
     refine lx (op_move rfl) rfl ?_
     first | refine lxk (op_neq_ptr pt73 rfl (IsPtr.own _ _)) (rfl) rfl ?_ | refine lxk (op_neq_ptr pt73 rfl (IsPtr.cells _)) (rfl) rfl ?_ | refine lxk (op_neq_ptr pt73 rfl (IsPtr.nil)) (rfl) rfl ?_
     refine lx (op_move rfl) rfl ?_
     refine lx_skip rfl rfl rfl (by first | exact notThe_bool rfl | exact notThe_undef) rfl ?_
     refine lx_skip rfl rfl rfl (by first | exact notThe_bool rfl | exact notThe_undef) rfl ?_
     refine lx_skip rfl rfl rfl (by first | exact notThe_bool rfl | exact notThe_undef) rfl ?_
     refine lx_skip rfl rfl rfl (by first | exact notThe_bool rfl | exact notThe_undef) rfl ?_
     refine lx (op_pick_f rfl rfl) rfl ?_
     refine lx_end ⟨by kernel_rfl, ?_⟩
     refine pe_then_normal ?_
     refine tr_sub hC (.cons (t := 3) rfl (.cons (t := 4) rfl (.cons (t := 6) rfl (.cons (t := 7) rfl (.cons (t := 39) rfl .nil))))) (.cons (t := 602) rfl (.cons (t := 4) rfl (.cons (t := 3) rfl (.cons (t := 6) rfl .nil)))) rfl ?_
     refine tr_cond_f rfl ?_
     refine tr_exit ?_
     refine pe_then_exit ?_
     refine pe_then_exit ?_
     refine pe_block_eq ?_
     refine pe_then_normal ?_
     refine tr_sub hC (.cons (t := 4) rfl (.cons (t := 6) rfl (.cons (t := 7) rfl .nil))) (.cons (t := 602) rfl (.cons (t := 4) rfl (.cons (t := 6) rfl .nil))) rfl ?_
     refine tr_seq ?_
     refine tr_seq ?_
     refine tr_region (fun N22 hN => ?_)
     refine lx (op_move rfl) rfl ?_
     first | refine lxk (op_eql_ptr pt73 rfl (IsPtr.own _ _)) (rfl) rfl ?_ | refine lxk (op_eql_ptr pt73 rfl (IsPtr.cells _)) (rfl) rfl ?_ | refine lxk (op_eql_ptr pt73 rfl (IsPtr.nil)) (rfl) rfl ?_
     refine lx_end ⟨by kernel_rfl, ?_⟩
     refine pe_then_normal ?_
     refine tr_sub hC (.cons (t := 4) rfl (.cons (t := 6) rfl (.cons (t := 121) rfl .nil))) (.cons (t := 602) rfl (.cons (t := 4) rfl (.cons (t := 6) rfl .nil))) rfl ?_
     refine tr_cond_t rfl ?_
     refine tr_region (fun N23 hN => ?_)
     refine lx (op_fieldAddr rfl fl29_0 sz3) rfl ?_
     refine lxr (op_store (m := 4) (rs := [_, _, _, _]) rfl rfl rfl (.one (by (first | exact One.eq rfl | exact One.mv _ _ _ _ _ | exact One.cl _ _ _ | exact One.map _ | exact One.sl _ _ _ | exact One.row _ _ _ _ | exact One.msl _ _ _ _ | exact One.ptr _ _ | exact One.b _ | exact One.cells _))) sz3 rfl rfl rfl) rfl ?_
     refine lx_end ⟨by kernel_rfl, ?_⟩
     refine pe_then_normal ?_
     refine tr_sub hC (.cons (t := 4) rfl (.cons (t := 6) rfl .nil)) (.cons (t := 602) rfl (.cons (t := 4) rfl (.cons (t := 6) rfl .nil))) rfl ?_
     have hfin := leaveF_done (p := p) hq hl hst
     refine tr_post (fun X hX => post_sealFm (n := 602) (t := 699) hC0 rfl (by omega) (by omega) rfl (.inl rfl) rfl hX) ?_
     have hC := hC0
     refine tr_bound 698 (m := 602) rfl ?_
     refine tr_freeze (m := 602) rfl (.cons (t := 4) rfl (.cons (t := 6) rfl (.ent (t := 698) rfl FEnt.frz_bound .nil))) ?_
     refine tr_thaw (t := 698) (n := 4) (qs' := _) rfl (.cons (t := 4) rfl (.cons (t := 6) rfl .nil)) rfl (.cons (.of (Ent.refl _)) (.cons (.of (Ent.refl _)) (.cons (.of (Ent.refl _)) (.cons (fment_none (f := Fm.ps)) .nil)))) ?_
     refine tr_seq ?_
     refine tr_region (fun N24 hN => ?_)
     refine lx (op_bload (m := 4) rfl rfl ag29 sz29) rfl ?_
     refine lxr (op_store_all (m := 6) rfl rfl rfl (.agg rfl) sz29 rfl) rfl ?_
     refine lx_end ⟨by kernel_rfl, ?_⟩
     refine pe_then_normal ?_
     refine tr_sub hC (.cons (t := 6) rfl .nil) (.cons (t := 6) rfl .nil) rfl ?_
     refine tr_ret ?_
     refine pe_ret1 rfl hO rfl (.cell (m := 6) rfl rfl ag29 sz29 .nil) ?_
     rw [hfin]
     exact ent_auto
    ·refine tr_post (fun X hX => post_famK (show kf (t + 1) = 2 * t from rfl) hX) ?_
     have hC : CxOK (famC ⟨σ0, M, ex, Rf, 124⟩ (2 * t) ((fun j => fid N1 (200) (2 * (q + 1)) (j + 1))) (famR 43 47 g.frames)) := famC_ok
     refine tr_post (fun X hX => post_rowEq (n := 602) (ys := rowE g.frames (fun j => fid N1 (200) (2 * (q + 1)) (j + 1)) t (2 * t) (pureE u :: zs)) rfl rfl hX) ?_
     refine tr_sub hC (.cons (t := 3) rfl (.cons (t := 4) rfl (.cons (t := 6) rfl (.ent (t := 7) rfl ((show Ent (curP _ (t + 1)) (ptrP _ (t * 9)) from Ent.refl _)) .nil)))) (.cons (t := 602) rfl (.cons (t := 4) rfl (.cons (t := 3) rfl (.cons (t := 6) rfl .nil)))) rfl ?_
     refine tr_seq ?_
     refine tr_seq ?_
     refine tr_region (fun N7 hN => ?_)
     refine lx (op_move rfl) rfl ?_
     first | refine lxk (op_neq_ptr pt73 rfl (IsPtr.own _ _)) (rfl) rfl ?_ | refine lxk (op_neq_ptr pt73 rfl (IsPtr.cells _)) (rfl) rfl ?_ | refine lxk (op_neq_ptr pt73 rfl (IsPtr.nil)) (rfl) rfl ?_
     refine lx (op_move rfl) rfl ?_
     refine lxg rfl rfl rfl (op_move rfl) rfl ?_
     first | refine lxg rfl rfl rfl (op_nilCheck rfl) rfl ?_ | refine lxg rfl rfl rfl (op_nilCheckC rfl) rfl ?_
     refine lxg rfl rfl rfl (op_fieldAddr rfl fl60_5 sz4) rfl ?_
     refine lxg rfl rfl rfl (OpJ.ent (op_tload_one (m := 602) (j := t) (fo := 5) rfl rfl ag4 fmE_len (by omega) (rowE_top (by omega)) rfl) (show Ent _ (eqP (.bool u.leaving)) from (by exact ent_auto))) rfl ?_
     refine lx (op_pick_t rfl rfl) rfl ?_
     refine lx_end ⟨by kernel_rfl, ?_⟩
     refine pe_then_normal ?_
     refine tr_sub hC (.cons (t := 3) rfl (.cons (t := 4) rfl (.cons (t := 6) rfl (.cons (t := 7) rfl (.cons (t := 39) rfl .nil))))) (.cons (t := 602) rfl (.cons (t := 4) rfl (.cons (t := 3) rfl (.cons (t := 6) rfl .nil)))) rfl ?_
     refine tr_cond rfl (fun h39 => ?_) (fun h39 => ?_)
     ·(try simp only [cq1, cq2, cq3, cq4, cq5, cq6, cq7, cq8, cq9, cq10, cq11, cq12, cq13] at h39)
      have hlv : u.leaving = true := h39
      refine tr_skip ?_
      refine pe_then_normal ?_
      refine tr_sub hC (.cons (t := 3) rfl (.cons (t := 4) rfl (.cons (t := 6) rfl (.cons (t := 7) rfl .nil)))) (.cons (t := 602) rfl (.cons (t := 4) rfl (.cons (t := 3) rfl (.cons (t := 6) rfl .nil)))) rfl ?_
      refine tr_block ?_
      refine tr_seq ?_
      refine tr_seq ?_
      refine tr_region (fun N8 hN => ?_)
      refine lx (op_move rfl) rfl ?_
      first | refine lx (op_nilCheck rfl) rfl ?_ | refine lx (op_nilCheckC rfl) rfl ?_
      refine lx (op_fieldAddr rfl fl60_4 sz58) rfl ?_
      refine lx (OpJ.ent (op_tload_one (m := 602) (j := t) (fo := 4) rfl rfl ag58 fmE_len (by omega) (rowE_top (by omega)) rfl) (show Ent _ (slP Df.ps 2 u.defers) from (by exact ent_auto))) rfl ?_
      first | refine lx (op_len rfl el58) rfl ?_ | refine lx (op_len_row rfl el58) rfl ?_ | refine lx (op_len_mv rfl el58) rfl ?_ | refine lx (op_len_nil rfl el58) rfl ?_
      refine lx (op_assign rfl) rfl ?_
      refine lx_end ⟨by kernel_rfl, ?_⟩
      refine pe_then_normal ?_
      refine tr_sub hC (.cons (t := 3) rfl (.cons (t := 4) rfl (.cons (t := 6) rfl (.cons (t := 7) rfl (.cons (t := 8) rfl .nil))))) (.cons (t := 602) rfl (.cons (t := 4) rfl (.cons (t := 3) rfl (.cons (t := 6) rfl .nil)))) rfl ?_
      refine tr_seq ?_
      refine tr_region (fun N9 hN => ?_)
      refine lx (op_move rfl) rfl ?_
      refine lx (op_gtr rfl rfl) rfl ?_
      refine lx_end ⟨by kernel_rfl, ?_⟩
      refine pe_then_normal ?_
      refine tr_sub hC (.cons (t := 3) rfl (.cons (t := 4) rfl (.cons (t := 6) rfl (.cons (t := 7) rfl (.cons (t := 8) rfl (.cons (t := 46) rfl .nil)))))) (.cons (t := 602) rfl (.cons (t := 4) rfl (.cons (t := 3) rfl (.cons (t := 6) rfl .nil)))) rfl ?_
      refine tr_cond rfl (fun h46 => ?_) (fun h46 => ?_)
      ·(try simp only [cq1, cq2, cq3, cq4, cq5, cq6, cq7, cq8, cq9, cq10, cq11, cq12, cq13] at h46)
       have hud := hub.defers
       obtain ⟨d, hd⟩ : ∃ d, u.defers[u.defers.length - 1]? = some d := ⟨_, List.getElem?_eq_getElem (by omega)⟩
       have hcall := leaveF_call (p := p) hq hl hst hlv hd
       refine tr_seq ?_
       refine tr_region (fun N10 hN => ?_)
       refine lx (op_move rfl) rfl ?_
       first | refine lx (op_nilCheck rfl) rfl ?_ | refine lx (op_nilCheckC rfl) rfl ?_
       refine lx (op_fieldAddr rfl fl60_4 sz58) rfl ?_
       refine lx (OpJ.ent (op_tload_one (m := 602) (j := t) (fo := 4) rfl rfl ag58 fmE_len (by omega) (rowE_top (by omega)) rfl) (show Ent _ (slP Df.ps 2 u.defers) from (by exact ent_auto))) rfl ?_
       refine lx (op_move rfl) rfl ?_
       refine lx (op_sub rfl rfl (by omega)) rfl ?_
       refine lx (op_index rfl rfl el58 sz47 (by omega : ((u.defers.length : Nat) : Int) - 1 = ((u.defers.length - 1 : Nat) : Int)) hd) rfl ?_
       first | refine lx (op_load_all rfl ag47 sz47) rfl ?_ | refine lx (op_load_agg rfl ag47 sz47 rfl) rfl ?_ | refine lx (op_bload (m := 602) rfl rfl ag47 sz47) rfl ?_ | refine lx (op_bload (m := 4) rfl rfl ag47 sz47) rfl ?_ | refine lx (op_bload (m := 3) rfl rfl ag47 sz47) rfl ?_ | refine lx (op_bload (m := 6) rfl rfl ag47 sz47) rfl ?_ | refine lx (op_bload_part (m := 602) (qs := [_, _]) rfl rfl ag47 sz47 rfl rfl) rfl ?_ | refine lx (op_bload_part (m := 4) (qs := [_, _]) rfl rfl ag47 sz47 rfl rfl) rfl ?_ | refine lx (op_bload_part (m := 3) (qs := [_, _]) rfl rfl ag47 sz47 rfl rfl) rfl ?_ | refine lx (op_bload_part (m := 6) (qs := [_, _]) rfl rfl ag47 sz47 rfl rfl) rfl ?_
       refine lxn (op_alloc (m := 9) (k := 9) (ps := [eqP (.int .i64 0), eqP (.slice none 0 0)]) ze47 rfl rfl (by first | exact hC.low _ (by decide) | rfl)) rfl ?_
       refine lxr (op_store_all (m := 9) rfl rfl rfl (.agg rfl) sz47 rfl) rfl ?_
       refine lx_end ⟨by kernel_rfl, ?_⟩
       refine pe_then_normal ?_
       refine tr_sub hC (.cons (t := 3) rfl (.cons (t := 4) rfl (.cons (t := 6) rfl (.cons (t := 7) rfl (.cons (t := 8) rfl (.cons (t := 9) rfl .nil)))))) (.cons (t := 602) rfl (.cons (t := 4) rfl (.cons (t := 3) rfl (.cons (t := 6) rfl (.cons (t := 9) rfl .nil))))) rfl ?_
       refine tr_seq ?_
       refine tr_region (fun N11 hN => ?_)
       refine lx (op_move rfl) rfl ?_
       refine lx (op_move rfl) rfl ?_
       first | refine lx (op_nilCheck rfl) rfl ?_ | refine lx (op_nilCheckC rfl) rfl ?_
       refine lx (op_fieldAddr rfl fl60_4 sz58) rfl ?_
       refine lx (OpJ.ent (op_tload_one (m := 602) (j := t) (fo := 4) rfl rfl ag58 fmE_len (by omega) (rowE_top (by omega)) rfl) (show Ent _ (slP Df.ps 2 u.defers) from (by exact ent_auto))) rfl ?_
       refine lx (op_move rfl) rfl ?_
       refine lx (op_sub rfl rfl (by omega)) rfl ?_
       refine lx (op_slice_h rfl rfl el58 sz47 (by omega : ((u.defers.length : Nat) : Int) - 1 = ((u.defers.length - 1 : Nat) : Int)) (by omega)) rfl ?_
       first | refine lx (op_nilCheck rfl) rfl ?_ | refine lx (op_nilCheckC rfl) rfl ?_
       refine lx (op_fieldAddr rfl fl60_4 sz58) rfl ?_
       refine lxr (op_tstore (m := 602) (j := t) (fo := 4) (z' := (pureE { u with defers := u.defers.take (u.defers.length - 1) })) rfl rfl rfl (.one (by (first | exact One.eq rfl | exact One.mv _ _ _ _ _ | exact One.cl _ _ _ | exact One.map _ | exact One.sl _ _ _ | exact One.row _ _ _ _ | exact One.msl _ _ _ _ | exact One.ptr _ _ | exact One.b _ | exact One.cells _))) sz58 rfl fmE_len (by omega) (rowE_top (by omega)) rfl rfl) rfl ?_
       refine lx_end ⟨by kernel_rfl, ?_⟩
       refine pe_then_normal ?_
       refine tr_sub hC (.cons (t := 3) rfl (.cons (t := 4) rfl (.cons (t := 6) rfl (.cons (t := 9) rfl .nil)))) (.cons (t := 602) rfl (.cons (t := 4) rfl (.cons (t := 3) rfl (.cons (t := 6) rfl (.cons (t := 9) rfl .nil))))) rfl ?_
       try refine tr_post (fun X hX => post_rowEq (n := 602) rfl (rowE_set (by omega)) hX) ?_
       refine tr_post (fun X hX => post_sealFm (n := 602) (t := 699) hC0 rfl (by omega) (by omega) rfl (.inl rfl) rfl hX) ?_
       have hC := hC0
       refine tr_post (fun X hX => post_rowPs (n := 602) rfl rowPureT hX) ?_
       refine tr_bound 698 (m := 602) rfl ?_
       refine tr_freeze (m := 602) rfl (.cons (t := 3) rfl (.cons (t := 4) rfl (.cons (t := 6) rfl (.cons (t := 9) rfl (.ent (t := 698) rfl FEnt.frz_bound .nil))))) ?_
       refine tr_thaw (t := 698) (n := 4) (qs' := _) rfl (.cons (t := 3) rfl (.cons (t := 4) rfl (.cons (t := 6) rfl (.cons (t := 9) rfl .nil)))) rfl (.cons (.of (Ent.refl _)) (.cons (.of (Ent.refl _)) (.cons (.of (Ent.refl _)) (.cons (fment_part Fm.len (take_part (by omega))) .nil)))) ?_
       refine tr_seq ?_
       refine tr_region (fun N12 hN => ?_)
       refine lx (op_bload (m := 3) rfl rfl ag26 sz26) rfl ?_
       refine lx (op_bload (m := 4) rfl rfl ag29 sz29) rfl ?_
       refine lx (op_fieldAddr rfl fl47_0 sz3) rfl ?_
       refine lx (op_bload_one (m := 9) rfl rfl ag3 rfl) rfl ?_
       refine lx (op_fieldAddr rfl fl47_1 sz33) rfl ?_
       refine lx (op_bload_one (m := 9) rfl rfl ag33 rfl) rfl ?_
       first | refine lx (op_call (l := [(Go.Operand.tmp 66), (Go.Operand.tmp 67), (Go.Operand.tmp 69), (Go.Operand.tmp 71), (Go.Operand.const (Go.Value.int Go.IntKind.i64 (-1)))]) (Enter_ok p hp { g with frames := g.frames.take t ++ [{ u with defers := u.defers.take (u.defers.length - 1) }] } (bdG_take hb (bdF_drop hub) (by omega)) (by simp; omega) d.fn d.args (-1)) (.cons rfl (.cons rfl (.cons rfl (.cons rfl (.cons rfl .nil))))) fn17) rfl ?_ | refine lx (op_call (l := [(Go.Operand.tmp 66), (Go.Operand.tmp 67), (Go.Operand.tmp 69), (Go.Operand.tmp 71), (Go.Operand.const (Go.Value.int Go.IntKind.i64 (-1)))]) (Enter_ok p hp { g with frames := g.frames.take t ++ [{ u with defers := u.defers.take (u.defers.length - 1) }] } (bdG_take hb (bdF_drop hub) (by omega)) (by simp; omega) d.fn d.args (-1)) (.ent rfl (by exact ent_auto) (.ent rfl (by exact ent_auto) (.ent rfl (by exact ent_auto) (.ent rfl (by exact ent_auto) (.ent rfl (by exact ent_auto) .nil))))) fn17) rfl ?_
       refine lx (op_move rfl) rfl ?_
       refine lx (op_extract rfl rfl) rfl ?_
       refine lx (op_extract rfl rfl) rfl ?_
       refine lxn (op_alloc (m := 10) (k := 10) (ps := [eqP (.int .i64 0), eqP (.int .i64 0), eqP (.int .i64 0), eqP (.slice none 0 0)]) ze29 rfl rfl (by first | exact hC.low _ (by decide) | rfl)) rfl ?_
       refine lxr (op_store_all (m := 10) rfl rfl rfl (.agg rfl) sz29 rfl) rfl ?_
       refine lx (op_assign rfl) rfl ?_
       refine lx_end ⟨by kernel_rfl, ?_⟩
       refine pe_then_normal ?_
       refine tr_sub hC (.cons (t := 4) rfl (.cons (t := 6) rfl (.cons (t := 10) rfl (.cons (t := 11) rfl .nil)))) (.cons (t := 4) rfl (.cons (t := 6) rfl (.cons (t := 10) rfl .nil))) rfl ?_
       refine tr_seq ?_
       refine tr_seq ?_
       refine tr_region (fun N13 hN => ?_)
       refine lx (op_move rfl) rfl ?_
       refine lx (op_neq rfl rfl) rfl ?_
       refine lx_end ⟨by kernel_rfl, ?_⟩
       refine pe_then_normal ?_
       refine tr_sub hC (.cons (t := 4) rfl (.cons (t := 6) rfl (.cons (t := 10) rfl (.cons (t := 76) rfl .nil)))) (.cons (t := 4) rfl (.cons (t := 6) rfl (.cons (t := 10) rfl .nil))) rfl ?_
       refine tr_cond rfl (fun h76 => ?_) (fun h76 => ?_)
       ·(try simp only [cq1, cq2, cq3, cq4, cq5, cq6, cq7, cq8, cq9, cq10, cq11, cq12, cq13] at h76)
        rw [if_neg h76] at hcall
        refine tr_seq ?_
        refine tr_region (fun N14 hN => ?_)
        refine lx (op_fieldAddr rfl fl29_0 sz3) rfl ?_
        refine lxr (op_store (m := 4) (rs := [_, _, _, _]) rfl rfl rfl (.one (by (first | exact One.eq rfl | exact One.mv _ _ _ _ _ | exact One.cl _ _ _ | exact One.map _ | exact One.sl _ _ _ | exact One.row _ _ _ _ | exact One.msl _ _ _ _ | exact One.ptr _ _ | exact One.b _ | exact One.cells _))) sz3 rfl rfl rfl) rfl ?_
        refine lx (op_fieldAddr rfl fl29_1 sz3) rfl ?_
        refine lxr (op_store (m := 4) (rs := [_, _, _, _]) rfl rfl rfl (.one (by (first | exact One.eq rfl | exact One.mv _ _ _ _ _ | exact One.cl _ _ _ | exact One.map _ | exact One.sl _ _ _ | exact One.row _ _ _ _ | exact One.msl _ _ _ _ | exact One.ptr _ _ | exact One.b _ | exact One.cells _))) sz3 rfl rfl rfl) rfl ?_
        refine lx_end ⟨by kernel_rfl, ?_⟩
        refine pe_then_normal ?_
        refine tr_sub hC (.cons (t := 4) rfl (.cons (t := 6) rfl .nil)) (.cons (t := 4) rfl (.cons (t := 6) rfl .nil)) rfl ?_
        refine tr_seq ?_
        refine tr_region (fun N15 hN => ?_)
        refine lx (op_bload (m := 4) rfl rfl ag29 sz29) rfl ?_
        refine lxr (op_store_all (m := 6) rfl rfl rfl (.agg rfl) sz29 rfl) rfl ?_
        refine lx_end ⟨by kernel_rfl, ?_⟩
        refine pe_then_normal ?_
        refine tr_sub hC (.cons (t := 6) rfl .nil) (.cons (t := 6) rfl .nil) rfl ?_
        refine tr_ret ?_
        refine pe_then_ret ?_
        refine pe_then_ret ?_
        refine pe_block_ret ?_
        refine pe_then_ret ?_
        refine pe_block_ret ?_
        refine pe_then_ret ?_
        refine pe_ret1 rfl hO rfl (.cell (m := 6) rfl rfl ag29 sz29 .nil) ?_
        rw [hcall]
        exact ent_auto
       ·(try simp only [cq1, cq2, cq3, cq4, cq5, cq6, cq7, cq8, cq9, cq10, cq11, cq12, cq13] at h76)
        rw [if_pos h76] at hcall
        refine tr_skip ?_
        refine pe_then_normal ?_
        refine tr_sub hC (.cons (t := 6) rfl (.cons (t := 10) rfl .nil)) (.cons (t := 6) rfl (.cons (t := 10) rfl .nil)) rfl ?_
        refine tr_seq ?_
        refine tr_region (fun N16 hN => ?_)
        refine lx (op_bload (m := 10) rfl rfl ag29 sz29) rfl ?_
        refine lxr (op_store_all (m := 6) rfl rfl rfl (.agg rfl) sz29 rfl) rfl ?_
        refine lx_end ⟨by kernel_rfl, ?_⟩
        refine pe_then_normal ?_
        refine tr_sub hC (.cons (t := 6) rfl .nil) (.cons (t := 6) rfl .nil) rfl ?_
        refine tr_ret ?_
        refine pe_then_ret ?_
        refine pe_block_ret ?_
        refine pe_then_ret ?_
        refine pe_block_ret ?_
        refine pe_then_ret ?_
        refine pe_ret1 rfl hO rfl (.cell (m := 6) rfl rfl ag29 sz29 .nil) ?_
        rw [hcall]
        exact ent_auto
      ·(try simp only [cq1, cq2, cq3, cq4, cq5, cq6, cq7, cq8, cq9, cq10, cq11, cq12, cq13] at h46)
       have hnd : u.defers.length = 0 := by omega
       refine tr_skip ?_
       refine pe_then_normal ?_
       refine tr_sub hC (.cons (t := 3) rfl (.cons (t := 4) rfl (.cons (t := 6) rfl (.cons (t := 7) rfl .nil)))) (.cons (t := 602) rfl (.cons (t := 4) rfl (.cons (t := 3) rfl (.cons (t := 6) rfl .nil)))) rfl ?_
       refine tr_seq ?_
       refine tr_region (fun N17 hN => ?_)
       refine lx (op_move rfl) rfl ?_
       first | refine lx (op_nilCheck rfl) rfl ?_ | refine lx (op_nilCheckC rfl) rfl ?_
       refine lx (OpJ.ent (op_tload (m := 602) (j := t) (fo := 0) rfl rfl ag60 sz60 fmE_len (by omega) (rowE_top (by omega)) rfl rfl) (show Ent _ (aggP u.ps) from (by exact ent_auto))) rfl ?_
       refine lxn (op_alloc (m := 12) (k := 12) (ps := [eqP (.int .i64 0), eqP (.int .i64 0), eqP (.slice none 0 0), eqP (.int .i64 0), eqP (.slice none 0 0), eqP (.bool false), eqP (.int .i64 0), eqP (.int .i64 0), eqP (.int .i64 0)]) ze60 rfl rfl (by first | exact hC.low _ (by decide) | rfl)) rfl ?_
       refine lxr (op_store_all (m := 12) rfl rfl rfl (.agg rfl) sz60 rfl) rfl ?_
       refine lx_end ⟨by kernel_rfl, ?_⟩
       refine pe_then_normal ?_
       refine tr_sub hC (.cons (t := 3) rfl (.cons (t := 4) rfl (.cons (t := 6) rfl (.cons (t := 12) rfl .nil)))) (.cons (t := 602) rfl (.cons (t := 4) rfl (.cons (t := 3) rfl (.cons (t := 6) rfl (.cons (t := 12) rfl .nil))))) rfl ?_
       refine tr_seq ?_
       refine tr_region (fun N18 hN => ?_)
       refine lx (op_fieldAddr rfl fl29_3 sz27) rfl ?_
       refine lx (op_bload_one (m := 4) rfl rfl ag27 rfl) rfl ?_
       refine lx (op_fieldAddr rfl fl29_3 sz27) rfl ?_
       refine lx (op_bload_one (m := 4) rfl rfl ag27 rfl) rfl ?_
       first | refine lx (op_len rfl el27) rfl ?_ | refine lx (op_len_row rfl el27) rfl ?_ | refine lx (op_len_mv rfl el27) rfl ?_ | refine lx (op_len_nil rfl el27) rfl ?_
       refine lx (op_sub rfl rfl (by omega)) rfl ?_
       refine lx (op_mslice_h rfl rfl el27 sz60 (by omega : ((t + 1 : Nat) : Int) - 1 = ((t : Nat) : Int)) (by omega)) rfl ?_
       refine lx (op_fieldAddr rfl fl29_3 sz27) rfl ?_
       refine lxr (op_store (m := 4) (rs := [_, _, _, _]) rfl rfl rfl (.one (by (first | exact One.eq rfl | exact One.mv _ _ _ _ _ | exact One.cl _ _ _ | exact One.map _ | exact One.sl _ _ _ | exact One.row _ _ _ _ | exact One.msl _ _ _ _ | exact One.ptr _ _ | exact One.b _ | exact One.cells _))) sz27 rfl rfl rfl) rfl ?_
       refine lx_end ⟨by kernel_rfl, ?_⟩
       refine pe_then_normal ?_
       refine tr_sub hC (.cons (t := 3) rfl (.cons (t := 4) rfl (.cons (t := 6) rfl (.cons (t := 12) rfl .nil)))) (.cons (t := 602) rfl (.cons (t := 4) rfl (.cons (t := 3) rfl (.cons (t := 6) rfl (.cons (t := 12) rfl .nil))))) rfl ?_
       rcases t with _ | t
       ·have hC : CxOK (famC ⟨σ0, M, ex, Rf, 124⟩ (2 * 0) ((fun j => fid N1 (200) (2 * (q + 1)) (j + 1))) (famR 43 47 g.frames)) := famC_ok
        refine tr_seq ?_
        refine tr_region (fun N19 hN => ?_)
        refine lx (op_bload (m := 4) rfl rfl ag29 sz29) rfl ?_
        first | refine lx (op_call (l := [(Go.Operand.tmp 92)]) (cur_none _ _ _ _ _) (.cons rfl .nil) fn40) rfl ?_ | refine lx (op_call (l := [(Go.Operand.tmp 92)]) (cur_none _ _ _ _ _) (.ent rfl (by exact ent_auto) .nil) fn40) rfl ?_
        refine lx (op_assign rfl) rfl ?_
        refine lx_end ⟨by kernel_rfl, ?_⟩
        refine pe_then_normal ?_
        refine tr_sub hC (.cons (t := 3) rfl (.cons (t := 4) rfl (.cons (t := 6) rfl (.cons (t := 7) rfl (.cons (t := 12) rfl .nil))))) (.cons (t := 602) rfl (.cons (t := 4) rfl (.cons (t := 3) rfl (.cons (t := 6) rfl (.cons (t := 12) rfl .nil))))) rfl ?_
        refine tr_seq ?_
        refine tr_drawn mixed (fun N20 hN => ?_)
        refine lx (op_move rfl) rfl ?_
        first | refine lxk (op_neq_ptr pt73 rfl (IsPtr.own _ _)) (rfl) rfl ?_ | refine lxk (op_neq_ptr pt73 rfl (IsPtr.cells _)) (rfl) rfl ?_ | refine lxk (op_neq_ptr pt73 rfl (IsPtr.nil)) (rfl) rfl ?_
        refine lx (op_move rfl) rfl ?_
        refine lx_skip rfl rfl rfl (by first | exact notThe_bool rfl | exact notThe_undef) rfl ?_
        refine lx_skip rfl rfl rfl (by first | exact notThe_bool rfl | exact notThe_undef) rfl ?_
        refine lx_skip rfl rfl rfl (by first | exact notThe_bool rfl | exact notThe_undef) rfl ?_
        refine lx (op_pick_f rfl rfl) rfl ?_
        refine lx (op_move rfl) rfl ?_
        refine lx_skip rfl rfl rfl (by first | exact notThe_bool rfl | exact notThe_undef) rfl ?_
        refine lx_skip rfl rfl rfl (by first | exact notThe_bool rfl | exact notThe_undef) rfl ?_
        refine lx_skip rfl rfl rfl (by first | exact notThe_bool rfl | exact notThe_undef) rfl ?_
        refine lx_skip rfl rfl rfl (by first | exact notThe_bool rfl | exact notThe_undef) rfl ?_
        refine lx_skip rfl rfl rfl (by first | exact notThe_bool rfl | exact notThe_undef) rfl ?_
        refine lx_skip rfl rfl rfl (by first | exact notThe_bool rfl | exact notThe_undef) rfl ?_
        refine lx_skip rfl rfl rfl (by first | exact notThe_bool rfl | exact notThe_undef) rfl ?_
        refine lx_skip rfl rfl rfl (by first | exact notThe_bool rfl | exact notThe_undef) rfl ?_
        refine lx (op_pick_f rfl rfl) rfl ?_
        refine lx_end ⟨by kernel_rfl, ?_⟩
        refine pe_then_normal ?_
        refine tr_sub hC (.cons (t := 3) rfl (.cons (t := 4) rfl (.cons (t := 6) rfl (.cons (t := 7) rfl (.cons (t := 12) rfl (.cons (t := 110) rfl .nil)))))) (.cons (t := 602) rfl (.cons (t := 4) rfl (.cons (t := 3) rfl (.cons (t := 6) rfl (.cons (t := 12) rfl .nil))))) rfl ?_
        refine tr_cond_f rfl ?_
        refine tr_skip ?_
        refine pe_block_normal ?_
        refine pe_roundC (⟨(0, u, pureE u :: zs), Nat.zero_le _, (leave_last hlv hnd).symm.trans hst, hub⟩) (by dsimp only; omega) (pe_st hC ?_ ?_ rfl)
        ·try dsimp only [List.cons_append, List.nil_append]
         first | refine SubF.cons rfl ?_ | (refine SubF.ent rfl ?_ ?_; · exact ent_auto)
         first | refine SubF.cons rfl ?_ | (refine SubF.ent rfl ?_ ?_; · exact ent_auto)
         first | refine SubF.cons rfl ?_ | (refine SubF.ent rfl ?_ ?_; · exact ent_auto)
         first | refine SubF.cons rfl ?_ | (refine SubF.ent rfl ?_ ?_; · exact ent_auto)
         exact SubF.nil
        ·try dsimp only [List.cons_append, List.nil_append]
         repeat (first | exact SubL.nil | refine SubL.cons rfl ?_)
       ·have hC : CxOK (famC ⟨σ0, M, ex, Rf, 124⟩ (2 * (t + 1)) ((fun j => fid N1 (200) (2 * (q + 1)) (j + 1))) (famR 43 47 g.frames)) := famC_ok
        obtain ⟨h, hh⟩ : ∃ h, g.frames[t]? = some h := ⟨_, List.getElem?_eq_getElem (by omega)⟩
        have hbh := hb.each h (List.mem_of_getElem? hh)
        refine tr_post (fun X hX => post_rowEq (n := 602) rfl (show rowE g.frames (fun j => fid N1 (200) (2 * (q + 1)) (j + 1)) (t + 1) (2 * (t + 1)) _ = _ from rowE_pop hh) hX) ?_
        refine tr_post (fun X hX => post_famK (show 2 * (t + 1) = 2 * t + 2 by omega) hX) ?_
        have hC : CxOK (famC ⟨σ0, M, ex, Rf, 124⟩ (2 * t + 2) ((fun j => fid N1 (200) (2 * (q + 1)) (j + 1))) (famR 43 47 g.frames)) := famC_ok
        refine tr_post (fun X hX => post_take2 605 606 hh rfl rfl (by omega) rfl (.inl rfl) (.inl rfl) hX) ?_
        have hC : CxOK (famC ⟨σ0, M, ex, Rf, 124⟩ (2 * t) ((fun j => fid N1 (200) (2 * (q + 1)) (j + 1))) (famR 43 47 g.frames)) := famC_ok
        refine tr_seq ?_
        refine tr_region (fun N19 hN => ?_)
        refine lx (op_bload (m := 4) rfl rfl ag29 sz29) rfl ?_
        first | refine lx (op_call (l := [(Go.Operand.tmp 92)]) (cur_some _ _ _ _ t _ (by omega)) (.cons rfl .nil) fn40) rfl ?_ | refine lx (op_call (l := [(Go.Operand.tmp 92)]) (cur_some _ _ _ _ t _ (by omega)) (.ent rfl (by exact ent_auto) .nil) fn40) rfl ?_
        refine lx (op_assign rfl) rfl ?_
        refine lx_end ⟨by kernel_rfl, ?_⟩
        refine pe_then_normal ?_
        refine tr_sub hC (.cons (t := 3) rfl (.cons (t := 4) rfl (.cons (t := 6) rfl (.cons (t := 7) rfl (.cons (t := 12) rfl .nil))))) (.cons (t := 602) rfl (.cons (t := 4) rfl (.cons (t := 3) rfl (.cons (t := 6) rfl (.cons (t := 12) rfl (.cons (t := 605) rfl (.cons (t := 606) rfl .nil))))))) rfl ?_
        refine tr_seq ?_
        refine tr_drawn mixed (fun N20 hN => ?_)
        refine lx (op_move rfl) rfl ?_
        first | refine lxk (op_neq_ptr pt73 rfl (IsPtr.own _ _)) (rfl) rfl ?_ | refine lxk (op_neq_ptr pt73 rfl (IsPtr.cells _)) (rfl) rfl ?_ | refine lxk (op_neq_ptr pt73 rfl (IsPtr.nil)) (rfl) rfl ?_
        refine lx (op_move rfl) rfl ?_
        refine lxg rfl rfl rfl (op_fieldAddr rfl fl60_3 sz3) rfl ?_
        refine lxg rfl rfl rfl (op_bload_one (m := 12) rfl rfl ag3 rfl) rfl ?_
        refine lxg rfl rfl rfl (op_geq rfl rfl) rfl ?_
        refine lx (op_pick_t rfl rfl) rfl ?_
        refine lx (op_move rfl) rfl ?_
        refine lxs rfl rfl rfl guard_eq (.cons (t := 12) rfl (fun _ => Ent.refl _) .nil) (op_fieldAddr rfl fl60_3 sz3) rfl ?_
        refine lxs rfl rfl rfl guard_eq (.cons (t := 102) rfl (fun h => entW h) .nil) (op_bload_one (m := 12) rfl rfl ag3 rfl) rfl ?_
        refine lxs rfl rfl rfl guard_eq (.cons (t := 7) rfl (fun _ => Ent.refl _) .nil) (op_move rfl) rfl ?_
        first | refine lxs rfl rfl rfl guard_eq (.cons (t := 104) rfl (fun h => entW h) .nil) (op_nilCheck rfl) rfl ?_ | refine lxs rfl rfl rfl guard_eq (.cons (t := 104) rfl (fun h => entW h) .nil) (op_nilCheckC rfl) rfl ?_
        refine lxs rfl rfl rfl guard_eq (.cons (t := 105) rfl (fun h => entW h) .nil) (op_fieldAddr rfl fl60_2 sz33) rfl ?_
        refine lxs rfl rfl rfl guard_eq (.cons (t := 106) rfl (fun h => entW h) .nil) (op_tload_one (m := 602) (j := t) (fo := 2) rfl rfl ag33 fmE_len (by omega) (rowE_top (by omega)) rfl) rfl ?_
        first | refine lxs rfl rfl rfl guard_eq (.cons (t := 107) rfl (fun h => entW h) .nil) (op_len rfl el33) rfl ?_ | refine lxs rfl rfl rfl guard_eq (.cons (t := 107) rfl (fun h => entW h) .nil) (op_len_row rfl el33) rfl ?_ | refine lxs rfl rfl rfl guard_eq (.cons (t := 107) rfl (fun h => entW h) .nil) (op_len_mv rfl el33) rfl ?_ | refine lxs rfl rfl rfl guard_eq (.cons (t := 107) rfl (fun h => entW h) .nil) (op_len_nil rfl el33) rfl ?_
        refine lxs rfl rfl rfl guard_eq (.cons (t := 103) rfl (fun h => entW h) (.cons (t := 108) rfl (fun h => entW h) .nil)) (op_lss rfl rfl) rfl ?_
        refine lx (op_pick_and rfl rfl) rfl ?_
        refine lx_end ⟨by kernel_rfl, ?_⟩
        refine pe_then_normal ?_
        refine tr_sub hC (.cons (t := 3) rfl (.cons (t := 4) rfl (.cons (t := 6) rfl (.cons (t := 7) rfl (.cons (t := 12) rfl (.cons (t := 110) rfl .nil)))))) (.cons (t := 602) rfl (.cons (t := 4) rfl (.cons (t := 3) rfl (.cons (t := 6) rfl (.cons (t := 12) rfl (.cons (t := 605) rfl (.cons (t := 606) rfl .nil))))))) rfl ?_
        refine tr_cond rfl (fun h110 => ?_) (fun h110 => ?_)
        ·(try simp only [cq1, cq2, cq3, cq4, cq5, cq6, cq7, cq8, cq9, cq10, cq11, cq12, cq13] at h110)
         refine tr_drawn mixed (fun N21 hN => ?_)
         refine lx (op_move rfl) rfl ?_
         first | refine lx (op_nilCheck rfl) rfl ?_ | refine lx (op_nilCheckC rfl) rfl ?_
         refine lx (op_fieldAddr rfl fl60_2 sz33) rfl ?_
         refine lx (OpJ.ent (op_tload_one (m := 602) (j := t) (fo := 2) rfl rfl ag33 fmE_len (by omega) (rowE_top (by omega)) rfl) (show Ent _ (mvP ((fun j => fid N1 (200) (2 * (q + 1)) (j + 1)) (2 * t)) 3 0 h.regs.length h.regs.length) from (by exact ent_auto))) rfl ?_
         refine lx (op_fieldAddr rfl fl60_3 sz3) rfl ?_
         refine lx (op_bload_one (m := 12) rfl rfl ag3 rfl) rfl ?_
         refine lx (op_fieldAddr rfl fl60_6 sz43) rfl ?_
         refine lx (op_bload_part (m := 12) (qs := [_, _, _]) rfl rfl ag43 sz43 rfl rfl) rfl ?_
         refine lx (op_index_mv rfl rfl el33 sz43 (by omega : u.dest = ((u.dest.toNat : Nat) : Int)) (show u.dest.toNat < h.regs.length by omega)) rfl ?_
         refine lxr (op_tstore (m := 605) (j := u.dest.toNat) (fo := 0) (z' := u.result) rfl rfl rfl (.agg rfl) sz43 rfl vp_len (by omega) (List.getElem?_eq_getElem (by omega : u.dest.toNat < h.regs.length)) rfl rfl) rfl ?_
         refine lx_end ⟨by kernel_rfl, ?_⟩
         refine pe_block_normal ?_
         refine post_seal (m := 605) (n := 602) rfl rfl (by decide) (seal_regs (by simp)) ?_
         refine post_seal (m := 606) (n := 602) rfl rfl (by decide) (seal_defs (by simp)) ?_
         refine pe_roundC (⟨(t + 1, { h with regs := h.regs.set u.dest.toNat u.result }, pureE u :: zs), (by dsimp only; omega), (congrArg (lst g.frames (t + 1)) (ret1_in (f := u) (h := h) (by omega)).symm).trans ((leave_pop hlv hnd hh).symm.trans hst), ⟨by simpa using hbh.regs, hbh.defers, hbh.args⟩⟩) (by dsimp only; omega) (pe_st hC ?_ ?_ rfl)
         ·try dsimp only [List.cons_append, List.nil_append]
          first | refine SubF.cons rfl ?_ | (refine SubF.ent rfl ?_ ?_; · exact ent_auto)
          first | refine SubF.cons rfl ?_ | (refine SubF.ent rfl ?_ ?_; · exact ent_auto)
          first | refine SubF.cons rfl ?_ | (refine SubF.ent rfl ?_ ?_; · exact ent_auto)
          first | refine SubF.cons rfl ?_ | (refine SubF.ent rfl ?_ ?_; · exact ent_auto)
          exact SubF.nil
         ·try dsimp only [List.cons_append, List.nil_append]
          repeat (first | exact SubL.nil | refine SubL.cons rfl ?_)
        ·(try simp only [cq1, cq2, cq3, cq4, cq5, cq6, cq7, cq8, cq9, cq10, cq11, cq12, cq13] at h110)
         refine tr_skip ?_
         refine pe_block_normal ?_
         refine post_seal (m := 605) (n := 602) rfl rfl (by decide) (seal_regs (by simp)) ?_
         refine post_seal (m := 606) (n := 602) rfl rfl (by decide) (seal_defs (by simp)) ?_
         refine pe_roundC (⟨(t + 1, h, pureE u :: zs), (by dsimp only; omega), (congrArg (lst g.frames (t + 1)) (ret1_out (f := u) (h := h) (by omega)).symm).trans ((leave_pop hlv hnd hh).symm.trans hst), hbh⟩) (by dsimp only; omega) (pe_st hC ?_ ?_ rfl)
         ·try dsimp only [List.cons_append, List.nil_append]
          first | refine SubF.cons rfl ?_ | (refine SubF.ent rfl ?_ ?_; · exact ent_auto)
          first | refine SubF.cons rfl ?_ | (refine SubF.ent rfl ?_ ?_; · exact ent_auto)
          first | refine SubF.cons rfl ?_ | (refine SubF.ent rfl ?_ ?_; · exact ent_auto)
          first | refine SubF.cons rfl ?_ | (refine SubF.ent rfl ?_ ?_; · exact ent_auto)
          exact SubF.nil
         ·try dsimp only [List.cons_append, List.nil_append]
          repeat (first | exact SubL.nil | refine SubL.cons rfl ?_)
     ·(try simp only [cq1, cq2, cq3, cq4, cq5, cq6, cq7, cq8, cq9, cq10, cq11, cq12, cq13] at h39)
      have hlv : u.leaving = false := h39
      refine tr_exit ?_
      refine pe_then_exit ?_
      refine pe_then_exit ?_
      refine pe_block_eq ?_
      refine pe_then_normal ?_
      refine tr_sub hC (.cons (t := 4) rfl (.cons (t := 6) rfl (.cons (t := 7) rfl .nil))) (.cons (t := 602) rfl (.cons (t := 4) rfl (.cons (t := 6) rfl .nil))) rfl ?_
      refine tr_seq ?_
      refine tr_seq ?_
      refine tr_region (fun N22 hN => ?_)
      refine lx (op_move rfl) rfl ?_
      first | refine lxk (op_eql_ptr pt73 rfl (IsPtr.own _ _)) (rfl) rfl ?_ | refine lxk (op_eql_ptr pt73 rfl (IsPtr.cells _)) (rfl) rfl ?_ | refine lxk (op_eql_ptr pt73 rfl (IsPtr.nil)) (rfl) rfl ?_
      refine lx_end ⟨by kernel_rfl, ?_⟩
      refine pe_then_normal ?_
      refine tr_sub hC (.cons (t := 4) rfl (.cons (t := 6) rfl (.cons (t := 121) rfl .nil))) (.cons (t := 602) rfl (.cons (t := 4) rfl (.cons (t := 6) rfl .nil))) rfl ?_
      refine tr_cond_f rfl ?_
      refine tr_skip ?_
      refine pe_then_normal ?_
      refine tr_sub hC (.cons (t := 4) rfl (.cons (t := 6) rfl .nil)) (.cons (t := 602) rfl (.cons (t := 4) rfl (.cons (t := 6) rfl .nil))) rfl ?_
      have hfin := leaveF_stop (p := p) hq hl hst hlv
      refine tr_post (fun X hX => post_sealFm (n := 602) (t := 699) hC0 rfl (by omega) (by omega) rfl (.inl rfl) rfl hX) ?_
      have hC := hC0
      refine tr_post (fun X hX => post_rowPs (n := 602) rfl rowPureT hX) ?_
      refine tr_bound 698 (m := 602) rfl ?_
      refine tr_freeze (m := 602) rfl (.cons (t := 4) rfl (.cons (t := 6) rfl (.ent (t := 698) rfl FEnt.frz_bound .nil))) ?_
      refine tr_thaw (t := 698) (n := 4) (qs' := _) rfl (.cons (t := 4) rfl (.cons (t := 6) rfl .nil)) rfl (.cons (.of (Ent.refl _)) (.cons (.of (Ent.refl _)) (.cons (.of (Ent.refl _)) (.cons (fment_part Fm.len (take_part (by omega))) .nil)))) ?_
      refine tr_seq ?_
      refine tr_region (fun N24 hN => ?_)
      refine lx (op_bload (m := 4) rfl rfl ag29 sz29) rfl ?_
      refine lxr (op_store_all (m := 6) rfl rfl rfl (.agg rfl) sz29 rfl) rfl ?_
      refine lx_end ⟨by kernel_rfl, ?_⟩
      refine pe_then_normal ?_
      refine tr_sub hC (.cons (t := 6) rfl .nil) (.cons (t := 6) rfl .nil) rfl ?_
      refine tr_ret ?_
      refine pe_ret1 rfl hO rfl (.cell (m := 6) rfl rfl ag29 sz29 .nil) ?_
      rw [hfin]
      exact ent_auto
end Go.Proofs.Ythiknhmoefbanaa


set_option linter.unusedVariables false
set_option linter.unusedSimpArgs false
namespace Go.Proofs.Ythiknhmoefbanaa
open Go.AL Go.Ch Go.Hp Go.RowKit
end Go.Proofs.Ythiknhmoefbanaa


set_option linter.unusedVariables false
set_option linter.unusedSimpArgs false
namespace Go.Proofs.Ythiknhmoefbanaa
open Go.AL Go.Ch Go.Hp Go.RowKit
theorem ag62 : aggB Try.prog 62 = some false := by kernel_rfl
theorem ag89 : aggB Try.prog 89 = some false := by kernel_rfl
theorem ag91 : aggB Try.prog 91 = some true := by kernel_rfl
theorem ag97 : aggB Try.prog 97 = some true := by kernel_rfl
theorem ag98 : aggB Try.prog 98 = some false := by kernel_rfl
theorem el89 : elemB Try.prog 89 = some 97 := by kernel_rfl
theorem el92 : elemB Try.prog 92 = some 91 := by kernel_rfl
theorem fl43_0 : fldB Try.prog 43 0 = some (0, 3) := by kernel_rfl
theorem fl43_1 : fldB Try.prog 43 1 = some (1, 3) := by kernel_rfl
theorem fl43_2 : fldB Try.prog 43 2 = some (2, 3) := by kernel_rfl
theorem fl91_0 : fldB Try.prog 91 0 = some (0, 3) := by kernel_rfl
theorem fl91_1 : fldB Try.prog 91 1 = some (1, 33) := by kernel_rfl
theorem fl91_2 : fldB Try.prog 91 2 = some (2, 4) := by kernel_rfl
theorem fl91_3 : fldB Try.prog 91 3 = some (3, 3) := by kernel_rfl
theorem fl91_4 : fldB Try.prog 91 4 = some (4, 33) := by kernel_rfl
theorem fl91_5 : fldB Try.prog 91 5 = some (5, 4) := by kernel_rfl
theorem fl91_6 : fldB Try.prog 91 6 = some (6, 3) := by kernel_rfl
theorem fl91_7 : fldB Try.prog 91 7 = some (7, 3) := by kernel_rfl
theorem fl91_8 : fldB Try.prog 91 8 = some (8, 89) := by kernel_rfl
theorem fl91_9 : fldB Try.prog 91 9 = some (9, 89) := by kernel_rfl
theorem fl97_0 : fldB Try.prog 97 0 = some (0, 3) := by kernel_rfl
theorem fl97_1 : fldB Try.prog 97 1 = some (1, 3) := by kernel_rfl
theorem fl97_2 : fldB Try.prog 97 2 = some (2, 43) := by kernel_rfl
theorem fn32 : fnB Try.prog 32 = true := by kernel_rfl
theorem fn50 : fnB Try.prog 50 = true := by kernel_rfl
theorem fn51 : fnB Try.prog 51 = true := by kernel_rfl
theorem fn52 : fnB Try.prog 52 = true := by kernel_rfl
theorem fn53 : fnB Try.prog 53 = true := by kernel_rfl
theorem fn54 : fnB Try.prog 54 = true := by kernel_rfl
theorem fn55 : fnB Try.prog 55 = true := by kernel_rfl
theorem fn56 : fnB Try.prog 56 = true := by kernel_rfl
theorem fn57 : fnB Try.prog 57 = true := by kernel_rfl
theorem fn58 : fnB Try.prog 58 = true := by kernel_rfl
theorem fn59 : fnB Try.prog 59 = true := by kernel_rfl
theorem fn60 : fnB Try.prog 60 = true := by kernel_rfl
theorem fn61 : fnB Try.prog 61 = true := by kernel_rfl
theorem fs91 : sizesB Try.prog 91 = true := by kernel_rfl
theorem sz89 : sizeB Try.prog 89 = some 1 := by kernel_rfl
theorem sz91 : sizeB Try.prog 91 = some 10 := by kernel_rfl
theorem sz97 : sizeB Try.prog 97 = some 5 := by kernel_rfl
theorem ze91 : zeroB Try.prog 91 = some (some (.agg #[.int .i64 0, .slice none 0 0, .bool false, .int .i64 0, .slice none 0 0, .bool false, .int .i64 0, .int .i64 0, .slice none 0 0, .slice none 0 0])) := by kernel_rfl
theorem rvval_ok (v : V) : FnP Try.prog 32 [aggP (vp v)] (eqP (.bool (vval v))) := by
 refine fn_pure' Try.func32 rfl Try.ntmps32 rfl ?_
 intro σ0 M ex Rf R hC hO
 simp only [frameOf, tokOf]
 refine tr_seq ?_
 refine tr_region (fun N0 hN => ?_)
 refine lxn (op_box (m := 1) (k := 1) rfl (.agg rfl) (by first | exact hC.low _ (by decide) | rfl)) rfl ?_
 refine lx (op_assign rfl) rfl ?_
 refine lx_end ⟨by kernel_rfl, ?_⟩
 refine pe_then_normal ?_
 refine tr_sub hC (.cons (t := 1) rfl .nil) (.cons (t := 1) rfl .nil) rfl ?_
 refine tr_seq ?_
 refine tr_seq ?_
 refine tr_region (fun N1 hN => ?_)
 refine lx (op_fieldAddr rfl fl43_0 sz3) rfl ?_
 refine lx (op_bload_one (m := 1) rfl rfl ag3 rfl) rfl ?_
 refine lx_end ⟨by kernel_rfl, ?_⟩
 refine pe_then_normal ?_
 refine tr_sub hC (.cons (t := 1) rfl (.cons (t := 4) rfl .nil)) (.cons (t := 1) rfl .nil) rfl ?_
 refine tr_block ?_
 refine tr_seq ?_
 refine tr_region (fun N2 hN => ?_)
 refine lx (op_eql rfl rfl) rfl ?_
 refine lx (op_assign rfl) rfl ?_
 refine lx_end ⟨by kernel_rfl, ?_⟩
 refine pe_then_normal ?_
 refine tr_sub hC (.cons (t := 1) rfl (.cons (t := 4) rfl (.cons (t := 5) rfl .nil))) (.cons (t := 1) rfl .nil) rfl ?_
 refine tr_cond rfl (fun h5 => ?_) (fun h5 => ?_)
 ·(try simp only [cq1, cq2, cq3, cq4, cq5, cq6, cq7, cq8, cq9, cq10, cq11, cq12, cq13] at h5)
  have h := vval_0 h5
  refine tr_seq ?_
  refine tr_region (fun N3 hN => ?_)
  refine lx (op_fieldAddr rfl fl43_2 sz3) rfl ?_
  refine lx (op_bload_one (m := 1) rfl rfl ag3 rfl) rfl ?_
  refine lx (op_eql rfl rfl) rfl ?_
  refine lx (op_assign rfl) rfl ?_
  refine lx_end ⟨by kernel_rfl, ?_⟩
  refine pe_then_normal ?_
  refine tr_sub hC (.cons (t := 2) rfl .nil) .nil rfl ?_
  refine tr_ret ?_
  refine pe_block_ret ?_
  refine pe_then_ret ?_
  refine pe_ret1 rfl hO rfl (.tmp rfl .nil) ?_
  exact entB h.symm
 ·(try simp only [cq1, cq2, cq3, cq4, cq5, cq6, cq7, cq8, cq9, cq10, cq11, cq12, cq13] at h5)
  refine tr_seq ?_
  refine tr_region (fun N4 hN => ?_)
  refine lx (op_eql rfl rfl) rfl ?_
  refine lx (op_assign rfl) rfl ?_
  refine lx_end ⟨by kernel_rfl, ?_⟩
  refine pe_then_normal ?_
  refine tr_sub hC (.cons (t := 1) rfl (.cons (t := 4) rfl (.cons (t := 10) rfl .nil))) (.cons (t := 1) rfl .nil) rfl ?_
  refine tr_cond rfl (fun h10 => ?_) (fun h10 => ?_)
  ·(try simp only [cq1, cq2, cq3, cq4, cq5, cq6, cq7, cq8, cq9, cq10, cq11, cq12, cq13] at h10)
   have h := vval_1 h5 h10
   refine tr_seq ?_
   refine tr_region (fun N5 hN => ?_)
   refine lx (op_fieldAddr rfl fl43_1 sz3) rfl ?_
   refine lx (op_bload_one (m := 1) rfl rfl ag3 rfl) rfl ?_
   refine lx (op_eql rfl rfl) rfl ?_
   refine lx (op_move rfl) rfl ?_
   refine lxs rfl rfl rfl guard_eq (.cons (t := 1) rfl (fun _ => Ent.refl _) .nil) (op_fieldAddr rfl fl43_2 sz3) rfl ?_
   refine lxs rfl rfl rfl guard_eq (.cons (t := 16) rfl (fun h => entW h) .nil) (op_bload_one (m := 1) rfl rfl ag3 rfl) rfl ?_
   refine lxs rfl rfl rfl guard_eq (.cons (t := 17) rfl (fun h => entW h) .nil) (op_eql rfl rfl) rfl ?_
   refine lx (op_pick_and rfl rfl) rfl ?_
   refine lx (op_assign rfl) rfl ?_
   refine lx_end ⟨by kernel_rfl, ?_⟩
   refine pe_then_normal ?_
   refine tr_sub hC (.cons (t := 2) rfl .nil) .nil rfl ?_
   refine tr_ret ?_
   refine pe_block_ret ?_
   refine pe_then_ret ?_
   refine pe_ret1 rfl hO rfl (.tmp rfl .nil) ?_
   exact entB h.symm
  ·(try simp only [cq1, cq2, cq3, cq4, cq5, cq6, cq7, cq8, cq9, cq10, cq11, cq12, cq13] at h10)
   refine tr_seq ?_
   refine tr_region (fun N6 hN => ?_)
   refine lx (op_eql rfl rfl) rfl ?_
   refine lx (op_assign rfl) rfl ?_
   refine lx_end ⟨by kernel_rfl, ?_⟩
   refine pe_then_normal ?_
   refine tr_sub hC (.cons (t := 1) rfl (.cons (t := 20) rfl .nil)) (.cons (t := 1) rfl .nil) rfl ?_
   refine tr_cond rfl (fun h20 => ?_) (fun h20 => ?_)
   ·(try simp only [cq1, cq2, cq3, cq4, cq5, cq6, cq7, cq8, cq9, cq10, cq11, cq12, cq13] at h20)
    have h := vval_2 h5 h10 h20
    refine tr_seq ?_
    refine tr_region (fun N7 hN => ?_)
    refine lx (op_fieldAddr rfl fl43_1 sz3) rfl ?_
    refine lx (op_bload_one (m := 1) rfl rfl ag3 rfl) rfl ?_
    refine lx (op_geq rfl rfl) rfl ?_
    refine lx (op_move rfl) rfl ?_
    refine lxs rfl rfl rfl guard_eq (.cons (t := 1) rfl (fun _ => Ent.refl _) .nil) (op_fieldAddr rfl fl43_2 sz3) rfl ?_
    refine lxs rfl rfl rfl guard_eq (.cons (t := 26) rfl (fun h => entW h) .nil) (op_bload_one (m := 1) rfl rfl ag3 rfl) rfl ?_
    refine lxs rfl rfl rfl guard_eq (.cons (t := 27) rfl (fun h => entW h) .nil) (op_geq rfl rfl) rfl ?_
    refine lx (op_pick_and rfl rfl) rfl ?_
    refine lx (op_move rfl) rfl ?_
    refine lxs rfl rfl rfl guard_eq (.cons (t := 1) rfl (fun _ => Ent.refl _) .nil) (op_fieldAddr rfl fl43_2 sz3) rfl ?_
    refine lxs rfl rfl rfl guard_eq (.cons (t := 31) rfl (fun h => entW h) .nil) (op_bload_one (m := 1) rfl rfl ag3 rfl) rfl ?_
    refine lxs rfl rfl rfl guard_eq (.cons (t := 32) rfl (fun h => entW h) .nil) (op_leq rfl rfl) rfl ?_
    refine lx (op_pick_and rfl rfl) rfl ?_
    refine lx (op_assign rfl) rfl ?_
    refine lx_end ⟨by kernel_rfl, ?_⟩
    refine pe_then_normal ?_
    refine tr_sub hC (.cons (t := 2) rfl .nil) .nil rfl ?_
    refine tr_ret ?_
    refine pe_block_ret ?_
    refine pe_then_ret ?_
    refine pe_ret1 rfl hO rfl (.tmp rfl .nil) ?_
    exact entB h.symm
   ·(try simp only [cq1, cq2, cq3, cq4, cq5, cq6, cq7, cq8, cq9, cq10, cq11, cq12, cq13] at h20)
    have h := vval_3 h5 h10 h20
    refine tr_skip ?_
    refine pe_block_normal ?_
    refine pe_then_normal ?_
    refine tr_sub hC .nil .nil rfl ?_
    refine tr_seq ?_
    refine tr_region (fun N8 hN => ?_)
    refine lx (op_assign rfl) rfl ?_
    refine lx_end ⟨by kernel_rfl, ?_⟩
    refine pe_then_normal ?_
    refine tr_sub hC (.cons (t := 2) rfl .nil) .nil rfl ?_
    refine tr_ret ?_
    refine pe_ret1 rfl hO rfl (.tmp rfl .nil) ?_
    exact entB h.symm
theorem vval_ok (v : V) : FnP Try.prog 53 [aggP (vp v)] (eqP (.bool (vval v))) := by
 refine fn_pure' Try.func53 rfl Try.ntmps53 rfl ?_
 intro σ0 M ex Rf R hC hO
 simp only [frameOf, tokOf]
 refine tr_seq ?_
 refine tr_region (fun N0 hN => ?_)
 refine lxn (op_box (m := 1) (k := 1) rfl (.agg rfl) (by first | exact hC.low _ (by decide) | rfl)) rfl ?_
 refine lx (op_assign rfl) rfl ?_
 refine lx_end ⟨by kernel_rfl, ?_⟩
 refine pe_then_normal ?_
 refine tr_sub hC (.cons (t := 1) rfl .nil) (.cons (t := 1) rfl .nil) rfl ?_
 refine tr_seq ?_
 refine tr_seq ?_
 refine tr_region (fun N1 hN => ?_)
 refine lx (op_fieldAddr rfl fl43_0 sz3) rfl ?_
 refine lx (op_bload_one (m := 1) rfl rfl ag3 rfl) rfl ?_
 refine lx_end ⟨by kernel_rfl, ?_⟩
 refine pe_then_normal ?_
 refine tr_sub hC (.cons (t := 1) rfl (.cons (t := 4) rfl .nil)) (.cons (t := 1) rfl .nil) rfl ?_
 refine tr_block ?_
 refine tr_seq ?_
 refine tr_region (fun N2 hN => ?_)
 refine lx (op_eql rfl rfl) rfl ?_
 refine lx (op_assign rfl) rfl ?_
 refine lx_end ⟨by kernel_rfl, ?_⟩
 refine pe_then_normal ?_
 refine tr_sub hC (.cons (t := 1) rfl (.cons (t := 4) rfl (.cons (t := 5) rfl .nil))) (.cons (t := 1) rfl .nil) rfl ?_
 refine tr_cond rfl (fun h5 => ?_) (fun h5 => ?_)
 ·(try simp only [cq1, cq2, cq3, cq4, cq5, cq6, cq7, cq8, cq9, cq10, cq11, cq12, cq13] at h5)
  have h := vval_0 h5
  refine tr_seq ?_
  refine tr_region (fun N3 hN => ?_)
  refine lx (op_fieldAddr rfl fl43_2 sz3) rfl ?_
  refine lx (op_bload_one (m := 1) rfl rfl ag3 rfl) rfl ?_
  refine lx (op_eql rfl rfl) rfl ?_
  refine lx (op_assign rfl) rfl ?_
  refine lx_end ⟨by kernel_rfl, ?_⟩
  refine pe_then_normal ?_
  refine tr_sub hC (.cons (t := 2) rfl .nil) .nil rfl ?_
  refine tr_ret ?_
  refine pe_block_ret ?_
  refine pe_then_ret ?_
  refine pe_ret1 rfl hO rfl (.tmp rfl .nil) ?_
  exact entB h.symm
 ·(try simp only [cq1, cq2, cq3, cq4, cq5, cq6, cq7, cq8, cq9, cq10, cq11, cq12, cq13] at h5)
  refine tr_seq ?_
  refine tr_region (fun N4 hN => ?_)
  refine lx (op_eql rfl rfl) rfl ?_
  refine lx (op_assign rfl) rfl ?_
  refine lx_end ⟨by kernel_rfl, ?_⟩
  refine pe_then_normal ?_
  refine tr_sub hC (.cons (t := 1) rfl (.cons (t := 4) rfl (.cons (t := 10) rfl .nil))) (.cons (t := 1) rfl .nil) rfl ?_
  refine tr_cond rfl (fun h10 => ?_) (fun h10 => ?_)
  ·(try simp only [cq1, cq2, cq3, cq4, cq5, cq6, cq7, cq8, cq9, cq10, cq11, cq12, cq13] at h10)
   have h := vval_1 h5 h10
   refine tr_seq ?_
   refine tr_region (fun N5 hN => ?_)
   refine lx (op_fieldAddr rfl fl43_1 sz3) rfl ?_
   refine lx (op_bload_one (m := 1) rfl rfl ag3 rfl) rfl ?_
   refine lx (op_eql rfl rfl) rfl ?_
   refine lx (op_move rfl) rfl ?_
   refine lxs rfl rfl rfl guard_eq (.cons (t := 1) rfl (fun _ => Ent.refl _) .nil) (op_fieldAddr rfl fl43_2 sz3) rfl ?_
   refine lxs rfl rfl rfl guard_eq (.cons (t := 16) rfl (fun h => entW h) .nil) (op_bload_one (m := 1) rfl rfl ag3 rfl) rfl ?_
   refine lxs rfl rfl rfl guard_eq (.cons (t := 17) rfl (fun h => entW h) .nil) (op_eql rfl rfl) rfl ?_
   refine lx (op_pick_and rfl rfl) rfl ?_
   refine lx (op_assign rfl) rfl ?_
   refine lx_end ⟨by kernel_rfl, ?_⟩
   refine pe_then_normal ?_
   refine tr_sub hC (.cons (t := 2) rfl .nil) .nil rfl ?_
   refine tr_ret ?_
   refine pe_block_ret ?_
   refine pe_then_ret ?_
   refine pe_ret1 rfl hO rfl (.tmp rfl .nil) ?_
   exact entB h.symm
  ·(try simp only [cq1, cq2, cq3, cq4, cq5, cq6, cq7, cq8, cq9, cq10, cq11, cq12, cq13] at h10)
   refine tr_seq ?_
   refine tr_region (fun N6 hN => ?_)
   refine lx (op_eql rfl rfl) rfl ?_
   refine lx (op_assign rfl) rfl ?_
   refine lx_end ⟨by kernel_rfl, ?_⟩
   refine pe_then_normal ?_
   refine tr_sub hC (.cons (t := 1) rfl (.cons (t := 20) rfl .nil)) (.cons (t := 1) rfl .nil) rfl ?_
   refine tr_cond rfl (fun h20 => ?_) (fun h20 => ?_)
   ·(try simp only [cq1, cq2, cq3, cq4, cq5, cq6, cq7, cq8, cq9, cq10, cq11, cq12, cq13] at h20)
    have h := vval_2 h5 h10 h20
    refine tr_seq ?_
    refine tr_region (fun N7 hN => ?_)
    refine lx (op_fieldAddr rfl fl43_1 sz3) rfl ?_
    refine lx (op_bload_one (m := 1) rfl rfl ag3 rfl) rfl ?_
    refine lx (op_geq rfl rfl) rfl ?_
    refine lx (op_move rfl) rfl ?_
    refine lxs rfl rfl rfl guard_eq (.cons (t := 1) rfl (fun _ => Ent.refl _) .nil) (op_fieldAddr rfl fl43_2 sz3) rfl ?_
    refine lxs rfl rfl rfl guard_eq (.cons (t := 26) rfl (fun h => entW h) .nil) (op_bload_one (m := 1) rfl rfl ag3 rfl) rfl ?_
    refine lxs rfl rfl rfl guard_eq (.cons (t := 27) rfl (fun h => entW h) .nil) (op_geq rfl rfl) rfl ?_
    refine lx (op_pick_and rfl rfl) rfl ?_
    refine lx (op_move rfl) rfl ?_
    refine lxs rfl rfl rfl guard_eq (.cons (t := 1) rfl (fun _ => Ent.refl _) .nil) (op_fieldAddr rfl fl43_2 sz3) rfl ?_
    refine lxs rfl rfl rfl guard_eq (.cons (t := 31) rfl (fun h => entW h) .nil) (op_bload_one (m := 1) rfl rfl ag3 rfl) rfl ?_
    refine lxs rfl rfl rfl guard_eq (.cons (t := 32) rfl (fun h => entW h) .nil) (op_leq rfl rfl) rfl ?_
    refine lx (op_pick_and rfl rfl) rfl ?_
    refine lx (op_assign rfl) rfl ?_
    refine lx_end ⟨by kernel_rfl, ?_⟩
    refine pe_then_normal ?_
    refine tr_sub hC (.cons (t := 2) rfl .nil) .nil rfl ?_
    refine tr_ret ?_
    refine pe_block_ret ?_
    refine pe_then_ret ?_
    refine pe_ret1 rfl hO rfl (.tmp rfl .nil) ?_
    exact entB h.symm
   ·(try simp only [cq1, cq2, cq3, cq4, cq5, cq6, cq7, cq8, cq9, cq10, cq11, cq12, cq13] at h20)
    have h := vval_3 h5 h10 h20
    refine tr_skip ?_
    refine pe_block_normal ?_
    refine pe_then_normal ?_
    refine tr_sub hC .nil .nil rfl ?_
    refine tr_seq ?_
    refine tr_region (fun N8 hN => ?_)
    refine lx (op_assign rfl) rfl ?_
    refine lx_end ⟨by kernel_rfl, ?_⟩
    refine pe_then_normal ?_
    refine tr_sub hC (.cons (t := 2) rfl .nil) .nil rfl ?_
    refine tr_ret ?_
    refine pe_ret1 rfl hO rfl (.tmp rfl .nil) ?_
    exact entB h.symm
theorem rvvals_ok (xs : List V) (hx : xs.length ≤ 9223372036854775807) : FnP Try.prog 33 [slP vp 3 xs] (eqP (.bool (xs.all vval))) := by
 refine fn_pure' Try.func33 rfl Try.ntmps33 rfl ?_
 intro σ0 M ex Rf R hC hO
 simp only [frameOf, tokOf]
 refine tr_seq ?_
 refine tr_region (fun N0 hN => ?_)
 refine lx (op_assign rfl) rfl ?_
 refine lx_end ⟨by kernel_rfl, ?_⟩
 refine pe_then_normal ?_
 refine tr_sub hC (.cons (t := 0) rfl .nil) .nil rfl ?_
 refine tr_seq ?_
 refine tr_seq ?_
 refine tr_region (fun N1 hN => ?_)
 refine lx (op_assign rfl) rfl ?_
 refine lx_end ⟨by kernel_rfl, ?_⟩
 refine pe_then_normal ?_
 refine tr_sub hC (.cons (t := 0) rfl (.cons (t := 3) rfl .nil)) .nil rfl ?_
 refine tr_block ?_
 refine tr_loopK (α := {zz : Nat // zz ≤ xs.length ∧ (xs.take zz).all vval = true}) (⟨(0), Nat.zero_le _, by simp⟩) (fun zz => [(3, eqP (.int .i64 (zz.1 : Int)))]) (fun zz => []) (fun zz => xs.length - zz.1) hC (.cons (t := 0) rfl .nil) .nil rfl ?_ ?_ (fun zz => ?_)
 ·try dsimp only [List.cons_append, List.nil_append]
  first | refine SubF.cons rfl ?_ | (refine SubF.ent rfl ?_ ?_; · exact ent_auto)
  exact SubF.nil
 ·try dsimp only [List.cons_append, List.nil_append]
  repeat (first | exact SubL.nil | refine SubL.cons rfl ?_)
 ·obtain ⟨k, hk1, hk2⟩ := zz
  dsimp only [List.cons_append, List.nil_append]
  refine tr_seq ?_
  refine tr_seq ?_
  refine tr_region (fun N2 hN => ?_)
  refine lx (op_move rfl) rfl ?_
  refine lx (op_move rfl) rfl ?_
  first | refine lx (op_len rfl el33) rfl ?_ | refine lx (op_len_row rfl el33) rfl ?_ | refine lx (op_len_mv rfl el33) rfl ?_ | refine lx (op_len_nil rfl el33) rfl ?_
  refine lx (op_lss rfl rfl) rfl ?_
  refine lx_end ⟨by kernel_rfl, ?_⟩
  refine pe_then_normal ?_
  refine tr_sub hC (.cons (t := 0) rfl (.cons (t := 3) rfl (.cons (t := 7) rfl .nil))) .nil rfl ?_
  refine tr_cond rfl (fun h7 => ?_) (fun h7 => ?_)
  ·(try simp only [cq1, cq2, cq3, cq4, cq5, cq6, cq7, cq8, cq9, cq10, cq11, cq12, cq13] at h7)
   refine tr_skip ?_
   refine pe_then_normal ?_
   refine tr_sub hC (.cons (t := 0) rfl (.cons (t := 3) rfl .nil)) .nil rfl ?_
   refine tr_seq ?_
   refine tr_block ?_
   refine tr_seq ?_
   refine tr_region (fun N4 hN => ?_)
   refine lx (op_move rfl) rfl ?_
   refine lx (op_move rfl) rfl ?_
   refine lx (op_index rfl rfl el33 sz43 rfl (List.getElem?_eq_getElem (by omega : k < xs.length))) rfl ?_
   first | refine lx (op_load_all rfl ag43 sz43) rfl ?_ | refine lx (op_load_agg rfl ag43 sz43 rfl) rfl ?_
   first | refine lx (op_call (l := [(Go.Operand.tmp 13)]) (rvval_ok xs[k]) (.cons rfl .nil) fn32) rfl ?_ | refine lx (op_call (l := [(Go.Operand.tmp 13)]) (rvval_ok xs[k]) (.ent rfl (by exact ent_auto) .nil) fn32) rfl ?_
   first | refine lx (op_not rfl) rfl ?_ | refine lx (op_not_b rfl) rfl ?_
   refine lx_end ⟨by kernel_rfl, ?_⟩
   refine pe_then_normal ?_
   refine tr_sub hC (.cons (t := 0) rfl (.cons (t := 3) rfl (.cons (t := 15) rfl .nil))) .nil rfl ?_
   refine tr_cond rfl (fun h15 => ?_) (fun h15 => ?_)
   ·(try simp only [cq1, cq2, cq3, cq4, cq5, cq6, cq7, cq8, cq9, cq10, cq11, cq12, cq13] at h15)
    have hbad := all_bad (φ := vval) (by omega : k < xs.length) h15
    refine tr_seq ?_
    refine tr_region (fun N5 hN => ?_)
    refine lx (op_assign rfl) rfl ?_
    refine lx_end ⟨by kernel_rfl, ?_⟩
    refine pe_then_normal ?_
    refine tr_sub hC (.cons (t := 2) rfl .nil) .nil rfl ?_
    refine tr_ret ?_
    refine pe_block_ret ?_
    refine pe_then_ret ?_
    refine pe_then_ret ?_
    refine pe_block_ret ?_
    refine pe_then_ret ?_
    refine pe_ret1 rfl hO rfl (.tmp rfl .nil) ?_
    exact entB hbad.symm
   ·(try simp only [cq1, cq2, cq3, cq4, cq5, cq6, cq7, cq8, cq9, cq10, cq11, cq12, cq13] at h15)
    refine tr_skip ?_
    refine pe_block_normal ?_
    refine pe_then_normal ?_
    refine tr_sub hC (.cons (t := 0) rfl (.cons (t := 3) rfl .nil)) .nil rfl ?_
    refine tr_region (fun N3 hN => ?_)
    refine lx (op_move rfl) rfl ?_
    refine lx (op_add rfl rfl (by omega)) rfl ?_
    refine lx (op_assign rfl) rfl ?_
    refine lx_end ⟨by kernel_rfl, ?_⟩
    refine pe_round (⟨(k + 1), by omega, all_step (φ := vval) hk2 (by omega) h15⟩) (by dsimp only; omega) (pe_st hC ?_ ?_ rfl)
    ·try dsimp only [List.cons_append, List.nil_append]
     first | refine SubF.cons rfl ?_ | (refine SubF.ent rfl ?_ ?_; · exact ent_auto)
     first | refine SubF.cons rfl ?_ | (refine SubF.ent rfl ?_ ?_; · exact ent_auto)
     exact SubF.nil
    ·try dsimp only [List.cons_append, List.nil_append]
     repeat (first | exact SubL.nil | refine SubL.cons rfl ?_)
  ·(try simp only [cq1, cq2, cq3, cq4, cq5, cq6, cq7, cq8, cq9, cq10, cq11, cq12, cq13] at h7)
   have hfin := all_end hk2 (by omega)
   refine tr_exit ?_
   refine pe_then_exit ?_
   refine pe_then_exit ?_
   refine pe_block_eq ?_
   refine pe_then_normal ?_
   refine tr_sub hC .nil .nil rfl ?_
   refine tr_seq ?_
   refine tr_region (fun N6 hN => ?_)
   refine lx (op_assign rfl) rfl ?_
   refine lx_end ⟨by kernel_rfl, ?_⟩
   refine pe_then_normal ?_
   refine tr_sub hC (.cons (t := 2) rfl .nil) .nil rfl ?_
   refine tr_ret ?_
   refine pe_ret1 rfl hO rfl (.tmp rfl .nil) ?_
   exact entB hfin.symm
theorem wval_ok (w : Wt) : FnP Try.prog 55 [aggP (wp w)] (eqP (.bool (wval w))) := by
 refine fn_pure' Try.func55 rfl Try.ntmps55 rfl ?_
 intro σ0 M ex Rf R hC hO
 simp only [frameOf, tokOf]
 refine tr_seq ?_
 refine tr_region (fun N0 hN => ?_)
 refine lxn (op_box (m := 1) (k := 1) rfl (.agg rfl) (by first | exact hC.low _ (by decide) | rfl)) rfl ?_
 refine lx (op_assign rfl) rfl ?_
 refine lx_end ⟨by kernel_rfl, ?_⟩
 refine pe_then_normal ?_
 refine tr_sub hC (.cons (t := 1) rfl .nil) (.cons (t := 1) rfl .nil) rfl ?_
 refine tr_seq ?_
 refine tr_region (fun N1 hN => ?_)
 refine lx (op_fieldAddr rfl fl97_0 sz3) rfl ?_
 refine lx (op_bload_one (m := 1) rfl rfl ag3 rfl) rfl ?_
 refine lx (op_geq rfl rfl) rfl ?_
 refine lx (op_move rfl) rfl ?_
 refine lxs rfl rfl rfl guard_eq (.cons (t := 1) rfl (fun _ => Ent.refl _) .nil) (op_fieldAddr rfl fl97_0 sz3) rfl ?_
 refine lxs rfl rfl rfl guard_eq (.cons (t := 7) rfl (fun h => entW h) .nil) (op_bload_one (m := 1) rfl rfl ag3 rfl) rfl ?_
 refine lxs rfl rfl rfl guard_eq (.cons (t := 8) rfl (fun h => entW h) .nil) (op_lss rfl rfl) rfl ?_
 refine lx (op_pick_and rfl rfl) rfl ?_
 refine lx (op_move rfl) rfl ?_
 refine lxs rfl rfl rfl guard_eq (.cons (t := 1) rfl (fun _ => Ent.refl _) .nil) (op_fieldAddr rfl fl97_1 sz3) rfl ?_
 refine lxs rfl rfl rfl guard_eq (.cons (t := 12) rfl (fun h => entW h) .nil) (op_bload_one (m := 1) rfl rfl ag3 rfl) rfl ?_
 refine lxs rfl rfl rfl guard_eq (.cons (t := 13) rfl (fun h => entW h) .nil) (op_geq rfl rfl) rfl ?_
 refine lx (op_pick_and rfl rfl) rfl ?_
 refine lx (op_move rfl) rfl ?_
 refine lxs rfl rfl rfl guard_eq (.cons (t := 1) rfl (fun _ => Ent.refl _) .nil) (op_fieldAddr rfl fl97_1 sz3) rfl ?_
 refine lxs rfl rfl rfl guard_eq (.cons (t := 17) rfl (fun h => entW h) .nil) (op_bload_one (m := 1) rfl rfl ag3 rfl) rfl ?_
 refine lxs rfl rfl rfl guard_eq (.cons (t := 18) rfl (fun h => entW h) .nil) (op_leq rfl rfl) rfl ?_
 refine lx (op_pick_and rfl rfl) rfl ?_
 refine lx (op_move rfl) rfl ?_
 refine lxs rfl rfl rfl guard_eq (.cons (t := 1) rfl (fun _ => Ent.refl _) .nil) (op_fieldAddr rfl fl97_2 sz43) rfl ?_
 refine lxs rfl rfl rfl guard_eq (.cons (t := 22) rfl (fun h => entW h) .nil) (op_bload_part (m := 1) (qs := [_, _, _]) rfl rfl ag43 sz43 rfl rfl) rfl ?_
 first | refine lxs rfl rfl rfl guard_eq (.cons (t := 23) rfl (fun h => entW h) .nil) (op_call (l := [(Go.Operand.tmp 23)]) (vval_ok w.v) (.cons rfl .nil) fn53) rfl ?_ | refine lxs rfl rfl rfl guard_eq (.cons (t := 23) rfl (fun h => entW h) .nil) (op_call (l := [(Go.Operand.tmp 23)]) (vval_ok w.v) (.ent rfl (by exact ent_auto) .nil) fn53) rfl ?_
 refine lx (op_pick_and rfl rfl) rfl ?_
 refine lx (op_assign rfl) rfl ?_
 refine lx_end ⟨by kernel_rfl, ?_⟩
 refine pe_then_normal ?_
 refine tr_sub hC (.cons (t := 2) rfl .nil) .nil rfl ?_
 refine tr_ret ?_
 refine pe_ret1 rfl hO rfl (.tmp rfl .nil) ?_
 exact ent_auto
theorem idxV_ok (q : FuncId) (caps : List Pred) (φ : V → Bool) (hq : ∀ w, FnP Try.prog q ([] ++ [aggP (vp w)] ++ caps) (eqP (.bool (φ w)))) (hf : fnB Try.prog q = true) (xs : List V) (hx : xs.length ≤ 9223372036854775807) : FnP Try.prog 60 [slP vp 3 xs, clP q [] caps] (eqP (.int .i64 (idxF φ xs))) := by
 refine fn_pure' Try.func60 rfl Try.ntmps60 rfl ?_
 intro σ0 M ex Rf R hC hO
 simp only [frameOf, tokOf]
 refine tr_seq ?_
 refine tr_region (fun N0 hN => ?_)
 refine lx (op_assign rfl) rfl ?_
 refine lx_end ⟨by kernel_rfl, ?_⟩
 refine pe_then_normal ?_
 refine tr_sub hC (.cons (t := 0) rfl (.cons (t := 1) rfl .nil)) .nil rfl ?_
 refine tr_seq ?_
 refine tr_seq ?_
 refine tr_region (fun N1 hN => ?_)
 refine lx (op_move rfl) rfl ?_
 first | refine lx (op_len rfl el33) rfl ?_ | refine lx (op_len_row rfl el33) rfl ?_ | refine lx (op_len_mv rfl el33) rfl ?_ | refine lx (op_len_nil rfl el33) rfl ?_
 refine lx (op_move rfl) rfl ?_
 refine lx_end ⟨by kernel_rfl, ?_⟩
 refine pe_then_normal ?_
 refine tr_sub hC (.cons (t := 0) rfl (.cons (t := 1) rfl (.cons (t := 7) rfl (.cons (t := 8) rfl .nil)))) .nil rfl ?_
 refine tr_block ?_
 refine tr_loopK (α := {zz : Nat // zz ≤ xs.length ∧ ∀ x ∈ xs.take zz, φ x = false}) (⟨(0), Nat.zero_le _, by simp⟩) (fun zz => [(8, eqP (.int .i64 (zz.1 : Int)))]) (fun zz => []) (fun zz => xs.length - zz.1) hC (.cons (t := 0) rfl (.cons (t := 1) rfl (.cons (t := 7) rfl .nil))) .nil rfl ?_ ?_ (fun zz => ?_)
 ·try dsimp only [List.cons_append, List.nil_append]
  first | refine SubF.cons rfl ?_ | (refine SubF.ent rfl ?_ ?_; · exact ent_auto)
  exact SubF.nil
 ·try dsimp only [List.cons_append, List.nil_append]
  repeat (first | exact SubL.nil | refine SubL.cons rfl ?_)
 ·obtain ⟨k, hk1, hk2⟩ := zz
  dsimp only [List.cons_append, List.nil_append]
  refine tr_seq ?_
  refine tr_region (fun N2 hN => ?_)
  refine lx (op_lss rfl rfl) rfl ?_
  refine lx_end ⟨by kernel_rfl, ?_⟩
  refine pe_then_normal ?_
  refine tr_sub hC (.cons (t := 0) rfl (.cons (t := 1) rfl (.cons (t := 7) rfl (.cons (t := 8) rfl (.cons (t := 9) rfl .nil))))) .nil rfl ?_
  refine tr_seq ?_
  refine tr_cond rfl (fun h9 => ?_) (fun h9 => ?_)
  ·(try simp only [cq1, cq2, cq3, cq4, cq5, cq6, cq7, cq8, cq9, cq10, cq11, cq12, cq13] at h9)
   refine tr_skip ?_
   refine pe_then_normal ?_
   refine tr_sub hC (.cons (t := 0) rfl (.cons (t := 1) rfl (.cons (t := 7) rfl (.cons (t := 8) rfl .nil)))) .nil rfl ?_
   refine tr_seq ?_
   refine tr_block ?_
   refine tr_seq ?_
   refine tr_region (fun N3 hN => ?_)
   refine lx (op_move rfl) rfl ?_
   refine lx (op_assign rfl) rfl ?_
   refine lx_end ⟨by kernel_rfl, ?_⟩
   refine pe_then_normal ?_
   refine tr_sub hC (.cons (t := 0) rfl (.cons (t := 1) rfl (.cons (t := 5) rfl (.cons (t := 7) rfl (.cons (t := 8) rfl .nil))))) .nil rfl ?_
   refine tr_seq ?_
   refine tr_region (fun N4 hN => ?_)
   refine lx (op_move rfl) rfl ?_
   refine lx (op_move rfl) rfl ?_
   refine lx (op_move rfl) rfl ?_
   refine lx (op_index rfl rfl el33 sz43 rfl (List.getElem?_eq_getElem (by omega : k < xs.length))) rfl ?_
   first | refine lx (op_load_all rfl ag43 sz43) rfl ?_ | refine lx (op_load_agg rfl ag43 sz43 rfl) rfl ?_
   first | refine lx (op_callV (l := [(Go.Operand.tmp 15)]) rfl (hq _) (.cons rfl .nil) hf) rfl ?_ | refine lx (op_callV (l := [(Go.Operand.tmp 15)]) rfl (hq _) (.ent rfl (by exact ent_auto) .nil) hf) rfl ?_
   refine lx_end ⟨by kernel_rfl, ?_⟩
   refine pe_then_normal ?_
   refine tr_sub hC (.cons (t := 0) rfl (.cons (t := 1) rfl (.cons (t := 5) rfl (.cons (t := 7) rfl (.cons (t := 8) rfl (.cons (t := 16) rfl .nil)))))) .nil rfl ?_
   refine tr_cond rfl (fun h16 => ?_) (fun h16 => ?_)
   ·(try simp only [cq1, cq2, cq3, cq4, cq5, cq6, cq7, cq8, cq9, cq10, cq11, cq12, cq13] at h16)
    refine tr_seq ?_
    refine tr_region (fun N5 hN => ?_)
    refine lx (op_move rfl) rfl ?_
    refine lx (op_assign rfl) rfl ?_
    refine lx_end ⟨by kernel_rfl, ?_⟩
    refine pe_then_normal ?_
    refine tr_sub hC (.cons (t := 4) rfl .nil) .nil rfl ?_
    refine tr_ret ?_
    refine pe_block_ret ?_
    refine pe_then_ret ?_
    refine pe_then_ret ?_
    refine pe_block_ret ?_
    refine pe_then_ret ?_
    refine pe_ret1 rfl hO rfl (.tmp rfl .nil) ?_
    exact entI (idxF_at (by omega) hk2 h16).symm
   ·(try simp only [cq1, cq2, cq3, cq4, cq5, cq6, cq7, cq8, cq9, cq10, cq11, cq12, cq13] at h16)
    refine tr_skip ?_
    refine pe_block_normal ?_
    refine pe_then_normal ?_
    refine tr_sub hC (.cons (t := 0) rfl (.cons (t := 1) rfl (.cons (t := 7) rfl (.cons (t := 8) rfl .nil)))) .nil rfl ?_
    refine tr_region (fun N6 hN => ?_)
    refine lx (op_add rfl rfl (by omega)) rfl ?_
    refine lx (op_move rfl) rfl ?_
    refine lx_end ⟨by kernel_rfl, ?_⟩
    refine pe_round (⟨(k + 1), by omega, take_all hk2 (by omega) h16⟩) (by dsimp only; omega) (pe_st hC ?_ ?_ rfl)
    ·try dsimp only [List.cons_append, List.nil_append]
     first | refine SubF.cons rfl ?_ | (refine SubF.ent rfl ?_ ?_; · exact ent_auto)
     first | refine SubF.cons rfl ?_ | (refine SubF.ent rfl ?_ ?_; · exact ent_auto)
     first | refine SubF.cons rfl ?_ | (refine SubF.ent rfl ?_ ?_; · exact ent_auto)
     first | refine SubF.cons rfl ?_ | (refine SubF.ent rfl ?_ ?_; · exact ent_auto)
     exact SubF.nil
    ·try dsimp only [List.cons_append, List.nil_append]
     repeat (first | exact SubL.nil | refine SubL.cons rfl ?_)
  ·(try simp only [cq1, cq2, cq3, cq4, cq5, cq6, cq7, cq8, cq9, cq10, cq11, cq12, cq13] at h9)
   have hk3 : k = xs.length := by omega
   refine tr_exit ?_
   refine pe_then_exit ?_
   refine pe_then_exit ?_
   refine pe_block_eq ?_
   refine pe_then_normal ?_
   refine tr_sub hC .nil .nil rfl ?_
   refine tr_seq ?_
   refine tr_region (fun N7 hN => ?_)
   refine lx (op_assign rfl) rfl ?_
   refine lx_end ⟨by kernel_rfl, ?_⟩
   refine pe_then_normal ?_
   refine tr_sub hC (.cons (t := 4) rfl .nil) .nil rfl ?_
   refine tr_ret ?_
   refine pe_ret1 rfl hO rfl (.tmp rfl .nil) ?_
   exact entI (idxF_none (by rwa [hk3, List.take_of_length_le (Nat.le_refl _)] at hk2)).symm
theorem idxW_ok (q : FuncId) (caps : List Pred) (φ : Wt → Bool) (hq : ∀ w, FnP Try.prog q ([] ++ [aggP (wp w)] ++ caps) (eqP (.bool (φ w)))) (hf : fnB Try.prog q = true) (xs : List Wt) (hx : xs.length ≤ 9223372036854775807) : FnP Try.prog 61 [slP wp 5 xs, clP q [] caps] (eqP (.int .i64 (idxF φ xs))) := by
 refine fn_pure' Try.func61 rfl Try.ntmps61 rfl ?_
 intro σ0 M ex Rf R hC hO
 simp only [frameOf, tokOf]
 refine tr_seq ?_
 refine tr_region (fun N0 hN => ?_)
 refine lx (op_assign rfl) rfl ?_
 refine lx_end ⟨by kernel_rfl, ?_⟩
 refine pe_then_normal ?_
 refine tr_sub hC (.cons (t := 0) rfl (.cons (t := 1) rfl .nil)) .nil rfl ?_
 refine tr_seq ?_
 refine tr_seq ?_
 refine tr_region (fun N1 hN => ?_)
 refine lx (op_move rfl) rfl ?_
 first | refine lx (op_len rfl el89) rfl ?_ | refine lx (op_len_row rfl el89) rfl ?_ | refine lx (op_len_mv rfl el89) rfl ?_ | refine lx (op_len_nil rfl el89) rfl ?_
 refine lx (op_move rfl) rfl ?_
 refine lx_end ⟨by kernel_rfl, ?_⟩
 refine pe_then_normal ?_
 refine tr_sub hC (.cons (t := 0) rfl (.cons (t := 1) rfl (.cons (t := 7) rfl (.cons (t := 8) rfl .nil)))) .nil rfl ?_
 refine tr_block ?_
 refine tr_loopK (α := {zz : Nat // zz ≤ xs.length ∧ ∀ x ∈ xs.take zz, φ x = false}) (⟨(0), Nat.zero_le _, by simp⟩) (fun zz => [(8, eqP (.int .i64 (zz.1 : Int)))]) (fun zz => []) (fun zz => xs.length - zz.1) hC (.cons (t := 0) rfl (.cons (t := 1) rfl (.cons (t := 7) rfl .nil))) .nil rfl ?_ ?_ (fun zz => ?_)
 ·try dsimp only [List.cons_append, List.nil_append]
  first | refine SubF.cons rfl ?_ | (refine SubF.ent rfl ?_ ?_; · exact ent_auto)
  exact SubF.nil
 ·try dsimp only [List.cons_append, List.nil_append]
  repeat (first | exact SubL.nil | refine SubL.cons rfl ?_)
 ·obtain ⟨k, hk1, hk2⟩ := zz
  dsimp only [List.cons_append, List.nil_append]
  refine tr_seq ?_
  refine tr_region (fun N2 hN => ?_)
  refine lx (op_lss rfl rfl) rfl ?_
  refine lx_end ⟨by kernel_rfl, ?_⟩
  refine pe_then_normal ?_
  refine tr_sub hC (.cons (t := 0) rfl (.cons (t := 1) rfl (.cons (t := 7) rfl (.cons (t := 8) rfl (.cons (t := 9) rfl .nil))))) .nil rfl ?_
  refine tr_seq ?_
  refine tr_cond rfl (fun h9 => ?_) (fun h9 => ?_)
  ·(try simp only [cq1, cq2, cq3, cq4, cq5, cq6, cq7, cq8, cq9, cq10, cq11, cq12, cq13] at h9)
   refine tr_skip ?_
   refine pe_then_normal ?_
   refine tr_sub hC (.cons (t := 0) rfl (.cons (t := 1) rfl (.cons (t := 7) rfl (.cons (t := 8) rfl .nil)))) .nil rfl ?_
   refine tr_seq ?_
   refine tr_block ?_
   refine tr_seq ?_
   refine tr_region (fun N3 hN => ?_)
   refine lx (op_move rfl) rfl ?_
   refine lx (op_assign rfl) rfl ?_
   refine lx_end ⟨by kernel_rfl, ?_⟩
   refine pe_then_normal ?_
   refine tr_sub hC (.cons (t := 0) rfl (.cons (t := 1) rfl (.cons (t := 5) rfl (.cons (t := 7) rfl (.cons (t := 8) rfl .nil))))) .nil rfl ?_
   refine tr_seq ?_
   refine tr_region (fun N4 hN => ?_)
   refine lx (op_move rfl) rfl ?_
   refine lx (op_move rfl) rfl ?_
   refine lx (op_move rfl) rfl ?_
   refine lx (op_index rfl rfl el89 sz97 rfl (List.getElem?_eq_getElem (by omega : k < xs.length))) rfl ?_
   first | refine lx (op_load_all rfl ag97 sz97) rfl ?_ | refine lx (op_load_agg rfl ag97 sz97 rfl) rfl ?_
   first | refine lx (op_callV (l := [(Go.Operand.tmp 15)]) rfl (hq _) (.cons rfl .nil) hf) rfl ?_ | refine lx (op_callV (l := [(Go.Operand.tmp 15)]) rfl (hq _) (.ent rfl (by exact ent_auto) .nil) hf) rfl ?_
   refine lx_end ⟨by kernel_rfl, ?_⟩
   refine pe_then_normal ?_
   refine tr_sub hC (.cons (t := 0) rfl (.cons (t := 1) rfl (.cons (t := 5) rfl (.cons (t := 7) rfl (.cons (t := 8) rfl (.cons (t := 16) rfl .nil)))))) .nil rfl ?_
   refine tr_cond rfl (fun h16 => ?_) (fun h16 => ?_)
   ·(try simp only [cq1, cq2, cq3, cq4, cq5, cq6, cq7, cq8, cq9, cq10, cq11, cq12, cq13] at h16)
    refine tr_seq ?_
    refine tr_region (fun N5 hN => ?_)
    refine lx (op_move rfl) rfl ?_
    refine lx (op_assign rfl) rfl ?_
    refine lx_end ⟨by kernel_rfl, ?_⟩
    refine pe_then_normal ?_
    refine tr_sub hC (.cons (t := 4) rfl .nil) .nil rfl ?_
    refine tr_ret ?_
    refine pe_block_ret ?_
    refine pe_then_ret ?_
    refine pe_then_ret ?_
    refine pe_block_ret ?_
    refine pe_then_ret ?_
    refine pe_ret1 rfl hO rfl (.tmp rfl .nil) ?_
    exact entI (idxF_at (by omega) hk2 h16).symm
   ·(try simp only [cq1, cq2, cq3, cq4, cq5, cq6, cq7, cq8, cq9, cq10, cq11, cq12, cq13] at h16)
    refine tr_skip ?_
    refine pe_block_normal ?_
    refine pe_then_normal ?_
    refine tr_sub hC (.cons (t := 0) rfl (.cons (t := 1) rfl (.cons (t := 7) rfl (.cons (t := 8) rfl .nil)))) .nil rfl ?_
    refine tr_region (fun N6 hN => ?_)
    refine lx (op_add rfl rfl (by omega)) rfl ?_
    refine lx (op_move rfl) rfl ?_
    refine lx_end ⟨by kernel_rfl, ?_⟩
    refine pe_round (⟨(k + 1), by omega, take_all hk2 (by omega) h16⟩) (by dsimp only; omega) (pe_st hC ?_ ?_ rfl)
    ·try dsimp only [List.cons_append, List.nil_append]
     first | refine SubF.cons rfl ?_ | (refine SubF.ent rfl ?_ ?_; · exact ent_auto)
     first | refine SubF.cons rfl ?_ | (refine SubF.ent rfl ?_ ?_; · exact ent_auto)
     first | refine SubF.cons rfl ?_ | (refine SubF.ent rfl ?_ ?_; · exact ent_auto)
     first | refine SubF.cons rfl ?_ | (refine SubF.ent rfl ?_ ?_; · exact ent_auto)
     exact SubF.nil
    ·try dsimp only [List.cons_append, List.nil_append]
     repeat (first | exact SubL.nil | refine SubL.cons rfl ?_)
  ·(try simp only [cq1, cq2, cq3, cq4, cq5, cq6, cq7, cq8, cq9, cq10, cq11, cq12, cq13] at h9)
   have hk3 : k = xs.length := by omega
   refine tr_exit ?_
   refine pe_then_exit ?_
   refine pe_then_exit ?_
   refine pe_block_eq ?_
   refine pe_then_normal ?_
   refine tr_sub hC .nil .nil rfl ?_
   refine tr_seq ?_
   refine tr_region (fun N7 hN => ?_)
   refine lx (op_assign rfl) rfl ?_
   refine lx_end ⟨by kernel_rfl, ?_⟩
   refine pe_then_normal ?_
   refine tr_sub hC (.cons (t := 4) rfl .nil) .nil rfl ?_
   refine tr_ret ?_
   refine pe_ret1 rfl hO rfl (.tmp rfl .nil) ?_
   exact entI (idxF_none (by rwa [hk3, List.take_of_length_le (Nat.le_refl _)] at hk2)).symm
theorem clo57_ok (w : V) : FnP Try.prog 57 [aggP (vp w), cellsP [clP 53 [] []]] (eqP (.bool (!(vval w)))) := by
 refine fn_pure' Try.func57 rfl Try.ntmps57 rfl ?_
 intro σ0 M ex Rf R hC hO
 simp only [frameOf, tokOf]
 refine tr_seq ?_
 refine tr_region (fun N0 hN => ?_)
 refine lxn (op_box (m := 2) (k := 2) rfl (.agg rfl) (by first | exact hC.low _ (by decide) | rfl)) rfl ?_
 refine lx (op_assign rfl) rfl ?_
 refine lx_end ⟨by kernel_rfl, ?_⟩
 refine pe_then_normal ?_
 refine tr_sub hC (.cons (t := 1) rfl (.cons (t := 2) rfl .nil)) (.cons (t := 2) rfl .nil) rfl ?_
 refine tr_seq ?_
 refine tr_region (fun N1 hN => ?_)
 first | refine lx (op_load_one rfl ag62 rfl) rfl ?_ | refine lx (op_bload_one (m := 2) rfl rfl ag62 rfl) rfl ?_
 refine lx (op_bload (m := 2) rfl rfl ag43 sz43) rfl ?_
 first | refine lx (op_callV (l := [(Go.Operand.tmp 5)]) rfl (vval_ok w) (.cons rfl .nil) fn53) rfl ?_ | refine lx (op_callV (l := [(Go.Operand.tmp 5)]) rfl (vval_ok w) (.ent rfl (by exact ent_auto) .nil) fn53) rfl ?_
 first | refine lx (op_not rfl) rfl ?_ | refine lx (op_not_b rfl) rfl ?_
 refine lx (op_assign rfl) rfl ?_
 refine lx_end ⟨by kernel_rfl, ?_⟩
 refine pe_then_normal ?_
 refine tr_sub hC (.cons (t := 3) rfl .nil) .nil rfl ?_
 refine tr_ret ?_
 refine pe_ret1 rfl hO rfl (.tmp rfl .nil) ?_
 exact ent_auto
theorem cont56_ok (xs : List V) (hx : xs.length ≤ 9223372036854775807) : FnP Try.prog 56 [slP vp 3 xs, clP 57 [] [cellsP [clP 53 [] []]]] (eqP (.bool (xs.any fun w => !(vval w)))) := by
 refine fn_pure' Try.func56 rfl Try.ntmps56 rfl ?_
 intro σ0 M ex Rf R hC hO
 simp only [frameOf, tokOf]
 refine tr_seq ?_
 refine tr_region (fun N0 hN => ?_)
 refine lx (op_assign rfl) rfl ?_
 refine lx_end ⟨by kernel_rfl, ?_⟩
 refine pe_then_normal ?_
 refine tr_sub hC (.cons (t := 0) rfl (.cons (t := 1) rfl .nil)) .nil rfl ?_
 refine tr_seq ?_
 refine tr_region (fun N1 hN => ?_)
 refine lx (op_move rfl) rfl ?_
 refine lx (op_move rfl) rfl ?_
 first | refine lx (op_call (l := [(Go.Operand.tmp 5), (Go.Operand.tmp 6)]) (idxV_ok 57 [cellsP [clP 53 [] []]] (fun w => !(vval w)) (fun w => clo57_ok w) fn57 xs hx) (.cons rfl (.cons rfl .nil)) fn60) rfl ?_ | refine lx (op_call (l := [(Go.Operand.tmp 5), (Go.Operand.tmp 6)]) (idxV_ok 57 [cellsP [clP 53 [] []]] (fun w => !(vval w)) (fun w => clo57_ok w) fn57 xs hx) (.ent rfl (by exact ent_auto) (.ent rfl (by exact ent_auto) .nil)) fn60) rfl ?_
 refine lx (op_geq rfl rfl) rfl ?_
 refine lx (op_assign rfl) rfl ?_
 refine lx_end ⟨by kernel_rfl, ?_⟩
 refine pe_then_normal ?_
 refine tr_sub hC (.cons (t := 4) rfl .nil) .nil rfl ?_
 refine tr_ret ?_
 refine pe_ret1 rfl hO rfl (.tmp rfl .nil) ?_
 exact entB (idxF_any _ _)
theorem all52_ok (xs : List V) (hx : xs.length ≤ 9223372036854775807) : FnP Try.prog 52 [slP vp 3 xs, clP 53 [] []] (eqP (.bool (xs.all vval))) := by
 refine fn_pure' Try.func52 rfl Try.ntmps52 rfl ?_
 intro σ0 M ex Rf R hC hO
 simp only [frameOf, tokOf]
 refine tr_seq ?_
 refine tr_region (fun N0 hN => ?_)
 refine lxn (op_box (m := 3) (k := 3) rfl (.one (by (first | exact One.eq rfl | exact One.mv _ _ _ _ _ | exact One.cl _ _ _ | exact One.map _ | exact One.sl _ _ _ | exact One.row _ _ _ _ | exact One.msl _ _ _ _ | exact One.ptr _ _ | exact One.b _ | exact One.cells _))) (by first | exact hC.low _ (by decide) | rfl)) rfl ?_
 refine lx (op_assign rfl) rfl ?_
 refine lx_end ⟨by kernel_rfl, ?_⟩
 refine pe_then_normal ?_
 refine tr_sub hC (.cons (t := 0) rfl (.cons (t := 3) rfl .nil)) (.cons (t := 3) rfl .nil) rfl ?_
 refine tr_freeze (m := 3) rfl (.cons (t := 0) rfl (.ent (t := 3) rfl (FEnt.ptr) .nil)) ?_
 try dsimp only
 refine tr_seq ?_
 refine tr_region (fun N1 hN => ?_)
 refine lx (op_move rfl) rfl ?_
 refine lx (op_makeFunc (bs := []) (cs := [(Go.Operand.tmp 3)]) .nil (.cons rfl .nil)) rfl ?_
 first | refine lx (op_call (l := [(Go.Operand.tmp 5), (Go.Operand.tmp 6)]) (cont56_ok xs hx) (.cons rfl (.cons rfl .nil)) fn56) rfl ?_ | refine lx (op_call (l := [(Go.Operand.tmp 5), (Go.Operand.tmp 6)]) (cont56_ok xs hx) (.ent rfl (by exact ent_auto) (.ent rfl (by exact ent_auto) .nil)) fn56) rfl ?_
 first | refine lx (op_not rfl) rfl ?_ | refine lx (op_not_b rfl) rfl ?_
 refine lx (op_assign rfl) rfl ?_
 refine lx_end ⟨by kernel_rfl, ?_⟩
 refine pe_then_normal ?_
 refine tr_sub hC (.cons (t := 4) rfl .nil) .nil rfl ?_
 refine tr_ret ?_
 refine pe_ret1 rfl hO rfl (.tmp rfl .nil) ?_
 exact entB (by rw [List.not_any_eq_all_not]; simp)
theorem clo59_ok (w : Wt) : FnP Try.prog 59 [aggP (wp w), cellsP [clP 55 [] []]] (eqP (.bool (!(wval w)))) := by
 refine fn_pure' Try.func59 rfl Try.ntmps59 rfl ?_
 intro σ0 M ex Rf R hC hO
 simp only [frameOf, tokOf]
 refine tr_seq ?_
 refine tr_region (fun N0 hN => ?_)
 refine lxn (op_box (m := 2) (k := 2) rfl (.agg rfl) (by first | exact hC.low _ (by decide) | rfl)) rfl ?_
 refine lx (op_assign rfl) rfl ?_
 refine lx_end ⟨by kernel_rfl, ?_⟩
 refine pe_then_normal ?_
 refine tr_sub hC (.cons (t := 1) rfl (.cons (t := 2) rfl .nil)) (.cons (t := 2) rfl .nil) rfl ?_
 refine tr_seq ?_
 refine tr_region (fun N1 hN => ?_)
 first | refine lx (op_load_one rfl ag98 rfl) rfl ?_ | refine lx (op_bload_one (m := 2) rfl rfl ag98 rfl) rfl ?_
 refine lx (op_bload (m := 2) rfl rfl ag97 sz97) rfl ?_
 first | refine lx (op_callV (l := [(Go.Operand.tmp 5)]) rfl (wval_ok w) (.cons rfl .nil) fn55) rfl ?_ | refine lx (op_callV (l := [(Go.Operand.tmp 5)]) rfl (wval_ok w) (.ent rfl (by exact ent_auto) .nil) fn55) rfl ?_
 first | refine lx (op_not rfl) rfl ?_ | refine lx (op_not_b rfl) rfl ?_
 refine lx (op_assign rfl) rfl ?_
 refine lx_end ⟨by kernel_rfl, ?_⟩
 refine pe_then_normal ?_
 refine tr_sub hC (.cons (t := 3) rfl .nil) .nil rfl ?_
 refine tr_ret ?_
 refine pe_ret1 rfl hO rfl (.tmp rfl .nil) ?_
 exact ent_auto
theorem cont58_ok (xs : List Wt) (hx : xs.length ≤ 9223372036854775807) : FnP Try.prog 58 [slP wp 5 xs, clP 59 [] [cellsP [clP 55 [] []]]] (eqP (.bool (xs.any fun w => !(wval w)))) := by
 refine fn_pure' Try.func58 rfl Try.ntmps58 rfl ?_
 intro σ0 M ex Rf R hC hO
 simp only [frameOf, tokOf]
 refine tr_seq ?_
 refine tr_region (fun N0 hN => ?_)
 refine lx (op_assign rfl) rfl ?_
 refine lx_end ⟨by kernel_rfl, ?_⟩
 refine pe_then_normal ?_
 refine tr_sub hC (.cons (t := 0) rfl (.cons (t := 1) rfl .nil)) .nil rfl ?_
 refine tr_seq ?_
 refine tr_region (fun N1 hN => ?_)
 refine lx (op_move rfl) rfl ?_
 refine lx (op_move rfl) rfl ?_
 first | refine lx (op_call (l := [(Go.Operand.tmp 5), (Go.Operand.tmp 6)]) (idxW_ok 59 [cellsP [clP 55 [] []]] (fun w => !(wval w)) (fun w => clo59_ok w) fn59 xs hx) (.cons rfl (.cons rfl .nil)) fn61) rfl ?_ | refine lx (op_call (l := [(Go.Operand.tmp 5), (Go.Operand.tmp 6)]) (idxW_ok 59 [cellsP [clP 55 [] []]] (fun w => !(wval w)) (fun w => clo59_ok w) fn59 xs hx) (.ent rfl (by exact ent_auto) (.ent rfl (by exact ent_auto) .nil)) fn61) rfl ?_
 refine lx (op_geq rfl rfl) rfl ?_
 refine lx (op_assign rfl) rfl ?_
 refine lx_end ⟨by kernel_rfl, ?_⟩
 refine pe_then_normal ?_
 refine tr_sub hC (.cons (t := 4) rfl .nil) .nil rfl ?_
 refine tr_ret ?_
 refine pe_ret1 rfl hO rfl (.tmp rfl .nil) ?_
 exact entB (idxF_any _ _)
theorem all54_ok (xs : List Wt) (hx : xs.length ≤ 9223372036854775807) : FnP Try.prog 54 [slP wp 5 xs, clP 55 [] []] (eqP (.bool (xs.all wval))) := by
 refine fn_pure' Try.func54 rfl Try.ntmps54 rfl ?_
 intro σ0 M ex Rf R hC hO
 simp only [frameOf, tokOf]
 refine tr_seq ?_
 refine tr_region (fun N0 hN => ?_)
 refine lxn (op_box (m := 3) (k := 3) rfl (.one (by (first | exact One.eq rfl | exact One.mv _ _ _ _ _ | exact One.cl _ _ _ | exact One.map _ | exact One.sl _ _ _ | exact One.row _ _ _ _ | exact One.msl _ _ _ _ | exact One.ptr _ _ | exact One.b _ | exact One.cells _))) (by first | exact hC.low _ (by decide) | rfl)) rfl ?_
 refine lx (op_assign rfl) rfl ?_
 refine lx_end ⟨by kernel_rfl, ?_⟩
 refine pe_then_normal ?_
 refine tr_sub hC (.cons (t := 0) rfl (.cons (t := 3) rfl .nil)) (.cons (t := 3) rfl .nil) rfl ?_
 refine tr_freeze (m := 3) rfl (.cons (t := 0) rfl (.ent (t := 3) rfl (FEnt.ptr) .nil)) ?_
 try dsimp only
 refine tr_seq ?_
 refine tr_region (fun N1 hN => ?_)
 refine lx (op_move rfl) rfl ?_
 refine lx (op_makeFunc (bs := []) (cs := [(Go.Operand.tmp 3)]) .nil (.cons rfl .nil)) rfl ?_
 first | refine lx (op_call (l := [(Go.Operand.tmp 5), (Go.Operand.tmp 6)]) (cont58_ok xs hx) (.cons rfl (.cons rfl .nil)) fn58) rfl ?_ | refine lx (op_call (l := [(Go.Operand.tmp 5), (Go.Operand.tmp 6)]) (cont58_ok xs hx) (.ent rfl (by exact ent_auto) (.ent rfl (by exact ent_auto) .nil)) fn58) rfl ?_
 first | refine lx (op_not rfl) rfl ?_ | refine lx (op_not_b rfl) rfl ?_
 refine lx (op_assign rfl) rfl ?_
 refine lx_end ⟨by kernel_rfl, ?_⟩
 refine pe_then_normal ?_
 refine tr_sub hC (.cons (t := 4) rfl .nil) .nil rfl ?_
 refine tr_ret ?_
 refine pe_ret1 rfl hO rfl (.tmp rfl .nil) ?_
 exact entB (by rw [List.not_any_eq_all_not]; simp)
theorem object_ok (o : Ob) (hs : BdO 9223372036854775807 o) : FnP Try.prog 51 [aggP o.ps] (eqP (.bool (objF o))) := by
 refine fn_pure' Try.func51 rfl Try.ntmps51 rfl ?_
 intro σ0 M ex Rf R hC hO
 simp only [frameOf, tokOf]
 refine tr_seq ?_
 refine tr_region (fun N0 hN => ?_)
 refine lxn (op_box (m := 1) (k := 1) rfl (.agg rfl) (by first | exact hC.low _ (by decide) | rfl)) rfl ?_
 refine lx (op_assign rfl) rfl ?_
 refine lx_end ⟨by kernel_rfl, ?_⟩
 refine pe_then_normal ?_
 refine tr_sub hC (.cons (t := 1) rfl .nil) (.cons (t := 1) rfl .nil) rfl ?_
 refine tr_seq ?_
 refine tr_seq ?_
 refine tr_region (fun N1 hN => ?_)
 refine lx (op_fieldAddr rfl fl91_2 sz4) rfl ?_
 refine lx (op_bload_one (m := 1) rfl rfl ag4 rfl) rfl ?_
 refine lx_end ⟨by kernel_rfl, ?_⟩
 refine pe_then_normal ?_
 refine tr_sub hC (.cons (t := 1) rfl (.cons (t := 4) rfl .nil)) (.cons (t := 1) rfl .nil) rfl ?_
 refine tr_cond rfl (fun h4 => ?_) (fun h4 => ?_)
 ·(try simp only [cq1, cq2, cq3, cq4, cq5, cq6, cq7, cq8, cq9, cq10, cq11, cq12, cq13] at h4)
  have h := objF_c h4
  refine tr_seq ?_
  refine tr_region (fun N2 hN => ?_)
  refine lx (op_fieldAddr rfl fl91_1 sz33) rfl ?_
  refine lx (op_bload_one (m := 1) rfl rfl ag33 rfl) rfl ?_
  first | refine lx (op_len rfl el33) rfl ?_ | refine lx (op_len_row rfl el33) rfl ?_ | refine lx (op_len_mv rfl el33) rfl ?_ | refine lx (op_len_nil rfl el33) rfl ?_
  refine lx (op_eql rfl rfl) rfl ?_
  refine lx (op_move rfl) rfl ?_
  refine lxs rfl rfl rfl guard_eq (.cons (t := 1) rfl (fun _ => Ent.refl _) .nil) (op_fieldAddr rfl fl91_3 sz3) rfl ?_
  refine lxs rfl rfl rfl guard_eq (.cons (t := 10) rfl (fun h => entW h) .nil) (op_bload_one (m := 1) rfl rfl ag3 rfl) rfl ?_
  refine lxs rfl rfl rfl guard_eq (.cons (t := 11) rfl (fun h => entW h) .nil) (op_geq rfl rfl) rfl ?_
  refine lx (op_pick_and rfl rfl) rfl ?_
  refine lx (op_move rfl) rfl ?_
  refine lxs rfl rfl rfl guard_eq (.cons (t := 1) rfl (fun _ => Ent.refl _) .nil) (op_fieldAddr rfl fl91_3 sz3) rfl ?_
  refine lxs rfl rfl rfl guard_eq (.cons (t := 15) rfl (fun h => entW h) .nil) (op_bload_one (m := 1) rfl rfl ag3 rfl) rfl ?_
  refine lxs rfl rfl rfl guard_eq (.cons (t := 16) rfl (fun h => entW h) .nil) (op_leq rfl rfl) rfl ?_
  refine lx (op_pick_and rfl rfl) rfl ?_
  refine lx (op_move rfl) rfl ?_
  refine lxs rfl rfl rfl guard_eq (.cons (t := 1) rfl (fun _ => Ent.refl _) .nil) (op_fieldAddr rfl fl91_4 sz33) rfl ?_
  refine lxs rfl rfl rfl guard_eq (.cons (t := 20) rfl (fun h => entW h) .nil) (op_bload_one (m := 1) rfl rfl ag33 rfl) rfl ?_
  first | refine lxs rfl rfl rfl guard_eq (.cons (t := 21) rfl (fun h => entW h) .nil) (op_len rfl el33) rfl ?_ | refine lxs rfl rfl rfl guard_eq (.cons (t := 21) rfl (fun h => entW h) .nil) (op_len_row rfl el33) rfl ?_ | refine lxs rfl rfl rfl guard_eq (.cons (t := 21) rfl (fun h => entW h) .nil) (op_len_mv rfl el33) rfl ?_ | refine lxs rfl rfl rfl guard_eq (.cons (t := 21) rfl (fun h => entW h) .nil) (op_len_nil rfl el33) rfl ?_
  refine lxs rfl rfl rfl guard_eq (.cons (t := 1) rfl (fun _ => Ent.refl _) .nil) (op_fieldAddr rfl fl91_3 sz3) rfl ?_
  refine lxs rfl rfl rfl guard_eq (.cons (t := 23) rfl (fun h => entW h) .nil) (op_bload_one (m := 1) rfl rfl ag3 rfl) rfl ?_
  refine lxs rfl rfl rfl guard_eq (.cons (t := 22) rfl (fun h => entW h) (.cons (t := 24) rfl (fun h => entW h) .nil)) (op_leq rfl rfl) rfl ?_
  refine lx (op_pick_and rfl rfl) rfl ?_
  refine lx (op_move rfl) rfl ?_
  refine lxs rfl rfl rfl guard_eq (.cons (t := 1) rfl (fun _ => Ent.refl _) .nil) (op_fieldAddr rfl fl91_4 sz33) rfl ?_
  refine lxs rfl rfl rfl guard_eq (.cons (t := 28) rfl (fun h => entW h) .nil) (op_bload_one (m := 1) rfl rfl ag33 rfl) rfl ?_
  first | refine lxs rfl rfl rfl guard_eq (.cons (t := 29) rfl (fun h => entW h) .nil) (op_call (l := [(Go.Operand.tmp 29), (Go.Operand.func 53)]) (all52_ok o.queue hs.queue) (.cons rfl (.cons rfl .nil)) fn52) rfl ?_ | refine lxs rfl rfl rfl guard_eq (.cons (t := 29) rfl (fun h => entW h) .nil) (op_call (l := [(Go.Operand.tmp 29), (Go.Operand.func 53)]) (all52_ok o.queue hs.queue) (.ent rfl (by exact ent_auto) (.ent rfl (by exact ent_auto) .nil)) fn52) rfl ?_
  refine lx (op_pick_and rfl rfl) rfl ?_
  refine lx (op_move rfl) rfl ?_
  refine lxs rfl rfl rfl guard_eq (.cons (t := 1) rfl (fun _ => Ent.refl _) .nil) (op_fieldAddr rfl fl91_6 sz3) rfl ?_
  refine lxs rfl rfl rfl guard_eq (.cons (t := 33) rfl (fun h => entW h) .nil) (op_bload_one (m := 1) rfl rfl ag3 rfl) rfl ?_
  refine lxs rfl rfl rfl guard_eq (.cons (t := 34) rfl (fun h => entW h) .nil) (op_geq rfl rfl) rfl ?_
  refine lx (op_pick_and rfl rfl) rfl ?_
  refine lx (op_move rfl) rfl ?_
  refine lxs rfl rfl rfl guard_eq (.cons (t := 1) rfl (fun _ => Ent.refl _) .nil) (op_fieldAddr rfl fl91_7 sz3) rfl ?_
  refine lxs rfl rfl rfl guard_eq (.cons (t := 38) rfl (fun h => entW h) .nil) (op_bload_one (m := 1) rfl rfl ag3 rfl) rfl ?_
  refine lxs rfl rfl rfl guard_eq (.cons (t := 39) rfl (fun h => entW h) .nil) (op_geq rfl rfl) rfl ?_
  refine lx (op_pick_and rfl rfl) rfl ?_
  refine lx (op_move rfl) rfl ?_
  refine lxs rfl rfl rfl guard_eq (.cons (t := 1) rfl (fun _ => Ent.refl _) .nil) (op_fieldAddr rfl fl91_8 sz89) rfl ?_
  refine lxs rfl rfl rfl guard_eq (.cons (t := 43) rfl (fun h => entW h) .nil) (op_bload_one (m := 1) rfl rfl ag89 rfl) rfl ?_
  first | refine lxs rfl rfl rfl guard_eq (.cons (t := 44) rfl (fun h => entW h) .nil) (op_call (l := [(Go.Operand.tmp 44), (Go.Operand.func 55)]) (all54_ok o.senders hs.senders) (.cons rfl (.cons rfl .nil)) fn54) rfl ?_ | refine lxs rfl rfl rfl guard_eq (.cons (t := 44) rfl (fun h => entW h) .nil) (op_call (l := [(Go.Operand.tmp 44), (Go.Operand.func 55)]) (all54_ok o.senders hs.senders) (.ent rfl (by exact ent_auto) (.ent rfl (by exact ent_auto) .nil)) fn54) rfl ?_
  refine lx (op_pick_and rfl rfl) rfl ?_
  refine lx (op_move rfl) rfl ?_
  refine lxs rfl rfl rfl guard_eq (.cons (t := 1) rfl (fun _ => Ent.refl _) .nil) (op_fieldAddr rfl fl91_9 sz89) rfl ?_
  refine lxs rfl rfl rfl guard_eq (.cons (t := 48) rfl (fun h => entW h) .nil) (op_bload_one (m := 1) rfl rfl ag89 rfl) rfl ?_
  first | refine lxs rfl rfl rfl guard_eq (.cons (t := 49) rfl (fun h => entW h) .nil) (op_call (l := [(Go.Operand.tmp 49), (Go.Operand.func 55)]) (all54_ok o.receivers hs.receivers) (.cons rfl (.cons rfl .nil)) fn54) rfl ?_ | refine lxs rfl rfl rfl guard_eq (.cons (t := 49) rfl (fun h => entW h) .nil) (op_call (l := [(Go.Operand.tmp 49), (Go.Operand.func 55)]) (all54_ok o.receivers hs.receivers) (.ent rfl (by exact ent_auto) (.ent rfl (by exact ent_auto) .nil)) fn54) rfl ?_
  refine lx (op_pick_and rfl rfl) rfl ?_
  refine lx (op_assign rfl) rfl ?_
  refine lx_end ⟨by kernel_rfl, ?_⟩
  refine pe_then_normal ?_
  refine tr_sub hC (.cons (t := 2) rfl .nil) .nil rfl ?_
  refine tr_ret ?_
  refine pe_then_ret ?_
  refine pe_ret1 rfl hO rfl (.tmp rfl .nil) ?_
  rw [h]
  exact ent_auto
 ·(try simp only [cq1, cq2, cq3, cq4, cq5, cq6, cq7, cq8, cq9, cq10, cq11, cq12, cq13] at h4)
  have h := objF_d h4
  refine tr_skip ?_
  refine pe_then_normal ?_
  refine tr_sub hC (.cons (t := 1) rfl .nil) (.cons (t := 1) rfl .nil) rfl ?_
  refine tr_seq ?_
  refine tr_region (fun N3 hN => ?_)
  refine lx (op_fieldAddr rfl fl91_1 sz33) rfl ?_
  refine lx (op_bload_one (m := 1) rfl rfl ag33 rfl) rfl ?_
  first | refine lx (op_len rfl el33) rfl ?_ | refine lx (op_len_row rfl el33) rfl ?_ | refine lx (op_len_mv rfl el33) rfl ?_ | refine lx (op_len_nil rfl el33) rfl ?_
  refine lx (op_leq rfl rfl) rfl ?_
  refine lx (op_move rfl) rfl ?_
  refine lxs rfl rfl rfl guard_eq (.cons (t := 1) rfl (fun _ => Ent.refl _) .nil) (op_fieldAddr rfl fl91_1 sz33) rfl ?_
  refine lxs rfl rfl rfl guard_eq (.cons (t := 57) rfl (fun h => entW h) .nil) (op_bload_one (m := 1) rfl rfl ag33 rfl) rfl ?_
  first | refine lxs rfl rfl rfl guard_eq (.cons (t := 58) rfl (fun h => entW h) .nil) (op_call (l := [(Go.Operand.tmp 58), (Go.Operand.func 53)]) (all52_ok o.cells hs.cells) (.cons rfl (.cons rfl .nil)) fn52) rfl ?_ | refine lxs rfl rfl rfl guard_eq (.cons (t := 58) rfl (fun h => entW h) .nil) (op_call (l := [(Go.Operand.tmp 58), (Go.Operand.func 53)]) (all52_ok o.cells hs.cells) (.ent rfl (by exact ent_auto) (.ent rfl (by exact ent_auto) .nil)) fn52) rfl ?_
  refine lx (op_pick_and rfl rfl) rfl ?_
  refine lx (op_move rfl) rfl ?_
  refine lxs rfl rfl rfl guard_eq (.cons (t := 1) rfl (fun _ => Ent.refl _) .nil) (op_fieldAddr rfl fl91_3 sz3) rfl ?_
  refine lxs rfl rfl rfl guard_eq (.cons (t := 62) rfl (fun h => entW h) .nil) (op_bload_one (m := 1) rfl rfl ag3 rfl) rfl ?_
  refine lxs rfl rfl rfl guard_eq (.cons (t := 63) rfl (fun h => entW h) .nil) (op_eql rfl rfl) rfl ?_
  refine lx (op_pick_and rfl rfl) rfl ?_
  refine lx (op_move rfl) rfl ?_
  refine lxs rfl rfl rfl guard_eq (.cons (t := 1) rfl (fun _ => Ent.refl _) .nil) (op_fieldAddr rfl fl91_4 sz33) rfl ?_
  refine lxs rfl rfl rfl guard_eq (.cons (t := 67) rfl (fun h => entW h) .nil) (op_bload_one (m := 1) rfl rfl ag33 rfl) rfl ?_
  first | refine lxs rfl rfl rfl guard_eq (.cons (t := 68) rfl (fun h => entW h) .nil) (op_len rfl el33) rfl ?_ | refine lxs rfl rfl rfl guard_eq (.cons (t := 68) rfl (fun h => entW h) .nil) (op_len_row rfl el33) rfl ?_ | refine lxs rfl rfl rfl guard_eq (.cons (t := 68) rfl (fun h => entW h) .nil) (op_len_mv rfl el33) rfl ?_ | refine lxs rfl rfl rfl guard_eq (.cons (t := 68) rfl (fun h => entW h) .nil) (op_len_nil rfl el33) rfl ?_
  refine lxs rfl rfl rfl guard_eq (.cons (t := 69) rfl (fun h => entW h) .nil) (op_eql rfl rfl) rfl ?_
  refine lx (op_pick_and rfl rfl) rfl ?_
  refine lx (op_move rfl) rfl ?_
  refine lxs rfl rfl rfl guard_eq (.cons (t := 1) rfl (fun _ => Ent.refl _) .nil) (op_fieldAddr rfl fl91_5 sz4) rfl ?_
  refine lxs rfl rfl rfl guard_eq (.cons (t := 73) rfl (fun h => entW h) .nil) (op_bload_one (m := 1) rfl rfl ag4 rfl) rfl ?_
  first | refine lxs rfl rfl rfl guard_eq (.cons (t := 74) rfl (fun h => entW h) .nil) (op_not rfl) rfl ?_ | refine lxs rfl rfl rfl guard_eq (.cons (t := 74) rfl (fun h => entW h) .nil) (op_not_b rfl) rfl ?_
  refine lx (op_pick_and rfl rfl) rfl ?_
  refine lx (op_move rfl) rfl ?_
  refine lxs rfl rfl rfl guard_eq (.cons (t := 1) rfl (fun _ => Ent.refl _) .nil) (op_fieldAddr rfl fl91_6 sz3) rfl ?_
  refine lxs rfl rfl rfl guard_eq (.cons (t := 78) rfl (fun h => entW h) .nil) (op_bload_one (m := 1) rfl rfl ag3 rfl) rfl ?_
  refine lxs rfl rfl rfl guard_eq (.cons (t := 79) rfl (fun h => entW h) .nil) (op_eql rfl rfl) rfl ?_
  refine lx (op_pick_and rfl rfl) rfl ?_
  refine lx (op_move rfl) rfl ?_
  refine lxs rfl rfl rfl guard_eq (.cons (t := 1) rfl (fun _ => Ent.refl _) .nil) (op_fieldAddr rfl fl91_7 sz3) rfl ?_
  refine lxs rfl rfl rfl guard_eq (.cons (t := 83) rfl (fun h => entW h) .nil) (op_bload_one (m := 1) rfl rfl ag3 rfl) rfl ?_
  refine lxs rfl rfl rfl guard_eq (.cons (t := 84) rfl (fun h => entW h) .nil) (op_eql rfl rfl) rfl ?_
  refine lx (op_pick_and rfl rfl) rfl ?_
  refine lx (op_move rfl) rfl ?_
  refine lxs rfl rfl rfl guard_eq (.cons (t := 1) rfl (fun _ => Ent.refl _) .nil) (op_fieldAddr rfl fl91_8 sz89) rfl ?_
  refine lxs rfl rfl rfl guard_eq (.cons (t := 88) rfl (fun h => entW h) .nil) (op_bload_one (m := 1) rfl rfl ag89 rfl) rfl ?_
  first | refine lxs rfl rfl rfl guard_eq (.cons (t := 89) rfl (fun h => entW h) .nil) (op_len rfl el89) rfl ?_ | refine lxs rfl rfl rfl guard_eq (.cons (t := 89) rfl (fun h => entW h) .nil) (op_len_row rfl el89) rfl ?_ | refine lxs rfl rfl rfl guard_eq (.cons (t := 89) rfl (fun h => entW h) .nil) (op_len_mv rfl el89) rfl ?_ | refine lxs rfl rfl rfl guard_eq (.cons (t := 89) rfl (fun h => entW h) .nil) (op_len_nil rfl el89) rfl ?_
  refine lxs rfl rfl rfl guard_eq (.cons (t := 90) rfl (fun h => entW h) .nil) (op_eql rfl rfl) rfl ?_
  refine lx (op_pick_and rfl rfl) rfl ?_
  refine lx (op_move rfl) rfl ?_
  refine lxs rfl rfl rfl guard_eq (.cons (t := 1) rfl (fun _ => Ent.refl _) .nil) (op_fieldAddr rfl fl91_9 sz89) rfl ?_
  refine lxs rfl rfl rfl guard_eq (.cons (t := 94) rfl (fun h => entW h) .nil) (op_bload_one (m := 1) rfl rfl ag89 rfl) rfl ?_
  first | refine lxs rfl rfl rfl guard_eq (.cons (t := 95) rfl (fun h => entW h) .nil) (op_len rfl el89) rfl ?_ | refine lxs rfl rfl rfl guard_eq (.cons (t := 95) rfl (fun h => entW h) .nil) (op_len_row rfl el89) rfl ?_ | refine lxs rfl rfl rfl guard_eq (.cons (t := 95) rfl (fun h => entW h) .nil) (op_len_mv rfl el89) rfl ?_ | refine lxs rfl rfl rfl guard_eq (.cons (t := 95) rfl (fun h => entW h) .nil) (op_len_nil rfl el89) rfl ?_
  refine lxs rfl rfl rfl guard_eq (.cons (t := 96) rfl (fun h => entW h) .nil) (op_eql rfl rfl) rfl ?_
  refine lx (op_pick_and rfl rfl) rfl ?_
  refine lx (op_assign rfl) rfl ?_
  refine lx_end ⟨by kernel_rfl, ?_⟩
  refine pe_then_normal ?_
  refine tr_sub hC (.cons (t := 2) rfl .nil) .nil rfl ?_
  refine tr_ret ?_
  refine pe_ret1 rfl hO rfl (.tmp rfl .nil) ?_
  rw [h]
  exact ent_auto
theorem hValid_ok (xs : List Ob) (hx : xs.length ≤ 9223372036854775807) (hb : ∀ o ∈ xs, BdO 9223372036854775807 o) : FnP Try.prog 50 [slP Ob.ps 10 xs] (eqP (.bool (validF xs))) := by
 refine fn_pure' Try.func50 rfl Try.ntmps50 rfl ?_
 intro σ0 M ex Rf R hC hO
 simp only [frameOf, tokOf]
 refine tr_seq ?_
 refine tr_region (fun N0 hN => ?_)
 refine lx (op_assign rfl) rfl ?_
 refine lx_end ⟨by kernel_rfl, ?_⟩
 refine pe_then_normal ?_
 refine tr_sub hC (.cons (t := 0) rfl .nil) .nil rfl ?_
 refine tr_seq ?_
 refine tr_region (fun N1 hN => ?_)
 refine lx (op_assign rfl) rfl ?_
 refine lx_end ⟨by kernel_rfl, ?_⟩
 refine pe_then_normal ?_
 refine tr_sub hC (.cons (t := 0) rfl (.cons (t := 3) rfl .nil)) .nil rfl ?_
 refine tr_seq ?_
 refine tr_seq ?_
 refine tr_region (fun N2 hN => ?_)
 refine lx (op_move rfl) rfl ?_
 first | refine lx (op_len rfl el92) rfl ?_ | refine lx (op_len_row rfl el92) rfl ?_ | refine lx (op_len_mv rfl el92) rfl ?_ | refine lx (op_len_nil rfl el92) rfl ?_
 refine lx (op_move rfl) rfl ?_
 refine lx_end ⟨by kernel_rfl, ?_⟩
 refine pe_then_normal ?_
 refine tr_sub hC (.cons (t := 3) rfl (.cons (t := 6) rfl (.cons (t := 7) rfl (.cons (t := 8) rfl .nil)))) .nil rfl ?_
 refine tr_block ?_
 refine tr_loopK (α := {zz : Nat × Int // zz.1 ≤ xs.length ∧ vfrom zz.2 (xs.drop zz.1) = validF xs}) (⟨(0, -1), Nat.zero_le _, rfl⟩) (fun zz => [(3, eqP (.int .i64 zz.1.2)), (8, eqP (.int .i64 (zz.1.1 : Int)))]) (fun zz => []) (fun zz => xs.length - zz.1.1) hC (.cons (t := 6) rfl (.cons (t := 7) rfl .nil)) .nil rfl ?_ ?_ (fun zz => ?_)
 ·try dsimp only [List.cons_append, List.nil_append]
  first | refine SubF.cons rfl ?_ | (refine SubF.ent rfl ?_ ?_; · exact ent_auto)
  first | refine SubF.cons rfl ?_ | (refine SubF.ent rfl ?_ ?_; · exact ent_auto)
  exact SubF.nil
 ·try dsimp only [List.cons_append, List.nil_append]
  repeat (first | exact SubL.nil | refine SubL.cons rfl ?_)
 ·obtain ⟨⟨k, last⟩, hk1, hk2⟩ := zz
  try dsimp only at hk1
  try dsimp only at hk2
  dsimp only [List.cons_append, List.nil_append]
  refine tr_seq ?_
  refine tr_region (fun N3 hN => ?_)
  refine lx (op_lss rfl rfl) rfl ?_
  refine lx_end ⟨by kernel_rfl, ?_⟩
  refine pe_then_normal ?_
  refine tr_sub hC (.cons (t := 3) rfl (.cons (t := 6) rfl (.cons (t := 7) rfl (.cons (t := 8) rfl (.cons (t := 9) rfl .nil))))) .nil rfl ?_
  refine tr_seq ?_
  refine tr_cond rfl (fun h9 => ?_) (fun h9 => ?_)
  ·(try simp only [cq1, cq2, cq3, cq4, cq5, cq6, cq7, cq8, cq9, cq10, cq11, cq12, cq13] at h9)
   have hbk := hb _ (List.getElem_mem (by omega : k < xs.length))
   refine tr_skip ?_
   refine pe_then_normal ?_
   refine tr_sub hC (.cons (t := 3) rfl (.cons (t := 6) rfl (.cons (t := 7) rfl (.cons (t := 8) rfl .nil)))) .nil rfl ?_
   refine tr_seq ?_
   refine tr_block ?_
   refine tr_seq ?_
   refine tr_region (fun N4 hN => ?_)
   refine lx (op_index rfl rfl el92 sz91 rfl (List.getElem?_eq_getElem (by omega : k < xs.length))) rfl ?_
   first | refine lx (op_load_all rfl ag91 sz91) rfl ?_ | refine lx (op_load_agg rfl ag91 sz91 rfl) rfl ?_
   refine lxn (op_alloc (m := 5) (k := 5) (ps := [eqP (.int .i64 0), eqP (.slice none 0 0), eqP (.bool false), eqP (.int .i64 0), eqP (.slice none 0 0), eqP (.bool false), eqP (.int .i64 0), eqP (.int .i64 0), eqP (.slice none 0 0), eqP (.slice none 0 0)]) ze91 rfl rfl (by first | exact hC.low _ (by decide) | rfl)) rfl ?_
   refine lxr (op_store_all (m := 5) rfl rfl rfl (.agg rfl) sz91 rfl) rfl ?_
   refine lx_end ⟨by kernel_rfl, ?_⟩
   refine pe_then_normal ?_
   refine tr_sub hC (.cons (t := 3) rfl (.cons (t := 5) rfl (.cons (t := 6) rfl (.cons (t := 7) rfl (.cons (t := 8) rfl .nil))))) (.cons (t := 5) rfl .nil) rfl ?_
   refine tr_seq ?_
   refine tr_seq ?_
   refine tr_region (fun N5 hN => ?_)
   refine lx (op_fieldAddr rfl fl91_0 sz3) rfl ?_
   refine lx (op_bload_one (m := 5) rfl rfl ag3 rfl) rfl ?_
   refine lx (op_move rfl) rfl ?_
   refine lx (op_leq rfl rfl) rfl ?_
   refine lx (op_move rfl) rfl ?_
   refine lxs rfl rfl rfl guard_eq (.cons (t := 5) rfl (fun _ => Ent.refl _) .nil) (op_bload (m := 5) rfl rfl ag91 sz91) rfl ?_
   first | refine lxs rfl rfl rfl guard_eq (.cons (t := 17) rfl (fun h => entW h) .nil) (op_call (l := [(Go.Operand.tmp 17)]) (object_ok xs[k] hbk) (.cons rfl .nil) fn51) rfl ?_ | refine lxs rfl rfl rfl guard_eq (.cons (t := 17) rfl (fun h => entW h) .nil) (op_call (l := [(Go.Operand.tmp 17)]) (object_ok xs[k] hbk) (.ent rfl (by exact ent_auto) .nil) fn51) rfl ?_
   first | refine lxs rfl rfl rfl guard_eq (.cons (t := 18) rfl (fun h => entW h) .nil) (op_not rfl) rfl ?_ | refine lxs rfl rfl rfl guard_eq (.cons (t := 18) rfl (fun h => entW h) .nil) (op_not_b rfl) rfl ?_
   refine lx (op_pick_or rfl rfl) rfl ?_
   refine lx_end ⟨by kernel_rfl, ?_⟩
   refine pe_then_normal ?_
   refine tr_sub hC (.cons (t := 5) rfl (.cons (t := 6) rfl (.cons (t := 7) rfl (.cons (t := 8) rfl (.cons (t := 20) rfl .nil))))) (.cons (t := 5) rfl .nil) rfl ?_
   refine tr_cond rfl (fun h20 => ?_) (fun h20 => ?_)
   ·have hbad := vfrom_bad (by omega) hk2 h20
    refine tr_seq ?_
    refine tr_region (fun N6 hN => ?_)
    refine lx (op_assign rfl) rfl ?_
    refine lx_end ⟨by kernel_rfl, ?_⟩
    refine pe_then_normal ?_
    refine tr_sub hC (.cons (t := 2) rfl .nil) .nil rfl ?_
    refine tr_ret ?_
    refine pe_then_ret ?_
    refine pe_block_ret ?_
    refine pe_then_ret ?_
    refine pe_then_ret ?_
    refine pe_block_ret ?_
    refine pe_then_ret ?_
    refine pe_ret1 rfl hO rfl (.tmp rfl .nil) ?_
    exact entB hbad.symm
   ·have hgo := h20
    refine tr_skip ?_
    refine pe_then_normal ?_
    refine tr_sub hC (.cons (t := 5) rfl (.cons (t := 6) rfl (.cons (t := 7) rfl (.cons (t := 8) rfl .nil)))) (.cons (t := 5) rfl .nil) rfl ?_
    refine tr_region (fun N7 hN => ?_)
    refine lx (op_fieldAddr rfl fl91_0 sz3) rfl ?_
    refine lx (op_bload_one (m := 5) rfl rfl ag3 rfl) rfl ?_
    refine lx (op_assign rfl) rfl ?_
    refine lx_end ⟨by kernel_rfl, ?_⟩
    refine pe_block_normal ?_
    refine pe_then_normal ?_
    refine tr_sub hC (.cons (t := 3) rfl (.cons (t := 6) rfl (.cons (t := 7) rfl (.cons (t := 8) rfl .nil)))) .nil rfl ?_
    refine tr_region (fun N8 hN => ?_)
    refine lx (op_add rfl rfl (by omega)) rfl ?_
    refine lx (op_move rfl) rfl ?_
    refine lx_end ⟨by kernel_rfl, ?_⟩
    refine pe_round (⟨(k + 1, xs[k].id), by dsimp only; omega, vfrom_next (by omega) hk2 h20⟩) (by dsimp only; omega) (pe_st hC ?_ ?_ rfl)
    ·try dsimp only [List.cons_append, List.nil_append]
     first | refine SubF.cons rfl ?_ | (refine SubF.ent rfl ?_ ?_; · exact ent_auto)
     first | refine SubF.cons rfl ?_ | (refine SubF.ent rfl ?_ ?_; · exact ent_auto)
     first | refine SubF.cons rfl ?_ | (refine SubF.ent rfl ?_ ?_; · exact ent_auto)
     first | refine SubF.cons rfl ?_ | (refine SubF.ent rfl ?_ ?_; · exact ent_auto)
     exact SubF.nil
    ·try dsimp only [List.cons_append, List.nil_append]
     repeat (first | exact SubL.nil | refine SubL.cons rfl ?_)
  ·(try simp only [cq1, cq2, cq3, cq4, cq5, cq6, cq7, cq8, cq9, cq10, cq11, cq12, cq13] at h9)
   have hfin := vfrom_end (by omega) hk2
   refine tr_exit ?_
   refine pe_then_exit ?_
   refine pe_then_exit ?_
   refine pe_block_eq ?_
   refine pe_then_normal ?_
   refine tr_sub hC .nil .nil rfl ?_
   refine tr_seq ?_
   refine tr_region (fun N9 hN => ?_)
   refine lx (op_assign rfl) rfl ?_
   refine lx_end ⟨by kernel_rfl, ?_⟩
   refine pe_then_normal ?_
   refine tr_sub hC (.cons (t := 2) rfl .nil) .nil rfl ?_
   refine tr_ret ?_
   refine pe_ret1 rfl hO rfl (.tmp rfl .nil) ?_
   exact entB hfin.symm
theorem one_ok (xs : List V) (hx : xs.length ≤ 64) : FnP Try.prog 50 [slP Ob.ps 10 [{ ob0 with cells := xs }]] (eqP (.bool (validF [{ ob0 with cells := xs }]))) :=
 hValid_ok _ (by simp) fun o ho => by
  rw [List.mem_singleton] at ho
  subst ho
  exact ⟨by show xs.length ≤ _; omega, Nat.zero_le _, Nat.zero_le _, Nat.zero_le _⟩
theorem values_small (xs : List V) (hx : xs.length ≤ 64) : FnP Try.prog 44 [slP vp 3 xs] (eqP (.bool (xs.all vval))) := by
 refine fn_pure' Try.func44 rfl Try.ntmps44 rfl ?_
 intro σ0 M ex Rf R hC hO
 simp only [frameOf, tokOf]
 refine tr_seq ?_
 refine tr_region (fun N0 hN => ?_)
 refine lx (op_assign rfl) rfl ?_
 refine lx_end ⟨by kernel_rfl, ?_⟩
 refine pe_then_normal ?_
 refine tr_sub hC (.cons (t := 0) rfl .nil) .nil rfl ?_
 refine tr_seq ?_
 refine tr_block ?_
 refine tr_loopK (α := {zz : Nat // zz = 0}) (⟨(0), rfl⟩) (fun zz => [(0, slP vp 3 xs)]) (fun zz => []) (fun zz => 0) hC .nil .nil rfl ?_ ?_ (fun zz => ?_)
 ·try dsimp only [List.cons_append, List.nil_append]
  first | refine SubF.cons rfl ?_ | (refine SubF.ent rfl ?_ ?_; · exact ent_auto)
  exact SubF.nil
 ·try dsimp only [List.cons_append, List.nil_append]
  repeat (first | exact SubL.nil | refine SubL.cons rfl ?_)
 ·obtain ⟨k, hk0⟩ := zz
  dsimp only [List.cons_append, List.nil_append]
  refine tr_seq ?_
  refine tr_seq ?_
  refine tr_region (fun N1 hN => ?_)
  refine lx (op_move rfl) rfl ?_
  first | refine lx (op_len rfl el33) rfl ?_ | refine lx (op_len_row rfl el33) rfl ?_ | refine lx (op_len_mv rfl el33) rfl ?_ | refine lx (op_len_nil rfl el33) rfl ?_
  refine lx (op_gtr rfl rfl) rfl ?_
  refine lx_end ⟨by kernel_rfl, ?_⟩
  refine pe_then_normal ?_
  refine tr_sub hC (.cons (t := 0) rfl (.cons (t := 5) rfl .nil)) .nil rfl ?_
  refine tr_cond rfl (fun h5 => ?_) (fun h5 => ?_)
  ·(try simp only [cq1, cq2, cq3, cq4, cq5, cq6, cq7, cq8, cq9, cq10, cq11, cq12, cq13] at h5)
   omega
  ·(try simp only [cq1, cq2, cq3, cq4, cq5, cq6, cq7, cq8, cq9, cq10, cq11, cq12, cq13] at h5)
   refine tr_exit ?_
   refine pe_then_exit ?_
   refine pe_then_exit ?_
   refine pe_block_eq ?_
   refine pe_then_normal ?_
   refine tr_sub hC (.cons (t := 0) rfl .nil) .nil rfl ?_
   refine tr_seq ?_
   refine tr_region (fun N5 hN => ?_)
   refine lx (op_move rfl) rfl ?_
   refine lx (OpJ.ent (op_build (qs := [_, _, _, _, _, _, _, _, _, _]) (parts := [(1, (Go.Operand.tmp 12))]) ze91 rfl rfl fs91 (.cons rfl (.one (by (first | exact One.eq rfl | exact One.mv _ _ _ _ _ | exact One.cl _ _ _ | exact One.map _ | exact One.sl _ _ _ | exact One.row _ _ _ _ | exact One.msl _ _ _ _ | exact One.ptr _ _ | exact One.b _ | exact One.cells _))) fl91_1 sz33 rfl .nil) rfl rfl) (show Ent _ (aggP (Ob.ps { ob0 with cells := xs })) from (by exact ent_auto))) rfl ?_
   refine lx (op_buildSlice (f := Ob.ps) (xs := [{ ob0 with cells := xs }]) (l := [(0, (Go.Operand.tmp 13))]) ze91 rfl rfl (by decide) el92 sz91 Ob.len (.cons rfl (.agg rfl) .nil) rfl (by decide)) rfl ?_
   first | refine lx (op_call (l := [(Go.Operand.tmp 14)]) (one_ok xs (by omega)) (.cons rfl .nil) fn50) rfl ?_ | refine lx (op_call (l := [(Go.Operand.tmp 14)]) (one_ok xs (by omega)) (.ent rfl (by exact ent_auto) .nil) fn50) rfl ?_
   refine lx (op_assign rfl) rfl ?_
   refine lx_end ⟨by kernel_rfl, ?_⟩
   refine pe_then_normal ?_
   refine tr_sub hC (.cons (t := 2) rfl .nil) .nil rfl ?_
   refine tr_ret ?_
   refine pe_ret1 rfl hO rfl (.tmp rfl .nil) ?_
   exact entB (one_obj hx)
end Go.Proofs.Ythiknhmoefbanaa


set_option linter.unusedVariables false
set_option linter.unusedSimpArgs false
namespace Go.Proofs.Ythiknhmoefbanaa
open Go.AL Go.Ch Go.Hp Go.RowKit
theorem ag64 : aggB Try.prog 64 = some false := by kernel_rfl
theorem ag66 : aggB Try.prog 66 = some true := by kernel_rfl
theorem el64 : elemB Try.prog 64 = some 80 := by kernel_rfl
theorem fl66_3 : fldB Try.prog 66 3 = some (3, 64) := by kernel_rfl
theorem fn37 : fnB Try.prog 37 = true := by kernel_rfl
theorem fn44 : fnB Try.prog 44 = true := by kernel_rfl
theorem sz64 : sizeB Try.prog 64 = some 1 := by kernel_rfl
theorem ze66 : zeroB Try.prog 66 = some (some (.agg #[.string ⟨#[]⟩, .int .i64 0, .int .i64 0, .slice none 0 0])) := by kernel_rfl
theorem values_ok (xs : List V) (hx : xs.length ≤ 9223372036854775807) : FnP Try.prog 44 [slP vp 3 xs] (eqP (.bool (xs.all vval))) := by
 refine fn_pure' Try.func44 rfl Try.ntmps44 rfl ?_
 intro σ0 M ex Rf R hC hO
 simp only [frameOf, tokOf]
 refine tr_seq ?_
 refine tr_region (fun N0 hN => ?_)
 refine lx (op_assign rfl) rfl ?_
 refine lx_end ⟨by kernel_rfl, ?_⟩
 refine pe_then_normal ?_
 refine tr_sub hC (.cons (t := 0) rfl .nil) .nil rfl ?_
 refine tr_seq ?_
 refine tr_block ?_
 refine tr_loopK (α := {zz : Nat // 64 * zz ≤ xs.length ∧ (xs.drop (64 * zz)).all vval = xs.all vval}) (⟨(0), Nat.zero_le _, rfl⟩) (fun zz => [(0, slP vp 3 (xs.drop (64 * zz.1)))]) (fun zz => []) (fun zz => xs.length - 64 * zz.1) hC .nil .nil rfl ?_ ?_ (fun zz => ?_)
 ·try dsimp only [List.cons_append, List.nil_append]
  first | refine SubF.cons rfl ?_ | (refine SubF.ent rfl ?_ ?_; · exact ent_auto)
  exact SubF.nil
 ·try dsimp only [List.cons_append, List.nil_append]
  repeat (first | exact SubL.nil | refine SubL.cons rfl ?_)
 ·obtain ⟨k, hk1, hk2⟩ := zz
  dsimp only [List.cons_append, List.nil_append]
  refine tr_seq ?_
  refine tr_seq ?_
  refine tr_region (fun N1 hN => ?_)
  refine lx (op_move rfl) rfl ?_
  first | refine lx (op_len rfl el33) rfl ?_ | refine lx (op_len_row rfl el33) rfl ?_ | refine lx (op_len_mv rfl el33) rfl ?_ | refine lx (op_len_nil rfl el33) rfl ?_
  refine lx (op_gtr rfl rfl) rfl ?_
  refine lx_end ⟨by kernel_rfl, ?_⟩
  refine pe_then_normal ?_
  refine tr_sub hC (.cons (t := 0) rfl (.cons (t := 5) rfl .nil)) .nil rfl ?_
  refine tr_cond rfl (fun h5 => ?_) (fun h5 => ?_)
  ·(try simp only [cq1, cq2, cq3, cq4, cq5, cq6, cq7, cq8, cq9, cq10, cq11, cq12, cq13] at h5)
   have hl : (xs.drop (64 * k)).length = xs.length - 64 * k := List.length_drop ..
   rw [hl] at h5
   refine tr_skip ?_
   refine pe_then_normal ?_
   refine tr_sub hC (.cons (t := 0) rfl .nil) .nil rfl ?_
   refine tr_block ?_
   refine tr_seq ?_
   refine tr_seq ?_
   refine tr_region (fun N2 hN => ?_)
   refine lx (op_move rfl) rfl ?_
   refine lx (op_slice_h rfl rfl el33 sz43 (show (64 : Int) = ((64 : Nat) : Int) from rfl) (by omega)) rfl ?_
   first | refine lx (op_call (l := [(Go.Operand.tmp 7)]) (values_small ((xs.drop (64 * k)).take 64) (by simp; omega)) (.cons rfl .nil) fn44) rfl ?_ | refine lx (op_call (l := [(Go.Operand.tmp 7)]) (values_small ((xs.drop (64 * k)).take 64) (by simp; omega)) (.ent rfl (by exact ent_auto) .nil) fn44) rfl ?_
   first | refine lx (op_not rfl) rfl ?_ | refine lx (op_not_b rfl) rfl ?_
   refine lx_end ⟨by kernel_rfl, ?_⟩
   refine pe_then_normal ?_
   refine tr_sub hC (.cons (t := 0) rfl (.cons (t := 9) rfl .nil)) .nil rfl ?_
   refine tr_cond rfl (fun h9 => ?_) (fun h9 => ?_)
   ·(try simp only [cq1, cq2, cq3, cq4, cq5, cq6, cq7, cq8, cq9, cq10, cq11, cq12, cq13] at h9)
    have hbad := all64_bad h9 hk2
    refine tr_seq ?_
    refine tr_region (fun N3 hN => ?_)
    refine lx (op_assign rfl) rfl ?_
    refine lx_end ⟨by kernel_rfl, ?_⟩
    refine pe_then_normal ?_
    refine tr_sub hC (.cons (t := 2) rfl .nil) .nil rfl ?_
    refine tr_ret ?_
    refine pe_then_ret ?_
    refine pe_block_ret ?_
    refine pe_then_ret ?_
    refine pe_block_ret ?_
    refine pe_then_ret ?_
    refine pe_ret1 rfl hO rfl (.tmp rfl .nil) ?_
    exact entB hbad.symm
   ·(try simp only [cq1, cq2, cq3, cq4, cq5, cq6, cq7, cq8, cq9, cq10, cq11, cq12, cq13] at h9)
    have hgo := all64_go (k := 64 * (k + 1)) h9 hk2 (by omega)
    refine tr_skip ?_
    refine pe_then_normal ?_
    refine tr_sub hC (.cons (t := 0) rfl .nil) .nil rfl ?_
    refine tr_region (fun N4 hN => ?_)
    refine lx (op_move rfl) rfl ?_
    refine lx (OpJ.ent (op_slice_l rfl rfl el33 sz43 (show (64 : Int) = ((64 : Nat) : Int) from rfl) (by omega)) (show Ent _ (slP vp 3 (xs.drop (64 * (k + 1)))) from (by rw [show xs.drop (64 * (k + 1)) = (xs.drop (64 * k)).drop 64 by rw [List.drop_drop]; rfl]; exact Ent.refl _))) rfl ?_
    refine lx (op_assign rfl) rfl ?_
    refine lx_end ⟨by kernel_rfl, ?_⟩
    refine pe_block_normal ?_
    refine pe_round (⟨(k + 1), by omega, hgo⟩) (by dsimp only; omega) (pe_st hC ?_ ?_ rfl)
    ·try dsimp only [List.cons_append, List.nil_append]
     first | refine SubF.cons rfl ?_ | (refine SubF.ent rfl ?_ ?_; · exact ent_auto)
     exact SubF.nil
    ·try dsimp only [List.cons_append, List.nil_append]
     repeat (first | exact SubL.nil | refine SubL.cons rfl ?_)
  ·(try simp only [cq1, cq2, cq3, cq4, cq5, cq6, cq7, cq8, cq9, cq10, cq11, cq12, cq13] at h5)
   have hl : (xs.drop (64 * k)).length = xs.length - 64 * k := List.length_drop ..
   rw [hl] at h5
   have hfin := (one_obj (by omega : (xs.drop (64 * k)).length ≤ 64)).trans hk2
   refine tr_exit ?_
   refine pe_then_exit ?_
   refine pe_then_exit ?_
   refine pe_block_eq ?_
   refine pe_then_normal ?_
   refine tr_sub hC (.cons (t := 0) rfl .nil) .nil rfl ?_
   refine tr_seq ?_
   refine tr_region (fun N5 hN => ?_)
   refine lx (op_move rfl) rfl ?_
   refine lx (OpJ.ent (op_build (qs := [_, _, _, _, _, _, _, _, _, _]) (parts := [(1, (Go.Operand.tmp 12))]) ze91 rfl rfl fs91 (.cons rfl (.one (by (first | exact One.eq rfl | exact One.mv _ _ _ _ _ | exact One.cl _ _ _ | exact One.map _ | exact One.sl _ _ _ | exact One.row _ _ _ _ | exact One.msl _ _ _ _ | exact One.ptr _ _ | exact One.b _ | exact One.cells _))) fl91_1 sz33 rfl .nil) rfl rfl) (show Ent _ (aggP (Ob.ps { ob0 with cells := (xs.drop (64 * k)) })) from (by exact ent_auto))) rfl ?_
   refine lx (op_buildSlice (f := Ob.ps) (xs := [{ ob0 with cells := (xs.drop (64 * k)) }]) (l := [(0, (Go.Operand.tmp 13))]) ze91 rfl rfl (by decide) el92 sz91 Ob.len (.cons rfl (.agg rfl) .nil) rfl (by decide)) rfl ?_
   first | refine lx (op_call (l := [(Go.Operand.tmp 14)]) (one_ok (xs.drop (64 * k)) (by omega)) (.cons rfl .nil) fn50) rfl ?_ | refine lx (op_call (l := [(Go.Operand.tmp 14)]) (one_ok (xs.drop (64 * k)) (by omega)) (.ent rfl (by exact ent_auto) .nil) fn50) rfl ?_
   refine lx (op_assign rfl) rfl ?_
   refine lx_end ⟨by kernel_rfl, ?_⟩
   refine pe_then_normal ?_
   refine tr_sub hC (.cons (t := 2) rfl .nil) .nil rfl ?_
   refine tr_ret ?_
   refine pe_ret1 rfl hO rfl (.tmp rfl .nil) ?_
   exact entB hfin
theorem frame_nil (p : Pg) (f : Fm) (hb : BdF 9223372036854775807 f) : FnP Try.prog 37 [aggP p.ps, aggP f.ps, eqP (.pointer none)] (eqP (.bool (frmOK p none f))) := by
 have hbr := hb.regs
 have hbd := hb.defers
 refine fn_pure' Try.func37 rfl Try.ntmps37 rfl ?_
 intro σ0 M ex Rf R hC hO
 simp only [frameOf, tokOf]
 refine tr_seq ?_
 refine tr_region (fun N0 hN => ?_)
 refine lxn (op_box (m := 3) (k := 3) rfl (.agg rfl) (by first | exact hC.low _ (by decide) | rfl)) rfl ?_
 refine lxn (op_box (m := 4) (k := 4) rfl (.agg rfl) (by first | exact hC.low _ (by decide) | rfl)) rfl ?_
 refine lx (op_assign rfl) rfl ?_
 refine lx_end ⟨by kernel_rfl, ?_⟩
 refine pe_then_normal ?_
 refine tr_sub hC (.cons (t := 2) rfl (.cons (t := 3) rfl (.cons (t := 4) rfl .nil))) (.cons (t := 3) rfl (.cons (t := 4) rfl .nil)) rfl ?_
 refine tr_seq ?_
 refine tr_seq ?_
 refine tr_region (fun N1 hN => ?_)
 refine lx (op_fieldAddr rfl fl60_0 sz3) rfl ?_
 refine lx (op_bload_one (m := 4) rfl rfl ag3 rfl) rfl ?_
 refine lx (op_lss rfl rfl) rfl ?_
 refine lx (op_move rfl) rfl ?_
 refine lxs rfl rfl rfl guard_eq (.cons (t := 4) rfl (fun _ => Ent.refl _) .nil) (op_fieldAddr rfl fl60_0 sz3) rfl ?_
 refine lxs rfl rfl rfl guard_eq (.cons (t := 14) rfl (fun h => entW h) .nil) (op_bload_one (m := 4) rfl rfl ag3 rfl) rfl ?_
 refine lxs rfl rfl rfl guard_eq (.cons (t := 3) rfl (fun _ => Ent.refl _) .nil) (op_fieldAddr rfl fl26_0 sz22) rfl ?_
 refine lxs rfl rfl rfl guard_eq (.cons (t := 16) rfl (fun h => entW h) .nil) (op_bload_one (m := 3) rfl rfl ag22 rfl) rfl ?_
 first | refine lxs rfl rfl rfl guard_eq (.cons (t := 17) rfl (fun h => entW h) .nil) (op_len rfl el22) rfl ?_ | refine lxs rfl rfl rfl guard_eq (.cons (t := 17) rfl (fun h => entW h) .nil) (op_len_row rfl el22) rfl ?_ | refine lxs rfl rfl rfl guard_eq (.cons (t := 17) rfl (fun h => entW h) .nil) (op_len_mv rfl el22) rfl ?_ | refine lxs rfl rfl rfl guard_eq (.cons (t := 17) rfl (fun h => entW h) .nil) (op_len_nil rfl el22) rfl ?_
 refine lxs rfl rfl rfl guard_eq (.cons (t := 15) rfl (fun h => entW h) (.cons (t := 18) rfl (fun h => entW h) .nil)) (op_geq rfl rfl) rfl ?_
 refine lx (op_pick_or rfl rfl) rfl ?_
 refine lx_end ⟨by kernel_rfl, ?_⟩
 refine pe_then_normal ?_
 refine tr_sub hC (.cons (t := 2) rfl (.cons (t := 3) rfl (.cons (t := 4) rfl (.cons (t := 20) rfl .nil)))) (.cons (t := 3) rfl (.cons (t := 4) rfl .nil)) rfl ?_
 refine tr_cond rfl (fun h20 => ?_) (fun h20 => ?_)
 ·(try simp only [cq1, cq2, cq3, cq4, cq5, cq6, cq7, cq8, cq9, cq10, cq11, cq12, cq13] at h20)
  have hno := frm_no1 (p := p) (b := none) (f := f) (by omega)
  refine tr_seq ?_
  refine tr_region (fun N2 hN => ?_)
  refine lx (op_assign rfl) rfl ?_
  refine lx_end ⟨by kernel_rfl, ?_⟩
  refine pe_then_normal ?_
  refine tr_sub hC (.cons (t := 6) rfl .nil) .nil rfl ?_
  refine tr_ret ?_
  refine pe_then_ret ?_
  refine pe_ret1 rfl hO rfl (.tmp rfl .nil) ?_
  rw [hno]
  exact ent_auto
 ·(try simp only [cq1, cq2, cq3, cq4, cq5, cq6, cq7, cq8, cq9, cq10, cq11, cq12, cq13] at h20)
  have h1 : 0 ≤ f.fn ∧ f.fn < (p.funcs.length : Int) := by omega
  refine tr_skip ?_
  refine pe_then_normal ?_
  refine tr_sub hC (.cons (t := 2) rfl (.cons (t := 3) rfl (.cons (t := 4) rfl .nil))) (.cons (t := 3) rfl (.cons (t := 4) rfl .nil)) rfl ?_
  refine tr_seq ?_
  refine tr_region (fun N3 hN => ?_)
  refine lx (op_fieldAddr rfl fl26_0 sz22) rfl ?_
  refine lx (op_bload_one (m := 3) rfl rfl ag22 rfl) rfl ?_
  refine lx (op_fieldAddr rfl fl60_0 sz3) rfl ?_
  refine lx (op_bload_one (m := 4) rfl rfl ag3 rfl) rfl ?_
  refine lx (op_index rfl rfl el22 sz66 (by omega : f.fn = ((f.fn.toNat : Nat) : Int)) (pfn_at (by omega) (by omega))) rfl ?_
  first | refine lx (op_load_all rfl ag66 sz66) rfl ?_ | refine lx (op_load_agg rfl ag66 sz66 rfl) rfl ?_ | refine lx (op_bload (m := 3) rfl rfl ag66 sz66) rfl ?_ | refine lx (op_bload (m := 4) rfl rfl ag66 sz66) rfl ?_ | refine lx (op_bload_part (m := 3) (qs := [_, _, _, _]) rfl rfl ag66 sz66 rfl rfl) rfl ?_ | refine lx (op_bload_part (m := 4) (qs := [_, _, _, _]) rfl rfl ag66 sz66 rfl rfl) rfl ?_
  refine lxn (op_alloc (m := 7) (k := 7) (ps := [eqP (.string ⟨#[]⟩), eqP (.int .i64 0), eqP (.int .i64 0), eqP (.slice none 0 0)]) ze66 rfl rfl (by first | exact hC.low _ (by decide) | rfl)) rfl ?_
  refine lxr (op_store_all (m := 7) rfl rfl rfl (.agg rfl) sz66 rfl) rfl ?_
  refine lx_end ⟨by kernel_rfl, ?_⟩
  refine pe_then_normal ?_
  refine tr_sub hC (.cons (t := 2) rfl (.cons (t := 3) rfl (.cons (t := 4) rfl (.cons (t := 7) rfl .nil)))) (.cons (t := 3) rfl (.cons (t := 4) rfl (.cons (t := 7) rfl .nil))) rfl ?_
  refine tr_seq ?_
  refine tr_seq ?_
  refine tr_region (fun N4 hN => ?_)
  refine lx (op_fieldAddr rfl fl60_2 sz33) rfl ?_
  refine lx (op_bload_one (m := 4) rfl rfl ag33 rfl) rfl ?_
  first | refine lx (op_len rfl el33) rfl ?_ | refine lx (op_len_row rfl el33) rfl ?_ | refine lx (op_len_mv rfl el33) rfl ?_ | refine lx (op_len_nil rfl el33) rfl ?_
  refine lx (op_fieldAddr rfl fl66_2 sz3) rfl ?_
  refine lx (op_bload_one (m := 7) rfl rfl ag3 rfl) rfl ?_
  refine lx (op_neq rfl rfl) rfl ?_
  refine lx (op_move rfl) rfl ?_
  refine lxs rfl rfl rfl guard_eq (.cons (t := 4) rfl (fun _ => Ent.refl _) .nil) (op_fieldAddr rfl fl60_1 sz3) rfl ?_
  refine lxs rfl rfl rfl guard_eq (.cons (t := 34) rfl (fun h => entW h) .nil) (op_bload_one (m := 4) rfl rfl ag3 rfl) rfl ?_
  refine lxs rfl rfl rfl guard_eq (.cons (t := 35) rfl (fun h => entW h) .nil) (op_lss rfl rfl) rfl ?_
  refine lx (op_pick_or rfl rfl) rfl ?_
  refine lx (op_move rfl) rfl ?_
  refine lxs rfl rfl rfl guard_eq (.cons (t := 4) rfl (fun _ => Ent.refl _) .nil) (op_fieldAddr rfl fl60_1 sz3) rfl ?_
  refine lxs rfl rfl rfl guard_eq (.cons (t := 39) rfl (fun h => entW h) .nil) (op_bload_one (m := 4) rfl rfl ag3 rfl) rfl ?_
  refine lxs rfl rfl rfl guard_eq (.cons (t := 7) rfl (fun _ => Ent.refl _) .nil) (op_fieldAddr rfl fl66_3 sz64) rfl ?_
  refine lxs rfl rfl rfl guard_eq (.cons (t := 41) rfl (fun h => entW h) .nil) (op_bload_one (m := 7) rfl rfl ag64 rfl) rfl ?_
  first | refine lxs rfl rfl rfl guard_eq (.cons (t := 42) rfl (fun h => entW h) .nil) (op_len rfl el64) rfl ?_ | refine lxs rfl rfl rfl guard_eq (.cons (t := 42) rfl (fun h => entW h) .nil) (op_len_row rfl el64) rfl ?_ | refine lxs rfl rfl rfl guard_eq (.cons (t := 42) rfl (fun h => entW h) .nil) (op_len_mv rfl el64) rfl ?_ | refine lxs rfl rfl rfl guard_eq (.cons (t := 42) rfl (fun h => entW h) .nil) (op_len_nil rfl el64) rfl ?_
  refine lxs rfl rfl rfl guard_eq (.cons (t := 40) rfl (fun h => entW h) (.cons (t := 43) rfl (fun h => entW h) .nil)) (op_geq rfl rfl) rfl ?_
  refine lx (op_pick_or rfl rfl) rfl ?_
  refine lx (op_move rfl) rfl ?_
  refine lxs rfl rfl rfl guard_eq (.cons (t := 4) rfl (fun _ => Ent.refl _) .nil) (op_fieldAddr rfl fl60_2 sz33) rfl ?_
  refine lxs rfl rfl rfl guard_eq (.cons (t := 47) rfl (fun h => entW h) .nil) (op_bload_one (m := 4) rfl rfl ag33 rfl) rfl ?_
  first | refine lxs rfl rfl rfl guard_eq (.cons (t := 48) rfl (fun h => entW h) .nil) (op_call (l := [(Go.Operand.tmp 48)]) (values_ok f.regs (by omega)) (.cons rfl .nil) fn44) rfl ?_ | refine lxs rfl rfl rfl guard_eq (.cons (t := 48) rfl (fun h => entW h) .nil) (op_call (l := [(Go.Operand.tmp 48)]) (values_ok f.regs (by omega)) (.ent rfl (by exact ent_auto) .nil) fn44) rfl ?_
  first | refine lxs rfl rfl rfl guard_eq (.cons (t := 49) rfl (fun h => entW h) .nil) (op_not rfl) rfl ?_ | refine lxs rfl rfl rfl guard_eq (.cons (t := 49) rfl (fun h => entW h) .nil) (op_not_b rfl) rfl ?_
  refine lx (op_pick_or rfl rfl) rfl ?_
  refine lx (op_move rfl) rfl ?_
  refine lxs rfl rfl rfl guard_eq (.cons (t := 4) rfl (fun _ => Ent.refl _) .nil) (op_fieldAddr rfl fl60_6 sz43) rfl ?_
  refine lxs rfl rfl rfl guard_eq (.cons (t := 53) rfl (fun h => entW h) .nil) (op_bload_part (m := 4) (qs := [_, _, _]) rfl rfl ag43 sz43 rfl rfl) rfl ?_
  refine lxs rfl rfl rfl guard_eq (.cons (t := 54) rfl (fun h => entW h) .nil) (op_buildSlice (f := vp) (xs := [f.result]) (l := [(0, (Go.Operand.tmp 54))]) ze43 rfl rfl (by decide) el33 sz43 vp_len (.cons rfl (.agg rfl) .nil) rfl (by decide)) rfl ?_
  first | refine lxs rfl rfl rfl guard_eq (.cons (t := 55) rfl (fun h => entW h) .nil) (op_call (l := [(Go.Operand.tmp 55)]) (values_ok [f.result] (by simp)) (.cons rfl .nil) fn44) rfl ?_ | refine lxs rfl rfl rfl guard_eq (.cons (t := 55) rfl (fun h => entW h) .nil) (op_call (l := [(Go.Operand.tmp 55)]) (values_ok [f.result] (by simp)) (.ent rfl (by exact ent_auto) .nil) fn44) rfl ?_
  first | refine lxs rfl rfl rfl guard_eq (.cons (t := 56) rfl (fun h => entW h) .nil) (op_not rfl) rfl ?_ | refine lxs rfl rfl rfl guard_eq (.cons (t := 56) rfl (fun h => entW h) .nil) (op_not_b rfl) rfl ?_
  refine lx (op_pick_or rfl rfl) rfl ?_
  refine lx (op_move rfl) rfl ?_
  refine lxs rfl rfl rfl guard_eq (.cons (t := 4) rfl (fun _ => Ent.refl _) .nil) (op_fieldAddr rfl fl60_3 sz3) rfl ?_
  refine lxs rfl rfl rfl guard_eq (.cons (t := 60) rfl (fun h => entW h) .nil) (op_bload_one (m := 4) rfl rfl ag3 rfl) rfl ?_
  refine lxs rfl rfl rfl guard_eq (.cons (t := 61) rfl (fun h => entW h) .nil) (op_lss rfl rfl) rfl ?_
  refine lx (op_pick_or rfl rfl) rfl ?_
  refine lx_end ⟨by kernel_rfl, ?_⟩
  refine pe_then_normal ?_
  refine tr_sub hC (.cons (t := 2) rfl (.cons (t := 3) rfl (.cons (t := 4) rfl (.cons (t := 63) rfl .nil)))) (.cons (t := 3) rfl (.cons (t := 4) rfl .nil)) rfl ?_
  refine tr_cond rfl (fun h63 => ?_) (fun h63 => ?_)
  ·have hno := frm_no2 (b := none) (mid_no h63)
   refine tr_seq ?_
   refine tr_region (fun N5 hN => ?_)
   refine lx (op_assign rfl) rfl ?_
   refine lx_end ⟨by kernel_rfl, ?_⟩
   refine pe_then_normal ?_
   refine tr_sub hC (.cons (t := 6) rfl .nil) .nil rfl ?_
   refine tr_ret ?_
   refine pe_then_ret ?_
   refine pe_ret1 rfl hO rfl (.tmp rfl .nil) ?_
   rw [hno]
   exact ent_auto
  ·have h2 := mid_yes h63
   refine tr_skip ?_
   refine pe_then_normal ?_
   refine tr_sub hC (.cons (t := 2) rfl (.cons (t := 3) rfl (.cons (t := 4) rfl .nil))) (.cons (t := 3) rfl (.cons (t := 4) rfl .nil)) rfl ?_
   refine tr_seq ?_
   refine tr_seq ?_
   refine tr_drawn mixed (fun N6 hN => ?_)
   refine lx (op_move rfl) rfl ?_
   first | refine lxk (op_eql_ptr pt73 rfl (IsPtr.own _ _)) (rfl) rfl ?_ | refine lxk (op_eql_ptr pt73 rfl (IsPtr.cells _)) (rfl) rfl ?_ | refine lxk (op_eql_ptr pt73 rfl (IsPtr.nil)) (rfl) rfl ?_
   refine lx (op_move rfl) rfl ?_
   refine lxg rfl rfl rfl (op_fieldAddr rfl fl60_3 sz3) rfl ?_
   refine lxg rfl rfl rfl (op_bload_one (m := 4) rfl rfl ag3 rfl) rfl ?_
   refine lxg rfl rfl rfl (op_neq rfl rfl) rfl ?_
   refine lxc (op_pick_t rfl rfl) rfl (fun h70 => ?_) (fun h70 => ?_)
   ·(try simp only [cq1, cq2, cq3, cq4, cq5, cq6, cq7, cq8, cq9, cq10, cq11, cq12, cq13] at h70)
    have hno := frm_no3 (p := p) (b := none) (f := f) (decide_eq_false (by omega))
    refine lx (op_move rfl) rfl ?_
    refine lx_skip rfl rfl rfl (by first | exact notThe_bool rfl | exact notThe_undef) rfl ?_
    refine lx_skip rfl rfl rfl (by first | exact notThe_bool rfl | exact notThe_undef) rfl ?_
    refine lx_skip rfl rfl rfl (by first | exact notThe_bool rfl | exact notThe_undef) rfl ?_
    refine lx_skip rfl rfl rfl (by first | exact notThe_bool rfl | exact notThe_undef) rfl ?_
    refine lx_skip rfl rfl rfl (by first | exact notThe_bool rfl | exact notThe_undef) rfl ?_
    refine lx_skip rfl rfl rfl (by first | exact notThe_bool rfl | exact notThe_undef) rfl ?_
    refine lx_skip rfl rfl rfl (by first | exact notThe_bool rfl | exact notThe_undef) rfl ?_
    refine lx_skip rfl rfl rfl (by first | exact notThe_bool rfl | exact notThe_undef) rfl ?_
    refine lx_skip rfl rfl rfl (by first | exact notThe_bool rfl | exact notThe_undef) rfl ?_
    refine lx_skip rfl rfl rfl (by first | exact notThe_bool rfl | exact notThe_undef) rfl ?_
    refine lx_skip rfl rfl rfl (by first | exact notThe_bool rfl | exact notThe_undef) rfl ?_
    refine lx_skip rfl rfl rfl (by first | exact notThe_bool rfl | exact notThe_undef) rfl ?_
    refine lx (op_pick_t rfl rfl) rfl ?_
    refine lx_end ⟨by kernel_rfl, ?_⟩
    refine pe_then_normal ?_
    refine tr_sub hC (.cons (t := 3) rfl (.cons (t := 4) rfl (.cons (t := 84) rfl .nil))) (.cons (t := 3) rfl (.cons (t := 4) rfl .nil)) rfl ?_
    refine tr_cond_t rfl ?_
    refine tr_seq ?_
    refine tr_region (fun N7 hN => ?_)
    refine lx (op_assign rfl) rfl ?_
    refine lx_end ⟨by kernel_rfl, ?_⟩
    refine pe_then_normal ?_
    refine tr_sub hC (.cons (t := 6) rfl .nil) .nil rfl ?_
    refine tr_ret ?_
    refine pe_then_ret ?_
    refine pe_ret1 rfl hO rfl (.tmp rfl .nil) ?_
    rw [hno]
    exact ent_auto
   ·(try simp only [cq1, cq2, cq3, cq4, cq5, cq6, cq7, cq8, cq9, cq10, cq11, cq12, cq13] at h70)
    have h3 : destOK none f = true := decide_eq_true (by omega)
    refine lx (op_move rfl) rfl ?_
    refine lxg rfl rfl rfl (op_move rfl) rfl ?_
    first | refine lxgk rfl rfl rfl (op_neq_ptr pt73 rfl (IsPtr.own _ _)) (rfl) rfl ?_ | refine lxgk rfl rfl rfl (op_neq_ptr pt73 rfl (IsPtr.cells _)) (rfl) rfl ?_ | refine lxgk rfl rfl rfl (op_neq_ptr pt73 rfl (IsPtr.nil)) (rfl) rfl ?_
    refine lxg rfl rfl rfl (op_move rfl) rfl ?_
    refine lx_skip rfl rfl rfl (by first | exact notThe_bool rfl | exact notThe_undef) rfl ?_
    refine lx_skip rfl rfl rfl (by first | exact notThe_bool rfl | exact notThe_undef) rfl ?_
    refine lx_skip rfl rfl rfl (by first | exact notThe_bool rfl | exact notThe_undef) rfl ?_
    refine lx_skip rfl rfl rfl (by first | exact notThe_bool rfl | exact notThe_undef) rfl ?_
    refine lx_skip rfl rfl rfl (by first | exact notThe_bool rfl | exact notThe_undef) rfl ?_
    refine lx_skip rfl rfl rfl (by first | exact notThe_bool rfl | exact notThe_undef) rfl ?_
    refine lx_skip rfl rfl rfl (by first | exact notThe_bool rfl | exact notThe_undef) rfl ?_
    refine lx_skip rfl rfl rfl (by first | exact notThe_bool rfl | exact notThe_undef) rfl ?_
    refine lxg rfl rfl rfl (op_pick_f rfl rfl) rfl ?_
    refine lx (op_pick_f rfl rfl) rfl ?_
    refine lx_end ⟨by kernel_rfl, ?_⟩
    refine pe_then_normal ?_
    refine tr_sub hC (.cons (t := 3) rfl (.cons (t := 4) rfl (.cons (t := 84) rfl .nil))) (.cons (t := 3) rfl (.cons (t := 4) rfl .nil)) rfl ?_
    refine tr_cond_f rfl ?_
    refine tr_skip ?_
    refine pe_then_normal ?_
    refine tr_sub hC (.cons (t := 3) rfl (.cons (t := 4) rfl .nil)) (.cons (t := 3) rfl (.cons (t := 4) rfl .nil)) rfl ?_
    refine tr_seq ?_
    refine tr_seq ?_
    refine tr_region (fun N8 hN => ?_)
    refine lx (op_fieldAddr rfl fl60_4 sz58) rfl ?_
    refine lx (op_bload_one (m := 4) rfl rfl ag58 rfl) rfl ?_
    first | refine lx (op_len rfl el58) rfl ?_ | refine lx (op_len_row rfl el58) rfl ?_ | refine lx (op_len_mv rfl el58) rfl ?_ | refine lx (op_len_nil rfl el58) rfl ?_
    refine lx (op_move rfl) rfl ?_
    refine lx_end ⟨by kernel_rfl, ?_⟩
    refine pe_then_normal ?_
    refine tr_sub hC (.cons (t := 3) rfl (.cons (t := 86) rfl (.cons (t := 87) rfl (.cons (t := 88) rfl .nil)))) (.cons (t := 3) rfl .nil) rfl ?_
    refine tr_block ?_
    refine tr_loopK (α := {zz : Nat // zz ≤ f.defers.length ∧ (f.defers.take zz).all (defOK p) = true}) (⟨(0), Nat.zero_le _, by simp⟩) (fun zz => [(88, eqP (.int .i64 (zz.1 : Int)))]) (fun zz => []) (fun zz => f.defers.length - zz.1) hC (.cons (t := 3) rfl (.cons (t := 86) rfl (.cons (t := 87) rfl .nil))) (.cons (t := 3) rfl .nil) rfl ?_ ?_ (fun zz => ?_)
    ·try dsimp only [List.cons_append, List.nil_append]
     first | refine SubF.cons rfl ?_ | (refine SubF.ent rfl ?_ ?_; · exact ent_auto)
     exact SubF.nil
    ·try dsimp only [List.cons_append, List.nil_append]
     repeat (first | exact SubL.nil | refine SubL.cons rfl ?_)
    ·obtain ⟨k, hk1, hk2⟩ := zz
     dsimp only [List.cons_append, List.nil_append]
     refine tr_seq ?_
     refine tr_region (fun N9 hN => ?_)
     refine lx (op_lss rfl rfl) rfl ?_
     refine lx_end ⟨by kernel_rfl, ?_⟩
     refine pe_then_normal ?_
     refine tr_sub hC (.cons (t := 3) rfl (.cons (t := 86) rfl (.cons (t := 87) rfl (.cons (t := 88) rfl (.cons (t := 89) rfl .nil))))) (.cons (t := 3) rfl .nil) rfl ?_
     refine tr_seq ?_
     refine tr_cond rfl (fun h89 => ?_) (fun h89 => ?_)
     ·(try simp only [cq1, cq2, cq3, cq4, cq5, cq6, cq7, cq8, cq9, cq10, cq11, cq12, cq13] at h89)
      refine tr_skip ?_
      refine pe_then_normal ?_
      refine tr_sub hC (.cons (t := 3) rfl (.cons (t := 86) rfl (.cons (t := 87) rfl (.cons (t := 88) rfl .nil)))) (.cons (t := 3) rfl .nil) rfl ?_
      refine tr_seq ?_
      refine tr_block ?_
      refine tr_seq ?_
      refine tr_region (fun N10 hN => ?_)
      refine lx (op_index rfl rfl el58 sz47 rfl (List.getElem?_eq_getElem (by omega : k < f.defers.length))) rfl ?_
      first | refine lx (op_load_all rfl ag47 sz47) rfl ?_ | refine lx (op_load_agg rfl ag47 sz47 rfl) rfl ?_ | refine lx (op_bload (m := 3) rfl rfl ag47 sz47) rfl ?_ | refine lx (op_bload_part (m := 3) (qs := [_, _]) rfl rfl ag47 sz47 rfl rfl) rfl ?_
      refine lxn (op_alloc (m := 9) (k := 9) (ps := [eqP (.int .i64 0), eqP (.slice none 0 0)]) ze47 rfl rfl (by first | exact hC.low _ (by decide) | rfl)) rfl ?_
      refine lxr (op_store_all (m := 9) rfl rfl rfl (.agg rfl) sz47 rfl) rfl ?_
      refine lx_end ⟨by kernel_rfl, ?_⟩
      refine pe_then_normal ?_
      refine tr_sub hC (.cons (t := 3) rfl (.cons (t := 9) rfl (.cons (t := 86) rfl (.cons (t := 87) rfl (.cons (t := 88) rfl .nil))))) (.cons (t := 3) rfl (.cons (t := 9) rfl .nil)) rfl ?_
      refine tr_seq ?_
      refine tr_drawn mixed (fun N11 hN => ?_)
      refine lx (op_fieldAddr rfl fl47_0 sz3) rfl ?_
      refine lx (op_bload_one (m := 9) rfl rfl ag3 rfl) rfl ?_
      refine lx (op_lss rfl rfl) rfl ?_
      refine lx (op_move rfl) rfl ?_
      refine lxs rfl rfl rfl guard_eq (.cons (t := 9) rfl (fun _ => Ent.refl _) .nil) (op_fieldAddr rfl fl47_0 sz3) rfl ?_
      refine lxs rfl rfl rfl guard_eq (.cons (t := 96) rfl (fun h => entW h) .nil) (op_bload_one (m := 9) rfl rfl ag3 rfl) rfl ?_
      refine lxs rfl rfl rfl guard_eq (.cons (t := 3) rfl (fun _ => Ent.refl _) .nil) (op_fieldAddr rfl fl26_0 sz22) rfl ?_
      refine lxs rfl rfl rfl guard_eq (.cons (t := 98) rfl (fun h => entW h) .nil) (op_bload_one (m := 3) rfl rfl ag22 rfl) rfl ?_
      first | refine lxs rfl rfl rfl guard_eq (.cons (t := 99) rfl (fun h => entW h) .nil) (op_len rfl el22) rfl ?_ | refine lxs rfl rfl rfl guard_eq (.cons (t := 99) rfl (fun h => entW h) .nil) (op_len_row rfl el22) rfl ?_ | refine lxs rfl rfl rfl guard_eq (.cons (t := 99) rfl (fun h => entW h) .nil) (op_len_mv rfl el22) rfl ?_ | refine lxs rfl rfl rfl guard_eq (.cons (t := 99) rfl (fun h => entW h) .nil) (op_len_nil rfl el22) rfl ?_
      refine lxs rfl rfl rfl guard_eq (.cons (t := 97) rfl (fun h => entW h) (.cons (t := 100) rfl (fun h => entW h) .nil)) (op_geq rfl rfl) rfl ?_
      refine lx (op_pick_or rfl rfl) rfl ?_
      refine lx (op_move rfl) rfl ?_
      refine lxs rfl rfl rfl guard_eq (.cons (t := 9) rfl (fun _ => Ent.refl _) .nil) (op_fieldAddr rfl fl47_1 sz33) rfl ?_
      refine lxs rfl rfl rfl guard_eq (.cons (t := 104) rfl (fun h => entW h) .nil) (op_bload_one (m := 9) rfl rfl ag33 rfl) rfl ?_
      first | refine lxs rfl rfl rfl guard_eq (.cons (t := 105) rfl (fun h => entW h) .nil) (op_len rfl el33) rfl ?_ | refine lxs rfl rfl rfl guard_eq (.cons (t := 105) rfl (fun h => entW h) .nil) (op_len_row rfl el33) rfl ?_ | refine lxs rfl rfl rfl guard_eq (.cons (t := 105) rfl (fun h => entW h) .nil) (op_len_mv rfl el33) rfl ?_ | refine lxs rfl rfl rfl guard_eq (.cons (t := 105) rfl (fun h => entW h) .nil) (op_len_nil rfl el33) rfl ?_
      refine lxs rfl rfl rfl guard_eq (.cons (t := 3) rfl (fun _ => Ent.refl _) .nil) (op_fieldAddr rfl fl26_0 sz22) rfl ?_
      refine lxs rfl rfl rfl guard_eq (.cons (t := 107) rfl (fun h => entW h) .nil) (op_bload_one (m := 3) rfl rfl ag22 rfl) rfl ?_
      refine lxs rfl rfl rfl guard_eq (.cons (t := 9) rfl (fun _ => Ent.refl _) .nil) (op_fieldAddr rfl fl47_0 sz3) rfl ?_
      refine lxs rfl rfl rfl guard_eq (.cons (t := 109) rfl (fun h => entW h) .nil) (op_bload_one (m := 9) rfl rfl ag3 rfl) rfl ?_
      refine lxsc (rd := [(108, slP Fu.ps 4 p.funcs), (110, eqP (.int .i64 f.defers[k].fn))]) (φ := cellsP (pfn p f.defers[k].fn).ps) rfl rfl rfl guard_eq (.cons (t := 108) rfl (fun h => entW h) (.cons (t := 110) rfl (fun h => entW h) .nil)) (fun hgd => ?_) rfl rfl ?_
      ·have hq0 : 0 ≤ f.defers[k].fn ∧ f.defers[k].fn < (p.funcs.length : Int) := by
        simp at hgd
        omega
       exact op_index rfl rfl el22 sz66 (by omega : f.defers[k].fn = ((f.defers[k].fn.toNat : Nat) : Int)) (pfn_at (by omega) (by omega))
      first | refine lxs rfl rfl rfl guard_eq (.cons (t := 111) rfl (fun h => entW h) .nil) (op_fieldAddr rfl fl66_1 sz3) rfl ?_ | refine lxs rfl rfl rfl guard_eq (.cons (t := 111) rfl (fun h => entW h) .nil) (op_fieldCells rfl fl66_1 sz3) rfl ?_
      first | refine lxs rfl rfl rfl guard_eq (.cons (t := 112) rfl (fun h => entW h) .nil) (op_load_one rfl ag3 rfl) rfl ?_ | refine lxs rfl rfl rfl guard_eq (.cons (t := 112) rfl (fun h => entW h) .nil) (op_bload_one (m := 3) rfl rfl ag3 rfl) rfl ?_ | refine lxs rfl rfl rfl guard_eq (.cons (t := 112) rfl (fun h => entW h) .nil) (op_bload_one (m := 9) rfl rfl ag3 rfl) rfl ?_
      refine lxs rfl rfl rfl guard_eq (.cons (t := 106) rfl (fun h => entW h) (.cons (t := 113) rfl (fun h => entW h) .nil)) (op_neq rfl rfl) rfl ?_
      refine lx (op_pick_or rfl rfl) rfl ?_
      refine lx (op_move rfl) rfl ?_
      refine lxs rfl rfl rfl guard_eq (.cons (t := 9) rfl (fun _ => Ent.refl _) .nil) (op_fieldAddr rfl fl47_1 sz33) rfl ?_
      refine lxs rfl rfl rfl guard_eq (.cons (t := 117) rfl (fun h => entW h) .nil) (op_bload_one (m := 9) rfl rfl ag33 rfl) rfl ?_
      first | refine lxs rfl rfl rfl guard_eq (.cons (t := 118) rfl (fun h => entW h) .nil) (op_call (l := [(Go.Operand.tmp 118)]) (values_ok f.defers[k].args (by have := hb.args f.defers[k] (List.getElem_mem ..); omega)) (.cons rfl .nil) fn44) rfl ?_ | refine lxs rfl rfl rfl guard_eq (.cons (t := 118) rfl (fun h => entW h) .nil) (op_call (l := [(Go.Operand.tmp 118)]) (values_ok f.defers[k].args (by have := hb.args f.defers[k] (List.getElem_mem ..); omega)) (.ent rfl (by exact ent_auto) .nil) fn44) rfl ?_
      first | refine lxs rfl rfl rfl guard_eq (.cons (t := 119) rfl (fun h => entW h) .nil) (op_not rfl) rfl ?_ | refine lxs rfl rfl rfl guard_eq (.cons (t := 119) rfl (fun h => entW h) .nil) (op_not_b rfl) rfl ?_
      refine lx (op_pick_or rfl rfl) rfl ?_
      refine lx_end ⟨by kernel_rfl, ?_⟩
      refine pe_then_normal ?_
      refine tr_sub hC (.cons (t := 3) rfl (.cons (t := 86) rfl (.cons (t := 87) rfl (.cons (t := 88) rfl (.cons (t := 121) rfl .nil))))) (.cons (t := 3) rfl .nil) rfl ?_
      refine tr_cond rfl (fun h121 => ?_) (fun h121 => ?_)
      ·have hno := frm_no4 (p := p) (b := none) (all_bad (φ := defOK p) (by omega : k < f.defers.length) (def_no h121))
       refine tr_seq ?_
       refine tr_region (fun N12 hN => ?_)
       refine lx (op_assign rfl) rfl ?_
       refine lx_end ⟨by kernel_rfl, ?_⟩
       refine pe_then_normal ?_
       refine tr_sub hC (.cons (t := 6) rfl .nil) .nil rfl ?_
       refine tr_ret ?_
       refine pe_block_ret ?_
       refine pe_then_ret ?_
       refine pe_then_ret ?_
       refine pe_block_ret ?_
       refine pe_then_ret ?_
       refine pe_ret1 rfl hO rfl (.tmp rfl .nil) ?_
       rw [hno]
       exact ent_auto
      ·have hdy := def_yes h121
       refine tr_skip ?_
       refine pe_block_normal ?_
       refine pe_then_normal ?_
       refine tr_sub hC (.cons (t := 3) rfl (.cons (t := 86) rfl (.cons (t := 87) rfl (.cons (t := 88) rfl .nil)))) (.cons (t := 3) rfl .nil) rfl ?_
       refine tr_region (fun N13 hN => ?_)
       refine lx (op_add rfl rfl (by omega)) rfl ?_
       refine lx (op_move rfl) rfl ?_
       refine lx_end ⟨by kernel_rfl, ?_⟩
       refine pe_round (⟨(k + 1), by omega, all_step (φ := defOK p) hk2 (by omega) hdy⟩) (by dsimp only; omega) (pe_st hC ?_ ?_ rfl)
       ·try dsimp only [List.cons_append, List.nil_append]
        first | refine SubF.cons rfl ?_ | (refine SubF.ent rfl ?_ ?_; · exact ent_auto)
        first | refine SubF.cons rfl ?_ | (refine SubF.ent rfl ?_ ?_; · exact ent_auto)
        first | refine SubF.cons rfl ?_ | (refine SubF.ent rfl ?_ ?_; · exact ent_auto)
        first | refine SubF.cons rfl ?_ | (refine SubF.ent rfl ?_ ?_; · exact ent_auto)
        exact SubF.nil
       ·try dsimp only [List.cons_append, List.nil_append]
        repeat (first | exact SubL.nil | refine SubL.cons rfl ?_)
     ·(try simp only [cq1, cq2, cq3, cq4, cq5, cq6, cq7, cq8, cq9, cq10, cq11, cq12, cq13] at h89)
      have hfin := frm_yes h1 h2 h3 (all_end hk2 (by omega))
      refine tr_exit ?_
      refine pe_then_exit ?_
      refine pe_then_exit ?_
      refine pe_block_eq ?_
      refine pe_then_normal ?_
      refine tr_sub hC .nil .nil rfl ?_
      refine tr_seq ?_
      refine tr_region (fun N14 hN => ?_)
      refine lx (op_assign rfl) rfl ?_
      refine lx_end ⟨by kernel_rfl, ?_⟩
      refine pe_then_normal ?_
      refine tr_sub hC (.cons (t := 6) rfl .nil) .nil rfl ?_
      refine tr_ret ?_
      refine pe_ret1 rfl hO rfl (.tmp rfl .nil) ?_
      rw [hfin]
      exact ent_auto
theorem frame_some (p : Pg) (f : Fm) (hb : BdF 9223372036854775807 f) (h : Fm) : FnP Try.prog 37 [aggP p.ps, aggP f.ps, cellsP h.ps] (eqP (.bool (frmOK p (some h) f))) := by
 have hbr := hb.regs
 have hbd := hb.defers
 refine fn_pure' Try.func37 rfl Try.ntmps37 rfl ?_
 intro σ0 M ex Rf R hC hO
 simp only [frameOf, tokOf]
 refine tr_seq ?_
 refine tr_region (fun N0 hN => ?_)
 refine lxn (op_box (m := 3) (k := 3) rfl (.agg rfl) (by first | exact hC.low _ (by decide) | rfl)) rfl ?_
 refine lxn (op_box (m := 4) (k := 4) rfl (.agg rfl) (by first | exact hC.low _ (by decide) | rfl)) rfl ?_
 refine lx (op_assign rfl) rfl ?_
 refine lx_end ⟨by kernel_rfl, ?_⟩
 refine pe_then_normal ?_
 refine tr_sub hC (.cons (t := 2) rfl (.cons (t := 3) rfl (.cons (t := 4) rfl .nil))) (.cons (t := 3) rfl (.cons (t := 4) rfl .nil)) rfl ?_
 refine tr_seq ?_
 refine tr_seq ?_
 refine tr_region (fun N1 hN => ?_)
 refine lx (op_fieldAddr rfl fl60_0 sz3) rfl ?_
 refine lx (op_bload_one (m := 4) rfl rfl ag3 rfl) rfl ?_
 refine lx (op_lss rfl rfl) rfl ?_
 refine lx (op_move rfl) rfl ?_
 refine lxs rfl rfl rfl guard_eq (.cons (t := 4) rfl (fun _ => Ent.refl _) .nil) (op_fieldAddr rfl fl60_0 sz3) rfl ?_
 refine lxs rfl rfl rfl guard_eq (.cons (t := 14) rfl (fun h => entW h) .nil) (op_bload_one (m := 4) rfl rfl ag3 rfl) rfl ?_
 refine lxs rfl rfl rfl guard_eq (.cons (t := 3) rfl (fun _ => Ent.refl _) .nil) (op_fieldAddr rfl fl26_0 sz22) rfl ?_
 refine lxs rfl rfl rfl guard_eq (.cons (t := 16) rfl (fun h => entW h) .nil) (op_bload_one (m := 3) rfl rfl ag22 rfl) rfl ?_
 first | refine lxs rfl rfl rfl guard_eq (.cons (t := 17) rfl (fun h => entW h) .nil) (op_len rfl el22) rfl ?_ | refine lxs rfl rfl rfl guard_eq (.cons (t := 17) rfl (fun h => entW h) .nil) (op_len_row rfl el22) rfl ?_ | refine lxs rfl rfl rfl guard_eq (.cons (t := 17) rfl (fun h => entW h) .nil) (op_len_mv rfl el22) rfl ?_ | refine lxs rfl rfl rfl guard_eq (.cons (t := 17) rfl (fun h => entW h) .nil) (op_len_nil rfl el22) rfl ?_
 refine lxs rfl rfl rfl guard_eq (.cons (t := 15) rfl (fun h => entW h) (.cons (t := 18) rfl (fun h => entW h) .nil)) (op_geq rfl rfl) rfl ?_
 refine lx (op_pick_or rfl rfl) rfl ?_
 refine lx_end ⟨by kernel_rfl, ?_⟩
 refine pe_then_normal ?_
 refine tr_sub hC (.cons (t := 2) rfl (.cons (t := 3) rfl (.cons (t := 4) rfl (.cons (t := 20) rfl .nil)))) (.cons (t := 3) rfl (.cons (t := 4) rfl .nil)) rfl ?_
 refine tr_cond rfl (fun h20 => ?_) (fun h20 => ?_)
 ·(try simp only [cq1, cq2, cq3, cq4, cq5, cq6, cq7, cq8, cq9, cq10, cq11, cq12, cq13] at h20)
  have hno := frm_no1 (p := p) (b := (some h)) (f := f) (by omega)
  refine tr_seq ?_
  refine tr_region (fun N2 hN => ?_)
  refine lx (op_assign rfl) rfl ?_
  refine lx_end ⟨by kernel_rfl, ?_⟩
  refine pe_then_normal ?_
  refine tr_sub hC (.cons (t := 6) rfl .nil) .nil rfl ?_
  refine tr_ret ?_
  refine pe_then_ret ?_
  refine pe_ret1 rfl hO rfl (.tmp rfl .nil) ?_
  rw [hno]
  exact ent_auto
 ·(try simp only [cq1, cq2, cq3, cq4, cq5, cq6, cq7, cq8, cq9, cq10, cq11, cq12, cq13] at h20)
  have h1 : 0 ≤ f.fn ∧ f.fn < (p.funcs.length : Int) := by omega
  refine tr_skip ?_
  refine pe_then_normal ?_
  refine tr_sub hC (.cons (t := 2) rfl (.cons (t := 3) rfl (.cons (t := 4) rfl .nil))) (.cons (t := 3) rfl (.cons (t := 4) rfl .nil)) rfl ?_
  refine tr_seq ?_
  refine tr_region (fun N3 hN => ?_)
  refine lx (op_fieldAddr rfl fl26_0 sz22) rfl ?_
  refine lx (op_bload_one (m := 3) rfl rfl ag22 rfl) rfl ?_
  refine lx (op_fieldAddr rfl fl60_0 sz3) rfl ?_
  refine lx (op_bload_one (m := 4) rfl rfl ag3 rfl) rfl ?_
  refine lx (op_index rfl rfl el22 sz66 (by omega : f.fn = ((f.fn.toNat : Nat) : Int)) (pfn_at (by omega) (by omega))) rfl ?_
  first | refine lx (op_load_all rfl ag66 sz66) rfl ?_ | refine lx (op_load_agg rfl ag66 sz66 rfl) rfl ?_ | refine lx (op_bload (m := 3) rfl rfl ag66 sz66) rfl ?_ | refine lx (op_bload (m := 4) rfl rfl ag66 sz66) rfl ?_ | refine lx (op_bload_part (m := 3) (qs := [_, _, _, _]) rfl rfl ag66 sz66 rfl rfl) rfl ?_ | refine lx (op_bload_part (m := 4) (qs := [_, _, _, _]) rfl rfl ag66 sz66 rfl rfl) rfl ?_
  refine lxn (op_alloc (m := 7) (k := 7) (ps := [eqP (.string ⟨#[]⟩), eqP (.int .i64 0), eqP (.int .i64 0), eqP (.slice none 0 0)]) ze66 rfl rfl (by first | exact hC.low _ (by decide) | rfl)) rfl ?_
  refine lxr (op_store_all (m := 7) rfl rfl rfl (.agg rfl) sz66 rfl) rfl ?_
  refine lx_end ⟨by kernel_rfl, ?_⟩
  refine pe_then_normal ?_
  refine tr_sub hC (.cons (t := 2) rfl (.cons (t := 3) rfl (.cons (t := 4) rfl (.cons (t := 7) rfl .nil)))) (.cons (t := 3) rfl (.cons (t := 4) rfl (.cons (t := 7) rfl .nil))) rfl ?_
  refine tr_seq ?_
  refine tr_seq ?_
  refine tr_region (fun N4 hN => ?_)
  refine lx (op_fieldAddr rfl fl60_2 sz33) rfl ?_
  refine lx (op_bload_one (m := 4) rfl rfl ag33 rfl) rfl ?_
  first | refine lx (op_len rfl el33) rfl ?_ | refine lx (op_len_row rfl el33) rfl ?_ | refine lx (op_len_mv rfl el33) rfl ?_ | refine lx (op_len_nil rfl el33) rfl ?_
  refine lx (op_fieldAddr rfl fl66_2 sz3) rfl ?_
  refine lx (op_bload_one (m := 7) rfl rfl ag3 rfl) rfl ?_
  refine lx (op_neq rfl rfl) rfl ?_
  refine lx (op_move rfl) rfl ?_
  refine lxs rfl rfl rfl guard_eq (.cons (t := 4) rfl (fun _ => Ent.refl _) .nil) (op_fieldAddr rfl fl60_1 sz3) rfl ?_
  refine lxs rfl rfl rfl guard_eq (.cons (t := 34) rfl (fun h => entW h) .nil) (op_bload_one (m := 4) rfl rfl ag3 rfl) rfl ?_
  refine lxs rfl rfl rfl guard_eq (.cons (t := 35) rfl (fun h => entW h) .nil) (op_lss rfl rfl) rfl ?_
  refine lx (op_pick_or rfl rfl) rfl ?_
  refine lx (op_move rfl) rfl ?_
  refine lxs rfl rfl rfl guard_eq (.cons (t := 4) rfl (fun _ => Ent.refl _) .nil) (op_fieldAddr rfl fl60_1 sz3) rfl ?_
  refine lxs rfl rfl rfl guard_eq (.cons (t := 39) rfl (fun h => entW h) .nil) (op_bload_one (m := 4) rfl rfl ag3 rfl) rfl ?_
  refine lxs rfl rfl rfl guard_eq (.cons (t := 7) rfl (fun _ => Ent.refl _) .nil) (op_fieldAddr rfl fl66_3 sz64) rfl ?_
  refine lxs rfl rfl rfl guard_eq (.cons (t := 41) rfl (fun h => entW h) .nil) (op_bload_one (m := 7) rfl rfl ag64 rfl) rfl ?_
  first | refine lxs rfl rfl rfl guard_eq (.cons (t := 42) rfl (fun h => entW h) .nil) (op_len rfl el64) rfl ?_ | refine lxs rfl rfl rfl guard_eq (.cons (t := 42) rfl (fun h => entW h) .nil) (op_len_row rfl el64) rfl ?_ | refine lxs rfl rfl rfl guard_eq (.cons (t := 42) rfl (fun h => entW h) .nil) (op_len_mv rfl el64) rfl ?_ | refine lxs rfl rfl rfl guard_eq (.cons (t := 42) rfl (fun h => entW h) .nil) (op_len_nil rfl el64) rfl ?_
  refine lxs rfl rfl rfl guard_eq (.cons (t := 40) rfl (fun h => entW h) (.cons (t := 43) rfl (fun h => entW h) .nil)) (op_geq rfl rfl) rfl ?_
  refine lx (op_pick_or rfl rfl) rfl ?_
  refine lx (op_move rfl) rfl ?_
  refine lxs rfl rfl rfl guard_eq (.cons (t := 4) rfl (fun _ => Ent.refl _) .nil) (op_fieldAddr rfl fl60_2 sz33) rfl ?_
  refine lxs rfl rfl rfl guard_eq (.cons (t := 47) rfl (fun h => entW h) .nil) (op_bload_one (m := 4) rfl rfl ag33 rfl) rfl ?_
  first | refine lxs rfl rfl rfl guard_eq (.cons (t := 48) rfl (fun h => entW h) .nil) (op_call (l := [(Go.Operand.tmp 48)]) (values_ok f.regs (by omega)) (.cons rfl .nil) fn44) rfl ?_ | refine lxs rfl rfl rfl guard_eq (.cons (t := 48) rfl (fun h => entW h) .nil) (op_call (l := [(Go.Operand.tmp 48)]) (values_ok f.regs (by omega)) (.ent rfl (by exact ent_auto) .nil) fn44) rfl ?_
  first | refine lxs rfl rfl rfl guard_eq (.cons (t := 49) rfl (fun h => entW h) .nil) (op_not rfl) rfl ?_ | refine lxs rfl rfl rfl guard_eq (.cons (t := 49) rfl (fun h => entW h) .nil) (op_not_b rfl) rfl ?_
  refine lx (op_pick_or rfl rfl) rfl ?_
  refine lx (op_move rfl) rfl ?_
  refine lxs rfl rfl rfl guard_eq (.cons (t := 4) rfl (fun _ => Ent.refl _) .nil) (op_fieldAddr rfl fl60_6 sz43) rfl ?_
  refine lxs rfl rfl rfl guard_eq (.cons (t := 53) rfl (fun h => entW h) .nil) (op_bload_part (m := 4) (qs := [_, _, _]) rfl rfl ag43 sz43 rfl rfl) rfl ?_
  refine lxs rfl rfl rfl guard_eq (.cons (t := 54) rfl (fun h => entW h) .nil) (op_buildSlice (f := vp) (xs := [f.result]) (l := [(0, (Go.Operand.tmp 54))]) ze43 rfl rfl (by decide) el33 sz43 vp_len (.cons rfl (.agg rfl) .nil) rfl (by decide)) rfl ?_
  first | refine lxs rfl rfl rfl guard_eq (.cons (t := 55) rfl (fun h => entW h) .nil) (op_call (l := [(Go.Operand.tmp 55)]) (values_ok [f.result] (by simp)) (.cons rfl .nil) fn44) rfl ?_ | refine lxs rfl rfl rfl guard_eq (.cons (t := 55) rfl (fun h => entW h) .nil) (op_call (l := [(Go.Operand.tmp 55)]) (values_ok [f.result] (by simp)) (.ent rfl (by exact ent_auto) .nil) fn44) rfl ?_
  first | refine lxs rfl rfl rfl guard_eq (.cons (t := 56) rfl (fun h => entW h) .nil) (op_not rfl) rfl ?_ | refine lxs rfl rfl rfl guard_eq (.cons (t := 56) rfl (fun h => entW h) .nil) (op_not_b rfl) rfl ?_
  refine lx (op_pick_or rfl rfl) rfl ?_
  refine lx (op_move rfl) rfl ?_
  refine lxs rfl rfl rfl guard_eq (.cons (t := 4) rfl (fun _ => Ent.refl _) .nil) (op_fieldAddr rfl fl60_3 sz3) rfl ?_
  refine lxs rfl rfl rfl guard_eq (.cons (t := 60) rfl (fun h => entW h) .nil) (op_bload_one (m := 4) rfl rfl ag3 rfl) rfl ?_
  refine lxs rfl rfl rfl guard_eq (.cons (t := 61) rfl (fun h => entW h) .nil) (op_lss rfl rfl) rfl ?_
  refine lx (op_pick_or rfl rfl) rfl ?_
  refine lx_end ⟨by kernel_rfl, ?_⟩
  refine pe_then_normal ?_
  refine tr_sub hC (.cons (t := 2) rfl (.cons (t := 3) rfl (.cons (t := 4) rfl (.cons (t := 63) rfl .nil)))) (.cons (t := 3) rfl (.cons (t := 4) rfl .nil)) rfl ?_
  refine tr_cond rfl (fun h63 => ?_) (fun h63 => ?_)
  ·have hno := frm_no2 (b := (some h)) (mid_no h63)
   refine tr_seq ?_
   refine tr_region (fun N5 hN => ?_)
   refine lx (op_assign rfl) rfl ?_
   refine lx_end ⟨by kernel_rfl, ?_⟩
   refine pe_then_normal ?_
   refine tr_sub hC (.cons (t := 6) rfl .nil) .nil rfl ?_
   refine tr_ret ?_
   refine pe_then_ret ?_
   refine pe_ret1 rfl hO rfl (.tmp rfl .nil) ?_
   rw [hno]
   exact ent_auto
  ·have h2 := mid_yes h63
   refine tr_skip ?_
   refine pe_then_normal ?_
   refine tr_sub hC (.cons (t := 2) rfl (.cons (t := 3) rfl (.cons (t := 4) rfl .nil))) (.cons (t := 3) rfl (.cons (t := 4) rfl .nil)) rfl ?_
   refine tr_seq ?_
   refine tr_seq ?_
   refine tr_drawn mixed (fun N6 hN => ?_)
   refine lx (op_move rfl) rfl ?_
   first | refine lxk (op_eql_ptr pt73 rfl (IsPtr.own _ _)) (rfl) rfl ?_ | refine lxk (op_eql_ptr pt73 rfl (IsPtr.cells _)) (rfl) rfl ?_ | refine lxk (op_eql_ptr pt73 rfl (IsPtr.nil)) (rfl) rfl ?_
   refine lx (op_move rfl) rfl ?_
   refine lx_skip rfl rfl rfl (by first | exact notThe_bool rfl | exact notThe_undef) rfl ?_
   refine lx_skip rfl rfl rfl (by first | exact notThe_bool rfl | exact notThe_undef) rfl ?_
   refine lx_skip rfl rfl rfl (by first | exact notThe_bool rfl | exact notThe_undef) rfl ?_
   refine lx (op_pick_f rfl rfl) rfl ?_
   refine lx (op_move rfl) rfl ?_
   refine lxg rfl rfl rfl (op_move rfl) rfl ?_
   first | refine lxgk rfl rfl rfl (op_neq_ptr pt73 rfl (IsPtr.own _ _)) (rfl) rfl ?_ | refine lxgk rfl rfl rfl (op_neq_ptr pt73 rfl (IsPtr.cells _)) (rfl) rfl ?_ | refine lxgk rfl rfl rfl (op_neq_ptr pt73 rfl (IsPtr.nil)) (rfl) rfl ?_
   refine lxg rfl rfl rfl (op_move rfl) rfl ?_
   refine lxg rfl rfl rfl (op_fieldAddr rfl fl60_3 sz3) rfl ?_
   refine lxg rfl rfl rfl (op_bload_one (m := 4) rfl rfl ag3 rfl) rfl ?_
   refine lxg rfl rfl rfl (op_move rfl) rfl ?_
   first | refine lxg rfl rfl rfl (op_nilCheck rfl) rfl ?_ | refine lxg rfl rfl rfl (op_nilCheckC rfl) rfl ?_
   first | refine lxg rfl rfl rfl (op_fieldAddr rfl fl60_2 sz33) rfl ?_ | refine lxg rfl rfl rfl (op_fieldCells rfl fl60_2 sz33) rfl ?_
   first | refine lxg rfl rfl rfl (op_load_one rfl ag33 rfl) rfl ?_ | refine lxg rfl rfl rfl (op_bload_one (m := 3) rfl rfl ag33 rfl) rfl ?_ | refine lxg rfl rfl rfl (op_bload_one (m := 4) rfl rfl ag33 rfl) rfl ?_
   first | refine lxg rfl rfl rfl (op_len rfl el33) rfl ?_ | refine lxg rfl rfl rfl (op_len_row rfl el33) rfl ?_ | refine lxg rfl rfl rfl (op_len_mv rfl el33) rfl ?_ | refine lxg rfl rfl rfl (op_len_nil rfl el33) rfl ?_
   refine lxg rfl rfl rfl (op_geq rfl rfl) rfl ?_
   refine lxg rfl rfl rfl (op_pick_t rfl rfl) rfl ?_
   refine lx (op_pick_f rfl rfl) rfl ?_
   refine lx_end ⟨by kernel_rfl, ?_⟩
   refine pe_then_normal ?_
   refine tr_sub hC (.cons (t := 3) rfl (.cons (t := 4) rfl (.cons (t := 84) rfl .nil))) (.cons (t := 3) rfl (.cons (t := 4) rfl .nil)) rfl ?_
   refine tr_cond rfl (fun h84 => ?_) (fun h84 => ?_)
   ·(try simp only [cq1, cq2, cq3, cq4, cq5, cq6, cq7, cq8, cq9, cq10, cq11, cq12, cq13] at h84)
    have hno := frm_no3 (p := p) (b := some h) (f := f) (decide_eq_false (by omega))
    refine tr_seq ?_
    refine tr_region (fun N7 hN => ?_)
    refine lx (op_assign rfl) rfl ?_
    refine lx_end ⟨by kernel_rfl, ?_⟩
    refine pe_then_normal ?_
    refine tr_sub hC (.cons (t := 6) rfl .nil) .nil rfl ?_
    refine tr_ret ?_
    refine pe_then_ret ?_
    refine pe_ret1 rfl hO rfl (.tmp rfl .nil) ?_
    rw [hno]
    exact ent_auto
   ·(try simp only [cq1, cq2, cq3, cq4, cq5, cq6, cq7, cq8, cq9, cq10, cq11, cq12, cq13] at h84)
    have h3 : destOK (some h) f = true := decide_eq_true (by omega)
    refine tr_skip ?_
    refine pe_then_normal ?_
    refine tr_sub hC (.cons (t := 3) rfl (.cons (t := 4) rfl .nil)) (.cons (t := 3) rfl (.cons (t := 4) rfl .nil)) rfl ?_
    refine tr_seq ?_
    refine tr_seq ?_
    refine tr_region (fun N8 hN => ?_)
    refine lx (op_fieldAddr rfl fl60_4 sz58) rfl ?_
    refine lx (op_bload_one (m := 4) rfl rfl ag58 rfl) rfl ?_
    first | refine lx (op_len rfl el58) rfl ?_ | refine lx (op_len_row rfl el58) rfl ?_ | refine lx (op_len_mv rfl el58) rfl ?_ | refine lx (op_len_nil rfl el58) rfl ?_
    refine lx (op_move rfl) rfl ?_
    refine lx_end ⟨by kernel_rfl, ?_⟩
    refine pe_then_normal ?_
    refine tr_sub hC (.cons (t := 3) rfl (.cons (t := 86) rfl (.cons (t := 87) rfl (.cons (t := 88) rfl .nil)))) (.cons (t := 3) rfl .nil) rfl ?_
    refine tr_block ?_
    refine tr_loopK (α := {zz : Nat // zz ≤ f.defers.length ∧ (f.defers.take zz).all (defOK p) = true}) (⟨(0), Nat.zero_le _, by simp⟩) (fun zz => [(88, eqP (.int .i64 (zz.1 : Int)))]) (fun zz => []) (fun zz => f.defers.length - zz.1) hC (.cons (t := 3) rfl (.cons (t := 86) rfl (.cons (t := 87) rfl .nil))) (.cons (t := 3) rfl .nil) rfl ?_ ?_ (fun zz => ?_)
    ·try dsimp only [List.cons_append, List.nil_append]
     first | refine SubF.cons rfl ?_ | (refine SubF.ent rfl ?_ ?_; · exact ent_auto)
     exact SubF.nil
    ·try dsimp only [List.cons_append, List.nil_append]
     repeat (first | exact SubL.nil | refine SubL.cons rfl ?_)
    ·obtain ⟨k, hk1, hk2⟩ := zz
     dsimp only [List.cons_append, List.nil_append]
     refine tr_seq ?_
     refine tr_region (fun N9 hN => ?_)
     refine lx (op_lss rfl rfl) rfl ?_
     refine lx_end ⟨by kernel_rfl, ?_⟩
     refine pe_then_normal ?_
     refine tr_sub hC (.cons (t := 3) rfl (.cons (t := 86) rfl (.cons (t := 87) rfl (.cons (t := 88) rfl (.cons (t := 89) rfl .nil))))) (.cons (t := 3) rfl .nil) rfl ?_
     refine tr_seq ?_
     refine tr_cond rfl (fun h89 => ?_) (fun h89 => ?_)
     ·(try simp only [cq1, cq2, cq3, cq4, cq5, cq6, cq7, cq8, cq9, cq10, cq11, cq12, cq13] at h89)
      refine tr_skip ?_
      refine pe_then_normal ?_
      refine tr_sub hC (.cons (t := 3) rfl (.cons (t := 86) rfl (.cons (t := 87) rfl (.cons (t := 88) rfl .nil)))) (.cons (t := 3) rfl .nil) rfl ?_
      refine tr_seq ?_
      refine tr_block ?_
      refine tr_seq ?_
      refine tr_region (fun N10 hN => ?_)
      refine lx (op_index rfl rfl el58 sz47 rfl (List.getElem?_eq_getElem (by omega : k < f.defers.length))) rfl ?_
      first | refine lx (op_load_all rfl ag47 sz47) rfl ?_ | refine lx (op_load_agg rfl ag47 sz47 rfl) rfl ?_ | refine lx (op_bload (m := 3) rfl rfl ag47 sz47) rfl ?_ | refine lx (op_bload_part (m := 3) (qs := [_, _]) rfl rfl ag47 sz47 rfl rfl) rfl ?_
      refine lxn (op_alloc (m := 9) (k := 9) (ps := [eqP (.int .i64 0), eqP (.slice none 0 0)]) ze47 rfl rfl (by first | exact hC.low _ (by decide) | rfl)) rfl ?_
      refine lxr (op_store_all (m := 9) rfl rfl rfl (.agg rfl) sz47 rfl) rfl ?_
      refine lx_end ⟨by kernel_rfl, ?_⟩
      refine pe_then_normal ?_
      refine tr_sub hC (.cons (t := 3) rfl (.cons (t := 9) rfl (.cons (t := 86) rfl (.cons (t := 87) rfl (.cons (t := 88) rfl .nil))))) (.cons (t := 3) rfl (.cons (t := 9) rfl .nil)) rfl ?_
      refine tr_seq ?_
      refine tr_drawn mixed (fun N11 hN => ?_)
      refine lx (op_fieldAddr rfl fl47_0 sz3) rfl ?_
      refine lx (op_bload_one (m := 9) rfl rfl ag3 rfl) rfl ?_
      refine lx (op_lss rfl rfl) rfl ?_
      refine lx (op_move rfl) rfl ?_
      refine lxs rfl rfl rfl guard_eq (.cons (t := 9) rfl (fun _ => Ent.refl _) .nil) (op_fieldAddr rfl fl47_0 sz3) rfl ?_
      refine lxs rfl rfl rfl guard_eq (.cons (t := 96) rfl (fun h => entW h) .nil) (op_bload_one (m := 9) rfl rfl ag3 rfl) rfl ?_
      refine lxs rfl rfl rfl guard_eq (.cons (t := 3) rfl (fun _ => Ent.refl _) .nil) (op_fieldAddr rfl fl26_0 sz22) rfl ?_
      refine lxs rfl rfl rfl guard_eq (.cons (t := 98) rfl (fun h => entW h) .nil) (op_bload_one (m := 3) rfl rfl ag22 rfl) rfl ?_
      first | refine lxs rfl rfl rfl guard_eq (.cons (t := 99) rfl (fun h => entW h) .nil) (op_len rfl el22) rfl ?_ | refine lxs rfl rfl rfl guard_eq (.cons (t := 99) rfl (fun h => entW h) .nil) (op_len_row rfl el22) rfl ?_ | refine lxs rfl rfl rfl guard_eq (.cons (t := 99) rfl (fun h => entW h) .nil) (op_len_mv rfl el22) rfl ?_ | refine lxs rfl rfl rfl guard_eq (.cons (t := 99) rfl (fun h => entW h) .nil) (op_len_nil rfl el22) rfl ?_
      refine lxs rfl rfl rfl guard_eq (.cons (t := 97) rfl (fun h => entW h) (.cons (t := 100) rfl (fun h => entW h) .nil)) (op_geq rfl rfl) rfl ?_
      refine lx (op_pick_or rfl rfl) rfl ?_
      refine lx (op_move rfl) rfl ?_
      refine lxs rfl rfl rfl guard_eq (.cons (t := 9) rfl (fun _ => Ent.refl _) .nil) (op_fieldAddr rfl fl47_1 sz33) rfl ?_
      refine lxs rfl rfl rfl guard_eq (.cons (t := 104) rfl (fun h => entW h) .nil) (op_bload_one (m := 9) rfl rfl ag33 rfl) rfl ?_
      first | refine lxs rfl rfl rfl guard_eq (.cons (t := 105) rfl (fun h => entW h) .nil) (op_len rfl el33) rfl ?_ | refine lxs rfl rfl rfl guard_eq (.cons (t := 105) rfl (fun h => entW h) .nil) (op_len_row rfl el33) rfl ?_ | refine lxs rfl rfl rfl guard_eq (.cons (t := 105) rfl (fun h => entW h) .nil) (op_len_mv rfl el33) rfl ?_ | refine lxs rfl rfl rfl guard_eq (.cons (t := 105) rfl (fun h => entW h) .nil) (op_len_nil rfl el33) rfl ?_
      refine lxs rfl rfl rfl guard_eq (.cons (t := 3) rfl (fun _ => Ent.refl _) .nil) (op_fieldAddr rfl fl26_0 sz22) rfl ?_
      refine lxs rfl rfl rfl guard_eq (.cons (t := 107) rfl (fun h => entW h) .nil) (op_bload_one (m := 3) rfl rfl ag22 rfl) rfl ?_
      refine lxs rfl rfl rfl guard_eq (.cons (t := 9) rfl (fun _ => Ent.refl _) .nil) (op_fieldAddr rfl fl47_0 sz3) rfl ?_
      refine lxs rfl rfl rfl guard_eq (.cons (t := 109) rfl (fun h => entW h) .nil) (op_bload_one (m := 9) rfl rfl ag3 rfl) rfl ?_
      refine lxsc (rd := [(108, slP Fu.ps 4 p.funcs), (110, eqP (.int .i64 f.defers[k].fn))]) (φ := cellsP (pfn p f.defers[k].fn).ps) rfl rfl rfl guard_eq (.cons (t := 108) rfl (fun h => entW h) (.cons (t := 110) rfl (fun h => entW h) .nil)) (fun hgd => ?_) rfl rfl ?_
      ·have hq0 : 0 ≤ f.defers[k].fn ∧ f.defers[k].fn < (p.funcs.length : Int) := by
        simp at hgd
        omega
       exact op_index rfl rfl el22 sz66 (by omega : f.defers[k].fn = ((f.defers[k].fn.toNat : Nat) : Int)) (pfn_at (by omega) (by omega))
      first | refine lxs rfl rfl rfl guard_eq (.cons (t := 111) rfl (fun h => entW h) .nil) (op_fieldAddr rfl fl66_1 sz3) rfl ?_ | refine lxs rfl rfl rfl guard_eq (.cons (t := 111) rfl (fun h => entW h) .nil) (op_fieldCells rfl fl66_1 sz3) rfl ?_
      first | refine lxs rfl rfl rfl guard_eq (.cons (t := 112) rfl (fun h => entW h) .nil) (op_load_one rfl ag3 rfl) rfl ?_ | refine lxs rfl rfl rfl guard_eq (.cons (t := 112) rfl (fun h => entW h) .nil) (op_bload_one (m := 3) rfl rfl ag3 rfl) rfl ?_ | refine lxs rfl rfl rfl guard_eq (.cons (t := 112) rfl (fun h => entW h) .nil) (op_bload_one (m := 9) rfl rfl ag3 rfl) rfl ?_
      refine lxs rfl rfl rfl guard_eq (.cons (t := 106) rfl (fun h => entW h) (.cons (t := 113) rfl (fun h => entW h) .nil)) (op_neq rfl rfl) rfl ?_
      refine lx (op_pick_or rfl rfl) rfl ?_
      refine lx (op_move rfl) rfl ?_
      refine lxs rfl rfl rfl guard_eq (.cons (t := 9) rfl (fun _ => Ent.refl _) .nil) (op_fieldAddr rfl fl47_1 sz33) rfl ?_
      refine lxs rfl rfl rfl guard_eq (.cons (t := 117) rfl (fun h => entW h) .nil) (op_bload_one (m := 9) rfl rfl ag33 rfl) rfl ?_
      first | refine lxs rfl rfl rfl guard_eq (.cons (t := 118) rfl (fun h => entW h) .nil) (op_call (l := [(Go.Operand.tmp 118)]) (values_ok f.defers[k].args (by have := hb.args f.defers[k] (List.getElem_mem ..); omega)) (.cons rfl .nil) fn44) rfl ?_ | refine lxs rfl rfl rfl guard_eq (.cons (t := 118) rfl (fun h => entW h) .nil) (op_call (l := [(Go.Operand.tmp 118)]) (values_ok f.defers[k].args (by have := hb.args f.defers[k] (List.getElem_mem ..); omega)) (.ent rfl (by exact ent_auto) .nil) fn44) rfl ?_
      first | refine lxs rfl rfl rfl guard_eq (.cons (t := 119) rfl (fun h => entW h) .nil) (op_not rfl) rfl ?_ | refine lxs rfl rfl rfl guard_eq (.cons (t := 119) rfl (fun h => entW h) .nil) (op_not_b rfl) rfl ?_
      refine lx (op_pick_or rfl rfl) rfl ?_
      refine lx_end ⟨by kernel_rfl, ?_⟩
      refine pe_then_normal ?_
      refine tr_sub hC (.cons (t := 3) rfl (.cons (t := 86) rfl (.cons (t := 87) rfl (.cons (t := 88) rfl (.cons (t := 121) rfl .nil))))) (.cons (t := 3) rfl .nil) rfl ?_
      refine tr_cond rfl (fun h121 => ?_) (fun h121 => ?_)
      ·have hno := frm_no4 (p := p) (b := (some h)) (all_bad (φ := defOK p) (by omega : k < f.defers.length) (def_no h121))
       refine tr_seq ?_
       refine tr_region (fun N12 hN => ?_)
       refine lx (op_assign rfl) rfl ?_
       refine lx_end ⟨by kernel_rfl, ?_⟩
       refine pe_then_normal ?_
       refine tr_sub hC (.cons (t := 6) rfl .nil) .nil rfl ?_
       refine tr_ret ?_
       refine pe_block_ret ?_
       refine pe_then_ret ?_
       refine pe_then_ret ?_
       refine pe_block_ret ?_
       refine pe_then_ret ?_
       refine pe_ret1 rfl hO rfl (.tmp rfl .nil) ?_
       rw [hno]
       exact ent_auto
      ·have hdy := def_yes h121
       refine tr_skip ?_
       refine pe_block_normal ?_
       refine pe_then_normal ?_
       refine tr_sub hC (.cons (t := 3) rfl (.cons (t := 86) rfl (.cons (t := 87) rfl (.cons (t := 88) rfl .nil)))) (.cons (t := 3) rfl .nil) rfl ?_
       refine tr_region (fun N13 hN => ?_)
       refine lx (op_add rfl rfl (by omega)) rfl ?_
       refine lx (op_move rfl) rfl ?_
       refine lx_end ⟨by kernel_rfl, ?_⟩
       refine pe_round (⟨(k + 1), by omega, all_step (φ := defOK p) hk2 (by omega) hdy⟩) (by dsimp only; omega) (pe_st hC ?_ ?_ rfl)
       ·try dsimp only [List.cons_append, List.nil_append]
        first | refine SubF.cons rfl ?_ | (refine SubF.ent rfl ?_ ?_; · exact ent_auto)
        first | refine SubF.cons rfl ?_ | (refine SubF.ent rfl ?_ ?_; · exact ent_auto)
        first | refine SubF.cons rfl ?_ | (refine SubF.ent rfl ?_ ?_; · exact ent_auto)
        first | refine SubF.cons rfl ?_ | (refine SubF.ent rfl ?_ ?_; · exact ent_auto)
        exact SubF.nil
       ·try dsimp only [List.cons_append, List.nil_append]
        repeat (first | exact SubL.nil | refine SubL.cons rfl ?_)
     ·(try simp only [cq1, cq2, cq3, cq4, cq5, cq6, cq7, cq8, cq9, cq10, cq11, cq12, cq13] at h89)
      have hfin := frm_yes h1 h2 h3 (all_end hk2 (by omega))
      refine tr_exit ?_
      refine pe_then_exit ?_
      refine pe_then_exit ?_
      refine pe_block_eq ?_
      refine pe_then_normal ?_
      refine tr_sub hC .nil .nil rfl ?_
      refine tr_seq ?_
      refine tr_region (fun N14 hN => ?_)
      refine lx (op_assign rfl) rfl ?_
      refine lx_end ⟨by kernel_rfl, ?_⟩
      refine pe_then_normal ?_
      refine tr_sub hC (.cons (t := 6) rfl .nil) .nil rfl ?_
      refine tr_ret ?_
      refine pe_ret1 rfl hO rfl (.tmp rfl .nil) ?_
      rw [hfin]
      exact ent_auto
theorem frame_ok (p : Pg) (f : Fm) (hb : BdF 9223372036854775807 f) (b : Option Fm) : FnP Try.prog 37 [aggP p.ps, aggP f.ps, belP b] (eqP (.bool (frmOK p b f))) := by
 cases b with
 | none => exact frame_nil p f hb
 | some h => exact frame_some p f hb h
theorem Valid_ok (p : Pg) (g : Gr) (hb : BdG 9223372036854775807 g) : FnP Try.prog 14 [aggP p.ps, aggP g.ps] (eqP (.bool (validG p g))) := by
 refine fn_pure' Try.func14 rfl Try.ntmps14 rfl ?_
 intro σ0 M ex Rf R hC hO
 simp only [frameOf, tokOf]
 refine tr_seq ?_
 refine tr_region (fun N0 hN => ?_)
 refine lxn (op_box (m := 2) (k := 2) rfl (.agg rfl) (by first | exact hC.low _ (by decide) | rfl)) rfl ?_
 refine lxn (op_box (m := 3) (k := 3) rfl (.agg rfl) (by first | exact hC.low _ (by decide) | rfl)) rfl ?_
 refine lx (op_assign rfl) rfl ?_
 refine lx_end ⟨by kernel_rfl, ?_⟩
 refine pe_then_normal ?_
 refine tr_sub hC (.cons (t := 2) rfl (.cons (t := 3) rfl .nil)) (.cons (t := 2) rfl (.cons (t := 3) rfl .nil)) rfl ?_
 refine tr_seq ?_
 refine tr_block ?_
 refine tr_seq ?_
 refine tr_region (fun N1 hN => ?_)
 refine lx (op_fieldAddr rfl fl29_0 sz3) rfl ?_
 refine lx (op_bload_one (m := 3) rfl rfl ag3 rfl) rfl ?_
 refine lx (op_lss rfl rfl) rfl ?_
 refine lx (op_move rfl) rfl ?_
 refine lxs rfl rfl rfl guard_eq (.cons (t := 3) rfl (fun _ => Ent.refl _) .nil) (op_fieldAddr rfl fl29_0 sz3) rfl ?_
 refine lxs rfl rfl rfl guard_eq (.cons (t := 12) rfl (fun h => entW h) .nil) (op_bload_one (m := 3) rfl rfl ag3 rfl) rfl ?_
 refine lxs rfl rfl rfl guard_eq (.cons (t := 13) rfl (fun h => entW h) .nil) (op_gtr rfl rfl) rfl ?_
 refine lx (op_pick_or rfl rfl) rfl ?_
 refine lx (op_move rfl) rfl ?_
 refine lxs rfl rfl rfl guard_eq (.cons (t := 3) rfl (fun _ => Ent.refl _) .nil) (op_fieldAddr rfl fl29_1 sz3) rfl ?_
 refine lxs rfl rfl rfl guard_eq (.cons (t := 17) rfl (fun h => entW h) .nil) (op_bload_one (m := 3) rfl rfl ag3 rfl) rfl ?_
 refine lxs rfl rfl rfl guard_eq (.cons (t := 18) rfl (fun h => entW h) .nil) (op_lss rfl rfl) rfl ?_
 refine lx (op_pick_or rfl rfl) rfl ?_
 refine lx (op_move rfl) rfl ?_
 refine lxs rfl rfl rfl guard_eq (.cons (t := 3) rfl (fun _ => Ent.refl _) .nil) (op_fieldAddr rfl fl29_1 sz3) rfl ?_
 refine lxs rfl rfl rfl guard_eq (.cons (t := 22) rfl (fun h => entW h) .nil) (op_bload_one (m := 3) rfl rfl ag3 rfl) rfl ?_
 refine lxs rfl rfl rfl guard_eq (.cons (t := 23) rfl (fun h => entW h) .nil) (op_gtr rfl rfl) rfl ?_
 refine lx (op_pick_or rfl rfl) rfl ?_
 refine lx (op_assign rfl) rfl ?_
 refine lx_end ⟨by kernel_rfl, ?_⟩
 refine pe_then_normal ?_
 refine tr_sub hC (.cons (t := 2) rfl (.cons (t := 3) rfl (.cons (t := 7) rfl .nil))) (.cons (t := 2) rfl (.cons (t := 3) rfl .nil)) rfl ?_
 refine tr_cond rfl (fun h7 => ?_) (fun h7 => ?_)
 ·(try simp only [cq1, cq2, cq3, cq4, cq5, cq6, cq7, cq8, cq9, cq10, cq11, cq12, cq13] at h7)
  have hbad := valid_hdr (p := p) (hdr_no (g := g) (by omega))
  refine tr_seq ?_
  refine tr_region (fun N2 hN => ?_)
  refine lx (op_assign rfl) rfl ?_
  refine lx_end ⟨by kernel_rfl, ?_⟩
  refine pe_then_normal ?_
  refine tr_sub hC (.cons (t := 4) rfl .nil) .nil rfl ?_
  refine tr_ret ?_
  refine pe_block_ret ?_
  refine pe_then_ret ?_
  refine pe_ret1 rfl hO rfl (.tmp rfl .nil) ?_
  rw [hbad]
  exact ent_auto
 ·(try simp only [cq1, cq2, cq3, cq4, cq5, cq6, cq7, cq8, cq9, cq10, cq11, cq12, cq13] at h7)
  refine tr_seq ?_
  refine tr_region (fun N3 hN => ?_)
  refine lx (op_fieldAddr rfl fl29_0 sz3) rfl ?_
  refine lx (op_bload_one (m := 3) rfl rfl ag3 rfl) rfl ?_
  refine lx (op_eql rfl rfl) rfl ?_
  refine lx (op_fieldAddr rfl fl29_1 sz3) rfl ?_
  refine lx (op_bload_one (m := 3) rfl rfl ag3 rfl) rfl ?_
  refine lx (op_neq rfl rfl) rfl ?_
  refine lx (op_neq_bool bo4 rfl rfl) rfl ?_
  refine lx (op_move rfl) rfl ?_
  refine lxs rfl rfl rfl guard_eq (.cons (t := 3) rfl (fun _ => Ent.refl _) .nil) (op_fieldAddr rfl fl29_0 sz3) rfl ?_
  refine lxs rfl rfl rfl guard_eq (.cons (t := 35) rfl (fun h => entW h) .nil) (op_bload_one (m := 3) rfl rfl ag3 rfl) rfl ?_
  refine lxs rfl rfl rfl guard_eq (.cons (t := 36) rfl (fun h => entW h) .nil) (op_eql rfl rfl) rfl ?_
  refine lxs rfl rfl rfl guard_eq (.cons (t := 3) rfl (fun _ => Ent.refl _) .nil) (op_fieldAddr rfl fl29_3 sz27) rfl ?_
  refine lxs rfl rfl rfl guard_eq (.cons (t := 38) rfl (fun h => entW h) .nil) (op_bload_one (m := 3) rfl rfl ag27 rfl) rfl ?_
  first | refine lxs rfl rfl rfl guard_eq (.cons (t := 39) rfl (fun h => entW h) .nil) (op_len rfl el27) rfl ?_ | refine lxs rfl rfl rfl guard_eq (.cons (t := 39) rfl (fun h => entW h) .nil) (op_len_row rfl el27) rfl ?_ | refine lxs rfl rfl rfl guard_eq (.cons (t := 39) rfl (fun h => entW h) .nil) (op_len_mv rfl el27) rfl ?_ | refine lxs rfl rfl rfl guard_eq (.cons (t := 39) rfl (fun h => entW h) .nil) (op_len_nil rfl el27) rfl ?_
  refine lxs rfl rfl rfl guard_eq (.cons (t := 40) rfl (fun h => entW h) .nil) (op_eql rfl rfl) rfl ?_
  refine lxs rfl rfl rfl guard_eq (.cons (t := 37) rfl (fun h => entW h) (.cons (t := 41) rfl (fun h => entW h) .nil)) (op_neq_bool bo4 rfl rfl) rfl ?_
  refine lx (op_pick_or rfl rfl) rfl ?_
  refine lx (op_assign rfl) rfl ?_
  refine lx_end ⟨by kernel_rfl, ?_⟩
  refine pe_then_normal ?_
  refine tr_sub hC (.cons (t := 2) rfl (.cons (t := 3) rfl (.cons (t := 26) rfl .nil))) (.cons (t := 2) rfl (.cons (t := 3) rfl .nil)) rfl ?_
  refine tr_cond rfl (fun h26 => ?_) (fun h26 => ?_)
  ·have hbad := valid_hdr (p := p) (hdr_no (g := g) (fun hh => two_no h26 ⟨hh.2.2.2.2.1, hh.2.2.2.2.2.1⟩))
   refine tr_seq ?_
   refine tr_region (fun N4 hN => ?_)
   refine lx (op_assign rfl) rfl ?_
   refine lx_end ⟨by kernel_rfl, ?_⟩
   refine pe_then_normal ?_
   refine tr_sub hC (.cons (t := 4) rfl .nil) .nil rfl ?_
   refine tr_ret ?_
   refine pe_block_ret ?_
   refine pe_then_ret ?_
   refine pe_ret1 rfl hO rfl (.tmp rfl .nil) ?_
   rw [hbad]
   exact ent_auto
  ·have htw := two_iff h26
   refine tr_seq ?_
   refine tr_region (fun N5 hN => ?_)
   refine lx (op_fieldAddr rfl fl29_2 sz3) rfl ?_
   refine lx (op_bload_one (m := 3) rfl rfl ag3 rfl) rfl ?_
   refine lx (op_lss rfl rfl) rfl ?_
   refine lx (op_move rfl) rfl ?_
   refine lxs rfl rfl rfl guard_eq (.cons (t := 3) rfl (fun _ => Ent.refl _) .nil) (op_fieldAddr rfl fl29_2 sz3) rfl ?_
   refine lxs rfl rfl rfl guard_eq (.cons (t := 49) rfl (fun h => entW h) .nil) (op_bload_one (m := 3) rfl rfl ag3 rfl) rfl ?_
   refine lxs rfl rfl rfl guard_eq (.cons (t := 50) rfl (fun h => entW h) .nil) (op_gtr rfl rfl) rfl ?_
   refine lx (op_pick_or rfl rfl) rfl ?_
   refine lx (op_move rfl) rfl ?_
   refine lxs rfl rfl rfl guard_eq (.cons (t := 3) rfl (fun _ => Ent.refl _) .nil) (op_fieldAddr rfl fl29_3 sz27) rfl ?_
   refine lxs rfl rfl rfl guard_eq (.cons (t := 54) rfl (fun h => entW h) .nil) (op_bload_one (m := 3) rfl rfl ag27 rfl) rfl ?_
   first | refine lxs rfl rfl rfl guard_eq (.cons (t := 55) rfl (fun h => entW h) .nil) (op_len rfl el27) rfl ?_ | refine lxs rfl rfl rfl guard_eq (.cons (t := 55) rfl (fun h => entW h) .nil) (op_len_row rfl el27) rfl ?_ | refine lxs rfl rfl rfl guard_eq (.cons (t := 55) rfl (fun h => entW h) .nil) (op_len_mv rfl el27) rfl ?_ | refine lxs rfl rfl rfl guard_eq (.cons (t := 55) rfl (fun h => entW h) .nil) (op_len_nil rfl el27) rfl ?_
   refine lxs rfl rfl rfl guard_eq (.cons (t := 56) rfl (fun h => entW h) .nil) (op_gtr rfl rfl) rfl ?_
   refine lx (op_pick_or rfl rfl) rfl ?_
   refine lx (op_assign rfl) rfl ?_
   refine lx_end ⟨by kernel_rfl, ?_⟩
   refine pe_then_normal ?_
   refine tr_sub hC (.cons (t := 2) rfl (.cons (t := 3) rfl (.cons (t := 44) rfl .nil))) (.cons (t := 2) rfl (.cons (t := 3) rfl .nil)) rfl ?_
   refine tr_cond rfl (fun h44 => ?_) (fun h44 => ?_)
   ·(try simp only [cq1, cq2, cq3, cq4, cq5, cq6, cq7, cq8, cq9, cq10, cq11, cq12, cq13] at h44)
    have hbad := valid_hdr (p := p) (hdr_no (g := g) (by omega))
    refine tr_seq ?_
    refine tr_region (fun N6 hN => ?_)
    refine lx (op_assign rfl) rfl ?_
    refine lx_end ⟨by kernel_rfl, ?_⟩
    refine pe_then_normal ?_
    refine tr_sub hC (.cons (t := 4) rfl .nil) .nil rfl ?_
    refine tr_ret ?_
    refine pe_block_ret ?_
    refine pe_then_ret ?_
    refine pe_ret1 rfl hO rfl (.tmp rfl .nil) ?_
    rw [hbad]
    exact ent_auto
   ·(try simp only [cq1, cq2, cq3, cq4, cq5, cq6, cq7, cq8, cq9, cq10, cq11, cq12, cq13] at h44)
    have hyes : hdrOK g = true := hdr_yes ⟨by omega, by omega, by omega, by omega, htw.1, htw.2, by omega, by omega, by omega⟩
    have hvg := valid_frs (p := p) hyes
    refine tr_skip ?_
    refine pe_block_normal ?_
    refine pe_then_normal ?_
    refine tr_sub hC (.cons (t := 2) rfl (.cons (t := 3) rfl .nil)) (.cons (t := 2) rfl (.cons (t := 3) rfl .nil)) rfl ?_
    refine tr_seq ?_
    refine tr_region (fun N7 hN => ?_)
    refine lx (op_assign rfl) rfl ?_
    refine lx_end ⟨by kernel_rfl, ?_⟩
    refine pe_then_normal ?_
    refine tr_sub hC (.cons (t := 2) rfl (.cons (t := 3) rfl (.cons (t := 5) rfl .nil))) (.cons (t := 2) rfl (.cons (t := 3) rfl .nil)) rfl ?_
    refine tr_seq ?_
    refine tr_seq ?_
    refine tr_region (fun N8 hN => ?_)
    refine lx (op_fieldAddr rfl fl29_3 sz27) rfl ?_
    refine lx (op_bload_one (m := 3) rfl rfl ag27 rfl) rfl ?_
    first | refine lx (op_len rfl el27) rfl ?_ | refine lx (op_len_row rfl el27) rfl ?_ | refine lx (op_len_mv rfl el27) rfl ?_ | refine lx (op_len_nil rfl el27) rfl ?_
    refine lx (op_move rfl) rfl ?_
    refine lx_end ⟨by kernel_rfl, ?_⟩
    refine pe_then_normal ?_
    refine tr_sub hC (.cons (t := 2) rfl (.cons (t := 3) rfl (.cons (t := 5) rfl (.cons (t := 61) rfl (.cons (t := 62) rfl .nil))))) (.cons (t := 2) rfl (.cons (t := 3) rfl .nil)) rfl ?_
    refine tr_block ?_
    refine tr_sub hC (.cons (t := 2) rfl (.cons (t := 3) rfl (.ent (t := 5) rfl ((show Ent (eqP (.pointer none)) (belP (prvF g.frames 0)) from Ent.refl _)) (.cons (t := 61) rfl (.cons (t := 62) rfl .nil))))) (.cons (t := 2) rfl (.cons (t := 3) rfl .nil)) rfl ?_
    refine tr_loopK (α := {zz : Nat // zz ≤ g.frames.length ∧ frsOK p (prvF g.frames zz) (g.frames.drop zz) = frsOK p none g.frames}) (⟨(0), Nat.zero_le _, rfl⟩) (fun zz => [(5, belP (prvF g.frames zz.1)), (62, eqP (.int .i64 (zz.1 : Int)))]) (fun zz => []) (fun zz => g.frames.length - zz.1) hC (.cons (t := 2) rfl (.cons (t := 3) rfl (.cons (t := 61) rfl .nil))) (.cons (t := 2) rfl (.cons (t := 3) rfl .nil)) rfl ?_ ?_ (fun zz => ?_)
    ·try dsimp only [List.cons_append, List.nil_append]
     first | refine SubF.cons rfl ?_ | (refine SubF.ent rfl ?_ ?_; · exact ent_auto)
     first | refine SubF.cons rfl ?_ | (refine SubF.ent rfl ?_ ?_; · exact ent_auto)
     exact SubF.nil
    ·try dsimp only [List.cons_append, List.nil_append]
     repeat (first | exact SubL.nil | refine SubL.cons rfl ?_)
    ·obtain ⟨k, hk1, hk2⟩ := zz
     dsimp only [List.cons_append, List.nil_append]
     refine tr_seq ?_
     refine tr_region (fun N9 hN => ?_)
     refine lx (op_lss rfl rfl) rfl ?_
     refine lx_end ⟨by kernel_rfl, ?_⟩
     refine pe_then_normal ?_
     refine tr_sub hC (.cons (t := 2) rfl (.cons (t := 3) rfl (.cons (t := 5) rfl (.cons (t := 61) rfl (.cons (t := 62) rfl (.cons (t := 63) rfl .nil)))))) (.cons (t := 2) rfl (.cons (t := 3) rfl .nil)) rfl ?_
     refine tr_seq ?_
     refine tr_cond rfl (fun h63 => ?_) (fun h63 => ?_)
     ·(try simp only [cq1, cq2, cq3, cq4, cq5, cq6, cq7, cq8, cq9, cq10, cq11, cq12, cq13] at h63)
      refine tr_skip ?_
      refine pe_then_normal ?_
      refine tr_sub hC (.cons (t := 2) rfl (.cons (t := 3) rfl (.cons (t := 5) rfl (.cons (t := 61) rfl (.cons (t := 62) rfl .nil))))) (.cons (t := 2) rfl (.cons (t := 3) rfl .nil)) rfl ?_
      refine tr_seq ?_
      refine tr_block ?_
      refine tr_seq ?_
      refine tr_region (fun N10 hN => ?_)
      refine lx (op_move rfl) rfl ?_
      refine lx (op_assign rfl) rfl ?_
      refine lx_end ⟨by kernel_rfl, ?_⟩
      refine pe_then_normal ?_
      refine tr_sub hC (.cons (t := 2) rfl (.cons (t := 3) rfl (.cons (t := 5) rfl (.cons (t := 6) rfl (.cons (t := 61) rfl (.cons (t := 62) rfl .nil)))))) (.cons (t := 2) rfl (.cons (t := 3) rfl .nil)) rfl ?_
      refine tr_seq ?_
      refine tr_seq ?_
      refine tr_drawn mixed (fun N11 hN => ?_)
      refine lx (op_bload (m := 2) rfl rfl ag26 sz26) rfl ?_
      refine lx (op_fieldAddr rfl fl29_3 sz27) rfl ?_
      refine lx (op_bload_one (m := 3) rfl rfl ag27 rfl) rfl ?_
      refine lx (op_move rfl) rfl ?_
      refine lx (op_index rfl rfl el27 sz60 rfl (List.getElem?_eq_getElem (by omega : k < g.frames.length))) rfl ?_
      first | refine lx (op_load_all rfl ag60 sz60) rfl ?_ | refine lx (op_load_agg rfl ag60 sz60 rfl) rfl ?_ | refine lx (op_bload (m := 2) rfl rfl ag60 sz60) rfl ?_ | refine lx (op_bload (m := 3) rfl rfl ag60 sz60) rfl ?_ | refine lx (op_bload_part (m := 2) (qs := [_, _, _, _, _, _, _, _, _]) rfl rfl ag60 sz60 rfl rfl) rfl ?_ | refine lx (op_bload_part (m := 3) (qs := [_, _, _, _, _, _, _, _, _]) rfl rfl ag60 sz60 rfl rfl) rfl ?_
      refine lx (op_move rfl) rfl ?_
      first | refine lx (op_call (l := [(Go.Operand.tmp 65), (Go.Operand.tmp 70), (Go.Operand.tmp 71)]) (frame_ok p g.frames[k] (hb.each _ (List.getElem_mem ..)) (prvF g.frames k)) (.cons rfl (.cons rfl (.cons rfl .nil))) fn37) rfl ?_ | refine lx (op_call (l := [(Go.Operand.tmp 65), (Go.Operand.tmp 70), (Go.Operand.tmp 71)]) (frame_ok p g.frames[k] (hb.each _ (List.getElem_mem ..)) (prvF g.frames k)) (.ent rfl (by exact ent_auto) (.ent rfl (by exact ent_auto) (.ent rfl (by exact ent_auto) .nil))) fn37) rfl ?_
      first | refine lx (op_not rfl) rfl ?_ | refine lx (op_not_b rfl) rfl ?_
      refine lx_end ⟨by kernel_rfl, ?_⟩
      refine pe_then_normal ?_
      refine tr_sub hC (.cons (t := 2) rfl (.cons (t := 3) rfl (.cons (t := 6) rfl (.cons (t := 61) rfl (.cons (t := 62) rfl (.cons (t := 73) rfl .nil)))))) (.cons (t := 2) rfl (.cons (t := 3) rfl .nil)) rfl ?_
      refine tr_cond rfl (fun h73 => ?_) (fun h73 => ?_)
      ·(try simp only [cq1, cq2, cq3, cq4, cq5, cq6, cq7, cq8, cq9, cq10, cq11, cq12, cq13] at h73)
       have hbad := hvg.trans (frs_bad (by omega) hk2 h73)
       refine tr_seq ?_
       refine tr_region (fun N12 hN => ?_)
       refine lx (op_assign rfl) rfl ?_
       refine lx_end ⟨by kernel_rfl, ?_⟩
       refine pe_then_normal ?_
       refine tr_sub hC (.cons (t := 4) rfl .nil) .nil rfl ?_
       refine tr_ret ?_
       refine pe_then_ret ?_
       refine pe_block_ret ?_
       refine pe_then_ret ?_
       refine pe_then_ret ?_
       refine pe_block_ret ?_
       refine pe_then_ret ?_
       refine pe_ret1 rfl hO rfl (.tmp rfl .nil) ?_
       rw [hbad]
       exact ent_auto
      ·(try simp only [cq1, cq2, cq3, cq4, cq5, cq6, cq7, cq8, cq9, cq10, cq11, cq12, cq13] at h73)
       have hgo := frs_next (by omega) hk2 h73
       refine tr_skip ?_
       refine pe_then_normal ?_
       refine tr_sub hC (.cons (t := 2) rfl (.cons (t := 3) rfl (.cons (t := 6) rfl (.cons (t := 61) rfl (.cons (t := 62) rfl .nil))))) (.cons (t := 2) rfl (.cons (t := 3) rfl .nil)) rfl ?_
       refine tr_region (fun N13 hN => ?_)
       refine lx (op_fieldAddr rfl fl29_3 sz27) rfl ?_
       refine lx (op_bload_one (m := 3) rfl rfl ag27 rfl) rfl ?_
       refine lx (op_move rfl) rfl ?_
       refine lx (op_index rfl rfl el27 sz60 rfl (List.getElem?_eq_getElem (by omega : k < g.frames.length))) rfl ?_
       refine lx (op_assign rfl) rfl ?_
       refine lx_end ⟨by kernel_rfl, ?_⟩
       refine pe_block_normal ?_
       refine pe_then_normal ?_
       refine tr_sub hC (.cons (t := 2) rfl (.cons (t := 3) rfl (.cons (t := 5) rfl (.cons (t := 61) rfl (.cons (t := 62) rfl .nil))))) (.cons (t := 2) rfl (.cons (t := 3) rfl .nil)) rfl ?_
       have hbel : Ent (cellsP g.frames[k].ps) (belP (prvF g.frames (k + 1))) := by rw [prvF_succ (by omega)]; exact Ent.refl _
       refine tr_sub hC (.cons (t := 2) rfl (.cons (t := 3) rfl (.ent (t := 5) rfl (hbel) (.cons (t := 61) rfl (.cons (t := 62) rfl .nil))))) (.cons (t := 2) rfl (.cons (t := 3) rfl .nil)) rfl ?_
       refine tr_region (fun N14 hN => ?_)
       refine lx (op_add rfl rfl (by omega)) rfl ?_
       refine lx (op_move rfl) rfl ?_
       refine lx_end ⟨by kernel_rfl, ?_⟩
       refine pe_round (⟨(k + 1), by omega, hgo⟩) (by dsimp only; omega) (pe_st hC ?_ ?_ rfl)
       ·try dsimp only [List.cons_append, List.nil_append]
        first | refine SubF.cons rfl ?_ | (refine SubF.ent rfl ?_ ?_; · exact ent_auto)
        first | refine SubF.cons rfl ?_ | (refine SubF.ent rfl ?_ ?_; · exact ent_auto)
        first | refine SubF.cons rfl ?_ | (refine SubF.ent rfl ?_ ?_; · exact ent_auto)
        first | refine SubF.cons rfl ?_ | (refine SubF.ent rfl ?_ ?_; · exact ent_auto)
        first | refine SubF.cons rfl ?_ | (refine SubF.ent rfl ?_ ?_; · exact ent_auto)
        exact SubF.nil
       ·try dsimp only [List.cons_append, List.nil_append]
        repeat (first | exact SubL.nil | refine SubL.cons rfl ?_)
     ·(try simp only [cq1, cq2, cq3, cq4, cq5, cq6, cq7, cq8, cq9, cq10, cq11, cq12, cq13] at h63)
      have hfin := hvg.trans (frs_end (by omega) hk2)
      refine tr_exit ?_
      refine pe_then_exit ?_
      refine pe_then_exit ?_
      refine pe_block_eq ?_
      refine pe_then_normal ?_
      refine tr_sub hC .nil .nil rfl ?_
      refine tr_seq ?_
      refine tr_region (fun N15 hN => ?_)
      refine lx (op_assign rfl) rfl ?_
      refine lx_end ⟨by kernel_rfl, ?_⟩
      refine pe_then_normal ?_
      refine tr_sub hC (.cons (t := 4) rfl .nil) .nil rfl ?_
      refine tr_ret ?_
      refine pe_ret1 rfl hO rfl (.tmp rfl .nil) ?_
      rw [hfin]
      exact ent_auto
end Go.Proofs.Ythiknhmoefbanaa
