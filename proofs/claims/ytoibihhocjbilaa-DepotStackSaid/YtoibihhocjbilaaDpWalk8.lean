/- Walks of the functions of layer 21: Merge -/
import Derived.Test.YtoibihhocjbilaaDpWalk7
set_option linter.unusedVariables false
set_option linter.unusedSimpArgs false
namespace Go.Proofs.Ytoibihhocjbilaa
open Go.AL Go.Dp Go.RowKit

theorem Merge_n (d : Dep) (hv : validF d = false) (hx : d.sites.length ≤ 400000) (hy : d.parents.length ≤ 400000) (b : Dep) (hxb : b.sites.length ≤ 400000) (hyb : b.parents.length ≤ 400000) : FnP Try.prog 22 [aggP d.ps, aggP b.ps] (tupP [aggP (mergeF d b).1.ps, slP ip 1 (mergeF d b).2]) := by
  refine fn_pure' Try.func22 rfl Try.ntmps22 rfl ?_
  intro σ0 M ex Rf R hC hO
  simp only [frameOf, tokOf]
  refine tr_seq ?_
  refine tr_region (fun N0 hN => ?_)
  refine lxn (op_box (m := 2) (k := 2) rfl (.agg rfl) (by first | exact hC.low _ (by decide) | rfl)) rfl ?_
  refine lxn (op_box (m := 3) (k := 3) rfl (.agg rfl) (by first | exact hC.low _ (by decide) | rfl)) rfl ?_
  refine lxn (op_alloc (m := 4) (k := 4) (ps := [eqP (.slice none 0 0), eqP (.slice none 0 0)]) ze25 rfl rfl (by first | exact hC.low _ (by decide) | rfl)) rfl ?_
  refine lx (op_assign rfl) rfl ?_
  refine lx_end ⟨by kernel_rfl, ?_⟩
  refine pe_then_normal ?_
  refine tr_sub hC (.cons (t := 2) rfl (.cons (t := 3) rfl (.cons (t := 4) rfl .nil))) (.cons (t := 2) rfl (.cons (t := 3) rfl (.cons (t := 4) rfl .nil))) rfl ?_
  refine tr_seq ?_
  refine tr_region (fun N1 hN => ?_)
  first | refine lx (op_bload (m := 2) rfl rfl ag25 sz25) rfl ?_ | refine lx (op_bload_part (m := 2) rfl rfl ag25 sz25 rfl rfl) rfl ?_
  first | refine lx (op_call (l := [(Go.Operand.tmp 13)]) (build_n d hv (by omega) (by omega)) (.cons rfl .nil) fn25) rfl ?_ | refine lx (op_call (l := [(Go.Operand.tmp 13)]) (build_n d hv (by omega) (by omega)) (.ent rfl (by repeat (first | exact Ent.refl _ | exact Ents.nil | exact Ent.nil _ _ | exact Ent.row _ _ _ _ | exact Ent.func _ | refine Ents.cons ?_ ?_ | refine Ent.tup ?_ | refine Ent.agg ?_ | refine Ent.cells ?_ | exact Ent.of_eq rfl)) .nil) fn25) rfl ?_
  refine lx (op_move rfl) rfl ?_
  refine lx (op_extract rfl rfl) rfl ?_
  refine lx (op_extract rfl rfl) rfl ?_
  refine lx (op_assign rfl) rfl ?_
  refine lx (op_assign rfl) rfl ?_
  refine lx_end ⟨by kernel_rfl, ?_⟩
  refine pe_then_normal ?_
  refine tr_sub hC (.cons (t := 3) rfl (.cons (t := 4) rfl (.cons (t := 6) rfl (.cons (t := 7) rfl .nil)))) (.cons (t := 3) rfl (.cons (t := 4) rfl .nil)) rfl ?_
  refine tr_seq ?_
  refine tr_seq ?_
  refine tr_region (fun N2 hN => ?_)
  refine lx (op_move rfl) rfl ?_
  first | refine lx (op_not rfl) rfl ?_ | refine lx (op_not_b rfl) rfl ?_
  refine lx (op_move rfl) rfl ?_
  first | refine lxs rfl rfl rfl guard_eq (.cons (t := 3) rfl (fun _ => Ent.refl _) .nil) (op_bload (m := 3) rfl rfl ag25 sz25) rfl ?_ | refine lxs rfl rfl rfl guard_eq (.cons (t := 3) rfl (fun _ => Ent.refl _) .nil) (op_bload_part (m := 3) rfl rfl ag25 sz25 rfl rfl) rfl ?_
  first | refine lxs rfl rfl rfl guard_eq (.cons (t := 20) rfl (fun h => entW h) .nil) (op_call (l := [(Go.Operand.tmp 20)]) (valid_ok _ (by omega)) (.cons rfl .nil) fn12) rfl ?_ | refine lxs rfl rfl rfl guard_eq (.cons (t := 20) rfl (fun h => entW h) .nil) (op_call (l := [(Go.Operand.tmp 20)]) (valid_ok _ (by omega)) (.ent rfl (by repeat (first | exact Ent.refl _ | exact Ents.nil | exact Ent.nil _ _ | exact Ent.row _ _ _ _ | exact Ent.func _ | refine Ents.cons ?_ ?_ | refine Ent.tup ?_ | refine Ent.agg ?_ | refine Ent.cells ?_ | exact Ent.of_eq rfl)) .nil) fn12) rfl ?_
  first | refine lxs rfl rfl rfl guard_eq (.cons (t := 21) rfl (fun h => entW h) .nil) (op_not rfl) rfl ?_ | refine lxs rfl rfl rfl guard_eq (.cons (t := 21) rfl (fun h => entW h) .nil) (op_not_b rfl) rfl ?_
  refine lx (op_pick_or rfl rfl) rfl ?_
  refine lx_end ⟨by kernel_rfl, ?_⟩
  refine pe_then_normal ?_
  refine tr_sub hC (.cons (t := 3) rfl (.cons (t := 4) rfl (.cons (t := 6) rfl (.cons (t := 23) rfl .nil)))) (.cons (t := 3) rfl (.cons (t := 4) rfl .nil)) rfl ?_
  refine tr_cond rfl (fun h23 => ?_) (fun h23 => ?_)
  · (try simp only [Bool.and_eq_true, Bool.or_eq_true, Bool.and_eq_false_iff, Bool.or_eq_false_iff, decide_eq_true_eq, decide_eq_false_iff_not, Bool.not_eq_true', Bool.not_eq_false', List.length_map, ne_eq, Decidable.not_not, Int.not_lt, Int.not_le] at h23)
    refine tr_seq ?_
    refine tr_region (fun N3 hN => ?_)
    refine lx (op_build (parts := []) ze25 rfl rfl fs25 .nil rfl rfl) rfl ?_
    first | refine lxr (op_store_all (m := 4) rfl rfl rfl (.agg rfl) sz25 rfl) rfl ?_ | refine lxr (op_store (m := 4) rfl rfl rfl (.agg rfl) sz25 rfl rfl rfl) rfl ?_
    refine lx (op_assign rfl) rfl ?_
    refine lx_end ⟨by kernel_rfl, ?_⟩
    refine pe_then_normal ?_
    refine tr_sub hC (.cons (t := 4) rfl (.cons (t := 5) rfl .nil)) (.cons (t := 4) rfl .nil) rfl ?_
    refine tr_ret ?_
    refine pe_then_ret ?_
    refine pe_retN (rs := [.cell 4 25, .tmp 5]) rfl rfl hO rfl (.cell (m := 4) rfl rfl ag25 sz25 (.tmp rfl .nil)) ?_
    rw [mergeF_no (fun h => by rw [hv] at h; exact absurd h.1 (by simp))]
    repeat (first | exact Ent.refl _ | exact Ents.nil | exact Ent.nil _ _ | exact Ent.row _ _ _ _ | exact Ent.func _ | refine Ents.cons ?_ ?_ | refine Ent.tup ?_ | refine Ent.agg ?_ | refine Ent.cells ?_ | exact Ent.of_eq rfl)
  · exact absurd h23 (by simp)

theorem Merge_w (l : List E) (hv : validE l = true) (hx : l.length ≤ 400000) (b : Dep) (hxb : b.sites.length ≤ 400000) (hyb : b.parents.length ≤ 400000) (hvb : validF b = false) : FnP Try.prog 22 [aggP (ofE l).ps, aggP b.ps] (tupP [aggP (mergeF (ofE l) b).1.ps, slP ip 1 (mergeF (ofE l) b).2]) := by
  refine fn_pure' Try.func22 rfl Try.ntmps22 rfl ?_
  intro σ0 M ex Rf R hC hO
  simp only [frameOf, tokOf]
  refine tr_seq ?_
  refine tr_region (fun N0 hN => ?_)
  refine lxn (op_box (m := 2) (k := 2) rfl (.agg rfl) (by first | exact hC.low _ (by decide) | rfl)) rfl ?_
  refine lxn (op_box (m := 3) (k := 3) rfl (.agg rfl) (by first | exact hC.low _ (by decide) | rfl)) rfl ?_
  refine lxn (op_alloc (m := 4) (k := 4) (ps := [eqP (.slice none 0 0), eqP (.slice none 0 0)]) ze25 rfl rfl (by first | exact hC.low _ (by decide) | rfl)) rfl ?_
  refine lx (op_assign rfl) rfl ?_
  refine lx_end ⟨by kernel_rfl, ?_⟩
  refine pe_then_normal ?_
  refine tr_sub hC (.cons (t := 2) rfl (.cons (t := 3) rfl (.cons (t := 4) rfl .nil))) (.cons (t := 2) rfl (.cons (t := 3) rfl (.cons (t := 4) rfl .nil))) rfl ?_
  refine tr_seq ?_
  refine tr_region (fun N1 hN => ?_)
  first | refine lx (op_bload (m := 2) rfl rfl ag25 sz25) rfl ?_ | refine lx (op_bload_part (m := 2) rfl rfl ag25 sz25 rfl rfl) rfl ?_
  first | refine lx_any rfl (op_callG2 (l := [(Go.Operand.tmp 13)]) (add := [(130, ((N1, 100140), blk 52 [rowP ((N1, 100141)) sp 2 ((l).map (·.2)), rowP ((N1, 100142)) ip 1 ((l).map (·.1)), mapP ((N1, 100143))])), (131, ((N1, 100141), tail 29 2 (((l).map (·.2)).length * 2))), (132, ((N1, 100142), tail 3 1 (((l).map (·.1)).length * 1))), (133, ((N1, 100143), mapR ev iv (tab (l))))]) (ks := [100140, 100141, 100142, 100143]) (φ := tupP [ptrP (N1, 100140) 0, eqP (.bool true)]) .nil (build_v l hv (by omega)) (.cons rfl .nil) fn25 rfl rfl rfl (.new (by first | exact hC.low _ (by decide) | rfl) (.new (by first | exact hC.low _ (by decide) | rfl) (.new (by first | exact hC.low _ (by decide) | rfl) (.new (by first | exact hC.low _ (by decide) | rfl) .nil)))) rfl) (dOK_spec rfl) ?_ | refine lx_any rfl (op_callG2 (l := [(Go.Operand.tmp 13)]) (add := [(130, ((N1, 100140), blk 52 [rowP ((N1, 100141)) sp 2 ((l).map (·.2)), rowP ((N1, 100142)) ip 1 ((l).map (·.1)), mapP ((N1, 100143))])), (131, ((N1, 100141), tail 29 2 (((l).map (·.2)).length * 2))), (132, ((N1, 100142), tail 3 1 (((l).map (·.1)).length * 1))), (133, ((N1, 100143), mapR ev iv (tab (l))))]) (ks := [100140, 100141, 100142, 100143]) (φ := tupP [ptrP (N1, 100140) 0, eqP (.bool true)]) .nil (build_v l hv (by omega)) (.ent rfl (by repeat (first | exact Ent.refl _ | exact Ents.nil | exact Ent.nil _ _ | exact Ent.row _ _ _ _ | exact Ent.func _ | refine Ents.cons ?_ ?_ | refine Ent.tup ?_ | refine Ent.agg ?_ | refine Ent.cells ?_ | exact Ent.of_eq rfl)) .nil) fn25 rfl rfl rfl (.new (by first | exact hC.low _ (by decide) | rfl) (.new (by first | exact hC.low _ (by decide) | rfl) (.new (by first | exact hC.low _ (by decide) | rfl) (.new (by first | exact hC.low _ (by decide) | rfl) .nil)))) rfl) (dOK_spec rfl) ?_
  refine lx (op_move rfl) rfl ?_
  refine lx (op_extract rfl rfl) rfl ?_
  refine lx (op_extract rfl rfl) rfl ?_
  refine lx (op_assign rfl) rfl ?_
  refine lx (op_assign rfl) rfl ?_
  refine lx_end ⟨by kernel_rfl, ?_⟩
  refine pe_then_normal ?_
  refine tr_sub hC (.cons (t := 3) rfl (.cons (t := 4) rfl (.cons (t := 6) rfl (.cons (t := 7) rfl .nil)))) (.cons (t := 3) rfl (.cons (t := 4) rfl (.cons (t := 130) rfl (.cons (t := 131) rfl (.cons (t := 132) rfl (.cons (t := 133) rfl .nil)))))) rfl ?_
  refine tr_seq ?_
  refine tr_seq ?_
  refine tr_region (fun N2 hN => ?_)
  refine lx (op_move rfl) rfl ?_
  first | refine lx (op_not rfl) rfl ?_ | refine lx (op_not_b rfl) rfl ?_
  refine lx (op_move rfl) rfl ?_
  first | refine lxs rfl rfl rfl guard_eq (.cons (t := 3) rfl (fun _ => Ent.refl _) .nil) (op_bload (m := 3) rfl rfl ag25 sz25) rfl ?_ | refine lxs rfl rfl rfl guard_eq (.cons (t := 3) rfl (fun _ => Ent.refl _) .nil) (op_bload_part (m := 3) rfl rfl ag25 sz25 rfl rfl) rfl ?_
  first | refine lxs rfl rfl rfl guard_eq (.cons (t := 20) rfl (fun h => entW h) .nil) (op_call (l := [(Go.Operand.tmp 20)]) (valid_ok _ (by omega)) (.cons rfl .nil) fn12) rfl ?_ | refine lxs rfl rfl rfl guard_eq (.cons (t := 20) rfl (fun h => entW h) .nil) (op_call (l := [(Go.Operand.tmp 20)]) (valid_ok _ (by omega)) (.ent rfl (by repeat (first | exact Ent.refl _ | exact Ents.nil | exact Ent.nil _ _ | exact Ent.row _ _ _ _ | exact Ent.func _ | refine Ents.cons ?_ ?_ | refine Ent.tup ?_ | refine Ent.agg ?_ | refine Ent.cells ?_ | exact Ent.of_eq rfl)) .nil) fn12) rfl ?_
  first | refine lxs rfl rfl rfl guard_eq (.cons (t := 21) rfl (fun h => entW h) .nil) (op_not rfl) rfl ?_ | refine lxs rfl rfl rfl guard_eq (.cons (t := 21) rfl (fun h => entW h) .nil) (op_not_b rfl) rfl ?_
  refine lx (op_pick_or rfl rfl) rfl ?_
  refine lx_end ⟨by kernel_rfl, ?_⟩
  refine pe_then_normal ?_
  refine tr_sub hC (.cons (t := 3) rfl (.cons (t := 4) rfl (.cons (t := 6) rfl (.cons (t := 23) rfl .nil)))) (.cons (t := 3) rfl (.cons (t := 4) rfl (.cons (t := 130) rfl (.cons (t := 131) rfl (.cons (t := 132) rfl (.cons (t := 133) rfl .nil)))))) rfl ?_
  refine tr_cond rfl (fun h23 => ?_) (fun h23 => ?_)
  · (try simp only [Bool.and_eq_true, Bool.or_eq_true, Bool.and_eq_false_iff, Bool.or_eq_false_iff, decide_eq_true_eq, decide_eq_false_iff_not, Bool.not_eq_true', Bool.not_eq_false', List.length_map, ne_eq, Decidable.not_not, Int.not_lt, Int.not_le] at h23)
    refine tr_seq ?_
    refine tr_region (fun N3 hN => ?_)
    refine lx (op_build (parts := []) ze25 rfl rfl fs25 .nil rfl rfl) rfl ?_
    first | refine lxr (op_store_all (m := 4) rfl rfl rfl (.agg rfl) sz25 rfl) rfl ?_ | refine lxr (op_store (m := 4) rfl rfl rfl (.agg rfl) sz25 rfl rfl rfl) rfl ?_
    refine lx (op_assign rfl) rfl ?_
    refine lx_end ⟨by kernel_rfl, ?_⟩
    refine pe_then_normal ?_
    refine tr_sub hC (.cons (t := 4) rfl (.cons (t := 5) rfl .nil)) (.cons (t := 4) rfl (.cons (t := 130) rfl (.cons (t := 131) rfl (.cons (t := 132) rfl (.cons (t := 133) rfl .nil))))) rfl ?_
    refine tr_ret ?_
    refine pe_then_ret ?_
    refine pe_retN (rs := [.cell 4 25, .tmp 5]) rfl rfl hO rfl (.cell (m := 4) rfl rfl ag25 sz25 (.tmp rfl .nil)) ?_
    rw [mergeF_no (fun h => by rw [hvb] at h; exact absurd h.2 (by simp))]
    repeat (first | exact Ent.refl _ | exact Ents.nil | exact Ent.nil _ _ | exact Ent.row _ _ _ _ | exact Ent.func _ | refine Ents.cons ?_ ?_ | refine Ent.tup ?_ | refine Ent.agg ?_ | refine Ent.cells ?_ | exact Ent.of_eq rfl)
  · exact absurd h23 (by rw [hvb]; simp)

theorem Merge_v (l : List E) (hv : validE l = true) (hx : l.length ≤ 400000) (bl : List E) (hvb : validE bl = true) (hxb : bl.length ≤ 400000) : FnP Try.prog 22 [aggP (ofE l).ps, aggP (ofE bl).ps] (tupP [aggP (mergeF (ofE l) (ofE bl)).1.ps, slP ip 1 (mergeF (ofE l) (ofE bl)).2]) := by
  have hS := lenS bl
  have hP := lenP bl
  refine fn_pure' Try.func22 rfl Try.ntmps22 rfl ?_
  intro σ0 M ex Rf R hC hO
  simp only [frameOf, tokOf]
  refine tr_seq ?_
  refine tr_region (fun N0 hN => ?_)
  refine lxn (op_box (m := 2) (k := 2) rfl (.agg rfl) (by first | exact hC.low _ (by decide) | rfl)) rfl ?_
  refine lxn (op_box (m := 3) (k := 3) rfl (.agg rfl) (by first | exact hC.low _ (by decide) | rfl)) rfl ?_
  refine lxn (op_alloc (m := 4) (k := 4) (ps := [eqP (.slice none 0 0), eqP (.slice none 0 0)]) ze25 rfl rfl (by first | exact hC.low _ (by decide) | rfl)) rfl ?_
  refine lx (op_assign rfl) rfl ?_
  refine lx_end ⟨by kernel_rfl, ?_⟩
  refine pe_then_normal ?_
  refine tr_sub hC (.cons (t := 2) rfl (.cons (t := 3) rfl (.cons (t := 4) rfl .nil))) (.cons (t := 2) rfl (.cons (t := 3) rfl (.cons (t := 4) rfl .nil))) rfl ?_
  refine tr_seq ?_
  refine tr_region (fun N1 hN => ?_)
  first | refine lx (op_bload (m := 2) rfl rfl ag25 sz25) rfl ?_ | refine lx (op_bload_part (m := 2) rfl rfl ag25 sz25 rfl rfl) rfl ?_
  first | refine lx_any rfl (op_callG2 (l := [(Go.Operand.tmp 13)]) (add := [(130, ((N1, 100140), blk 52 [rowP ((N1, 100141)) sp 2 ((l).map (·.2)), rowP ((N1, 100142)) ip 1 ((l).map (·.1)), mapP ((N1, 100143))])), (131, ((N1, 100141), tail 29 2 (((l).map (·.2)).length * 2))), (132, ((N1, 100142), tail 3 1 (((l).map (·.1)).length * 1))), (133, ((N1, 100143), mapR ev iv (tab (l))))]) (ks := [100140, 100141, 100142, 100143]) (φ := tupP [ptrP (N1, 100140) 0, eqP (.bool true)]) .nil (build_v l hv (by omega)) (.cons rfl .nil) fn25 rfl rfl rfl (.new (by first | exact hC.low _ (by decide) | rfl) (.new (by first | exact hC.low _ (by decide) | rfl) (.new (by first | exact hC.low _ (by decide) | rfl) (.new (by first | exact hC.low _ (by decide) | rfl) .nil)))) rfl) (dOK_spec rfl) ?_ | refine lx_any rfl (op_callG2 (l := [(Go.Operand.tmp 13)]) (add := [(130, ((N1, 100140), blk 52 [rowP ((N1, 100141)) sp 2 ((l).map (·.2)), rowP ((N1, 100142)) ip 1 ((l).map (·.1)), mapP ((N1, 100143))])), (131, ((N1, 100141), tail 29 2 (((l).map (·.2)).length * 2))), (132, ((N1, 100142), tail 3 1 (((l).map (·.1)).length * 1))), (133, ((N1, 100143), mapR ev iv (tab (l))))]) (ks := [100140, 100141, 100142, 100143]) (φ := tupP [ptrP (N1, 100140) 0, eqP (.bool true)]) .nil (build_v l hv (by omega)) (.ent rfl (by repeat (first | exact Ent.refl _ | exact Ents.nil | exact Ent.nil _ _ | exact Ent.row _ _ _ _ | exact Ent.func _ | refine Ents.cons ?_ ?_ | refine Ent.tup ?_ | refine Ent.agg ?_ | refine Ent.cells ?_ | exact Ent.of_eq rfl)) .nil) fn25 rfl rfl rfl (.new (by first | exact hC.low _ (by decide) | rfl) (.new (by first | exact hC.low _ (by decide) | rfl) (.new (by first | exact hC.low _ (by decide) | rfl) (.new (by first | exact hC.low _ (by decide) | rfl) .nil)))) rfl) (dOK_spec rfl) ?_
  refine lx (op_move rfl) rfl ?_
  refine lx (op_extract rfl rfl) rfl ?_
  refine lx (op_extract rfl rfl) rfl ?_
  refine lx (op_assign rfl) rfl ?_
  refine lx (op_assign rfl) rfl ?_
  refine lx_end ⟨by kernel_rfl, ?_⟩
  refine pe_then_normal ?_
  refine tr_sub hC (.cons (t := 3) rfl (.cons (t := 4) rfl (.cons (t := 6) rfl (.cons (t := 7) rfl .nil)))) (.cons (t := 3) rfl (.cons (t := 4) rfl (.cons (t := 130) rfl (.cons (t := 131) rfl (.cons (t := 132) rfl (.cons (t := 133) rfl .nil)))))) rfl ?_
  refine tr_seq ?_
  refine tr_seq ?_
  refine tr_region (fun N2 hN => ?_)
  refine lx (op_move rfl) rfl ?_
  first | refine lx (op_not rfl) rfl ?_ | refine lx (op_not_b rfl) rfl ?_
  refine lx (op_move rfl) rfl ?_
  first | refine lxs rfl rfl rfl guard_eq (.cons (t := 3) rfl (fun _ => Ent.refl _) .nil) (op_bload (m := 3) rfl rfl ag25 sz25) rfl ?_ | refine lxs rfl rfl rfl guard_eq (.cons (t := 3) rfl (fun _ => Ent.refl _) .nil) (op_bload_part (m := 3) rfl rfl ag25 sz25 rfl rfl) rfl ?_
  first | refine lxs rfl rfl rfl guard_eq (.cons (t := 20) rfl (fun h => entW h) .nil) (op_call (l := [(Go.Operand.tmp 20)]) (valid_ok _ (by omega)) (.cons rfl .nil) fn12) rfl ?_ | refine lxs rfl rfl rfl guard_eq (.cons (t := 20) rfl (fun h => entW h) .nil) (op_call (l := [(Go.Operand.tmp 20)]) (valid_ok _ (by omega)) (.ent rfl (by repeat (first | exact Ent.refl _ | exact Ents.nil | exact Ent.nil _ _ | exact Ent.row _ _ _ _ | exact Ent.func _ | refine Ents.cons ?_ ?_ | refine Ent.tup ?_ | refine Ent.agg ?_ | refine Ent.cells ?_ | exact Ent.of_eq rfl)) .nil) fn12) rfl ?_
  first | refine lxs rfl rfl rfl guard_eq (.cons (t := 21) rfl (fun h => entW h) .nil) (op_not rfl) rfl ?_ | refine lxs rfl rfl rfl guard_eq (.cons (t := 21) rfl (fun h => entW h) .nil) (op_not_b rfl) rfl ?_
  refine lx (op_pick_or rfl rfl) rfl ?_
  refine lx_end ⟨by kernel_rfl, ?_⟩
  refine pe_then_normal ?_
  refine tr_sub hC (.cons (t := 3) rfl (.cons (t := 4) rfl (.cons (t := 6) rfl (.cons (t := 23) rfl .nil)))) (.cons (t := 3) rfl (.cons (t := 4) rfl (.cons (t := 130) rfl (.cons (t := 131) rfl (.cons (t := 132) rfl (.cons (t := 133) rfl .nil)))))) rfl ?_
  refine tr_cond rfl (fun h23 => ?_) (fun h23 => ?_)
  · exact absurd h23 (by rw [valid_of hvb]; simp)
  · have hyes := mergeF_yes (valid_of hv) (valid_of hvb)
    refine tr_skip ?_
    refine pe_then_normal ?_
    refine tr_sub hC (.cons (t := 3) rfl (.cons (t := 4) rfl (.cons (t := 6) rfl .nil))) (.cons (t := 3) rfl (.cons (t := 4) rfl (.cons (t := 130) rfl (.cons (t := 131) rfl (.cons (t := 132) rfl (.cons (t := 133) rfl .nil)))))) rfl ?_
    refine tr_seq ?_
    refine tr_region (fun N4 hN => ?_)
    refine lx (op_fieldAddr rfl fl25_0 sz22) rfl ?_
    refine lx (op_bload_one (m := 3) rfl rfl ag22 rfl) rfl ?_
    first | refine lx (op_len rfl el22) rfl ?_ | refine lx (op_len_row rfl el22) rfl ?_ | refine lx (op_len_mv rfl el22) rfl ?_
    refine lxn (op_makeSlice_t (m' := 28) (kk := 28) (f := ip) 0 rfl rfl rfl rfl (by first | exact hC.low _ (by decide) | rfl) el23 ze3 sz3 by3 rfl rfl rfl rfl (by omega) (by unfold maxLen; omega)) rfl ?_
    refine lx (op_assign rfl) rfl ?_
    refine lx_end ⟨by kernel_rfl, ?_⟩
    refine pe_then_normal ?_
    refine tr_sub hC (.cons (t := 3) rfl (.cons (t := 4) rfl (.cons (t := 6) rfl (.cons (t := 8) rfl .nil)))) (.cons (t := 3) rfl (.cons (t := 4) rfl (.cons (t := 130) rfl (.cons (t := 131) rfl (.cons (t := 132) rfl (.cons (t := 133) rfl (.cons (t := 28) rfl .nil))))))) rfl ?_
    refine tr_seq ?_
    refine tr_seq ?_
    refine tr_region (fun N5 hN => ?_)
    refine lx (op_fieldAddr rfl fl25_0 sz22) rfl ?_
    refine lx (op_bload_one (m := 3) rfl rfl ag22 rfl) rfl ?_
    first | refine lx (op_len rfl el22) rfl ?_ | refine lx (op_len_row rfl el22) rfl ?_ | refine lx (op_len_mv rfl el22) rfl ?_
    refine lx (op_move rfl) rfl ?_
    refine lx_end ⟨by kernel_rfl, ?_⟩
    refine pe_then_normal ?_
    refine tr_sub hC (.cons (t := 3) rfl (.cons (t := 4) rfl (.cons (t := 6) rfl (.cons (t := 8) rfl (.cons (t := 30) rfl (.cons (t := 31) rfl (.cons (t := 32) rfl .nil))))))) (.cons (t := 3) rfl (.cons (t := 4) rfl (.cons (t := 130) rfl (.cons (t := 131) rfl (.cons (t := 132) rfl (.cons (t := 133) rfl (.cons (t := 28) rfl .nil))))))) rfl ?_
    refine tr_block ?_
    refine tr_loopK (α := {zz : Nat × (List E) × (List Int) × AL.Id × AL.Id // zz.1 ≤ bl.length ∧ zz.2.2.1.length = bl.length ∧ mergeE zz.2.1 (zz.2.2.1.take zz.1) (bl.drop zz.1) = mergeE l [] bl ∧ zz.2.1.length ≤ l.length + zz.1}) (⟨(0, l, List.replicate (ofE bl).sites.length 0, (N1, 100141), (N1, 100142)), Nat.zero_le _, by simp [ofE], by simp, Nat.le_refl _⟩) (fun zz => [(32, eqP (.int .i64 (zz.1.1 : Int)))]) (fun zz => [(130, some ((N1, 100140), blk 52 [rowP (zz.1.2.2.2.1) sp 2 ((zz.1.2.1).map (·.2)), rowP (zz.1.2.2.2.2) ip 1 ((zz.1.2.1).map (·.1)), mapP ((N1, 100143))])), (131, some (zz.1.2.2.2.1, tail 29 2 (((zz.1.2.1).map (·.2)).length * 2))), (132, some (zz.1.2.2.2.2, tail 3 1 (((zz.1.2.1).map (·.1)).length * 1))), (133, some ((N1, 100143), mapR ev iv (tab (zz.1.2.1)))), (28, some ((N4, 28), blkX 1 3 (zz.1.2.2.1.flatMap ip)))]) (fun zz => bl.length - zz.1.1) hC (.cons (t := 3) rfl (.cons (t := 4) rfl (.cons (t := 6) rfl (.cons (t := 8) rfl (.cons (t := 30) rfl (.cons (t := 31) rfl .nil)))))) (.cons (t := 3) rfl (.cons (t := 4) rfl .nil)) rfl ?_ ?_ (fun zz => ?_)
    · try dsimp only [List.cons_append, List.nil_append]
      first | refine SubF.cons rfl ?_ | (refine SubF.ent rfl ?_ ?_; · repeat (first | exact Ent.refl _ | exact Ents.nil | exact Ent.nil _ _ | exact Ent.row _ _ _ _ | exact Ent.func _ | refine Ents.cons ?_ ?_ | refine Ent.tup ?_ | refine Ent.agg ?_ | refine Ent.cells ?_ | exact Ent.of_eq rfl))
      exact SubF.nil
    · try dsimp only [List.cons_append, List.nil_append]
      repeat (first | exact SubL.nil | refine SubL.cons rfl ?_)
    · obtain ⟨⟨k, l', nums, i1, i2⟩, hk1, hn, hm, hk4⟩ := zz
      try dsimp only at hk1
      try dsimp only at hn
      try dsimp only at hm
      try dsimp only at hk4
      dsimp only [List.cons_append, List.nil_append]
      refine tr_seq ?_
      refine tr_region (fun N6 hN => ?_)
      refine lx (op_lss rfl rfl) rfl ?_
      refine lx_end ⟨by kernel_rfl, ?_⟩
      refine pe_then_normal ?_
      refine tr_sub hC (.cons (t := 3) rfl (.cons (t := 4) rfl (.cons (t := 6) rfl (.cons (t := 8) rfl (.cons (t := 30) rfl (.cons (t := 31) rfl (.cons (t := 32) rfl (.cons (t := 33) rfl .nil)))))))) (.cons (t := 130) rfl (.cons (t := 131) rfl (.cons (t := 132) rfl (.cons (t := 133) rfl (.cons (t := 28) rfl (.cons (t := 3) rfl (.cons (t := 4) rfl .nil))))))) rfl ?_
      refine tr_seq ?_
      refine tr_cond rfl (fun h33 => ?_) (fun h33 => ?_)
      · (try simp only [Bool.and_eq_true, Bool.or_eq_true, Bool.and_eq_false_iff, Bool.or_eq_false_iff, decide_eq_true_eq, decide_eq_false_iff_not, Bool.not_eq_true', Bool.not_eq_false', List.length_map, ne_eq, Decidable.not_not, Int.not_lt, Int.not_le] at h33)
        have hva := valid_at hvb (by omega : k < bl.length)
        refine tr_skip ?_
        refine pe_then_normal ?_
        refine tr_sub hC (.cons (t := 3) rfl (.cons (t := 4) rfl (.cons (t := 6) rfl (.cons (t := 8) rfl (.cons (t := 30) rfl (.cons (t := 31) rfl (.cons (t := 32) rfl .nil))))))) (.cons (t := 130) rfl (.cons (t := 131) rfl (.cons (t := 132) rfl (.cons (t := 133) rfl (.cons (t := 28) rfl (.cons (t := 3) rfl (.cons (t := 4) rfl .nil))))))) rfl ?_
        refine tr_seq ?_
        refine tr_block ?_
        refine tr_seq ?_
        refine tr_region (fun N7 hN => ?_)
        refine lx (op_move rfl) rfl ?_
        refine lx (op_index rfl rfl el22 sz29 rfl (sites_at (by omega : k < bl.length))) rfl ?_
        first | refine lx (op_load_all rfl ag29 sz29) rfl ?_ | refine lx (op_load_agg rfl ag29 sz29 rfl) rfl ?_ | refine lx (op_bload (m := 130) rfl rfl ag29 sz29) rfl ?_ | refine lx (op_bload (m := 131) rfl rfl ag29 sz29) rfl ?_ | refine lx (op_bload (m := 132) rfl rfl ag29 sz29) rfl ?_ | refine lx (op_bload (m := 133) rfl rfl ag29 sz29) rfl ?_ | refine lx (op_bload (m := 28) rfl rfl ag29 sz29) rfl ?_ | refine lx (op_bload (m := 3) rfl rfl ag29 sz29) rfl ?_ | refine lx (op_bload (m := 4) rfl rfl ag29 sz29) rfl ?_ | refine lx (op_bload_part (m := 130) rfl rfl ag29 sz29 rfl rfl) rfl ?_ | refine lx (op_bload_part (m := 131) rfl rfl ag29 sz29 rfl rfl) rfl ?_ | refine lx (op_bload_part (m := 132) rfl rfl ag29 sz29 rfl rfl) rfl ?_ | refine lx (op_bload_part (m := 133) rfl rfl ag29 sz29 rfl rfl) rfl ?_ | refine lx (op_bload_part (m := 28) rfl rfl ag29 sz29 rfl rfl) rfl ?_ | refine lx (op_bload_part (m := 3) rfl rfl ag29 sz29 rfl rfl) rfl ?_ | refine lx (op_bload_part (m := 4) rfl rfl ag29 sz29 rfl rfl) rfl ?_
        refine lxn (op_alloc (m := 10) (k := 10) (ps := [eqP (.int .i64 0), eqP (.int .i64 0)]) ze29 rfl rfl (by first | exact hC.low _ (by decide) | rfl)) rfl ?_
        refine lx (op_assign rfl) rfl ?_
        first | refine lxr (op_store_all (m := 10) rfl rfl rfl (.agg rfl) sz29 rfl) rfl ?_ | refine lxr (op_store (m := 10) rfl rfl rfl (.agg rfl) sz29 rfl rfl rfl) rfl ?_
        refine lx_end ⟨by kernel_rfl, ?_⟩
        refine pe_then_normal ?_
        refine tr_sub hC (.cons (t := 3) rfl (.cons (t := 4) rfl (.cons (t := 6) rfl (.cons (t := 8) rfl (.cons (t := 9) rfl (.cons (t := 10) rfl (.cons (t := 30) rfl (.cons (t := 31) rfl (.cons (t := 32) rfl .nil))))))))) (.cons (t := 130) rfl (.cons (t := 131) rfl (.cons (t := 132) rfl (.cons (t := 133) rfl (.cons (t := 28) rfl (.cons (t := 3) rfl (.cons (t := 4) rfl (.cons (t := 10) rfl .nil)))))))) rfl ?_
        refine tr_seq ?_
        refine tr_region (fun N8 hN => ?_)
        refine lx (op_fieldAddr rfl fl25_1 sz23) rfl ?_
        refine lx (op_bload_one (m := 3) rfl rfl ag23 rfl) rfl ?_
        refine lx (op_move rfl) rfl ?_
        refine lx (op_index rfl rfl el23 sz3 rfl (parents_at (by omega : k < bl.length))) rfl ?_
        first | refine lx (op_load_one rfl ag3 rfl) rfl ?_ | refine lx (op_bload_one (m := 130) rfl rfl ag3 rfl) rfl ?_ | refine lx (op_bload_one (m := 131) rfl rfl ag3 rfl) rfl ?_ | refine lx (op_bload_one (m := 132) rfl rfl ag3 rfl) rfl ?_ | refine lx (op_bload_one (m := 133) rfl rfl ag3 rfl) rfl ?_ | refine lx (op_bload_one (m := 28) rfl rfl ag3 rfl) rfl ?_ | refine lx (op_bload_one (m := 3) rfl rfl ag3 rfl) rfl ?_ | refine lx (op_bload_one (m := 4) rfl rfl ag3 rfl) rfl ?_ | refine lx (op_bload_one (m := 10) rfl rfl ag3 rfl) rfl ?_
        refine lx (op_assign rfl) rfl ?_
        refine lx_end ⟨by kernel_rfl, ?_⟩
        refine pe_then_normal ?_
        refine tr_sub hC (.cons (t := 3) rfl (.cons (t := 4) rfl (.cons (t := 6) rfl (.cons (t := 8) rfl (.cons (t := 9) rfl (.cons (t := 10) rfl (.cons (t := 11) rfl (.cons (t := 30) rfl (.cons (t := 31) rfl (.cons (t := 32) rfl .nil)))))))))) (.cons (t := 130) rfl (.cons (t := 131) rfl (.cons (t := 132) rfl (.cons (t := 133) rfl (.cons (t := 28) rfl (.cons (t := 3) rfl (.cons (t := 4) rfl (.cons (t := 10) rfl .nil)))))))) rfl ?_
        refine tr_seq ?_
        refine tr_seq ?_
        refine tr_region (fun N9 hN => ?_)
        refine lx (op_move rfl) rfl ?_
        refine lx (op_geq rfl rfl) rfl ?_
        refine lx_end ⟨by kernel_rfl, ?_⟩
        refine pe_then_normal ?_
        refine tr_sub hC (.cons (t := 3) rfl (.cons (t := 4) rfl (.cons (t := 6) rfl (.cons (t := 8) rfl (.cons (t := 9) rfl (.cons (t := 10) rfl (.cons (t := 11) rfl (.cons (t := 30) rfl (.cons (t := 31) rfl (.cons (t := 32) rfl (.cons (t := 43) rfl .nil))))))))))) (.cons (t := 130) rfl (.cons (t := 131) rfl (.cons (t := 132) rfl (.cons (t := 133) rfl (.cons (t := 28) rfl (.cons (t := 3) rfl (.cons (t := 4) rfl (.cons (t := 10) rfl .nil)))))))) rfl ?_
        refine tr_cond rfl (fun h43 => ?_) (fun h43 => ?_)
        · (try simp only [Bool.and_eq_true, Bool.or_eq_true, Bool.and_eq_false_iff, Bool.or_eq_false_iff, decide_eq_true_eq, decide_eq_false_iff_not, Bool.not_eq_true', Bool.not_eq_false', List.length_map, ne_eq, Decidable.not_not, Int.not_lt, Int.not_le] at h43)
          have hst := merge_pos (l' := l') (by omega) hn hm h43 (by omega)
          refine tr_region (fun N10 hN => ?_)
          refine lx (op_move rfl) rfl ?_
          refine lx (op_move rfl) rfl ?_
          refine lx (op_index_mv rfl rfl el23 sz3 (by omega : bl[k].1 = ((bl[k].1.toNat : Nat) : Int)) (by rw [List.length_replicate]; omega)) rfl ?_
          refine lx (op_tload_one (m := 28) (j := bl[k].1.toNat) (fo := 0) rfl rfl ag3 ip_len (by omega) (List.getElem?_eq_getElem (by omega : bl[k].1.toNat < nums.length)) rfl) rfl ?_
          refine lx (op_assign rfl) rfl ?_
          refine lx_end ⟨by kernel_rfl, ?_⟩
          refine pe_then_normal ?_
          refine tr_sub hC (.cons (t := 3) rfl (.cons (t := 4) rfl (.cons (t := 6) rfl (.cons (t := 8) rfl (.cons (t := 9) rfl (.cons (t := 10) rfl (.cons (t := 11) rfl (.cons (t := 30) rfl (.cons (t := 31) rfl (.cons (t := 32) rfl .nil)))))))))) (.cons (t := 130) rfl (.cons (t := 131) rfl (.cons (t := 132) rfl (.cons (t := 133) rfl (.cons (t := 28) rfl (.cons (t := 3) rfl (.cons (t := 4) rfl (.cons (t := 10) rfl .nil)))))))) rfl ?_
          refine tr_region (fun N11 hN => ?_)
          refine lx (op_move rfl) rfl ?_
          refine lx (op_move rfl) rfl ?_
          refine lx (op_move rfl) rfl ?_
          refine lx (op_move rfl) rfl ?_
          first | refine lx (op_bload (m := 10) rfl rfl ag29 sz29) rfl ?_ | refine lx (op_bload_part (m := 10) rfl rfl ag29 sz29 rfl rfl) rfl ?_
          first | refine lx_any rfl (op_callG2 (l := [(Go.Operand.tmp 50), (Go.Operand.tmp 51), (Go.Operand.tmp 52)]) (add := [(130, ((N1, 100140), blk 52 [rowP ((N11, 100530)) sp 2 (((pushE l' (_, _)).1).map (·.2)), rowP ((N11, 100531)) ip 1 (((pushE l' (_, _)).1).map (·.1)), mapP ((N1, 100143))])), (131, ((N11, 100530), tail 29 2 ((((pushE l' (_, _)).1).map (·.2)).length * 2))), (132, ((N11, 100531), tail 3 1 ((((pushE l' (_, _)).1).map (·.1)).length * 1))), (133, ((N1, 100143), mapR ev iv (tab ((pushE l' (_, _)).1))))]) (ks := [100530, 100531]) (φ := eqP (.int .i64 ((pushE l' (_, _)).2 : Int))) (.cons (m := 130) rfl (.cons (m := 131) rfl (.cons (m := 132) rfl (.cons (m := 133) rfl .nil)))) (push_ok _ _ _ _ l' _ _ (by omega)) (.cons rfl (.cons rfl (.cons rfl .nil))) fn27 rfl rfl rfl (.old rfl (.old rfl (.old rfl (.old rfl .nil)))) rfl) (dOK_spec rfl) ?_ | refine lx_any rfl (op_callG2 (l := [(Go.Operand.tmp 50), (Go.Operand.tmp 51), (Go.Operand.tmp 52)]) (add := [(130, ((N1, 100140), blk 52 [rowP ((N11, 100530)) sp 2 (((pushE l' (_, _)).1).map (·.2)), rowP ((N11, 100531)) ip 1 (((pushE l' (_, _)).1).map (·.1)), mapP ((N1, 100143))])), (131, ((N11, 100530), tail 29 2 ((((pushE l' (_, _)).1).map (·.2)).length * 2))), (132, ((N11, 100531), tail 3 1 ((((pushE l' (_, _)).1).map (·.1)).length * 1))), (133, ((N1, 100143), mapR ev iv (tab ((pushE l' (_, _)).1))))]) (ks := [100530, 100531]) (φ := eqP (.int .i64 ((pushE l' (_, _)).2 : Int))) (.cons (m := 130) rfl (.cons (m := 131) rfl (.cons (m := 132) rfl (.cons (m := 133) rfl .nil)))) (push_ok _ _ _ _ l' _ _ (by omega)) (.ent rfl (by repeat (first | exact Ent.refl _ | exact Ents.nil | exact Ent.nil _ _ | exact Ent.row _ _ _ _ | exact Ent.func _ | refine Ents.cons ?_ ?_ | refine Ent.tup ?_ | refine Ent.agg ?_ | refine Ent.cells ?_ | exact Ent.of_eq rfl)) (.ent rfl (by repeat (first | exact Ent.refl _ | exact Ents.nil | exact Ent.nil _ _ | exact Ent.row _ _ _ _ | exact Ent.func _ | refine Ents.cons ?_ ?_ | refine Ent.tup ?_ | refine Ent.agg ?_ | refine Ent.cells ?_ | exact Ent.of_eq rfl)) (.ent rfl (by repeat (first | exact Ent.refl _ | exact Ents.nil | exact Ent.nil _ _ | exact Ent.row _ _ _ _ | exact Ent.func _ | refine Ents.cons ?_ ?_ | refine Ent.tup ?_ | refine Ent.agg ?_ | refine Ent.cells ?_ | exact Ent.of_eq rfl)) .nil))) fn27 rfl rfl rfl (.old rfl (.old rfl (.old rfl (.old rfl .nil)))) rfl) (dOK_spec rfl) ?_
          refine lx (op_index_mv rfl rfl el23 sz3 rfl (by rw [List.length_replicate]; omega)) rfl ?_
          refine lxr (op_tstore (m := 28) (j := k) (fo := 0) (z' := ((pushE l' ((nums[bl[k].1.toNat]'(by omega)), bl[k].2)).2 : Int)) rfl rfl rfl (.one (by (first | exact One.eq rfl | exact One.mv _ _ _ _ _ | exact One.cl _ _ _ | exact One.map _ | exact One.sl _ _ _ | exact One.row _ _ _ _ | exact One.msl _ _ _ _ | exact One.ptr _ _ | exact One.b _ | exact One.cells _))) sz3 rfl ip_len (by omega) (List.getElem?_eq_getElem (by omega : k < nums.length)) rfl rfl) rfl ?_
          refine lx_end ⟨by kernel_rfl, ?_⟩
          refine pe_block_normal ?_
          refine pe_then_normal ?_
          refine tr_sub hC (.cons (t := 3) rfl (.cons (t := 4) rfl (.cons (t := 6) rfl (.cons (t := 8) rfl (.cons (t := 30) rfl (.cons (t := 31) rfl (.cons (t := 32) rfl .nil))))))) (.cons (t := 28) rfl (.cons (t := 3) rfl (.cons (t := 4) rfl (.cons (t := 130) rfl (.cons (t := 131) rfl (.cons (t := 132) rfl (.cons (t := 133) rfl .nil))))))) rfl ?_
          refine tr_region (fun N12 hN => ?_)
          refine lx (op_add rfl rfl (by omega)) rfl ?_
          refine lx (op_move rfl) rfl ?_
          refine lx_end ⟨by kernel_rfl, ?_⟩
          refine pe_round (⟨(k + 1, (pushE l' ((nums[bl[k].1.toNat]'(by omega)), bl[k].2)).1, nums.set k ((pushE l' ((nums[bl[k].1.toNat]'(by omega)), bl[k].2)).2 : Int), (N11, 100530), (N11, 100531)), by dsimp only; omega, by dsimp only; rw [List.length_set]; exact hn, hst, by have := pushE_len l' ((nums[bl[k].1.toNat]'(by omega)), bl[k].2); dsimp only; omega⟩) (by dsimp only; omega) (pe_st hC ?_ ?_ rfl)
          · try dsimp only [List.cons_append, List.nil_append]
            first | refine SubF.cons rfl ?_ | (refine SubF.ent rfl ?_ ?_; · repeat (first | exact Ent.refl _ | exact Ents.nil | exact Ent.nil _ _ | exact Ent.row _ _ _ _ | exact Ent.func _ | refine Ents.cons ?_ ?_ | refine Ent.tup ?_ | refine Ent.agg ?_ | refine Ent.cells ?_ | exact Ent.of_eq rfl))
            first | refine SubF.cons rfl ?_ | (refine SubF.ent rfl ?_ ?_; · repeat (first | exact Ent.refl _ | exact Ents.nil | exact Ent.nil _ _ | exact Ent.row _ _ _ _ | exact Ent.func _ | refine Ents.cons ?_ ?_ | refine Ent.tup ?_ | refine Ent.agg ?_ | refine Ent.cells ?_ | exact Ent.of_eq rfl))
            first | refine SubF.cons rfl ?_ | (refine SubF.ent rfl ?_ ?_; · repeat (first | exact Ent.refl _ | exact Ents.nil | exact Ent.nil _ _ | exact Ent.row _ _ _ _ | exact Ent.func _ | refine Ents.cons ?_ ?_ | refine Ent.tup ?_ | refine Ent.agg ?_ | refine Ent.cells ?_ | exact Ent.of_eq rfl))
            first | refine SubF.cons rfl ?_ | (refine SubF.ent rfl ?_ ?_; · repeat (first | exact Ent.refl _ | exact Ents.nil | exact Ent.nil _ _ | exact Ent.row _ _ _ _ | exact Ent.func _ | refine Ents.cons ?_ ?_ | refine Ent.tup ?_ | refine Ent.agg ?_ | refine Ent.cells ?_ | exact Ent.of_eq rfl))
            first | refine SubF.cons rfl ?_ | (refine SubF.ent rfl ?_ ?_; · repeat (first | exact Ent.refl _ | exact Ents.nil | exact Ent.nil _ _ | exact Ent.row _ _ _ _ | exact Ent.func _ | refine Ents.cons ?_ ?_ | refine Ent.tup ?_ | refine Ent.agg ?_ | refine Ent.cells ?_ | exact Ent.of_eq rfl))
            first | refine SubF.cons rfl ?_ | (refine SubF.ent rfl ?_ ?_; · repeat (first | exact Ent.refl _ | exact Ents.nil | exact Ent.nil _ _ | exact Ent.row _ _ _ _ | exact Ent.func _ | refine Ents.cons ?_ ?_ | refine Ent.tup ?_ | refine Ent.agg ?_ | refine Ent.cells ?_ | exact Ent.of_eq rfl))
            first | refine SubF.cons rfl ?_ | (refine SubF.ent rfl ?_ ?_; · repeat (first | exact Ent.refl _ | exact Ents.nil | exact Ent.nil _ _ | exact Ent.row _ _ _ _ | exact Ent.func _ | refine Ents.cons ?_ ?_ | refine Ent.tup ?_ | refine Ent.agg ?_ | refine Ent.cells ?_ | exact Ent.of_eq rfl))
            exact SubF.nil
          · try dsimp only [List.cons_append, List.nil_append]
            repeat (first | exact SubL.nil | refine SubL.cons rfl ?_)
        · (try simp only [Bool.and_eq_true, Bool.or_eq_true, Bool.and_eq_false_iff, Bool.or_eq_false_iff, decide_eq_true_eq, decide_eq_false_iff_not, Bool.not_eq_true', Bool.not_eq_false', List.length_map, ne_eq, Decidable.not_not, Int.not_lt, Int.not_le] at h43)
          have hst := merge_neg (l' := l') (by omega) hn hm h43
          refine tr_skip ?_
          refine pe_then_normal ?_
          refine tr_sub hC (.cons (t := 3) rfl (.cons (t := 4) rfl (.cons (t := 6) rfl (.cons (t := 8) rfl (.cons (t := 9) rfl (.cons (t := 10) rfl (.cons (t := 11) rfl (.cons (t := 30) rfl (.cons (t := 31) rfl (.cons (t := 32) rfl .nil)))))))))) (.cons (t := 130) rfl (.cons (t := 131) rfl (.cons (t := 132) rfl (.cons (t := 133) rfl (.cons (t := 28) rfl (.cons (t := 3) rfl (.cons (t := 4) rfl (.cons (t := 10) rfl .nil)))))))) rfl ?_
          refine tr_region (fun N11 hN => ?_)
          refine lx (op_move rfl) rfl ?_
          refine lx (op_move rfl) rfl ?_
          refine lx (op_move rfl) rfl ?_
          refine lx (op_move rfl) rfl ?_
          first | refine lx (op_bload (m := 10) rfl rfl ag29 sz29) rfl ?_ | refine lx (op_bload_part (m := 10) rfl rfl ag29 sz29 rfl rfl) rfl ?_
          first | refine lx_any rfl (op_callG2 (l := [(Go.Operand.tmp 50), (Go.Operand.tmp 51), (Go.Operand.tmp 52)]) (add := [(130, ((N1, 100140), blk 52 [rowP ((N11, 100530)) sp 2 (((pushE l' (_, _)).1).map (·.2)), rowP ((N11, 100531)) ip 1 (((pushE l' (_, _)).1).map (·.1)), mapP ((N1, 100143))])), (131, ((N11, 100530), tail 29 2 ((((pushE l' (_, _)).1).map (·.2)).length * 2))), (132, ((N11, 100531), tail 3 1 ((((pushE l' (_, _)).1).map (·.1)).length * 1))), (133, ((N1, 100143), mapR ev iv (tab ((pushE l' (_, _)).1))))]) (ks := [100530, 100531]) (φ := eqP (.int .i64 ((pushE l' (_, _)).2 : Int))) (.cons (m := 130) rfl (.cons (m := 131) rfl (.cons (m := 132) rfl (.cons (m := 133) rfl .nil)))) (push_ok _ _ _ _ l' _ _ (by omega)) (.cons rfl (.cons rfl (.cons rfl .nil))) fn27 rfl rfl rfl (.old rfl (.old rfl (.old rfl (.old rfl .nil)))) rfl) (dOK_spec rfl) ?_ | refine lx_any rfl (op_callG2 (l := [(Go.Operand.tmp 50), (Go.Operand.tmp 51), (Go.Operand.tmp 52)]) (add := [(130, ((N1, 100140), blk 52 [rowP ((N11, 100530)) sp 2 (((pushE l' (_, _)).1).map (·.2)), rowP ((N11, 100531)) ip 1 (((pushE l' (_, _)).1).map (·.1)), mapP ((N1, 100143))])), (131, ((N11, 100530), tail 29 2 ((((pushE l' (_, _)).1).map (·.2)).length * 2))), (132, ((N11, 100531), tail 3 1 ((((pushE l' (_, _)).1).map (·.1)).length * 1))), (133, ((N1, 100143), mapR ev iv (tab ((pushE l' (_, _)).1))))]) (ks := [100530, 100531]) (φ := eqP (.int .i64 ((pushE l' (_, _)).2 : Int))) (.cons (m := 130) rfl (.cons (m := 131) rfl (.cons (m := 132) rfl (.cons (m := 133) rfl .nil)))) (push_ok _ _ _ _ l' _ _ (by omega)) (.ent rfl (by repeat (first | exact Ent.refl _ | exact Ents.nil | exact Ent.nil _ _ | exact Ent.row _ _ _ _ | exact Ent.func _ | refine Ents.cons ?_ ?_ | refine Ent.tup ?_ | refine Ent.agg ?_ | refine Ent.cells ?_ | exact Ent.of_eq rfl)) (.ent rfl (by repeat (first | exact Ent.refl _ | exact Ents.nil | exact Ent.nil _ _ | exact Ent.row _ _ _ _ | exact Ent.func _ | refine Ents.cons ?_ ?_ | refine Ent.tup ?_ | refine Ent.agg ?_ | refine Ent.cells ?_ | exact Ent.of_eq rfl)) (.ent rfl (by repeat (first | exact Ent.refl _ | exact Ents.nil | exact Ent.nil _ _ | exact Ent.row _ _ _ _ | exact Ent.func _ | refine Ents.cons ?_ ?_ | refine Ent.tup ?_ | refine Ent.agg ?_ | refine Ent.cells ?_ | exact Ent.of_eq rfl)) .nil))) fn27 rfl rfl rfl (.old rfl (.old rfl (.old rfl (.old rfl .nil)))) rfl) (dOK_spec rfl) ?_
          refine lx (op_index_mv rfl rfl el23 sz3 rfl (by rw [List.length_replicate]; omega)) rfl ?_
          refine lxr (op_tstore (m := 28) (j := k) (fo := 0) (z' := ((pushE l' (bl[k].1, bl[k].2)).2 : Int)) rfl rfl rfl (.one (by (first | exact One.eq rfl | exact One.mv _ _ _ _ _ | exact One.cl _ _ _ | exact One.map _ | exact One.sl _ _ _ | exact One.row _ _ _ _ | exact One.msl _ _ _ _ | exact One.ptr _ _ | exact One.b _ | exact One.cells _))) sz3 rfl ip_len (by omega) (List.getElem?_eq_getElem (by omega : k < nums.length)) rfl rfl) rfl ?_
          refine lx_end ⟨by kernel_rfl, ?_⟩
          refine pe_block_normal ?_
          refine pe_then_normal ?_
          refine tr_sub hC (.cons (t := 3) rfl (.cons (t := 4) rfl (.cons (t := 6) rfl (.cons (t := 8) rfl (.cons (t := 30) rfl (.cons (t := 31) rfl (.cons (t := 32) rfl .nil))))))) (.cons (t := 28) rfl (.cons (t := 3) rfl (.cons (t := 4) rfl (.cons (t := 130) rfl (.cons (t := 131) rfl (.cons (t := 132) rfl (.cons (t := 133) rfl .nil))))))) rfl ?_
          refine tr_region (fun N12 hN => ?_)
          refine lx (op_add rfl rfl (by omega)) rfl ?_
          refine lx (op_move rfl) rfl ?_
          refine lx_end ⟨by kernel_rfl, ?_⟩
          refine pe_round (⟨(k + 1, (pushE l' (bl[k].1, bl[k].2)).1, nums.set k ((pushE l' (bl[k].1, bl[k].2)).2 : Int), (N11, 100530), (N11, 100531)), by dsimp only; omega, by dsimp only; rw [List.length_set]; exact hn, hst, by have := pushE_len l' (bl[k].1, bl[k].2); dsimp only; omega⟩) (by dsimp only; omega) (pe_st hC ?_ ?_ rfl)
          · try dsimp only [List.cons_append, List.nil_append]
            first | refine SubF.cons rfl ?_ | (refine SubF.ent rfl ?_ ?_; · repeat (first | exact Ent.refl _ | exact Ents.nil | exact Ent.nil _ _ | exact Ent.row _ _ _ _ | exact Ent.func _ | refine Ents.cons ?_ ?_ | refine Ent.tup ?_ | refine Ent.agg ?_ | refine Ent.cells ?_ | exact Ent.of_eq rfl))
            first | refine SubF.cons rfl ?_ | (refine SubF.ent rfl ?_ ?_; · repeat (first | exact Ent.refl _ | exact Ents.nil | exact Ent.nil _ _ | exact Ent.row _ _ _ _ | exact Ent.func _ | refine Ents.cons ?_ ?_ | refine Ent.tup ?_ | refine Ent.agg ?_ | refine Ent.cells ?_ | exact Ent.of_eq rfl))
            first | refine SubF.cons rfl ?_ | (refine SubF.ent rfl ?_ ?_; · repeat (first | exact Ent.refl _ | exact Ents.nil | exact Ent.nil _ _ | exact Ent.row _ _ _ _ | exact Ent.func _ | refine Ents.cons ?_ ?_ | refine Ent.tup ?_ | refine Ent.agg ?_ | refine Ent.cells ?_ | exact Ent.of_eq rfl))
            first | refine SubF.cons rfl ?_ | (refine SubF.ent rfl ?_ ?_; · repeat (first | exact Ent.refl _ | exact Ents.nil | exact Ent.nil _ _ | exact Ent.row _ _ _ _ | exact Ent.func _ | refine Ents.cons ?_ ?_ | refine Ent.tup ?_ | refine Ent.agg ?_ | refine Ent.cells ?_ | exact Ent.of_eq rfl))
            first | refine SubF.cons rfl ?_ | (refine SubF.ent rfl ?_ ?_; · repeat (first | exact Ent.refl _ | exact Ents.nil | exact Ent.nil _ _ | exact Ent.row _ _ _ _ | exact Ent.func _ | refine Ents.cons ?_ ?_ | refine Ent.tup ?_ | refine Ent.agg ?_ | refine Ent.cells ?_ | exact Ent.of_eq rfl))
            first | refine SubF.cons rfl ?_ | (refine SubF.ent rfl ?_ ?_; · repeat (first | exact Ent.refl _ | exact Ents.nil | exact Ent.nil _ _ | exact Ent.row _ _ _ _ | exact Ent.func _ | refine Ents.cons ?_ ?_ | refine Ent.tup ?_ | refine Ent.agg ?_ | refine Ent.cells ?_ | exact Ent.of_eq rfl))
            first | refine SubF.cons rfl ?_ | (refine SubF.ent rfl ?_ ?_; · repeat (first | exact Ent.refl _ | exact Ents.nil | exact Ent.nil _ _ | exact Ent.row _ _ _ _ | exact Ent.func _ | refine Ents.cons ?_ ?_ | refine Ent.tup ?_ | refine Ent.agg ?_ | refine Ent.cells ?_ | exact Ent.of_eq rfl))
            exact SubF.nil
          · try dsimp only [List.cons_append, List.nil_append]
            repeat (first | exact SubL.nil | refine SubL.cons rfl ?_)
      · (try simp only [Bool.and_eq_true, Bool.or_eq_true, Bool.and_eq_false_iff, Bool.or_eq_false_iff, decide_eq_true_eq, decide_eq_false_iff_not, Bool.not_eq_true', Bool.not_eq_false', List.length_map, ne_eq, Decidable.not_not, Int.not_lt, Int.not_le] at h33)
        have hk3 : k = bl.length := by omega
        have hfin := merge_end (by omega) (by omega) hm
        refine tr_exit ?_
        refine pe_then_exit ?_
        refine pe_then_exit ?_
        refine pe_block_eq ?_
        refine pe_then_normal ?_
        refine tr_sub hC (.cons (t := 4) rfl (.cons (t := 6) rfl (.cons (t := 8) rfl .nil))) (.cons (t := 130) rfl (.cons (t := 131) rfl (.cons (t := 132) rfl (.cons (t := 133) rfl (.cons (t := 28) rfl (.cons (t := 4) rfl .nil)))))) rfl ?_
        refine tr_freeze (m := 28) rfl (.cons (t := 4) rfl (.cons (t := 6) rfl (.ent (t := 8) rfl (FEnt.mv (xs := nums) (by rw [List.length_replicate]; omega) ⟨[], by simp⟩ ip_len) .nil))) ?_
        try dsimp only
        refine tr_seq ?_
        refine tr_region (fun N13 hN => ?_)
        refine lx (op_move rfl) rfl ?_
        first | refine lx (op_nilCheck rfl) rfl ?_ | refine lx (op_nilCheckC rfl) rfl ?_
        refine lx (op_fieldAddr rfl fl52_0 sz25) rfl ?_
        first | refine lx (op_bload (m := 130) rfl rfl ag25 sz25) rfl ?_ | refine lx (op_bload_part (m := 130) rfl rfl ag25 sz25 rfl rfl) rfl ?_
        refine lx (op_move rfl) rfl ?_
        first | refine lxr (op_store_all (m := 4) rfl rfl rfl (.agg rfl) sz25 rfl) rfl ?_ | refine lxr (op_store (m := 4) rfl rfl rfl (.agg rfl) sz25 rfl rfl rfl) rfl ?_
        refine lx (op_assign rfl) rfl ?_
        refine lx_end ⟨by kernel_rfl, ?_⟩
        refine pe_then_normal ?_
        refine tr_sub hC (.cons (t := 4) rfl (.cons (t := 5) rfl .nil)) (.cons (t := 130) rfl (.cons (t := 131) rfl (.cons (t := 132) rfl (.cons (t := 133) rfl (.cons (t := 4) rfl .nil))))) rfl ?_
        refine tr_ret ?_
        refine pe_retN (rs := [.cell 4 25, .tmp 5]) rfl rfl hO rfl (.cell (m := 4) rfl rfl ag25 sz25 (.tmp rfl .nil)) ?_
        rw [hyes, ← hfin]
        repeat (first | exact Ent.refl _ | exact Ents.nil | exact Ent.nil _ _ | exact Ent.row _ _ _ _ | exact Ent.func _ | refine Ents.cons ?_ ?_ | refine Ent.tup ?_ | refine Ent.agg ?_ | refine Ent.cells ?_ | exact Ent.of_eq rfl)

theorem rMerge_n (d b : Dep) (hx : d.sites.length ≤ 400000) (hxb : b.sites.length ≤ 400000) (hv : validF d = false ∨ validF b = false) : FnP Try.prog 23 [aggP d.ps, aggP b.ps] (tupP [aggP (mergeF d b).1.ps, slP ip 1 (mergeF d b).2]) := by
  refine fn_pure' Try.func23 rfl Try.ntmps23 rfl ?_
  intro σ0 M ex Rf R hC hO
  simp only [frameOf, tokOf]
  refine tr_seq ?_
  refine tr_region (fun N0 hN => ?_)
  refine lxn (op_box (m := 2) (k := 2) rfl (.agg rfl) (by first | exact hC.low _ (by decide) | rfl)) rfl ?_
  refine lxn (op_box (m := 3) (k := 3) rfl (.agg rfl) (by first | exact hC.low _ (by decide) | rfl)) rfl ?_
  refine lxn (op_alloc (m := 4) (k := 4) (ps := [eqP (.slice none 0 0), eqP (.slice none 0 0)]) ze25 rfl rfl (by first | exact hC.low _ (by decide) | rfl)) rfl ?_
  refine lx (op_assign rfl) rfl ?_
  refine lx_end ⟨by kernel_rfl, ?_⟩
  refine pe_then_normal ?_
  refine tr_sub hC (.cons (t := 2) rfl (.cons (t := 3) rfl (.cons (t := 4) rfl .nil))) (.cons (t := 2) rfl (.cons (t := 3) rfl (.cons (t := 4) rfl .nil))) rfl ?_
  refine tr_seq ?_
  refine tr_seq ?_
  refine tr_region (fun N1 hN => ?_)
  first | refine lx (op_bload (m := 2) rfl rfl ag25 sz25) rfl ?_ | refine lx (op_bload_part (m := 2) rfl rfl ag25 sz25 rfl rfl) rfl ?_
  first | refine lx (op_call (l := [(Go.Operand.tmp 10)]) (rvalid_ok _ (by omega)) (.cons rfl .nil) fn13) rfl ?_ | refine lx (op_call (l := [(Go.Operand.tmp 10)]) (rvalid_ok _ (by omega)) (.ent rfl (by repeat (first | exact Ent.refl _ | exact Ents.nil | exact Ent.nil _ _ | exact Ent.row _ _ _ _ | exact Ent.func _ | refine Ents.cons ?_ ?_ | refine Ent.tup ?_ | refine Ent.agg ?_ | refine Ent.cells ?_ | exact Ent.of_eq rfl)) .nil) fn13) rfl ?_
  first | refine lx (op_not rfl) rfl ?_ | refine lx (op_not_b rfl) rfl ?_
  refine lx (op_move rfl) rfl ?_
  first | refine lxs rfl rfl rfl guard_eq (.cons (t := 3) rfl (fun _ => Ent.refl _) .nil) (op_bload (m := 3) rfl rfl ag25 sz25) rfl ?_ | refine lxs rfl rfl rfl guard_eq (.cons (t := 3) rfl (fun _ => Ent.refl _) .nil) (op_bload_part (m := 3) rfl rfl ag25 sz25 rfl rfl) rfl ?_
  first | refine lxs rfl rfl rfl guard_eq (.cons (t := 14) rfl (fun h => entW h) .nil) (op_call (l := [(Go.Operand.tmp 14)]) (rvalid_ok _ (by omega)) (.cons rfl .nil) fn13) rfl ?_ | refine lxs rfl rfl rfl guard_eq (.cons (t := 14) rfl (fun h => entW h) .nil) (op_call (l := [(Go.Operand.tmp 14)]) (rvalid_ok _ (by omega)) (.ent rfl (by repeat (first | exact Ent.refl _ | exact Ents.nil | exact Ent.nil _ _ | exact Ent.row _ _ _ _ | exact Ent.func _ | refine Ents.cons ?_ ?_ | refine Ent.tup ?_ | refine Ent.agg ?_ | refine Ent.cells ?_ | exact Ent.of_eq rfl)) .nil) fn13) rfl ?_
  first | refine lxs rfl rfl rfl guard_eq (.cons (t := 15) rfl (fun h => entW h) .nil) (op_not rfl) rfl ?_ | refine lxs rfl rfl rfl guard_eq (.cons (t := 15) rfl (fun h => entW h) .nil) (op_not_b rfl) rfl ?_
  refine lx (op_pick_or rfl rfl) rfl ?_
  refine lx_end ⟨by kernel_rfl, ?_⟩
  refine pe_then_normal ?_
  refine tr_sub hC (.cons (t := 2) rfl (.cons (t := 3) rfl (.cons (t := 4) rfl (.cons (t := 17) rfl .nil)))) (.cons (t := 2) rfl (.cons (t := 3) rfl (.cons (t := 4) rfl .nil))) rfl ?_
  refine tr_cond rfl (fun h17 => ?_) (fun h17 => ?_)
  · (try simp only [Bool.and_eq_true, Bool.or_eq_true, Bool.and_eq_false_iff, Bool.or_eq_false_iff, decide_eq_true_eq, decide_eq_false_iff_not, Bool.not_eq_true', Bool.not_eq_false', List.length_map, ne_eq, Decidable.not_not, Int.not_lt, Int.not_le] at h17)
    refine tr_seq ?_
    refine tr_region (fun N2 hN => ?_)
    refine lx (op_build (parts := []) ze25 rfl rfl fs25 .nil rfl rfl) rfl ?_
    first | refine lxr (op_store_all (m := 4) rfl rfl rfl (.agg rfl) sz25 rfl) rfl ?_ | refine lxr (op_store (m := 4) rfl rfl rfl (.agg rfl) sz25 rfl rfl rfl) rfl ?_
    refine lx (op_assign rfl) rfl ?_
    refine lx_end ⟨by kernel_rfl, ?_⟩
    refine pe_then_normal ?_
    refine tr_sub hC (.cons (t := 4) rfl (.cons (t := 5) rfl .nil)) (.cons (t := 4) rfl .nil) rfl ?_
    refine tr_ret ?_
    refine pe_then_ret ?_
    refine pe_retN (rs := [.cell 4 25, .tmp 5]) rfl rfl hO rfl (.cell (m := 4) rfl rfl ag25 sz25 (.tmp rfl .nil)) ?_
    rw [mergeF_no (fun h => by rw [h.1, h.2] at hv; simp at hv)]
    repeat (first | exact Ent.refl _ | exact Ents.nil | exact Ent.nil _ _ | exact Ent.row _ _ _ _ | exact Ent.func _ | refine Ents.cons ?_ ?_ | refine Ent.tup ?_ | refine Ent.agg ?_ | refine Ent.cells ?_ | exact Ent.of_eq rfl)
  · exact absurd h17 (by rcases hv with h | h <;> rw [h] <;> simp)

theorem rMerge_v (l : List E) (hv : validE l = true) (hx : l.length ≤ 400000) (bl : List E) (hvb : validE bl = true) (hxb : bl.length ≤ 400000) : FnP Try.prog 23 [aggP (ofE l).ps, aggP (ofE bl).ps] (tupP [aggP (mergeF (ofE l) (ofE bl)).1.ps, slP ip 1 (mergeF (ofE l) (ofE bl)).2]) := by
  have hS := lenS bl
  have hP := lenP bl
  have hSl := lenS l
  refine fn_pure' Try.func23 rfl Try.ntmps23 rfl ?_
  intro σ0 M ex Rf R hC hO
  simp only [frameOf, tokOf]
  refine tr_seq ?_
  refine tr_region (fun N0 hN => ?_)
  refine lxn (op_box (m := 2) (k := 2) rfl (.agg rfl) (by first | exact hC.low _ (by decide) | rfl)) rfl ?_
  refine lxn (op_box (m := 3) (k := 3) rfl (.agg rfl) (by first | exact hC.low _ (by decide) | rfl)) rfl ?_
  refine lxn (op_alloc (m := 4) (k := 4) (ps := [eqP (.slice none 0 0), eqP (.slice none 0 0)]) ze25 rfl rfl (by first | exact hC.low _ (by decide) | rfl)) rfl ?_
  refine lx (op_assign rfl) rfl ?_
  refine lx_end ⟨by kernel_rfl, ?_⟩
  refine pe_then_normal ?_
  refine tr_sub hC (.cons (t := 2) rfl (.cons (t := 3) rfl (.cons (t := 4) rfl .nil))) (.cons (t := 2) rfl (.cons (t := 3) rfl (.cons (t := 4) rfl .nil))) rfl ?_
  refine tr_seq ?_
  refine tr_seq ?_
  refine tr_region (fun N1 hN => ?_)
  first | refine lx (op_bload (m := 2) rfl rfl ag25 sz25) rfl ?_ | refine lx (op_bload_part (m := 2) rfl rfl ag25 sz25 rfl rfl) rfl ?_
  first | refine lx (op_call (l := [(Go.Operand.tmp 10)]) (rvalid_ok _ (by omega)) (.cons rfl .nil) fn13) rfl ?_ | refine lx (op_call (l := [(Go.Operand.tmp 10)]) (rvalid_ok _ (by omega)) (.ent rfl (by repeat (first | exact Ent.refl _ | exact Ents.nil | exact Ent.nil _ _ | exact Ent.row _ _ _ _ | exact Ent.func _ | refine Ents.cons ?_ ?_ | refine Ent.tup ?_ | refine Ent.agg ?_ | refine Ent.cells ?_ | exact Ent.of_eq rfl)) .nil) fn13) rfl ?_
  first | refine lx (op_not rfl) rfl ?_ | refine lx (op_not_b rfl) rfl ?_
  refine lx (op_move rfl) rfl ?_
  first | refine lxs rfl rfl rfl guard_eq (.cons (t := 3) rfl (fun _ => Ent.refl _) .nil) (op_bload (m := 3) rfl rfl ag25 sz25) rfl ?_ | refine lxs rfl rfl rfl guard_eq (.cons (t := 3) rfl (fun _ => Ent.refl _) .nil) (op_bload_part (m := 3) rfl rfl ag25 sz25 rfl rfl) rfl ?_
  first | refine lxs rfl rfl rfl guard_eq (.cons (t := 14) rfl (fun h => entW h) .nil) (op_call (l := [(Go.Operand.tmp 14)]) (rvalid_ok _ (by omega)) (.cons rfl .nil) fn13) rfl ?_ | refine lxs rfl rfl rfl guard_eq (.cons (t := 14) rfl (fun h => entW h) .nil) (op_call (l := [(Go.Operand.tmp 14)]) (rvalid_ok _ (by omega)) (.ent rfl (by repeat (first | exact Ent.refl _ | exact Ents.nil | exact Ent.nil _ _ | exact Ent.row _ _ _ _ | exact Ent.func _ | refine Ents.cons ?_ ?_ | refine Ent.tup ?_ | refine Ent.agg ?_ | refine Ent.cells ?_ | exact Ent.of_eq rfl)) .nil) fn13) rfl ?_
  first | refine lxs rfl rfl rfl guard_eq (.cons (t := 15) rfl (fun h => entW h) .nil) (op_not rfl) rfl ?_ | refine lxs rfl rfl rfl guard_eq (.cons (t := 15) rfl (fun h => entW h) .nil) (op_not_b rfl) rfl ?_
  refine lx (op_pick_or rfl rfl) rfl ?_
  refine lx_end ⟨by kernel_rfl, ?_⟩
  refine pe_then_normal ?_
  refine tr_sub hC (.cons (t := 2) rfl (.cons (t := 3) rfl (.cons (t := 4) rfl (.cons (t := 17) rfl .nil)))) (.cons (t := 2) rfl (.cons (t := 3) rfl (.cons (t := 4) rfl .nil))) rfl ?_
  refine tr_cond rfl (fun h17 => ?_) (fun h17 => ?_)
  · exact absurd h17 (by rw [valid_of hv, valid_of hvb]; simp)
  · have hyes := mergeF_yes (valid_of hv) (valid_of hvb)
    refine tr_skip ?_
    refine pe_then_normal ?_
    refine tr_sub hC (.cons (t := 2) rfl (.cons (t := 3) rfl (.cons (t := 4) rfl .nil))) (.cons (t := 2) rfl (.cons (t := 3) rfl (.cons (t := 4) rfl .nil))) rfl ?_
    refine tr_seq ?_
    refine tr_region (fun N3 hN => ?_)
    refine lx (op_assign rfl) rfl ?_
    refine lx_end ⟨by kernel_rfl, ?_⟩
    refine pe_then_normal ?_
    refine tr_sub hC (.cons (t := 2) rfl (.cons (t := 3) rfl (.cons (t := 4) rfl (.cons (t := 6) rfl .nil)))) (.cons (t := 2) rfl (.cons (t := 3) rfl (.cons (t := 4) rfl .nil))) rfl ?_
    refine tr_seq ?_
    refine tr_seq ?_
    refine tr_region (fun N4 hN => ?_)
    refine lx (op_assign rfl) rfl ?_
    refine lx_end ⟨by kernel_rfl, ?_⟩
    refine pe_then_normal ?_
    refine tr_sub hC (.cons (t := 2) rfl (.cons (t := 3) rfl (.cons (t := 4) rfl (.cons (t := 6) rfl (.cons (t := 7) rfl .nil))))) (.cons (t := 2) rfl (.cons (t := 3) rfl (.cons (t := 4) rfl .nil))) rfl ?_
    refine tr_block ?_
    refine tr_nilrow ip 1 3 6 600 rfl (by first | exact hC.low _ (by decide) | rfl) (fun idN => ?_)
    refine tr_loopK (α := {zz : Nat × (List E) × (List Int) × AL.Id // zz.1 ≤ bl.length ∧ zz.2.2.1.length = zz.1 ∧ mergeE zz.2.1 zz.2.2.1 (bl.drop zz.1) = mergeE l [] bl ∧ zz.2.1.length ≤ l.length + zz.1}) (⟨(0, l, [], idN), Nat.zero_le _, rfl, rfl, Nat.le_refl _⟩) (fun zz => [(6, rowP zz.1.2.2.2 ip 1 zz.1.2.2.1), (7, eqP (.int .i64 (zz.1.1 : Int)))]) (fun zz => [(2, some ((N0, 2), blk 25 (ofE zz.1.2.1).ps)), (600, some (zz.1.2.2.2, tail 3 1 (zz.1.2.2.1.length * 1)))]) (fun zz => bl.length - zz.1.1) hC (.cons (t := 2) rfl (.cons (t := 3) rfl (.cons (t := 4) rfl .nil))) (.cons (t := 3) rfl (.cons (t := 4) rfl .nil)) rfl ?_ ?_ (fun zz => ?_)
    · try dsimp only [List.cons_append, List.nil_append]
      first | refine SubF.cons rfl ?_ | (refine SubF.ent rfl ?_ ?_; · repeat (first | exact Ent.refl _ | exact Ents.nil | exact Ent.nil _ _ | exact Ent.row _ _ _ _ | exact Ent.func _ | refine Ents.cons ?_ ?_ | refine Ent.tup ?_ | refine Ent.agg ?_ | refine Ent.cells ?_ | exact Ent.of_eq rfl))
      first | refine SubF.cons rfl ?_ | (refine SubF.ent rfl ?_ ?_; · repeat (first | exact Ent.refl _ | exact Ents.nil | exact Ent.nil _ _ | exact Ent.row _ _ _ _ | exact Ent.func _ | refine Ents.cons ?_ ?_ | refine Ent.tup ?_ | refine Ent.agg ?_ | refine Ent.cells ?_ | exact Ent.of_eq rfl))
      exact SubF.nil
    · try dsimp only [List.cons_append, List.nil_append]
      repeat (first | exact SubL.nil | refine SubL.cons rfl ?_)
    · obtain ⟨⟨k, l', to, id⟩, hk1, hn, hm, hk4⟩ := zz
      try dsimp only at hk1
      try dsimp only at hn
      try dsimp only at hm
      try dsimp only at hk4
      dsimp only [List.cons_append, List.nil_append]
      refine tr_seq ?_
      refine tr_seq ?_
      refine tr_region (fun N5 hN => ?_)
      refine lx (op_move rfl) rfl ?_
      refine lx (op_fieldAddr rfl fl25_0 sz22) rfl ?_
      refine lx (op_bload_one (m := 3) rfl rfl ag22 rfl) rfl ?_
      first | refine lx (op_len rfl el22) rfl ?_ | refine lx (op_len_row rfl el22) rfl ?_ | refine lx (op_len_mv rfl el22) rfl ?_
      refine lx (op_lss rfl rfl) rfl ?_
      refine lx_end ⟨by kernel_rfl, ?_⟩
      refine pe_then_normal ?_
      refine tr_sub hC (.cons (t := 2) rfl (.cons (t := 3) rfl (.cons (t := 4) rfl (.cons (t := 6) rfl (.cons (t := 7) rfl (.cons (t := 23) rfl .nil)))))) (.cons (t := 2) rfl (.cons (t := 600) rfl (.cons (t := 3) rfl (.cons (t := 4) rfl .nil)))) rfl ?_
      refine tr_cond rfl (fun h23 => ?_) (fun h23 => ?_)
      · (try simp only [Bool.and_eq_true, Bool.or_eq_true, Bool.and_eq_false_iff, Bool.or_eq_false_iff, decide_eq_true_eq, decide_eq_false_iff_not, Bool.not_eq_true', Bool.not_eq_false', List.length_map, ne_eq, Decidable.not_not, Int.not_lt, Int.not_le] at h23)
        have hva := valid_at hvb (by omega : k < bl.length)
        refine tr_skip ?_
        refine pe_then_normal ?_
        refine tr_sub hC (.cons (t := 2) rfl (.cons (t := 3) rfl (.cons (t := 4) rfl (.cons (t := 6) rfl (.cons (t := 7) rfl .nil))))) (.cons (t := 2) rfl (.cons (t := 600) rfl (.cons (t := 3) rfl (.cons (t := 4) rfl .nil)))) rfl ?_
        refine tr_seq ?_
        refine tr_block ?_
        refine tr_seq ?_
        refine tr_region (fun N7 hN => ?_)
        refine lx (op_assign rfl) rfl ?_
        refine lx_end ⟨by kernel_rfl, ?_⟩
        refine pe_then_normal ?_
        refine tr_sub hC (.cons (t := 2) rfl (.cons (t := 3) rfl (.cons (t := 4) rfl (.cons (t := 6) rfl (.cons (t := 7) rfl (.cons (t := 8) rfl .nil)))))) (.cons (t := 2) rfl (.cons (t := 600) rfl (.cons (t := 3) rfl (.cons (t := 4) rfl .nil)))) rfl ?_
        refine tr_seq ?_
        refine tr_seq ?_
        refine tr_region (fun N8 hN => ?_)
        refine lx (op_fieldAddr rfl fl25_1 sz23) rfl ?_
        refine lx (op_bload_one (m := 3) rfl rfl ag23 rfl) rfl ?_
        refine lx (op_move rfl) rfl ?_
        refine lx (op_index rfl rfl el23 sz3 rfl (parents_at (by omega : k < bl.length))) rfl ?_
        first | refine lx (op_load_one rfl ag3 rfl) rfl ?_ | refine lx (op_bload_one (m := 2) rfl rfl ag3 rfl) rfl ?_ | refine lx (op_bload_one (m := 600) rfl rfl ag3 rfl) rfl ?_ | refine lx (op_bload_one (m := 3) rfl rfl ag3 rfl) rfl ?_ | refine lx (op_bload_one (m := 4) rfl rfl ag3 rfl) rfl ?_
        refine lx (op_geq rfl rfl) rfl ?_
        refine lx_end ⟨by kernel_rfl, ?_⟩
        refine pe_then_normal ?_
        refine tr_sub hC (.cons (t := 2) rfl (.cons (t := 3) rfl (.cons (t := 4) rfl (.cons (t := 6) rfl (.cons (t := 7) rfl (.cons (t := 8) rfl (.cons (t := 31) rfl .nil))))))) (.cons (t := 2) rfl (.cons (t := 600) rfl (.cons (t := 3) rfl (.cons (t := 4) rfl .nil)))) rfl ?_
        refine tr_cond rfl (fun h31 => ?_) (fun h31 => ?_)
        · (try simp only [Bool.and_eq_true, Bool.or_eq_true, Bool.and_eq_false_iff, Bool.or_eq_false_iff, decide_eq_true_eq, decide_eq_false_iff_not, Bool.not_eq_true', Bool.not_eq_false', List.length_map, ne_eq, Decidable.not_not, Int.not_lt, Int.not_le] at h31)
          have hst := merge_pos2 (l' := l') (by omega) hn hm h31 (by omega)
          refine tr_region (fun N9 hN => ?_)
          refine lx (op_move rfl) rfl ?_
          refine lx (op_fieldAddr rfl fl25_1 sz23) rfl ?_
          refine lx (op_bload_one (m := 3) rfl rfl ag23 rfl) rfl ?_
          refine lx (op_move rfl) rfl ?_
          refine lx (op_index rfl rfl el23 sz3 rfl (parents_at (by omega : k < bl.length))) rfl ?_
          first | refine lx (op_load_one rfl ag3 rfl) rfl ?_ | refine lx (op_bload_one (m := 2) rfl rfl ag3 rfl) rfl ?_ | refine lx (op_bload_one (m := 600) rfl rfl ag3 rfl) rfl ?_ | refine lx (op_bload_one (m := 3) rfl rfl ag3 rfl) rfl ?_ | refine lx (op_bload_one (m := 4) rfl rfl ag3 rfl) rfl ?_
          refine lx (op_index_row rfl rfl el23 sz3 (by omega : bl[k].1 = ((bl[k].1.toNat : Nat) : Int)) (List.getElem?_eq_getElem (by omega : bl[k].1.toNat < to.length))) rfl ?_
          first | refine lx (op_load_one rfl ag3 rfl) rfl ?_ | refine lx (op_bload_one (m := 2) rfl rfl ag3 rfl) rfl ?_ | refine lx (op_bload_one (m := 600) rfl rfl ag3 rfl) rfl ?_ | refine lx (op_bload_one (m := 3) rfl rfl ag3 rfl) rfl ?_ | refine lx (op_bload_one (m := 4) rfl rfl ag3 rfl) rfl ?_
          refine lx (op_assign rfl) rfl ?_
          refine lx_end ⟨by kernel_rfl, ?_⟩
          refine pe_then_normal ?_
          refine tr_sub hC (.cons (t := 2) rfl (.cons (t := 3) rfl (.cons (t := 4) rfl (.cons (t := 6) rfl (.cons (t := 7) rfl (.cons (t := 8) rfl .nil)))))) (.cons (t := 2) rfl (.cons (t := 600) rfl (.cons (t := 3) rfl (.cons (t := 4) rfl .nil)))) rfl ?_
          refine tr_seq ?_
          refine tr_region (fun N10 hN => ?_)
          refine lx (op_assign rfl) rfl ?_
          refine lx_end ⟨by kernel_rfl, ?_⟩
          refine pe_then_normal ?_
          refine tr_sub hC (.cons (t := 2) rfl (.cons (t := 3) rfl (.cons (t := 4) rfl (.cons (t := 6) rfl (.cons (t := 7) rfl (.cons (t := 8) rfl .nil)))))) (.cons (t := 2) rfl (.cons (t := 600) rfl (.cons (t := 3) rfl (.cons (t := 4) rfl .nil)))) rfl ?_
          refine tr_seq ?_
          refine tr_drawn mixed (fun N11 hN => ?_)
          first | refine lx (op_bload (m := 2) rfl rfl ag25 sz25) rfl ?_ | refine lx (op_bload_part (m := 2) rfl rfl ag25 sz25 rfl rfl) rfl ?_
          refine lx (op_move rfl) rfl ?_
          refine lx (op_fieldAddr rfl fl25_0 sz22) rfl ?_
          refine lx (op_bload_one (m := 3) rfl rfl ag22 rfl) rfl ?_
          refine lx (op_move rfl) rfl ?_
          refine lx (op_index rfl rfl el22 sz29 rfl (sites_at (by omega : k < bl.length))) rfl ?_
          first | refine lx (op_load_all rfl ag29 sz29) rfl ?_ | refine lx (op_load_agg rfl ag29 sz29 rfl) rfl ?_ | refine lx (op_bload (m := 2) rfl rfl ag29 sz29) rfl ?_ | refine lx (op_bload (m := 600) rfl rfl ag29 sz29) rfl ?_ | refine lx (op_bload (m := 3) rfl rfl ag29 sz29) rfl ?_ | refine lx (op_bload (m := 4) rfl rfl ag29 sz29) rfl ?_ | refine lx (op_bload_part (m := 2) rfl rfl ag29 sz29 rfl rfl) rfl ?_ | refine lx (op_bload_part (m := 600) rfl rfl ag29 sz29 rfl rfl) rfl ?_ | refine lx (op_bload_part (m := 3) rfl rfl ag29 sz29 rfl rfl) rfl ?_ | refine lx (op_bload_part (m := 4) rfl rfl ag29 sz29 rfl rfl) rfl ?_
          first | refine lx (op_call (l := [(Go.Operand.tmp 41), (Go.Operand.tmp 42), (Go.Operand.tmp 47)]) (rpush_ok l' _ _ (by omega)) (.cons rfl (.cons rfl (.cons rfl .nil))) fn28) rfl ?_ | refine lx (op_call (l := [(Go.Operand.tmp 41), (Go.Operand.tmp 42), (Go.Operand.tmp 47)]) (rpush_ok l' _ _ (by omega)) (.ent rfl (by repeat (first | exact Ent.refl _ | exact Ents.nil | exact Ent.nil _ _ | exact Ent.row _ _ _ _ | exact Ent.func _ | refine Ents.cons ?_ ?_ | refine Ent.tup ?_ | refine Ent.agg ?_ | refine Ent.cells ?_ | exact Ent.of_eq rfl)) (.ent rfl (by repeat (first | exact Ent.refl _ | exact Ents.nil | exact Ent.nil _ _ | exact Ent.row _ _ _ _ | exact Ent.func _ | refine Ents.cons ?_ ?_ | refine Ent.tup ?_ | refine Ent.agg ?_ | refine Ent.cells ?_ | exact Ent.of_eq rfl)) (.ent rfl (by repeat (first | exact Ent.refl _ | exact Ents.nil | exact Ent.nil _ _ | exact Ent.row _ _ _ _ | exact Ent.func _ | refine Ents.cons ?_ ?_ | refine Ent.tup ?_ | refine Ent.agg ?_ | refine Ent.cells ?_ | exact Ent.of_eq rfl)) .nil))) fn28) rfl ?_
          refine lx (op_move rfl) rfl ?_
          refine lx (op_extract rfl rfl) rfl ?_
          refine lx (op_extract rfl rfl) rfl ?_
          first | refine lxr (op_store_all (m := 2) rfl rfl rfl (.agg rfl) sz25 rfl) rfl ?_ | refine lxr (op_store (m := 2) rfl rfl rfl (.agg rfl) sz25 rfl rfl rfl) rfl ?_
          refine lx (op_assign rfl) rfl ?_
          refine lx_end ⟨by kernel_rfl, ?_⟩
          refine pe_then_normal ?_
          refine tr_sub hC (.cons (t := 2) rfl (.cons (t := 3) rfl (.cons (t := 4) rfl (.cons (t := 6) rfl (.cons (t := 7) rfl (.cons (t := 9) rfl .nil)))))) (.cons (t := 2) rfl (.cons (t := 600) rfl (.cons (t := 3) rfl (.cons (t := 4) rfl .nil)))) rfl ?_
          refine tr_region (fun N12 hN => ?_)
          refine lx (op_move rfl) rfl ?_
          refine lx (op_move rfl) rfl ?_
          refine lx (op_buildSlice (f := ip) (l := [(0, (Go.Operand.tmp 52))]) ze3 rfl rfl (by decide) el23 sz3 ip_len (.cons rfl (.one (by (first | exact One.eq rfl | exact One.mv _ _ _ _ _ | exact One.cl _ _ _ | exact One.map _ | exact One.sl _ _ _ | exact One.row _ _ _ _ | exact One.msl _ _ _ _ | exact One.ptr _ _ | exact One.b _ | exact One.cells _))) .nil) rfl (by decide)) rfl ?_
          refine lxr (op_append (m := 600) (m' := 600) (kk := 54) rfl rfl rfl (.inl rfl) el23 ze3 sz3 by3 rfl ip_len (by rw [List.length_singleton]; omega) (by rw [List.length_singleton]; omega)) rfl ?_
          refine lx (op_assign rfl) rfl ?_
          refine lx_end ⟨by kernel_rfl, ?_⟩
          refine pe_block_normal ?_
          refine pe_then_normal ?_
          refine tr_sub hC (.cons (t := 2) rfl (.cons (t := 3) rfl (.cons (t := 4) rfl (.cons (t := 6) rfl (.cons (t := 7) rfl .nil))))) (.cons (t := 2) rfl (.cons (t := 3) rfl (.cons (t := 4) rfl (.cons (t := 600) rfl .nil)))) rfl ?_
          refine tr_region (fun N6 hN => ?_)
          refine lx (op_move rfl) rfl ?_
          refine lx (op_add rfl rfl (by omega)) rfl ?_
          refine lx (op_assign rfl) rfl ?_
          refine lx_end ⟨by kernel_rfl, ?_⟩
          refine pe_round (⟨(k + 1, (pushE l' ((to[bl[k].1.toNat]'(by omega)), bl[k].2)).1, to ++ [((pushE l' ((to[bl[k].1.toNat]'(by omega)), bl[k].2)).2 : Int)], (N12, 54)), by dsimp only; omega, by dsimp only; rw [List.length_append, List.length_singleton]; omega, hst, by have := pushE_len l' ((to[bl[k].1.toNat]'(by omega)), bl[k].2); dsimp only; omega⟩) (by dsimp only; omega) (pe_st hC ?_ ?_ rfl)
          · try dsimp only [List.cons_append, List.nil_append]
            first | refine SubF.cons rfl ?_ | (refine SubF.ent rfl ?_ ?_; · repeat (first | exact Ent.refl _ | exact Ents.nil | exact Ent.nil _ _ | exact Ent.row _ _ _ _ | exact Ent.func _ | refine Ents.cons ?_ ?_ | refine Ent.tup ?_ | refine Ent.agg ?_ | refine Ent.cells ?_ | exact Ent.of_eq rfl))
            first | refine SubF.cons rfl ?_ | (refine SubF.ent rfl ?_ ?_; · repeat (first | exact Ent.refl _ | exact Ents.nil | exact Ent.nil _ _ | exact Ent.row _ _ _ _ | exact Ent.func _ | refine Ents.cons ?_ ?_ | refine Ent.tup ?_ | refine Ent.agg ?_ | refine Ent.cells ?_ | exact Ent.of_eq rfl))
            first | refine SubF.cons rfl ?_ | (refine SubF.ent rfl ?_ ?_; · repeat (first | exact Ent.refl _ | exact Ents.nil | exact Ent.nil _ _ | exact Ent.row _ _ _ _ | exact Ent.func _ | refine Ents.cons ?_ ?_ | refine Ent.tup ?_ | refine Ent.agg ?_ | refine Ent.cells ?_ | exact Ent.of_eq rfl))
            first | refine SubF.cons rfl ?_ | (refine SubF.ent rfl ?_ ?_; · repeat (first | exact Ent.refl _ | exact Ents.nil | exact Ent.nil _ _ | exact Ent.row _ _ _ _ | exact Ent.func _ | refine Ents.cons ?_ ?_ | refine Ent.tup ?_ | refine Ent.agg ?_ | refine Ent.cells ?_ | exact Ent.of_eq rfl))
            first | refine SubF.cons rfl ?_ | (refine SubF.ent rfl ?_ ?_; · repeat (first | exact Ent.refl _ | exact Ents.nil | exact Ent.nil _ _ | exact Ent.row _ _ _ _ | exact Ent.func _ | refine Ents.cons ?_ ?_ | refine Ent.tup ?_ | refine Ent.agg ?_ | refine Ent.cells ?_ | exact Ent.of_eq rfl))
            exact SubF.nil
          · try dsimp only [List.cons_append, List.nil_append]
            repeat (first | exact SubL.nil | refine SubL.cons rfl ?_)
        · (try simp only [Bool.and_eq_true, Bool.or_eq_true, Bool.and_eq_false_iff, Bool.or_eq_false_iff, decide_eq_true_eq, decide_eq_false_iff_not, Bool.not_eq_true', Bool.not_eq_false', List.length_map, ne_eq, Decidable.not_not, Int.not_lt, Int.not_le] at h31)
          have hpm : bl[k].1 = -1 := by omega
          have hst := merge_neg2 (l' := l') (by omega) hm h31
          rw [hpm] at hst
          refine tr_skip ?_
          refine pe_then_normal ?_
          refine tr_sub hC (.cons (t := 2) rfl (.cons (t := 3) rfl (.cons (t := 4) rfl (.cons (t := 6) rfl (.cons (t := 7) rfl (.cons (t := 8) rfl .nil)))))) (.cons (t := 2) rfl (.cons (t := 600) rfl (.cons (t := 3) rfl (.cons (t := 4) rfl .nil)))) rfl ?_
          refine tr_seq ?_
          refine tr_region (fun N10 hN => ?_)
          refine lx (op_assign rfl) rfl ?_
          refine lx_end ⟨by kernel_rfl, ?_⟩
          refine pe_then_normal ?_
          refine tr_sub hC (.cons (t := 2) rfl (.cons (t := 3) rfl (.cons (t := 4) rfl (.cons (t := 6) rfl (.cons (t := 7) rfl (.cons (t := 8) rfl .nil)))))) (.cons (t := 2) rfl (.cons (t := 600) rfl (.cons (t := 3) rfl (.cons (t := 4) rfl .nil)))) rfl ?_
          refine tr_seq ?_
          refine tr_drawn mixed (fun N11 hN => ?_)
          first | refine lx (op_bload (m := 2) rfl rfl ag25 sz25) rfl ?_ | refine lx (op_bload_part (m := 2) rfl rfl ag25 sz25 rfl rfl) rfl ?_
          refine lx (op_move rfl) rfl ?_
          refine lx (op_fieldAddr rfl fl25_0 sz22) rfl ?_
          refine lx (op_bload_one (m := 3) rfl rfl ag22 rfl) rfl ?_
          refine lx (op_move rfl) rfl ?_
          refine lx (op_index rfl rfl el22 sz29 rfl (sites_at (by omega : k < bl.length))) rfl ?_
          first | refine lx (op_load_all rfl ag29 sz29) rfl ?_ | refine lx (op_load_agg rfl ag29 sz29 rfl) rfl ?_ | refine lx (op_bload (m := 2) rfl rfl ag29 sz29) rfl ?_ | refine lx (op_bload (m := 600) rfl rfl ag29 sz29) rfl ?_ | refine lx (op_bload (m := 3) rfl rfl ag29 sz29) rfl ?_ | refine lx (op_bload (m := 4) rfl rfl ag29 sz29) rfl ?_ | refine lx (op_bload_part (m := 2) rfl rfl ag29 sz29 rfl rfl) rfl ?_ | refine lx (op_bload_part (m := 600) rfl rfl ag29 sz29 rfl rfl) rfl ?_ | refine lx (op_bload_part (m := 3) rfl rfl ag29 sz29 rfl rfl) rfl ?_ | refine lx (op_bload_part (m := 4) rfl rfl ag29 sz29 rfl rfl) rfl ?_
          first | refine lx (op_call (l := [(Go.Operand.tmp 41), (Go.Operand.tmp 42), (Go.Operand.tmp 47)]) (rpush_ok l' _ _ (by omega)) (.cons rfl (.cons rfl (.cons rfl .nil))) fn28) rfl ?_ | refine lx (op_call (l := [(Go.Operand.tmp 41), (Go.Operand.tmp 42), (Go.Operand.tmp 47)]) (rpush_ok l' _ _ (by omega)) (.ent rfl (by repeat (first | exact Ent.refl _ | exact Ents.nil | exact Ent.nil _ _ | exact Ent.row _ _ _ _ | exact Ent.func _ | refine Ents.cons ?_ ?_ | refine Ent.tup ?_ | refine Ent.agg ?_ | refine Ent.cells ?_ | exact Ent.of_eq rfl)) (.ent rfl (by repeat (first | exact Ent.refl _ | exact Ents.nil | exact Ent.nil _ _ | exact Ent.row _ _ _ _ | exact Ent.func _ | refine Ents.cons ?_ ?_ | refine Ent.tup ?_ | refine Ent.agg ?_ | refine Ent.cells ?_ | exact Ent.of_eq rfl)) (.ent rfl (by repeat (first | exact Ent.refl _ | exact Ents.nil | exact Ent.nil _ _ | exact Ent.row _ _ _ _ | exact Ent.func _ | refine Ents.cons ?_ ?_ | refine Ent.tup ?_ | refine Ent.agg ?_ | refine Ent.cells ?_ | exact Ent.of_eq rfl)) .nil))) fn28) rfl ?_
          refine lx (op_move rfl) rfl ?_
          refine lx (op_extract rfl rfl) rfl ?_
          refine lx (op_extract rfl rfl) rfl ?_
          first | refine lxr (op_store_all (m := 2) rfl rfl rfl (.agg rfl) sz25 rfl) rfl ?_ | refine lxr (op_store (m := 2) rfl rfl rfl (.agg rfl) sz25 rfl rfl rfl) rfl ?_
          refine lx (op_assign rfl) rfl ?_
          refine lx_end ⟨by kernel_rfl, ?_⟩
          refine pe_then_normal ?_
          refine tr_sub hC (.cons (t := 2) rfl (.cons (t := 3) rfl (.cons (t := 4) rfl (.cons (t := 6) rfl (.cons (t := 7) rfl (.cons (t := 9) rfl .nil)))))) (.cons (t := 2) rfl (.cons (t := 600) rfl (.cons (t := 3) rfl (.cons (t := 4) rfl .nil)))) rfl ?_
          refine tr_region (fun N12 hN => ?_)
          refine lx (op_move rfl) rfl ?_
          refine lx (op_move rfl) rfl ?_
          refine lx (op_buildSlice (f := ip) (l := [(0, (Go.Operand.tmp 52))]) ze3 rfl rfl (by decide) el23 sz3 ip_len (.cons rfl (.one (by (first | exact One.eq rfl | exact One.mv _ _ _ _ _ | exact One.cl _ _ _ | exact One.map _ | exact One.sl _ _ _ | exact One.row _ _ _ _ | exact One.msl _ _ _ _ | exact One.ptr _ _ | exact One.b _ | exact One.cells _))) .nil) rfl (by decide)) rfl ?_
          refine lxr (op_append (m := 600) (m' := 600) (kk := 54) rfl rfl rfl (.inl rfl) el23 ze3 sz3 by3 rfl ip_len (by rw [List.length_singleton]; omega) (by rw [List.length_singleton]; omega)) rfl ?_
          refine lx (op_assign rfl) rfl ?_
          refine lx_end ⟨by kernel_rfl, ?_⟩
          refine pe_block_normal ?_
          refine pe_then_normal ?_
          refine tr_sub hC (.cons (t := 2) rfl (.cons (t := 3) rfl (.cons (t := 4) rfl (.cons (t := 6) rfl (.cons (t := 7) rfl .nil))))) (.cons (t := 2) rfl (.cons (t := 3) rfl (.cons (t := 4) rfl (.cons (t := 600) rfl .nil)))) rfl ?_
          refine tr_region (fun N6 hN => ?_)
          refine lx (op_move rfl) rfl ?_
          refine lx (op_add rfl rfl (by omega)) rfl ?_
          refine lx (op_assign rfl) rfl ?_
          refine lx_end ⟨by kernel_rfl, ?_⟩
          refine pe_round (⟨(k + 1, (pushE l' (-1, bl[k].2)).1, to ++ [((pushE l' (-1, bl[k].2)).2 : Int)], (N12, 54)), by dsimp only; omega, by dsimp only; rw [List.length_append, List.length_singleton]; omega, hst, by have := pushE_len l' (-1, bl[k].2); dsimp only; omega⟩) (by dsimp only; omega) (pe_st hC ?_ ?_ rfl)
          · try dsimp only [List.cons_append, List.nil_append]
            first | refine SubF.cons rfl ?_ | (refine SubF.ent rfl ?_ ?_; · repeat (first | exact Ent.refl _ | exact Ents.nil | exact Ent.nil _ _ | exact Ent.row _ _ _ _ | exact Ent.func _ | refine Ents.cons ?_ ?_ | refine Ent.tup ?_ | refine Ent.agg ?_ | refine Ent.cells ?_ | exact Ent.of_eq rfl))
            first | refine SubF.cons rfl ?_ | (refine SubF.ent rfl ?_ ?_; · repeat (first | exact Ent.refl _ | exact Ents.nil | exact Ent.nil _ _ | exact Ent.row _ _ _ _ | exact Ent.func _ | refine Ents.cons ?_ ?_ | refine Ent.tup ?_ | refine Ent.agg ?_ | refine Ent.cells ?_ | exact Ent.of_eq rfl))
            first | refine SubF.cons rfl ?_ | (refine SubF.ent rfl ?_ ?_; · repeat (first | exact Ent.refl _ | exact Ents.nil | exact Ent.nil _ _ | exact Ent.row _ _ _ _ | exact Ent.func _ | refine Ents.cons ?_ ?_ | refine Ent.tup ?_ | refine Ent.agg ?_ | refine Ent.cells ?_ | exact Ent.of_eq rfl))
            first | refine SubF.cons rfl ?_ | (refine SubF.ent rfl ?_ ?_; · repeat (first | exact Ent.refl _ | exact Ents.nil | exact Ent.nil _ _ | exact Ent.row _ _ _ _ | exact Ent.func _ | refine Ents.cons ?_ ?_ | refine Ent.tup ?_ | refine Ent.agg ?_ | refine Ent.cells ?_ | exact Ent.of_eq rfl))
            first | refine SubF.cons rfl ?_ | (refine SubF.ent rfl ?_ ?_; · repeat (first | exact Ent.refl _ | exact Ents.nil | exact Ent.nil _ _ | exact Ent.row _ _ _ _ | exact Ent.func _ | refine Ents.cons ?_ ?_ | refine Ent.tup ?_ | refine Ent.agg ?_ | refine Ent.cells ?_ | exact Ent.of_eq rfl))
            exact SubF.nil
          · try dsimp only [List.cons_append, List.nil_append]
            repeat (first | exact SubL.nil | refine SubL.cons rfl ?_)
      · (try simp only [Bool.and_eq_true, Bool.or_eq_true, Bool.and_eq_false_iff, Bool.or_eq_false_iff, decide_eq_true_eq, decide_eq_false_iff_not, Bool.not_eq_true', Bool.not_eq_false', List.length_map, ne_eq, Decidable.not_not, Int.not_lt, Int.not_le] at h23)
        have hk3 : k = bl.length := by omega
        have hfin := merge_end2 (by omega) hm
        refine tr_exit ?_
        refine pe_then_exit ?_
        refine pe_then_exit ?_
        refine pe_block_eq ?_
        refine pe_then_normal ?_
        refine tr_sub hC (.cons (t := 2) rfl (.cons (t := 4) rfl (.cons (t := 6) rfl .nil))) (.cons (t := 2) rfl (.cons (t := 600) rfl (.cons (t := 4) rfl .nil))) rfl ?_
        refine tr_seq ?_
        refine tr_region (fun N13 hN => ?_)
        first | refine lx (op_bload (m := 2) rfl rfl ag25 sz25) rfl ?_ | refine lx (op_bload_part (m := 2) rfl rfl ag25 sz25 rfl rfl) rfl ?_
        refine lx (op_move rfl) rfl ?_
        first | refine lxr (op_store_all (m := 4) rfl rfl rfl (.agg rfl) sz25 rfl) rfl ?_ | refine lxr (op_store (m := 4) rfl rfl rfl (.agg rfl) sz25 rfl rfl rfl) rfl ?_
        refine lx (op_assign rfl) rfl ?_
        refine lx_end ⟨by kernel_rfl, ?_⟩
        refine pe_then_normal ?_
        refine tr_sub hC (.cons (t := 4) rfl (.cons (t := 5) rfl .nil)) (.cons (t := 600) rfl (.cons (t := 4) rfl .nil)) rfl ?_
        refine tr_ret ?_
        refine pe_retN (rs := [.cell 4 25, .tmp 5]) rfl rfl hO rfl (.cell (m := 4) rfl rfl ag25 sz25 (.tmp rfl .nil)) ?_
        rw [hyes, ← hfin]
        repeat (first | exact Ent.refl _ | exact Ents.nil | exact Ent.nil _ _ | exact Ent.row _ _ _ _ | exact Ent.func _ | refine Ents.cons ?_ ?_ | refine Ent.tup ?_ | refine Ent.agg ?_ | refine Ent.cells ?_ | exact Ent.of_eq rfl)

theorem Merge_ok (d : Dep) (hx : d.sites.length ≤ 400000) (hy : d.parents.length ≤ 400000) (b : Dep) (hxb : b.sites.length ≤ 400000) (hyb : b.parents.length ≤ 400000) : FnP Try.prog 22 [aggP d.ps, aggP b.ps] (tupP [aggP (mergeF d b).1.ps, slP ip 1 (mergeF d b).2]) := by
  cases hv : validF d with
  | false => exact Merge_n d hv hx hy b hxb hyb
  | true =>
    obtain ⟨hl, hv⟩ := (validF_iff d).1 hv
    cases hvb : validF b with
    | false =>
      have h := Merge_w d.es hv (by rw [len_es d hl]; exact hx) b hxb hyb hvb
      rwa [ofE_es hl] at h
    | true =>
      obtain ⟨hlb, hvb⟩ := (validF_iff b).1 hvb
      have h := Merge_v d.es hv (by rw [len_es d hl]; exact hx) b.es hvb (by rw [len_es b hlb]; exact hxb)
      rwa [ofE_es hl, ofE_es hlb] at h
theorem rMerge_ok (d : Dep) (hx : d.sites.length ≤ 400000) (b : Dep) (hxb : b.sites.length ≤ 400000) (hyb : b.parents.length ≤ 400000) : FnP Try.prog 23 [aggP d.ps, aggP b.ps] (tupP [aggP (mergeF d b).1.ps, slP ip 1 (mergeF d b).2]) := by
  cases hv : validF d with
  | false => exact rMerge_n d b hx hxb (.inl hv)
  | true =>
    obtain ⟨hl, hv⟩ := (validF_iff d).1 hv
    cases hvb : validF b with
    | false => exact rMerge_n d b hx hxb (.inr hvb)
    | true =>
      obtain ⟨hlb, hvb⟩ := (validF_iff b).1 hvb
      have h := rMerge_v d.es hv (by rw [len_es d hl]; exact hx) b.es hvb (by rw [len_es b hlb]; exact hxb)
      rwa [ofE_es hl, ofE_es hlb] at h
end Go.Proofs.Ytoibihhocjbilaa
