/- Walks of the functions of layer 21: Put -/
import Derived.Test.YtoibihhocjbilaaDpWalk5
set_option linter.unusedVariables false
set_option linter.unusedSimpArgs false
namespace Go.Proofs.Ytoibihhocjbilaa
open Go.AL Go.Dp Go.RowKit
theorem fn29 : fnB Try.prog 29 = true := by kernel_rfl
theorem fn30 : fnB Try.prog 30 = true := by kernel_rfl
theorem Put_n (d : Dep) (hv : validF d = false) (hx : d.sites.length ≤ 400000) (hy : d.parents.length ≤ 400000) (ss : List Site) (hs : ss.length ≤ 400000) : FnP Try.prog 17 [aggP d.ps, slP sp 2 ss] (tupP [aggP (putF d ss).1.ps, eqP (.int .i64 (putF d ss).2)]) := by
  refine fn_pure' Try.func17 rfl Try.ntmps17 rfl ?_
  intro σ0 M ex Rf R hC hO
  simp only [frameOf, tokOf]
  refine tr_seq ?_
  refine tr_region (fun N0 hN => ?_)
  refine lxn (op_box (m := 2) (k := 2) rfl (.agg rfl) (by first | exact hC.low _ (by decide) | rfl)) rfl ?_
  refine lxn (op_alloc (m := 4) (k := 4) (ps := [eqP (.slice none 0 0), eqP (.slice none 0 0)]) ze25 rfl rfl (by first | exact hC.low _ (by decide) | rfl)) rfl ?_
  refine lx (op_assign rfl) rfl ?_
  refine lx_end ⟨by kernel_rfl, ?_⟩
  refine pe_then_normal ?_
  refine tr_sub hC (.cons (t := 1) rfl (.cons (t := 2) rfl (.cons (t := 4) rfl .nil))) (.cons (t := 2) rfl (.cons (t := 4) rfl .nil)) rfl ?_
  refine tr_seq ?_
  refine tr_region (fun N1 hN => ?_)
  first | refine lx (op_bload (m := 2) rfl rfl ag25 sz25) rfl ?_ | refine lx (op_bload_part (m := 2) rfl rfl ag25 sz25 rfl rfl) rfl ?_
  first | refine lx (op_call (l := [(Go.Operand.tmp 12)]) (build_n d hv (by omega) (by omega)) (.cons rfl .nil) fn25) rfl ?_ | refine lx (op_call (l := [(Go.Operand.tmp 12)]) (build_n d hv (by omega) (by omega)) (.ent rfl (by repeat (first | exact Ent.refl _ | exact Ents.nil | exact Ent.nil _ _ | exact Ent.row _ _ _ _ | exact Ent.func _ | refine Ents.cons ?_ ?_ | refine Ent.tup ?_ | refine Ent.agg ?_ | refine Ent.cells ?_ | exact Ent.of_eq rfl)) .nil) fn25) rfl ?_
  refine lx (op_move rfl) rfl ?_
  refine lx (op_extract rfl rfl) rfl ?_
  refine lx (op_extract rfl rfl) rfl ?_
  refine lx (op_assign rfl) rfl ?_
  refine lx (op_assign rfl) rfl ?_
  refine lx_end ⟨by kernel_rfl, ?_⟩
  refine pe_then_normal ?_
  refine tr_sub hC (.cons (t := 1) rfl (.cons (t := 4) rfl (.cons (t := 6) rfl (.cons (t := 7) rfl .nil)))) (.cons (t := 4) rfl .nil) rfl ?_
  refine tr_seq ?_
  refine tr_seq ?_
  refine tr_region (fun N2 hN => ?_)
  refine lx (op_move rfl) rfl ?_
  first | refine lx (op_not rfl) rfl ?_ | refine lx (op_not_b rfl) rfl ?_
  refine lx (op_move rfl) rfl ?_
  refine lxs rfl rfl rfl guard_eq (.cons (t := 1) rfl (fun _ => Ent.refl _) .nil) (op_move rfl) rfl ?_
  first | refine lxs rfl rfl rfl guard_eq (.cons (t := 19) rfl (fun h => entW h) .nil) (op_call (l := [(Go.Operand.tmp 19), (Go.Operand.func 30)]) (contains_ok 30 _ bad_ok fn30 ss (by omega)) (.cons rfl (.cons rfl .nil)) fn29) rfl ?_ | refine lxs rfl rfl rfl guard_eq (.cons (t := 19) rfl (fun h => entW h) .nil) (op_call (l := [(Go.Operand.tmp 19), (Go.Operand.func 30)]) (contains_ok 30 _ bad_ok fn30 ss (by omega)) (.ent rfl (by repeat (first | exact Ent.refl _ | exact Ents.nil | exact Ent.nil _ _ | exact Ent.row _ _ _ _ | exact Ent.func _ | refine Ents.cons ?_ ?_ | refine Ent.tup ?_ | refine Ent.agg ?_ | refine Ent.cells ?_ | exact Ent.of_eq rfl)) (.ent rfl (by repeat (first | exact Ent.refl _ | exact Ents.nil | exact Ent.nil _ _ | exact Ent.row _ _ _ _ | exact Ent.func _ | refine Ents.cons ?_ ?_ | refine Ent.tup ?_ | refine Ent.agg ?_ | refine Ent.cells ?_ | exact Ent.of_eq rfl)) .nil)) fn29) rfl ?_
  refine lx (op_pick_or rfl rfl) rfl ?_
  refine lx_end ⟨by kernel_rfl, ?_⟩
  refine pe_then_normal ?_
  refine tr_sub hC (.cons (t := 1) rfl (.cons (t := 4) rfl (.cons (t := 6) rfl (.cons (t := 21) rfl .nil)))) (.cons (t := 4) rfl .nil) rfl ?_
  refine tr_cond rfl (fun h21 => ?_) (fun h21 => ?_)
  · (try simp only [Bool.and_eq_true, Bool.or_eq_true, Bool.and_eq_false_iff, Bool.or_eq_false_iff, decide_eq_true_eq, decide_eq_false_iff_not, Bool.not_eq_true', Bool.not_eq_false', List.length_map, ne_eq, Decidable.not_not, Int.not_lt, Int.not_le] at h21)
    refine tr_seq ?_
    refine tr_region (fun N3 hN => ?_)
    refine lx (op_build (parts := []) ze25 rfl rfl fs25 .nil rfl rfl) rfl ?_
    first | refine lxr (op_store_all (m := 4) rfl rfl rfl (.agg rfl) sz25 rfl) rfl ?_ | refine lxr (op_store (m := 4) rfl rfl rfl (.agg rfl) sz25 rfl rfl rfl) rfl ?_
    refine lx (op_assign rfl) rfl ?_
    refine lx_end ⟨by kernel_rfl, ?_⟩
    refine pe_then_normal ?_
    refine tr_sub hC (.cons (t := 4) rfl (.cons (t := 5) rfl .nil)) (.cons (t := 4) rfl .nil) rfl ?_
    refine tr_ret ?_
    refine pe_then_ret ?_
    refine pe_retN (rs := [.cell 4 25, .tmp 5]) rfl rfl hO rfl (.cell (m := 4) rfl rfl ag25 sz25 (.tmp rfl .nil)) ?_
    rw [putF_no (fun h => by rw [hv] at h; exact absurd h.1 (by simp))]
    repeat (first | exact Ent.refl _ | exact Ents.nil | exact Ent.nil _ _ | exact Ent.row _ _ _ _ | exact Ent.func _ | refine Ents.cons ?_ ?_ | refine Ent.tup ?_ | refine Ent.agg ?_ | refine Ent.cells ?_ | exact Ent.of_eq rfl)
  · exact absurd h21 (by simp)

theorem Put_v (l : List E) (hv : validE l = true) (hx : l.length ≤ 400000) (ss : List Site) (hs : ss.length ≤ 400000) : FnP Try.prog 17 [aggP (ofE l).ps, slP sp 2 ss] (tupP [aggP (putF (ofE l) ss).1.ps, eqP (.int .i64 (putF (ofE l) ss).2)]) := by
  refine fn_pure' Try.func17 rfl Try.ntmps17 rfl ?_
  intro σ0 M ex Rf R hC hO
  simp only [frameOf, tokOf]
  refine tr_seq ?_
  refine tr_region (fun N0 hN => ?_)
  refine lxn (op_box (m := 2) (k := 2) rfl (.agg rfl) (by first | exact hC.low _ (by decide) | rfl)) rfl ?_
  refine lxn (op_alloc (m := 4) (k := 4) (ps := [eqP (.slice none 0 0), eqP (.slice none 0 0)]) ze25 rfl rfl (by first | exact hC.low _ (by decide) | rfl)) rfl ?_
  refine lx (op_assign rfl) rfl ?_
  refine lx_end ⟨by kernel_rfl, ?_⟩
  refine pe_then_normal ?_
  refine tr_sub hC (.cons (t := 1) rfl (.cons (t := 2) rfl (.cons (t := 4) rfl .nil))) (.cons (t := 2) rfl (.cons (t := 4) rfl .nil)) rfl ?_
  refine tr_seq ?_
  refine tr_region (fun N1 hN => ?_)
  first | refine lx (op_bload (m := 2) rfl rfl ag25 sz25) rfl ?_ | refine lx (op_bload_part (m := 2) rfl rfl ag25 sz25 rfl rfl) rfl ?_
  first | refine lx_any rfl (op_callG2 (l := [(Go.Operand.tmp 12)]) (add := [(130, ((N1, 100130), blk 52 [rowP ((N1, 100131)) sp 2 ((l).map (·.2)), rowP ((N1, 100132)) ip 1 ((l).map (·.1)), mapP ((N1, 100133))])), (131, ((N1, 100131), tail 29 2 (((l).map (·.2)).length * 2))), (132, ((N1, 100132), tail 3 1 (((l).map (·.1)).length * 1))), (133, ((N1, 100133), mapR ev iv (tab (l))))]) (ks := [100130, 100131, 100132, 100133]) (φ := tupP [ptrP (N1, 100130) 0, eqP (.bool true)]) .nil (build_v l hv (by omega)) (.cons rfl .nil) fn25 rfl rfl rfl (.new (by first | exact hC.low _ (by decide) | rfl) (.new (by first | exact hC.low _ (by decide) | rfl) (.new (by first | exact hC.low _ (by decide) | rfl) (.new (by first | exact hC.low _ (by decide) | rfl) .nil)))) rfl) (dOK_spec rfl) ?_ | refine lx_any rfl (op_callG2 (l := [(Go.Operand.tmp 12)]) (add := [(130, ((N1, 100130), blk 52 [rowP ((N1, 100131)) sp 2 ((l).map (·.2)), rowP ((N1, 100132)) ip 1 ((l).map (·.1)), mapP ((N1, 100133))])), (131, ((N1, 100131), tail 29 2 (((l).map (·.2)).length * 2))), (132, ((N1, 100132), tail 3 1 (((l).map (·.1)).length * 1))), (133, ((N1, 100133), mapR ev iv (tab (l))))]) (ks := [100130, 100131, 100132, 100133]) (φ := tupP [ptrP (N1, 100130) 0, eqP (.bool true)]) .nil (build_v l hv (by omega)) (.ent rfl (by repeat (first | exact Ent.refl _ | exact Ents.nil | exact Ent.nil _ _ | exact Ent.row _ _ _ _ | exact Ent.func _ | refine Ents.cons ?_ ?_ | refine Ent.tup ?_ | refine Ent.agg ?_ | refine Ent.cells ?_ | exact Ent.of_eq rfl)) .nil) fn25 rfl rfl rfl (.new (by first | exact hC.low _ (by decide) | rfl) (.new (by first | exact hC.low _ (by decide) | rfl) (.new (by first | exact hC.low _ (by decide) | rfl) (.new (by first | exact hC.low _ (by decide) | rfl) .nil)))) rfl) (dOK_spec rfl) ?_
  refine lx (op_move rfl) rfl ?_
  refine lx (op_extract rfl rfl) rfl ?_
  refine lx (op_extract rfl rfl) rfl ?_
  refine lx (op_assign rfl) rfl ?_
  refine lx (op_assign rfl) rfl ?_
  refine lx_end ⟨by kernel_rfl, ?_⟩
  refine pe_then_normal ?_
  refine tr_sub hC (.cons (t := 1) rfl (.cons (t := 4) rfl (.cons (t := 6) rfl (.cons (t := 7) rfl .nil)))) (.cons (t := 4) rfl (.cons (t := 130) rfl (.cons (t := 131) rfl (.cons (t := 132) rfl (.cons (t := 133) rfl .nil))))) rfl ?_
  refine tr_seq ?_
  refine tr_seq ?_
  refine tr_region (fun N2 hN => ?_)
  refine lx (op_move rfl) rfl ?_
  first | refine lx (op_not rfl) rfl ?_ | refine lx (op_not_b rfl) rfl ?_
  refine lx (op_move rfl) rfl ?_
  refine lxs rfl rfl rfl guard_eq (.cons (t := 1) rfl (fun _ => Ent.refl _) .nil) (op_move rfl) rfl ?_
  first | refine lxs rfl rfl rfl guard_eq (.cons (t := 19) rfl (fun h => entW h) .nil) (op_call (l := [(Go.Operand.tmp 19), (Go.Operand.func 30)]) (contains_ok 30 _ bad_ok fn30 ss (by omega)) (.cons rfl (.cons rfl .nil)) fn29) rfl ?_ | refine lxs rfl rfl rfl guard_eq (.cons (t := 19) rfl (fun h => entW h) .nil) (op_call (l := [(Go.Operand.tmp 19), (Go.Operand.func 30)]) (contains_ok 30 _ bad_ok fn30 ss (by omega)) (.ent rfl (by repeat (first | exact Ent.refl _ | exact Ents.nil | exact Ent.nil _ _ | exact Ent.row _ _ _ _ | exact Ent.func _ | refine Ents.cons ?_ ?_ | refine Ent.tup ?_ | refine Ent.agg ?_ | refine Ent.cells ?_ | exact Ent.of_eq rfl)) (.ent rfl (by repeat (first | exact Ent.refl _ | exact Ents.nil | exact Ent.nil _ _ | exact Ent.row _ _ _ _ | exact Ent.func _ | refine Ents.cons ?_ ?_ | refine Ent.tup ?_ | refine Ent.agg ?_ | refine Ent.cells ?_ | exact Ent.of_eq rfl)) .nil)) fn29) rfl ?_
  refine lx (op_pick_or rfl rfl) rfl ?_
  refine lx_end ⟨by kernel_rfl, ?_⟩
  refine pe_then_normal ?_
  refine tr_sub hC (.cons (t := 1) rfl (.cons (t := 4) rfl (.cons (t := 6) rfl (.cons (t := 21) rfl .nil)))) (.cons (t := 4) rfl (.cons (t := 130) rfl (.cons (t := 131) rfl (.cons (t := 132) rfl (.cons (t := 133) rfl .nil))))) rfl ?_
  refine tr_cond rfl (fun h21 => ?_) (fun h21 => ?_)
  · have hno := putF_no (put_bad (l := l) h21)
    refine tr_seq ?_
    refine tr_region (fun N3 hN => ?_)
    refine lx (op_build (parts := []) ze25 rfl rfl fs25 .nil rfl rfl) rfl ?_
    first | refine lxr (op_store_all (m := 4) rfl rfl rfl (.agg rfl) sz25 rfl) rfl ?_ | refine lxr (op_store (m := 4) rfl rfl rfl (.agg rfl) sz25 rfl rfl rfl) rfl ?_
    refine lx (op_assign rfl) rfl ?_
    refine lx_end ⟨by kernel_rfl, ?_⟩
    refine pe_then_normal ?_
    refine tr_sub hC (.cons (t := 4) rfl (.cons (t := 5) rfl .nil)) (.cons (t := 4) rfl (.cons (t := 130) rfl (.cons (t := 131) rfl (.cons (t := 132) rfl (.cons (t := 133) rfl .nil))))) rfl ?_
    refine tr_ret ?_
    refine pe_then_ret ?_
    refine pe_retN (rs := [.cell 4 25, .tmp 5]) rfl rfl hO rfl (.cell (m := 4) rfl rfl ag25 sz25 (.tmp rfl .nil)) ?_
    rw [hno]
    repeat (first | exact Ent.refl _ | exact Ents.nil | exact Ent.nil _ _ | exact Ent.row _ _ _ _ | exact Ent.func _ | refine Ents.cons ?_ ?_ | refine Ent.tup ?_ | refine Ent.agg ?_ | refine Ent.cells ?_ | exact Ent.of_eq rfl)
  · have hyes := putF_yes (put_good hv h21)
    refine tr_skip ?_
    refine pe_then_normal ?_
    refine tr_sub hC (.cons (t := 1) rfl (.cons (t := 4) rfl (.cons (t := 6) rfl .nil))) (.cons (t := 4) rfl (.cons (t := 130) rfl (.cons (t := 131) rfl (.cons (t := 132) rfl (.cons (t := 133) rfl .nil))))) rfl ?_
    refine tr_seq ?_
    refine tr_region (fun N4 hN => ?_)
    refine lx (op_assign rfl) rfl ?_
    refine lx_end ⟨by kernel_rfl, ?_⟩
    refine pe_then_normal ?_
    refine tr_sub hC (.cons (t := 1) rfl (.cons (t := 4) rfl (.cons (t := 6) rfl (.cons (t := 8) rfl .nil)))) (.cons (t := 4) rfl (.cons (t := 130) rfl (.cons (t := 131) rfl (.cons (t := 132) rfl (.cons (t := 133) rfl .nil))))) rfl ?_
    refine tr_seq ?_
    refine tr_seq ?_
    refine tr_region (fun N5 hN => ?_)
    refine lx (op_move rfl) rfl ?_
    first | refine lx (op_len rfl el22) rfl ?_ | refine lx (op_len_row rfl el22) rfl ?_ | refine lx (op_len_mv rfl el22) rfl ?_
    refine lx (op_move rfl) rfl ?_
    refine lx_end ⟨by kernel_rfl, ?_⟩
    refine pe_then_normal ?_
    refine tr_sub hC (.cons (t := 4) rfl (.cons (t := 6) rfl (.cons (t := 8) rfl (.cons (t := 23) rfl (.cons (t := 24) rfl (.cons (t := 25) rfl .nil)))))) (.cons (t := 4) rfl (.cons (t := 130) rfl (.cons (t := 131) rfl (.cons (t := 132) rfl (.cons (t := 133) rfl .nil))))) rfl ?_
    refine tr_block ?_
    refine tr_loopK (α := {zz : Nat × (List E) × Int × AL.Id × AL.Id // zz.1 ≤ ss.length ∧ putE zz.2.1 zz.2.2.1 (ss.drop zz.1) = putE l (-1) ss ∧ zz.2.1.length ≤ l.length + zz.1}) (⟨(0, l, -1, (N1, 100131), (N1, 100132)), Nat.zero_le _, rfl, Nat.le_refl _⟩) (fun zz => [(8, eqP (.int .i64 zz.1.2.2.1)), (25, eqP (.int .i64 (zz.1.1 : Int)))]) (fun zz => [(130, some ((N1, 100130), blk 52 [rowP (zz.1.2.2.2.1) sp 2 ((zz.1.2.1).map (·.2)), rowP (zz.1.2.2.2.2) ip 1 ((zz.1.2.1).map (·.1)), mapP ((N1, 100133))])), (131, some (zz.1.2.2.2.1, tail 29 2 (((zz.1.2.1).map (·.2)).length * 2))), (132, some (zz.1.2.2.2.2, tail 3 1 (((zz.1.2.1).map (·.1)).length * 1))), (133, some ((N1, 100133), mapR ev iv (tab (zz.1.2.1))))]) (fun zz => ss.length - zz.1.1) hC (.cons (t := 4) rfl (.cons (t := 6) rfl (.cons (t := 23) rfl (.cons (t := 24) rfl .nil)))) (.cons (t := 4) rfl .nil) rfl ?_ ?_ (fun zz => ?_)
    · try dsimp only [List.cons_append, List.nil_append]
      first | refine SubF.cons rfl ?_ | (refine SubF.ent rfl ?_ ?_; · repeat (first | exact Ent.refl _ | exact Ents.nil | exact Ent.nil _ _ | exact Ent.row _ _ _ _ | exact Ent.func _ | refine Ents.cons ?_ ?_ | refine Ent.tup ?_ | refine Ent.agg ?_ | refine Ent.cells ?_ | exact Ent.of_eq rfl))
      first | refine SubF.cons rfl ?_ | (refine SubF.ent rfl ?_ ?_; · repeat (first | exact Ent.refl _ | exact Ents.nil | exact Ent.nil _ _ | exact Ent.row _ _ _ _ | exact Ent.func _ | refine Ents.cons ?_ ?_ | refine Ent.tup ?_ | refine Ent.agg ?_ | refine Ent.cells ?_ | exact Ent.of_eq rfl))
      exact SubF.nil
    · try dsimp only [List.cons_append, List.nil_append]
      repeat (first | exact SubL.nil | refine SubL.cons rfl ?_)
    · obtain ⟨⟨k, l', n, i1, i2⟩, hk1, hk2, hk4⟩ := zz
      try dsimp only at hk1
      try dsimp only at hk2
      try dsimp only at hk4
      dsimp only [List.cons_append, List.nil_append]
      refine tr_seq ?_
      refine tr_region (fun N6 hN => ?_)
      refine lx (op_lss rfl rfl) rfl ?_
      refine lx_end ⟨by kernel_rfl, ?_⟩
      refine pe_then_normal ?_
      refine tr_sub hC (.cons (t := 4) rfl (.cons (t := 6) rfl (.cons (t := 8) rfl (.cons (t := 23) rfl (.cons (t := 24) rfl (.cons (t := 25) rfl (.cons (t := 26) rfl .nil))))))) (.cons (t := 130) rfl (.cons (t := 131) rfl (.cons (t := 132) rfl (.cons (t := 133) rfl (.cons (t := 4) rfl .nil))))) rfl ?_
      refine tr_seq ?_
      refine tr_cond rfl (fun h26 => ?_) (fun h26 => ?_)
      · (try simp only [Bool.and_eq_true, Bool.or_eq_true, Bool.and_eq_false_iff, Bool.or_eq_false_iff, decide_eq_true_eq, decide_eq_false_iff_not, Bool.not_eq_true', Bool.not_eq_false', List.length_map, ne_eq, Decidable.not_not, Int.not_lt, Int.not_le] at h26)
        refine tr_skip ?_
        refine pe_then_normal ?_
        refine tr_sub hC (.cons (t := 4) rfl (.cons (t := 6) rfl (.cons (t := 8) rfl (.cons (t := 23) rfl (.cons (t := 24) rfl (.cons (t := 25) rfl .nil)))))) (.cons (t := 130) rfl (.cons (t := 131) rfl (.cons (t := 132) rfl (.cons (t := 133) rfl (.cons (t := 4) rfl .nil))))) rfl ?_
        refine tr_seq ?_
        refine tr_block ?_
        refine tr_seq ?_
        refine tr_region (fun N7 hN => ?_)
        refine lx (op_index rfl rfl el22 sz29 rfl (List.getElem?_eq_getElem (by omega : k < ss.length))) rfl ?_
        first | refine lx (op_load_all rfl ag29 sz29) rfl ?_ | refine lx (op_load_agg rfl ag29 sz29 rfl) rfl ?_ | refine lx (op_bload (m := 130) rfl rfl ag29 sz29) rfl ?_ | refine lx (op_bload (m := 131) rfl rfl ag29 sz29) rfl ?_ | refine lx (op_bload (m := 132) rfl rfl ag29 sz29) rfl ?_ | refine lx (op_bload (m := 133) rfl rfl ag29 sz29) rfl ?_ | refine lx (op_bload (m := 4) rfl rfl ag29 sz29) rfl ?_ | refine lx (op_bload_part (m := 130) rfl rfl ag29 sz29 rfl rfl) rfl ?_ | refine lx (op_bload_part (m := 131) rfl rfl ag29 sz29 rfl rfl) rfl ?_ | refine lx (op_bload_part (m := 132) rfl rfl ag29 sz29 rfl rfl) rfl ?_ | refine lx (op_bload_part (m := 133) rfl rfl ag29 sz29 rfl rfl) rfl ?_ | refine lx (op_bload_part (m := 4) rfl rfl ag29 sz29 rfl rfl) rfl ?_
        refine lxn (op_alloc (m := 10) (k := 10) (ps := [eqP (.int .i64 0), eqP (.int .i64 0)]) ze29 rfl rfl (by first | exact hC.low _ (by decide) | rfl)) rfl ?_
        first | refine lxr (op_store_all (m := 10) rfl rfl rfl (.agg rfl) sz29 rfl) rfl ?_ | refine lxr (op_store (m := 10) rfl rfl rfl (.agg rfl) sz29 rfl rfl rfl) rfl ?_
        refine lx_end ⟨by kernel_rfl, ?_⟩
        refine pe_then_normal ?_
        refine tr_sub hC (.cons (t := 4) rfl (.cons (t := 6) rfl (.cons (t := 8) rfl (.cons (t := 10) rfl (.cons (t := 23) rfl (.cons (t := 24) rfl (.cons (t := 25) rfl .nil))))))) (.cons (t := 130) rfl (.cons (t := 131) rfl (.cons (t := 132) rfl (.cons (t := 133) rfl (.cons (t := 4) rfl (.cons (t := 10) rfl .nil)))))) rfl ?_
        refine tr_region (fun N8 hN => ?_)
        refine lx (op_move rfl) rfl ?_
        refine lx (op_move rfl) rfl ?_
        first | refine lx (op_bload (m := 10) rfl rfl ag29 sz29) rfl ?_ | refine lx (op_bload_part (m := 10) rfl rfl ag29 sz29 rfl rfl) rfl ?_
        first | refine lx_any rfl (op_callG2 (l := [(Go.Operand.tmp 29), (Go.Operand.tmp 30), (Go.Operand.tmp 31)]) (add := [(130, ((N1, 100130), blk 52 [rowP ((N8, 100320)) sp 2 (((pushE l' (n, ss[k])).1).map (·.2)), rowP ((N8, 100321)) ip 1 (((pushE l' (n, ss[k])).1).map (·.1)), mapP ((N1, 100133))])), (131, ((N8, 100320), tail 29 2 ((((pushE l' (n, ss[k])).1).map (·.2)).length * 2))), (132, ((N8, 100321), tail 3 1 ((((pushE l' (n, ss[k])).1).map (·.1)).length * 1))), (133, ((N1, 100133), mapR ev iv (tab ((pushE l' (n, ss[k])).1))))]) (ks := [100320, 100321]) (φ := eqP (.int .i64 ((pushE l' (n, ss[k])).2 : Int))) (.cons (m := 130) rfl (.cons (m := 131) rfl (.cons (m := 132) rfl (.cons (m := 133) rfl .nil)))) (push_ok _ _ _ _ l' n ss[k] (by omega)) (.cons rfl (.cons rfl (.cons rfl .nil))) fn27 rfl rfl rfl (.old rfl (.old rfl (.old rfl (.old rfl .nil)))) rfl) (dOK_spec rfl) ?_ | refine lx_any rfl (op_callG2 (l := [(Go.Operand.tmp 29), (Go.Operand.tmp 30), (Go.Operand.tmp 31)]) (add := [(130, ((N1, 100130), blk 52 [rowP ((N8, 100320)) sp 2 (((pushE l' (n, ss[k])).1).map (·.2)), rowP ((N8, 100321)) ip 1 (((pushE l' (n, ss[k])).1).map (·.1)), mapP ((N1, 100133))])), (131, ((N8, 100320), tail 29 2 ((((pushE l' (n, ss[k])).1).map (·.2)).length * 2))), (132, ((N8, 100321), tail 3 1 ((((pushE l' (n, ss[k])).1).map (·.1)).length * 1))), (133, ((N1, 100133), mapR ev iv (tab ((pushE l' (n, ss[k])).1))))]) (ks := [100320, 100321]) (φ := eqP (.int .i64 ((pushE l' (n, ss[k])).2 : Int))) (.cons (m := 130) rfl (.cons (m := 131) rfl (.cons (m := 132) rfl (.cons (m := 133) rfl .nil)))) (push_ok _ _ _ _ l' n ss[k] (by omega)) (.ent rfl (by repeat (first | exact Ent.refl _ | exact Ents.nil | exact Ent.nil _ _ | exact Ent.row _ _ _ _ | exact Ent.func _ | refine Ents.cons ?_ ?_ | refine Ent.tup ?_ | refine Ent.agg ?_ | refine Ent.cells ?_ | exact Ent.of_eq rfl)) (.ent rfl (by repeat (first | exact Ent.refl _ | exact Ents.nil | exact Ent.nil _ _ | exact Ent.row _ _ _ _ | exact Ent.func _ | refine Ents.cons ?_ ?_ | refine Ent.tup ?_ | refine Ent.agg ?_ | refine Ent.cells ?_ | exact Ent.of_eq rfl)) (.ent rfl (by repeat (first | exact Ent.refl _ | exact Ents.nil | exact Ent.nil _ _ | exact Ent.row _ _ _ _ | exact Ent.func _ | refine Ents.cons ?_ ?_ | refine Ent.tup ?_ | refine Ent.agg ?_ | refine Ent.cells ?_ | exact Ent.of_eq rfl)) .nil))) fn27 rfl rfl rfl (.old rfl (.old rfl (.old rfl (.old rfl .nil)))) rfl) (dOK_spec rfl) ?_
        refine lx (op_assign rfl) rfl ?_
        refine lx_end ⟨by kernel_rfl, ?_⟩
        refine pe_block_normal ?_
        refine pe_then_normal ?_
        refine tr_sub hC (.cons (t := 4) rfl (.cons (t := 6) rfl (.cons (t := 8) rfl (.cons (t := 23) rfl (.cons (t := 24) rfl (.cons (t := 25) rfl .nil)))))) (.cons (t := 4) rfl (.cons (t := 130) rfl (.cons (t := 131) rfl (.cons (t := 132) rfl (.cons (t := 133) rfl .nil))))) rfl ?_
        refine tr_region (fun N9 hN => ?_)
        refine lx (op_add rfl rfl (by omega)) rfl ?_
        refine lx (op_move rfl) rfl ?_
        refine lx_end ⟨by kernel_rfl, ?_⟩
        refine pe_round (⟨(k + 1, (pushE l' (n, ss[k])).1, ((pushE l' (n, ss[k])).2 : Int), (N8, 100320), (N8, 100321)), by dsimp only; omega, put_step (by omega) hk2, by have := pushE_len l' (n, ss[k]); dsimp only; omega⟩) (by dsimp only; omega) (pe_st hC ?_ ?_ rfl)
        · try dsimp only [List.cons_append, List.nil_append]
          first | refine SubF.cons rfl ?_ | (refine SubF.ent rfl ?_ ?_; · repeat (first | exact Ent.refl _ | exact Ents.nil | exact Ent.nil _ _ | exact Ent.row _ _ _ _ | exact Ent.func _ | refine Ents.cons ?_ ?_ | refine Ent.tup ?_ | refine Ent.agg ?_ | refine Ent.cells ?_ | exact Ent.of_eq rfl))
          first | refine SubF.cons rfl ?_ | (refine SubF.ent rfl ?_ ?_; · repeat (first | exact Ent.refl _ | exact Ents.nil | exact Ent.nil _ _ | exact Ent.row _ _ _ _ | exact Ent.func _ | refine Ents.cons ?_ ?_ | refine Ent.tup ?_ | refine Ent.agg ?_ | refine Ent.cells ?_ | exact Ent.of_eq rfl))
          first | refine SubF.cons rfl ?_ | (refine SubF.ent rfl ?_ ?_; · repeat (first | exact Ent.refl _ | exact Ents.nil | exact Ent.nil _ _ | exact Ent.row _ _ _ _ | exact Ent.func _ | refine Ents.cons ?_ ?_ | refine Ent.tup ?_ | refine Ent.agg ?_ | refine Ent.cells ?_ | exact Ent.of_eq rfl))
          first | refine SubF.cons rfl ?_ | (refine SubF.ent rfl ?_ ?_; · repeat (first | exact Ent.refl _ | exact Ents.nil | exact Ent.nil _ _ | exact Ent.row _ _ _ _ | exact Ent.func _ | refine Ents.cons ?_ ?_ | refine Ent.tup ?_ | refine Ent.agg ?_ | refine Ent.cells ?_ | exact Ent.of_eq rfl))
          first | refine SubF.cons rfl ?_ | (refine SubF.ent rfl ?_ ?_; · repeat (first | exact Ent.refl _ | exact Ents.nil | exact Ent.nil _ _ | exact Ent.row _ _ _ _ | exact Ent.func _ | refine Ents.cons ?_ ?_ | refine Ent.tup ?_ | refine Ent.agg ?_ | refine Ent.cells ?_ | exact Ent.of_eq rfl))
          first | refine SubF.cons rfl ?_ | (refine SubF.ent rfl ?_ ?_; · repeat (first | exact Ent.refl _ | exact Ents.nil | exact Ent.nil _ _ | exact Ent.row _ _ _ _ | exact Ent.func _ | refine Ents.cons ?_ ?_ | refine Ent.tup ?_ | refine Ent.agg ?_ | refine Ent.cells ?_ | exact Ent.of_eq rfl))
          exact SubF.nil
        · try dsimp only [List.cons_append, List.nil_append]
          repeat (first | exact SubL.nil | refine SubL.cons rfl ?_)
      · (try simp only [Bool.and_eq_true, Bool.or_eq_true, Bool.and_eq_false_iff, Bool.or_eq_false_iff, decide_eq_true_eq, decide_eq_false_iff_not, Bool.not_eq_true', Bool.not_eq_false', List.length_map, ne_eq, Decidable.not_not, Int.not_lt, Int.not_le] at h26)
        have hk3 : k = ss.length := by omega
        rw [hk3, List.drop_length] at hk2
        simp only [putE] at hk2
        refine tr_exit ?_
        refine pe_then_exit ?_
        refine pe_then_exit ?_
        refine pe_block_eq ?_
        refine pe_then_normal ?_
        refine tr_sub hC (.cons (t := 4) rfl (.cons (t := 6) rfl (.cons (t := 8) rfl .nil))) (.cons (t := 130) rfl (.cons (t := 131) rfl (.cons (t := 132) rfl (.cons (t := 133) rfl (.cons (t := 4) rfl .nil))))) rfl ?_
        refine tr_seq ?_
        refine tr_region (fun N10 hN => ?_)
        refine lx (op_move rfl) rfl ?_
        first | refine lx (op_nilCheck rfl) rfl ?_ | refine lx (op_nilCheckC rfl) rfl ?_
        refine lx (op_fieldAddr rfl fl52_0 sz25) rfl ?_
        first | refine lx (op_bload (m := 130) rfl rfl ag25 sz25) rfl ?_ | refine lx (op_bload_part (m := 130) rfl rfl ag25 sz25 rfl rfl) rfl ?_
        refine lx (op_move rfl) rfl ?_
        first | refine lxr (op_store_all (m := 4) rfl rfl rfl (.agg rfl) sz25 rfl) rfl ?_ | refine lxr (op_store (m := 4) rfl rfl rfl (.agg rfl) sz25 rfl rfl rfl) rfl ?_
        refine lx (op_assign rfl) rfl ?_
        refine lx_end ⟨by kernel_rfl, ?_⟩
        refine pe_then_normal ?_
        refine tr_sub hC (.cons (t := 4) rfl (.cons (t := 5) rfl .nil)) (.cons (t := 130) rfl (.cons (t := 131) rfl (.cons (t := 132) rfl (.cons (t := 133) rfl (.cons (t := 4) rfl .nil))))) rfl ?_
        refine tr_ret ?_
        refine pe_retN (rs := [.cell 4 25, .tmp 5]) rfl rfl hO rfl (.cell (m := 4) rfl rfl ag25 sz25 (.tmp rfl .nil)) ?_
        rw [hyes, ← hk2]
        repeat (first | exact Ent.refl _ | exact Ents.nil | exact Ent.nil _ _ | exact Ent.row _ _ _ _ | exact Ent.func _ | refine Ents.cons ?_ ?_ | refine Ent.tup ?_ | refine Ent.agg ?_ | refine Ent.cells ?_ | exact Ent.of_eq rfl)

theorem rPut_n (d : Dep) (hv : validF d = false) (hx : d.sites.length ≤ 400000) (ss : List Site) (hs : ss.length ≤ 400000) : FnP Try.prog 18 [aggP d.ps, slP sp 2 ss] (tupP [aggP (putF d ss).1.ps, eqP (.int .i64 (putF d ss).2)]) := by
  refine fn_pure' Try.func18 rfl Try.ntmps18 rfl ?_
  intro σ0 M ex Rf R hC hO
  simp only [frameOf, tokOf]
  refine tr_seq ?_
  refine tr_region (fun N0 hN => ?_)
  refine lxn (op_box (m := 2) (k := 2) rfl (.agg rfl) (by first | exact hC.low _ (by decide) | rfl)) rfl ?_
  refine lxn (op_alloc (m := 4) (k := 4) (ps := [eqP (.slice none 0 0), eqP (.slice none 0 0)]) ze25 rfl rfl (by first | exact hC.low _ (by decide) | rfl)) rfl ?_
  refine lx (op_assign rfl) rfl ?_
  refine lx_end ⟨by kernel_rfl, ?_⟩
  refine pe_then_normal ?_
  refine tr_sub hC (.cons (t := 1) rfl (.cons (t := 2) rfl (.cons (t := 4) rfl .nil))) (.cons (t := 2) rfl (.cons (t := 4) rfl .nil)) rfl ?_
  refine tr_seq ?_
  refine tr_region (fun N1 hN => ?_)
  refine lx (op_assign rfl) rfl ?_
  refine lx_end ⟨by kernel_rfl, ?_⟩
  refine pe_then_normal ?_
  refine tr_sub hC (.cons (t := 1) rfl (.cons (t := 2) rfl (.cons (t := 4) rfl (.cons (t := 6) rfl .nil)))) (.cons (t := 2) rfl (.cons (t := 4) rfl .nil)) rfl ?_
  refine tr_seq ?_
  refine tr_seq ?_
  refine tr_region (fun N2 hN => ?_)
  first | refine lx (op_bload (m := 2) rfl rfl ag25 sz25) rfl ?_ | refine lx (op_bload_part (m := 2) rfl rfl ag25 sz25 rfl rfl) rfl ?_
  first | refine lx (op_call (l := [(Go.Operand.tmp 9)]) (rvalid_ok _ (by omega)) (.cons rfl .nil) fn13) rfl ?_ | refine lx (op_call (l := [(Go.Operand.tmp 9)]) (rvalid_ok _ (by omega)) (.ent rfl (by repeat (first | exact Ent.refl _ | exact Ents.nil | exact Ent.nil _ _ | exact Ent.row _ _ _ _ | exact Ent.func _ | refine Ents.cons ?_ ?_ | refine Ent.tup ?_ | refine Ent.agg ?_ | refine Ent.cells ?_ | exact Ent.of_eq rfl)) .nil) fn13) rfl ?_
  first | refine lx (op_not rfl) rfl ?_ | refine lx (op_not_b rfl) rfl ?_
  refine lx_end ⟨by kernel_rfl, ?_⟩
  refine pe_then_normal ?_
  refine tr_sub hC (.cons (t := 1) rfl (.cons (t := 2) rfl (.cons (t := 4) rfl (.cons (t := 6) rfl (.cons (t := 11) rfl .nil))))) (.cons (t := 2) rfl (.cons (t := 4) rfl .nil)) rfl ?_
  refine tr_cond rfl (fun h11 => ?_) (fun h11 => ?_)
  · (try simp only [Bool.and_eq_true, Bool.or_eq_true, Bool.and_eq_false_iff, Bool.or_eq_false_iff, decide_eq_true_eq, decide_eq_false_iff_not, Bool.not_eq_true', Bool.not_eq_false', List.length_map, ne_eq, Decidable.not_not, Int.not_lt, Int.not_le] at h11)
    refine tr_seq ?_
    refine tr_region (fun N3 hN => ?_)
    refine lx (op_build (parts := []) ze25 rfl rfl fs25 .nil rfl rfl) rfl ?_
    first | refine lxr (op_store_all (m := 4) rfl rfl rfl (.agg rfl) sz25 rfl) rfl ?_ | refine lxr (op_store (m := 4) rfl rfl rfl (.agg rfl) sz25 rfl rfl rfl) rfl ?_
    refine lx (op_assign rfl) rfl ?_
    refine lx_end ⟨by kernel_rfl, ?_⟩
    refine pe_then_normal ?_
    refine tr_sub hC (.cons (t := 4) rfl (.cons (t := 5) rfl .nil)) (.cons (t := 4) rfl .nil) rfl ?_
    refine tr_ret ?_
    refine pe_then_ret ?_
    refine pe_retN (rs := [.cell 4 25, .tmp 5]) rfl rfl hO rfl (.cell (m := 4) rfl rfl ag25 sz25 (.tmp rfl .nil)) ?_
    rw [putF_no (fun h => by rw [hv] at h; exact absurd h.1 (by simp))]
    repeat (first | exact Ent.refl _ | exact Ents.nil | exact Ent.nil _ _ | exact Ent.row _ _ _ _ | exact Ent.func _ | refine Ents.cons ?_ ?_ | refine Ent.tup ?_ | refine Ent.agg ?_ | refine Ent.cells ?_ | exact Ent.of_eq rfl)
  · exact absurd h11 (by rw [hv]; simp)

theorem rPut_v (l : List E) (hv : validE l = true) (hx : l.length ≤ 400000) (ss : List Site) (hs : ss.length ≤ 400000) : FnP Try.prog 18 [aggP (ofE l).ps, slP sp 2 ss] (tupP [aggP (putF (ofE l) ss).1.ps, eqP (.int .i64 (putF (ofE l) ss).2)]) := by
  refine fn_pure' Try.func18 rfl Try.ntmps18 rfl ?_
  intro σ0 M ex Rf R hC hO
  simp only [frameOf, tokOf]
  refine tr_seq ?_
  refine tr_region (fun N0 hN => ?_)
  refine lxn (op_box (m := 2) (k := 2) rfl (.agg rfl) (by first | exact hC.low _ (by decide) | rfl)) rfl ?_
  refine lxn (op_alloc (m := 4) (k := 4) (ps := [eqP (.slice none 0 0), eqP (.slice none 0 0)]) ze25 rfl rfl (by first | exact hC.low _ (by decide) | rfl)) rfl ?_
  refine lx (op_assign rfl) rfl ?_
  refine lx_end ⟨by kernel_rfl, ?_⟩
  refine pe_then_normal ?_
  refine tr_sub hC (.cons (t := 1) rfl (.cons (t := 2) rfl (.cons (t := 4) rfl .nil))) (.cons (t := 2) rfl (.cons (t := 4) rfl .nil)) rfl ?_
  refine tr_seq ?_
  refine tr_region (fun N1 hN => ?_)
  refine lx (op_assign rfl) rfl ?_
  refine lx_end ⟨by kernel_rfl, ?_⟩
  refine pe_then_normal ?_
  refine tr_sub hC (.cons (t := 1) rfl (.cons (t := 2) rfl (.cons (t := 4) rfl (.cons (t := 6) rfl .nil)))) (.cons (t := 2) rfl (.cons (t := 4) rfl .nil)) rfl ?_
  refine tr_seq ?_
  refine tr_seq ?_
  refine tr_region (fun N2 hN => ?_)
  first | refine lx (op_bload (m := 2) rfl rfl ag25 sz25) rfl ?_ | refine lx (op_bload_part (m := 2) rfl rfl ag25 sz25 rfl rfl) rfl ?_
  first | refine lx (op_call (l := [(Go.Operand.tmp 9)]) (rvalid_ok (ofE l) (by rw [lenS]; omega)) (.cons rfl .nil) fn13) rfl ?_ | refine lx (op_call (l := [(Go.Operand.tmp 9)]) (rvalid_ok (ofE l) (by rw [lenS]; omega)) (.ent rfl (by repeat (first | exact Ent.refl _ | exact Ents.nil | exact Ent.nil _ _ | exact Ent.row _ _ _ _ | exact Ent.func _ | refine Ents.cons ?_ ?_ | refine Ent.tup ?_ | refine Ent.agg ?_ | refine Ent.cells ?_ | exact Ent.of_eq rfl)) .nil) fn13) rfl ?_
  first | refine lx (op_not rfl) rfl ?_ | refine lx (op_not_b rfl) rfl ?_
  refine lx_end ⟨by kernel_rfl, ?_⟩
  refine pe_then_normal ?_
  refine tr_sub hC (.cons (t := 1) rfl (.cons (t := 2) rfl (.cons (t := 4) rfl (.cons (t := 6) rfl (.cons (t := 11) rfl .nil))))) (.cons (t := 2) rfl (.cons (t := 4) rfl .nil)) rfl ?_
  refine tr_cond rfl (fun h11 => ?_) (fun h11 => ?_)
  · exact absurd h11 (by rw [valid_of hv]; simp)
  · (try simp only [Bool.and_eq_true, Bool.or_eq_true, Bool.and_eq_false_iff, Bool.or_eq_false_iff, decide_eq_true_eq, decide_eq_false_iff_not, Bool.not_eq_true', Bool.not_eq_false', List.length_map, ne_eq, Decidable.not_not, Int.not_lt, Int.not_le] at h11)
    refine tr_skip ?_
    refine pe_then_normal ?_
    refine tr_sub hC (.cons (t := 1) rfl (.cons (t := 2) rfl (.cons (t := 4) rfl (.cons (t := 6) rfl .nil)))) (.cons (t := 2) rfl (.cons (t := 4) rfl .nil)) rfl ?_
    refine tr_seq ?_
    refine tr_seq ?_
    refine tr_region (fun N4 hN => ?_)
    refine lx (op_assign rfl) rfl ?_
    refine lx_end ⟨by kernel_rfl, ?_⟩
    refine pe_then_normal ?_
    refine tr_sub hC (.cons (t := 1) rfl (.cons (t := 2) rfl (.cons (t := 4) rfl (.cons (t := 6) rfl (.cons (t := 7) rfl .nil))))) (.cons (t := 2) rfl (.cons (t := 4) rfl .nil)) rfl ?_
    refine tr_block ?_
    refine tr_loopK (α := {zz : Nat // zz ≤ ss.length ∧ ∀ x ∈ ss.take zz, (!proper x) = false}) (⟨(0), Nat.zero_le _, by simp⟩) (fun zz => [(7, eqP (.int .i64 (zz.1 : Int)))]) (fun zz => []) (fun zz => ss.length - zz.1) hC (.cons (t := 1) rfl (.cons (t := 2) rfl (.cons (t := 4) rfl (.cons (t := 6) rfl .nil)))) (.cons (t := 2) rfl (.cons (t := 4) rfl .nil)) rfl ?_ ?_ (fun zz => ?_)
    · try dsimp only [List.cons_append, List.nil_append]
      first | refine SubF.cons rfl ?_ | (refine SubF.ent rfl ?_ ?_; · repeat (first | exact Ent.refl _ | exact Ents.nil | exact Ent.nil _ _ | exact Ent.row _ _ _ _ | exact Ent.func _ | refine Ents.cons ?_ ?_ | refine Ent.tup ?_ | refine Ent.agg ?_ | refine Ent.cells ?_ | exact Ent.of_eq rfl))
      exact SubF.nil
    · try dsimp only [List.cons_append, List.nil_append]
      repeat (first | exact SubL.nil | refine SubL.cons rfl ?_)
    · obtain ⟨k, hk1, hk2⟩ := zz
      dsimp only [List.cons_append, List.nil_append]
      refine tr_seq ?_
      refine tr_seq ?_
      refine tr_region (fun N5 hN => ?_)
      refine lx (op_move rfl) rfl ?_
      refine lx (op_move rfl) rfl ?_
      first | refine lx (op_len rfl el22) rfl ?_ | refine lx (op_len_row rfl el22) rfl ?_ | refine lx (op_len_mv rfl el22) rfl ?_
      refine lx (op_lss rfl rfl) rfl ?_
      refine lx_end ⟨by kernel_rfl, ?_⟩
      refine pe_then_normal ?_
      refine tr_sub hC (.cons (t := 1) rfl (.cons (t := 2) rfl (.cons (t := 4) rfl (.cons (t := 6) rfl (.cons (t := 7) rfl (.cons (t := 16) rfl .nil)))))) (.cons (t := 2) rfl (.cons (t := 4) rfl .nil)) rfl ?_
      refine tr_cond rfl (fun h16 => ?_) (fun h16 => ?_)
      · (try simp only [Bool.and_eq_true, Bool.or_eq_true, Bool.and_eq_false_iff, Bool.or_eq_false_iff, decide_eq_true_eq, decide_eq_false_iff_not, Bool.not_eq_true', Bool.not_eq_false', List.length_map, ne_eq, Decidable.not_not, Int.not_lt, Int.not_le] at h16)
        refine tr_skip ?_
        refine pe_then_normal ?_
        refine tr_sub hC (.cons (t := 1) rfl (.cons (t := 2) rfl (.cons (t := 4) rfl (.cons (t := 6) rfl (.cons (t := 7) rfl .nil))))) (.cons (t := 2) rfl (.cons (t := 4) rfl .nil)) rfl ?_
        refine tr_seq ?_
        refine tr_block ?_
        refine tr_seq ?_
        refine tr_region (fun N7 hN => ?_)
        refine lx (op_move rfl) rfl ?_
        refine lx (op_move rfl) rfl ?_
        refine lx (op_index rfl rfl el22 sz29 rfl (List.getElem?_eq_getElem (by omega : k < ss.length))) rfl ?_
        first | refine lx (op_fieldAddr rfl fl29_0 sz3) rfl ?_ | refine lx (op_fieldCells rfl fl29_0 sz3) rfl ?_
        first | refine lx (op_load_one rfl ag3 rfl) rfl ?_ | refine lx (op_bload_one (m := 2) rfl rfl ag3 rfl) rfl ?_ | refine lx (op_bload_one (m := 4) rfl rfl ag3 rfl) rfl ?_
        refine lx (op_lss rfl rfl) rfl ?_
        refine lx (op_move rfl) rfl ?_
        refine lxs rfl rfl rfl guard_eq (.cons (t := 1) rfl (fun _ => Ent.refl _) .nil) (op_move rfl) rfl ?_
        refine lxs rfl rfl rfl guard_eq (.cons (t := 7) rfl (fun _ => Ent.refl _) .nil) (op_move rfl) rfl ?_
        refine lxs rfl rfl rfl guard_eq (.cons (t := 26) rfl (fun h => entW h) (.cons (t := 27) rfl (fun h => entW h) .nil)) (op_index rfl rfl el22 sz29 rfl (List.getElem?_eq_getElem (by omega : k < ss.length))) rfl ?_
        first | refine lxs rfl rfl rfl guard_eq (.cons (t := 28) rfl (fun h => entW h) .nil) (op_fieldAddr rfl fl29_1 sz3) rfl ?_ | refine lxs rfl rfl rfl guard_eq (.cons (t := 28) rfl (fun h => entW h) .nil) (op_fieldCells rfl fl29_1 sz3) rfl ?_
        first | refine lxs rfl rfl rfl guard_eq (.cons (t := 29) rfl (fun h => entW h) .nil) (op_load_one rfl ag3 rfl) rfl ?_ | refine lxs rfl rfl rfl guard_eq (.cons (t := 29) rfl (fun h => entW h) .nil) (op_bload_one (m := 2) rfl rfl ag3 rfl) rfl ?_ | refine lxs rfl rfl rfl guard_eq (.cons (t := 29) rfl (fun h => entW h) .nil) (op_bload_one (m := 4) rfl rfl ag3 rfl) rfl ?_
        refine lxs rfl rfl rfl guard_eq (.cons (t := 30) rfl (fun h => entW h) .nil) (op_lss rfl rfl) rfl ?_
        refine lx (op_pick_or rfl rfl) rfl ?_
        refine lx_end ⟨by kernel_rfl, ?_⟩
        refine pe_then_normal ?_
        refine tr_sub hC (.cons (t := 1) rfl (.cons (t := 2) rfl (.cons (t := 4) rfl (.cons (t := 6) rfl (.cons (t := 7) rfl (.cons (t := 32) rfl .nil)))))) (.cons (t := 2) rfl (.cons (t := 4) rfl .nil)) rfl ?_
        refine tr_cond rfl (fun h32 => ?_) (fun h32 => ?_)
        · (try simp only [Bool.and_eq_true, Bool.or_eq_true, Bool.and_eq_false_iff, Bool.or_eq_false_iff, decide_eq_true_eq, decide_eq_false_iff_not, Bool.not_eq_true', Bool.not_eq_false', List.length_map, ne_eq, Decidable.not_not, Int.not_lt, Int.not_le] at h32)
          have hbad : (!proper ss[k]) = true := by simp only [proper, Bool.not_eq_true', Bool.and_eq_false_iff, decide_eq_false_iff_not]; omega
          have hno := putF_no (put_bad2 (l := l) (by omega) hbad)
          refine tr_seq ?_
          refine tr_region (fun N8 hN => ?_)
          refine lx (op_build (parts := []) ze25 rfl rfl fs25 .nil rfl rfl) rfl ?_
          first | refine lxr (op_store_all (m := 4) rfl rfl rfl (.agg rfl) sz25 rfl) rfl ?_ | refine lxr (op_store (m := 4) rfl rfl rfl (.agg rfl) sz25 rfl rfl rfl) rfl ?_
          refine lx (op_assign rfl) rfl ?_
          refine lx_end ⟨by kernel_rfl, ?_⟩
          refine pe_then_normal ?_
          refine tr_sub hC (.cons (t := 4) rfl (.cons (t := 5) rfl .nil)) (.cons (t := 4) rfl .nil) rfl ?_
          refine tr_ret ?_
          refine pe_block_ret ?_
          refine pe_then_ret ?_
          refine pe_then_ret ?_
          refine pe_block_ret ?_
          refine pe_then_ret ?_
          refine pe_retN (rs := [.cell 4 25, .tmp 5]) rfl rfl hO rfl (.cell (m := 4) rfl rfl ag25 sz25 (.tmp rfl .nil)) ?_
          rw [hno]
          repeat (first | exact Ent.refl _ | exact Ents.nil | exact Ent.nil _ _ | exact Ent.row _ _ _ _ | exact Ent.func _ | refine Ents.cons ?_ ?_ | refine Ent.tup ?_ | refine Ent.agg ?_ | refine Ent.cells ?_ | exact Ent.of_eq rfl)
        · (try simp only [Bool.and_eq_true, Bool.or_eq_true, Bool.and_eq_false_iff, Bool.or_eq_false_iff, decide_eq_true_eq, decide_eq_false_iff_not, Bool.not_eq_true', Bool.not_eq_false', List.length_map, ne_eq, Decidable.not_not, Int.not_lt, Int.not_le] at h32)
          have hgood : (!proper ss[k]) = false := by simp only [proper, Bool.not_eq_false', Bool.and_eq_true, decide_eq_true_eq]; omega
          refine tr_skip ?_
          refine pe_block_normal ?_
          refine pe_then_normal ?_
          refine tr_sub hC (.cons (t := 1) rfl (.cons (t := 2) rfl (.cons (t := 4) rfl (.cons (t := 6) rfl (.cons (t := 7) rfl .nil))))) (.cons (t := 2) rfl (.cons (t := 4) rfl .nil)) rfl ?_
          refine tr_region (fun N6 hN => ?_)
          refine lx (op_move rfl) rfl ?_
          refine lx (op_add rfl rfl (by omega)) rfl ?_
          refine lx (op_assign rfl) rfl ?_
          refine lx_end ⟨by kernel_rfl, ?_⟩
          refine pe_round (⟨(k + 1), by omega, take_all (φ := fun s => !proper s) hk2 (by omega) hgood⟩) (by dsimp only; omega) (pe_st hC ?_ ?_ rfl)
          · try dsimp only [List.cons_append, List.nil_append]
            first | refine SubF.cons rfl ?_ | (refine SubF.ent rfl ?_ ?_; · repeat (first | exact Ent.refl _ | exact Ents.nil | exact Ent.nil _ _ | exact Ent.row _ _ _ _ | exact Ent.func _ | refine Ents.cons ?_ ?_ | refine Ent.tup ?_ | refine Ent.agg ?_ | refine Ent.cells ?_ | exact Ent.of_eq rfl))
            first | refine SubF.cons rfl ?_ | (refine SubF.ent rfl ?_ ?_; · repeat (first | exact Ent.refl _ | exact Ents.nil | exact Ent.nil _ _ | exact Ent.row _ _ _ _ | exact Ent.func _ | refine Ents.cons ?_ ?_ | refine Ent.tup ?_ | refine Ent.agg ?_ | refine Ent.cells ?_ | exact Ent.of_eq rfl))
            first | refine SubF.cons rfl ?_ | (refine SubF.ent rfl ?_ ?_; · repeat (first | exact Ent.refl _ | exact Ents.nil | exact Ent.nil _ _ | exact Ent.row _ _ _ _ | exact Ent.func _ | refine Ents.cons ?_ ?_ | refine Ent.tup ?_ | refine Ent.agg ?_ | refine Ent.cells ?_ | exact Ent.of_eq rfl))
            first | refine SubF.cons rfl ?_ | (refine SubF.ent rfl ?_ ?_; · repeat (first | exact Ent.refl _ | exact Ents.nil | exact Ent.nil _ _ | exact Ent.row _ _ _ _ | exact Ent.func _ | refine Ents.cons ?_ ?_ | refine Ent.tup ?_ | refine Ent.agg ?_ | refine Ent.cells ?_ | exact Ent.of_eq rfl))
            first | refine SubF.cons rfl ?_ | (refine SubF.ent rfl ?_ ?_; · repeat (first | exact Ent.refl _ | exact Ents.nil | exact Ent.nil _ _ | exact Ent.row _ _ _ _ | exact Ent.func _ | refine Ents.cons ?_ ?_ | refine Ent.tup ?_ | refine Ent.agg ?_ | refine Ent.cells ?_ | exact Ent.of_eq rfl))
            exact SubF.nil
          · try dsimp only [List.cons_append, List.nil_append]
            repeat (first | exact SubL.nil | refine SubL.cons rfl ?_)
      · (try simp only [Bool.and_eq_true, Bool.or_eq_true, Bool.and_eq_false_iff, Bool.or_eq_false_iff, decide_eq_true_eq, decide_eq_false_iff_not, Bool.not_eq_true', Bool.not_eq_false', List.length_map, ne_eq, Decidable.not_not, Int.not_lt, Int.not_le] at h16)
        have hk3 : k = ss.length := by omega
        have hyes := putF_yes (put_good2 hv (by rw [hk3, List.take_of_length_le (Nat.le_refl _)] at hk2; exact hk2))
        refine tr_exit ?_
        refine pe_then_exit ?_
        refine pe_then_exit ?_
        refine pe_block_eq ?_
        refine pe_then_normal ?_
        refine tr_sub hC (.cons (t := 1) rfl (.cons (t := 2) rfl (.cons (t := 4) rfl (.cons (t := 6) rfl .nil)))) (.cons (t := 2) rfl (.cons (t := 4) rfl .nil)) rfl ?_
        refine tr_seq ?_
        refine tr_seq ?_
        refine tr_region (fun N9 hN => ?_)
        refine lx (op_assign rfl) rfl ?_
        refine lx_end ⟨by kernel_rfl, ?_⟩
        refine pe_then_normal ?_
        refine tr_sub hC (.cons (t := 1) rfl (.cons (t := 2) rfl (.cons (t := 4) rfl (.cons (t := 6) rfl (.cons (t := 8) rfl .nil))))) (.cons (t := 2) rfl (.cons (t := 4) rfl .nil)) rfl ?_
        refine tr_block ?_
        refine tr_loopK (α := {zz : Nat × (List E) × Int // zz.1 ≤ ss.length ∧ putE zz.2.1 zz.2.2 (ss.drop zz.1) = putE l (-1) ss ∧ zz.2.1.length ≤ l.length + zz.1}) (⟨(0, l, -1), Nat.zero_le _, rfl, Nat.le_refl _⟩) (fun zz => [(6, eqP (.int .i64 zz.1.2.2)), (8, eqP (.int .i64 (zz.1.1 : Int)))]) (fun zz => [(2, some ((N0, 2), blk 25 (ofE zz.1.2.1).ps))]) (fun zz => ss.length - zz.1.1) hC (.cons (t := 1) rfl (.cons (t := 2) rfl (.cons (t := 4) rfl .nil))) (.cons (t := 4) rfl .nil) rfl ?_ ?_ (fun zz => ?_)
        · try dsimp only [List.cons_append, List.nil_append]
          first | refine SubF.cons rfl ?_ | (refine SubF.ent rfl ?_ ?_; · repeat (first | exact Ent.refl _ | exact Ents.nil | exact Ent.nil _ _ | exact Ent.row _ _ _ _ | exact Ent.func _ | refine Ents.cons ?_ ?_ | refine Ent.tup ?_ | refine Ent.agg ?_ | refine Ent.cells ?_ | exact Ent.of_eq rfl))
          first | refine SubF.cons rfl ?_ | (refine SubF.ent rfl ?_ ?_; · repeat (first | exact Ent.refl _ | exact Ents.nil | exact Ent.nil _ _ | exact Ent.row _ _ _ _ | exact Ent.func _ | refine Ents.cons ?_ ?_ | refine Ent.tup ?_ | refine Ent.agg ?_ | refine Ent.cells ?_ | exact Ent.of_eq rfl))
          exact SubF.nil
        · try dsimp only [List.cons_append, List.nil_append]
          repeat (first | exact SubL.nil | refine SubL.cons rfl ?_)
        · obtain ⟨⟨j, l', n⟩, hj1, hj2, hj4⟩ := zz
          try dsimp only at hj1
          try dsimp only at hj2
          try dsimp only at hj4
          dsimp only [List.cons_append, List.nil_append]
          refine tr_seq ?_
          refine tr_seq ?_
          refine tr_region (fun N10 hN => ?_)
          refine lx (op_move rfl) rfl ?_
          refine lx (op_move rfl) rfl ?_
          first | refine lx (op_len rfl el22) rfl ?_ | refine lx (op_len_row rfl el22) rfl ?_ | refine lx (op_len_mv rfl el22) rfl ?_
          refine lx (op_lss rfl rfl) rfl ?_
          refine lx_end ⟨by kernel_rfl, ?_⟩
          refine pe_then_normal ?_
          refine tr_sub hC (.cons (t := 1) rfl (.cons (t := 2) rfl (.cons (t := 4) rfl (.cons (t := 6) rfl (.cons (t := 8) rfl (.cons (t := 37) rfl .nil)))))) (.cons (t := 2) rfl (.cons (t := 4) rfl .nil)) rfl ?_
          refine tr_cond rfl (fun h37 => ?_) (fun h37 => ?_)
          · (try simp only [Bool.and_eq_true, Bool.or_eq_true, Bool.and_eq_false_iff, Bool.or_eq_false_iff, decide_eq_true_eq, decide_eq_false_iff_not, Bool.not_eq_true', Bool.not_eq_false', List.length_map, ne_eq, Decidable.not_not, Int.not_lt, Int.not_le] at h37)
            refine tr_skip ?_
            refine pe_then_normal ?_
            refine tr_sub hC (.cons (t := 1) rfl (.cons (t := 2) rfl (.cons (t := 4) rfl (.cons (t := 6) rfl (.cons (t := 8) rfl .nil))))) (.cons (t := 2) rfl (.cons (t := 4) rfl .nil)) rfl ?_
            refine tr_seq ?_
            refine tr_block ?_
            refine tr_drawn mixed (fun N12 hN => ?_)
            first | refine lx (op_bload (m := 2) rfl rfl ag25 sz25) rfl ?_ | refine lx (op_bload_part (m := 2) rfl rfl ag25 sz25 rfl rfl) rfl ?_
            refine lx (op_move rfl) rfl ?_
            refine lx (op_move rfl) rfl ?_
            refine lx (op_move rfl) rfl ?_
            refine lx (op_index rfl rfl el22 sz29 rfl (List.getElem?_eq_getElem (by omega : j < ss.length))) rfl ?_
            first | refine lx (op_load_all rfl ag29 sz29) rfl ?_ | refine lx (op_load_agg rfl ag29 sz29 rfl) rfl ?_ | refine lx (op_bload (m := 2) rfl rfl ag29 sz29) rfl ?_ | refine lx (op_bload (m := 4) rfl rfl ag29 sz29) rfl ?_ | refine lx (op_bload_part (m := 2) rfl rfl ag29 sz29 rfl rfl) rfl ?_ | refine lx (op_bload_part (m := 4) rfl rfl ag29 sz29 rfl rfl) rfl ?_
            first | refine lx (op_call (l := [(Go.Operand.tmp 41), (Go.Operand.tmp 42), (Go.Operand.tmp 46)]) (rpush_ok l' n ss[j] (by omega)) (.cons rfl (.cons rfl (.cons rfl .nil))) fn28) rfl ?_ | refine lx (op_call (l := [(Go.Operand.tmp 41), (Go.Operand.tmp 42), (Go.Operand.tmp 46)]) (rpush_ok l' n ss[j] (by omega)) (.ent rfl (by repeat (first | exact Ent.refl _ | exact Ents.nil | exact Ent.nil _ _ | exact Ent.row _ _ _ _ | exact Ent.func _ | refine Ents.cons ?_ ?_ | refine Ent.tup ?_ | refine Ent.agg ?_ | refine Ent.cells ?_ | exact Ent.of_eq rfl)) (.ent rfl (by repeat (first | exact Ent.refl _ | exact Ents.nil | exact Ent.nil _ _ | exact Ent.row _ _ _ _ | exact Ent.func _ | refine Ents.cons ?_ ?_ | refine Ent.tup ?_ | refine Ent.agg ?_ | refine Ent.cells ?_ | exact Ent.of_eq rfl)) (.ent rfl (by repeat (first | exact Ent.refl _ | exact Ents.nil | exact Ent.nil _ _ | exact Ent.row _ _ _ _ | exact Ent.func _ | refine Ents.cons ?_ ?_ | refine Ent.tup ?_ | refine Ent.agg ?_ | refine Ent.cells ?_ | exact Ent.of_eq rfl)) .nil))) fn28) rfl ?_
            refine lx (op_move rfl) rfl ?_
            refine lx (op_extract rfl rfl) rfl ?_
            refine lx (op_extract rfl rfl) rfl ?_
            first | refine lxr (op_store_all (m := 2) rfl rfl rfl (.agg rfl) sz25 rfl) rfl ?_ | refine lxr (op_store (m := 2) rfl rfl rfl (.agg rfl) sz25 rfl rfl rfl) rfl ?_
            refine lx (op_assign rfl) rfl ?_
            refine lx_end ⟨by kernel_rfl, ?_⟩
            refine pe_block_normal ?_
            refine pe_then_normal ?_
            refine tr_sub hC (.cons (t := 1) rfl (.cons (t := 2) rfl (.cons (t := 4) rfl (.cons (t := 6) rfl (.cons (t := 8) rfl .nil))))) (.cons (t := 2) rfl (.cons (t := 4) rfl .nil)) rfl ?_
            refine tr_region (fun N11 hN => ?_)
            refine lx (op_move rfl) rfl ?_
            refine lx (op_add rfl rfl (by omega)) rfl ?_
            refine lx (op_assign rfl) rfl ?_
            refine lx_end ⟨by kernel_rfl, ?_⟩
            refine pe_round (⟨(j + 1, (pushE l' (n, ss[j])).1, ((pushE l' (n, ss[j])).2 : Int)), by dsimp only; omega, put_step (by omega) hj2, by have := pushE_len l' (n, ss[j]); dsimp only; omega⟩) (by dsimp only; omega) (pe_st hC ?_ ?_ rfl)
            · try dsimp only [List.cons_append, List.nil_append]
              first | refine SubF.cons rfl ?_ | (refine SubF.ent rfl ?_ ?_; · repeat (first | exact Ent.refl _ | exact Ents.nil | exact Ent.nil _ _ | exact Ent.row _ _ _ _ | exact Ent.func _ | refine Ents.cons ?_ ?_ | refine Ent.tup ?_ | refine Ent.agg ?_ | refine Ent.cells ?_ | exact Ent.of_eq rfl))
              first | refine SubF.cons rfl ?_ | (refine SubF.ent rfl ?_ ?_; · repeat (first | exact Ent.refl _ | exact Ents.nil | exact Ent.nil _ _ | exact Ent.row _ _ _ _ | exact Ent.func _ | refine Ents.cons ?_ ?_ | refine Ent.tup ?_ | refine Ent.agg ?_ | refine Ent.cells ?_ | exact Ent.of_eq rfl))
              first | refine SubF.cons rfl ?_ | (refine SubF.ent rfl ?_ ?_; · repeat (first | exact Ent.refl _ | exact Ents.nil | exact Ent.nil _ _ | exact Ent.row _ _ _ _ | exact Ent.func _ | refine Ents.cons ?_ ?_ | refine Ent.tup ?_ | refine Ent.agg ?_ | refine Ent.cells ?_ | exact Ent.of_eq rfl))
              first | refine SubF.cons rfl ?_ | (refine SubF.ent rfl ?_ ?_; · repeat (first | exact Ent.refl _ | exact Ents.nil | exact Ent.nil _ _ | exact Ent.row _ _ _ _ | exact Ent.func _ | refine Ents.cons ?_ ?_ | refine Ent.tup ?_ | refine Ent.agg ?_ | refine Ent.cells ?_ | exact Ent.of_eq rfl))
              first | refine SubF.cons rfl ?_ | (refine SubF.ent rfl ?_ ?_; · repeat (first | exact Ent.refl _ | exact Ents.nil | exact Ent.nil _ _ | exact Ent.row _ _ _ _ | exact Ent.func _ | refine Ents.cons ?_ ?_ | refine Ent.tup ?_ | refine Ent.agg ?_ | refine Ent.cells ?_ | exact Ent.of_eq rfl))
              exact SubF.nil
            · try dsimp only [List.cons_append, List.nil_append]
              repeat (first | exact SubL.nil | refine SubL.cons rfl ?_)
          · (try simp only [Bool.and_eq_true, Bool.or_eq_true, Bool.and_eq_false_iff, Bool.or_eq_false_iff, decide_eq_true_eq, decide_eq_false_iff_not, Bool.not_eq_true', Bool.not_eq_false', List.length_map, ne_eq, Decidable.not_not, Int.not_lt, Int.not_le] at h37)
            have hj3 : j = ss.length := by omega
            rw [hj3, List.drop_length] at hj2
            simp only [putE] at hj2
            refine tr_exit ?_
            refine pe_then_exit ?_
            refine pe_then_exit ?_
            refine pe_block_eq ?_
            refine pe_then_normal ?_
            refine tr_sub hC (.cons (t := 2) rfl (.cons (t := 4) rfl (.cons (t := 6) rfl .nil))) (.cons (t := 2) rfl (.cons (t := 4) rfl .nil)) rfl ?_
            refine tr_seq ?_
            refine tr_region (fun N13 hN => ?_)
            first | refine lx (op_bload (m := 2) rfl rfl ag25 sz25) rfl ?_ | refine lx (op_bload_part (m := 2) rfl rfl ag25 sz25 rfl rfl) rfl ?_
            refine lx (op_move rfl) rfl ?_
            first | refine lxr (op_store_all (m := 4) rfl rfl rfl (.agg rfl) sz25 rfl) rfl ?_ | refine lxr (op_store (m := 4) rfl rfl rfl (.agg rfl) sz25 rfl rfl rfl) rfl ?_
            refine lx (op_assign rfl) rfl ?_
            refine lx_end ⟨by kernel_rfl, ?_⟩
            refine pe_then_normal ?_
            refine tr_sub hC (.cons (t := 4) rfl (.cons (t := 5) rfl .nil)) (.cons (t := 4) rfl .nil) rfl ?_
            refine tr_ret ?_
            refine pe_retN (rs := [.cell 4 25, .tmp 5]) rfl rfl hO rfl (.cell (m := 4) rfl rfl ag25 sz25 (.tmp rfl .nil)) ?_
            rw [hyes, ← hj2]
            repeat (first | exact Ent.refl _ | exact Ents.nil | exact Ent.nil _ _ | exact Ent.row _ _ _ _ | exact Ent.func _ | refine Ents.cons ?_ ?_ | refine Ent.tup ?_ | refine Ent.agg ?_ | refine Ent.cells ?_ | exact Ent.of_eq rfl)

theorem Put_ok (d : Dep) (hx : d.sites.length ≤ 400000) (hy : d.parents.length ≤ 400000) (ss : List Site) (hs : ss.length ≤ 400000) : FnP Try.prog 17 [aggP d.ps, slP sp 2 ss] (tupP [aggP (putF d ss).1.ps, eqP (.int .i64 (putF d ss).2)]) := by
  cases hv : validF d with
  | false => exact Put_n d hv hx hy ss hs
  | true =>
    obtain ⟨hl, hv⟩ := (validF_iff d).1 hv
    have h := Put_v d.es hv (by rw [len_es d hl]; exact hx) ss hs
    rwa [ofE_es hl] at h
theorem rPut_ok (d : Dep) (hx : d.sites.length ≤ 400000) (hy : d.parents.length ≤ 400000) (ss : List Site) (hs : ss.length ≤ 400000) : FnP Try.prog 18 [aggP d.ps, slP sp 2 ss] (tupP [aggP (putF d ss).1.ps, eqP (.int .i64 (putF d ss).2)]) := by
  cases hv : validF d with
  | false => exact rPut_n d hv hx ss hs
  | true =>
    obtain ⟨hl, hv⟩ := (validF_iff d).1 hv
    have h := rPut_v d.es hv (by rw [len_es d hl]; exact hx) ss hs
    rwa [ofE_es hl] at h
end Go.Proofs.Ytoibihhocjbilaa
