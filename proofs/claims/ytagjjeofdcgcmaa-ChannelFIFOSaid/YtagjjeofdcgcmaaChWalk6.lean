/- Walks of the functions of layer 17: the reference -/
import Derived.Test.YtagjjeofdcgcmaaChWalk5
set_option linter.unusedVariables false
set_option linter.unusedSimpArgs false
namespace Go.Proofs.Ytagjjeofdcgcmaa
open Go.AL Go.Ch Go.RowKit
theorem fn44 : fnB Try.prog 44 = true := by kernel_rfl
theorem fn45 : fnB Try.prog 45 = true := by kernel_rfl
theorem fn47 : fnB Try.prog 47 = true := by kernel_rfl
theorem waiters_ok (a b : List Wt) (ha : a.length ≤ 1000) (hb : b.length ≤ 1000) : FnP Try.prog 44 [slP wp 5 a, slP wp 5 b] (eqP (.bool (waitersF a b))) := by
  have hwl : (a ++ b).length = a.length + b.length := List.length_append
  refine fn_pure' Try.func44 rfl Try.ntmps44 rfl ?_
  intro σ0 M ex Rf R hC hO
  simp only [frameOf, tokOf]
  refine tr_seq ?_
  refine tr_region (fun N0 hN => ?_)
  refine lx (op_assign rfl) rfl ?_
  refine lx_end ⟨by kernel_rfl, ?_⟩
  refine pe_then_normal ?_
  refine tr_sub hC (.cons (t := 0) rfl (.cons (t := 1) rfl .nil)) .nil rfl ?_
  refine tr_seq ?_
  refine tr_region (fun N1 hN => ?_)
  refine lxn (op_buildEmpty (m' := 8) (kk := 8) (f := wp) el26 sz33 (by first | exact hC.low _ (by decide) | rfl)) rfl ?_
  refine lx (op_move rfl) rfl ?_
  refine lxr (op_append (m := 8) (m' := 10) (kk := 10) rfl rfl rfl (.inr (by first | exact hC.low _ (by decide) | rfl)) el26 ze33 sz33 by33 rfl wp_len (by simp; omega) (by simp; omega)) rfl ?_
  refine lx (op_move rfl) rfl ?_
  refine lxr (op_append (m := 10) (m' := 10) (kk := 12) rfl rfl rfl (.inl rfl) el26 ze33 sz33 by33 rfl wp_len (by simp; omega) (by simp; omega)) rfl ?_
  refine lx (op_assign rfl) rfl ?_
  refine lx_end ⟨by kernel_rfl, ?_⟩
  refine pe_then_normal ?_
  refine tr_sub hC (.cons (t := 0) rfl (.cons (t := 1) rfl (.cons (t := 5) rfl .nil))) (.cons (t := 10) rfl .nil) rfl ?_
  refine tr_seq ?_
  refine tr_seq ?_
  refine tr_region (fun N2 hN => ?_)
  refine lx (op_assign rfl) rfl ?_
  refine lx_end ⟨by kernel_rfl, ?_⟩
  refine pe_then_normal ?_
  refine tr_sub hC (.cons (t := 0) rfl (.cons (t := 1) rfl (.cons (t := 5) rfl (.cons (t := 6) rfl .nil)))) (.cons (t := 10) rfl .nil) rfl ?_
  refine tr_block ?_
  refine tr_loopK (α := {zz : Nat // zz ≤ (a ++ b).length ∧ allR (decide ((a.length : Int) > 0) && decide ((b.length : Int) > 0)) ((a ++ b).take zz) ((a ++ b).drop zz) = allR (decide ((a.length : Int) > 0) && decide ((b.length : Int) > 0)) [] (a ++ b)}) (⟨(0), Nat.zero_le _, rfl⟩) (fun zz => [(6, eqP (.int .i64 (zz.1 : Int)))]) (fun zz => []) (fun zz => (a ++ b).length - zz.1) hC (.cons (t := 0) rfl (.cons (t := 1) rfl (.cons (t := 5) rfl .nil))) (.cons (t := 10) rfl .nil) rfl ?_ ?_ (fun zz => ?_)
  · try dsimp only [List.cons_append, List.nil_append]
    first | refine SubF.cons rfl ?_ | (refine SubF.ent rfl ?_ ?_; · repeat (first | exact Ents.nil | refine Ents.cons ?_ ?_ | refine Ent.tup ?_ | refine Ent.agg ?_ | exact Ent.row _ _ _ _ | exact Ent.nil _ _ | exact Ent.func _ | exact Ent.refl _ | exact Ent.of_eq rfl | refine Ent.cells ?_))
    exact SubF.nil
  · try dsimp only [List.cons_append, List.nil_append]
    repeat (first | exact SubL.nil | refine SubL.cons rfl ?_)
  · obtain ⟨i, hi1, hi2⟩ := zz
    dsimp only [List.cons_append, List.nil_append]
    refine tr_seq ?_
    refine tr_seq ?_
    refine tr_region (fun N3 hN => ?_)
    refine lx (op_move rfl) rfl ?_
    refine lx (op_move rfl) rfl ?_
    first | refine lx (op_len rfl el26) rfl ?_ | refine lx (op_len_row rfl el26) rfl ?_ | refine lx (op_len_mv rfl el26) rfl ?_ | refine lx (op_len_nil rfl el26) rfl ?_
    refine lx (op_lss rfl rfl) rfl ?_
    refine lx_end ⟨by kernel_rfl, ?_⟩
    refine pe_then_normal ?_
    refine tr_sub hC (.cons (t := 0) rfl (.cons (t := 1) rfl (.cons (t := 5) rfl (.cons (t := 6) rfl (.cons (t := 16) rfl .nil))))) (.cons (t := 10) rfl .nil) rfl ?_
    refine tr_cond rfl (fun h16 => ?_) (fun h16 => ?_)
    · (try simp only [Bool.and_eq_true, Bool.or_eq_true, Bool.and_eq_false_iff, Bool.or_eq_false_iff, decide_eq_true_eq, decide_eq_false_iff_not, Bool.not_eq_true', Bool.not_eq_false', List.length_map, ne_eq, Decidable.not_not, Int.not_lt, Int.not_le] at h16)
      refine tr_skip ?_
      refine pe_then_normal ?_
      refine tr_sub hC (.cons (t := 0) rfl (.cons (t := 1) rfl (.cons (t := 5) rfl (.cons (t := 6) rfl .nil)))) (.cons (t := 10) rfl .nil) rfl ?_
      refine tr_seq ?_
      refine tr_block ?_
      refine tr_seq ?_
      refine tr_seq ?_
      refine tr_region (fun N5 hN => ?_)
      refine lx (op_move rfl) rfl ?_
      refine lx (op_move rfl) rfl ?_
      refine lx (op_index_row rfl rfl el26 sz33 rfl (List.getElem?_eq_getElem (by omega : i < (a ++ b).length))) rfl ?_
      first | refine lx (op_fieldAddr rfl fl33_0 sz3) rfl ?_ | refine lx (op_fieldCells rfl fl33_0 sz3) rfl ?_
      first | refine lx (op_load_one rfl ag3 rfl) rfl ?_ | refine lx (op_bload_one (m := 10) rfl rfl ag3 rfl) rfl ?_
      refine lx (op_lss rfl rfl) rfl ?_
      refine lx (op_move rfl) rfl ?_
      refine lxs rfl rfl rfl guard_eq (.cons (t := 5) rfl (fun _ => Ent.refl _) .nil) (op_move rfl) rfl ?_
      refine lxs rfl rfl rfl guard_eq (.cons (t := 6) rfl (fun _ => Ent.refl _) .nil) (op_move rfl) rfl ?_
      refine lxs rfl rfl rfl guard_eq (.cons (t := 26) rfl (fun h => entW h) (.cons (t := 27) rfl (fun h => entW h) .nil)) (op_index_row rfl rfl el26 sz33 rfl (List.getElem?_eq_getElem (by omega : i < (a ++ b).length))) rfl ?_
      first | refine lxs rfl rfl rfl guard_eq (.cons (t := 28) rfl (fun h => entW h) .nil) (op_fieldAddr rfl fl33_0 sz3) rfl ?_ | refine lxs rfl rfl rfl guard_eq (.cons (t := 28) rfl (fun h => entW h) .nil) (op_fieldCells rfl fl33_0 sz3) rfl ?_
      first | refine lxs rfl rfl rfl guard_eq (.cons (t := 29) rfl (fun h => entW h) .nil) (op_load_one rfl ag3 rfl) rfl ?_ | refine lxs rfl rfl rfl guard_eq (.cons (t := 29) rfl (fun h => entW h) .nil) (op_bload_one (m := 10) rfl rfl ag3 rfl) rfl ?_
      refine lxs rfl rfl rfl guard_eq (.cons (t := 30) rfl (fun h => entW h) .nil) (op_geq rfl rfl) rfl ?_
      refine lx (op_pick_or rfl rfl) rfl ?_
      refine lx (op_move rfl) rfl ?_
      refine lxs rfl rfl rfl guard_eq (.cons (t := 5) rfl (fun _ => Ent.refl _) .nil) (op_move rfl) rfl ?_
      refine lxs rfl rfl rfl guard_eq (.cons (t := 6) rfl (fun _ => Ent.refl _) .nil) (op_move rfl) rfl ?_
      refine lxs rfl rfl rfl guard_eq (.cons (t := 34) rfl (fun h => entW h) (.cons (t := 35) rfl (fun h => entW h) .nil)) (op_index_row rfl rfl el26 sz33 rfl (List.getElem?_eq_getElem (by omega : i < (a ++ b).length))) rfl ?_
      first | refine lxs rfl rfl rfl guard_eq (.cons (t := 36) rfl (fun h => entW h) .nil) (op_fieldAddr rfl fl33_1 sz3) rfl ?_ | refine lxs rfl rfl rfl guard_eq (.cons (t := 36) rfl (fun h => entW h) .nil) (op_fieldCells rfl fl33_1 sz3) rfl ?_
      first | refine lxs rfl rfl rfl guard_eq (.cons (t := 37) rfl (fun h => entW h) .nil) (op_load_one rfl ag3 rfl) rfl ?_ | refine lxs rfl rfl rfl guard_eq (.cons (t := 37) rfl (fun h => entW h) .nil) (op_bload_one (m := 10) rfl rfl ag3 rfl) rfl ?_
      refine lxs rfl rfl rfl guard_eq (.cons (t := 38) rfl (fun h => entW h) .nil) (op_lss rfl rfl) rfl ?_
      refine lx (op_pick_or rfl rfl) rfl ?_
      refine lx_end ⟨by kernel_rfl, ?_⟩
      refine pe_then_normal ?_
      refine tr_sub hC (.cons (t := 0) rfl (.cons (t := 1) rfl (.cons (t := 5) rfl (.cons (t := 6) rfl (.cons (t := 40) rfl .nil))))) (.cons (t := 10) rfl .nil) rfl ?_
      refine tr_cond rfl (fun h40 => ?_) (fun h40 => ?_)
      · have hno := waiters_bad (by omega : i < (a ++ b).length) hi2 h40
        refine tr_seq ?_
        refine tr_region (fun N6 hN => ?_)
        refine lx (op_assign rfl) rfl ?_
        refine lx_end ⟨by kernel_rfl, ?_⟩
        refine pe_then_normal ?_
        refine tr_sub hC (.cons (t := 4) rfl .nil) .nil rfl ?_
        refine tr_ret ?_
        refine pe_then_ret ?_
        refine pe_block_ret ?_
        refine pe_then_ret ?_
        refine pe_then_ret ?_
        refine pe_block_ret ?_
        refine pe_then_ret ?_
        refine pe_ret1 rfl hO rfl (.tmp rfl .nil) ?_
        exact entB hno.symm
      · have hin := inR_yes h40
        refine tr_skip ?_
        refine pe_then_normal ?_
        refine tr_sub hC (.cons (t := 0) rfl (.cons (t := 1) rfl (.cons (t := 5) rfl (.cons (t := 6) rfl .nil)))) (.cons (t := 10) rfl .nil) rfl ?_
        refine tr_seq ?_
        refine tr_region (fun N7 hN => ?_)
        refine lx (op_assign rfl) rfl ?_
        refine lx_end ⟨by kernel_rfl, ?_⟩
        refine pe_then_normal ?_
        refine tr_sub hC (.cons (t := 0) rfl (.cons (t := 1) rfl (.cons (t := 5) rfl (.cons (t := 6) rfl (.cons (t := 7) rfl .nil))))) (.cons (t := 10) rfl .nil) rfl ?_
        refine tr_block ?_
        refine tr_loopK (α := {zz : Nat // zz ≤ i ∧ ((a ++ b).take zz).all (fun x => !(clash x ((a ++ b)[i]'(by omega))) && !((decide ((a.length : Int) > 0) && decide ((b.length : Int) > 0)) && decide (x.g ≠ ((a ++ b)[i]'(by omega)).g))) = true}) (⟨(0), Nat.zero_le _, by simp⟩) (fun zz => [(7, eqP (.int .i64 (zz.1 : Int)))]) (fun zz => []) (fun zz => i - zz.1) hC (.cons (t := 0) rfl (.cons (t := 1) rfl (.cons (t := 5) rfl (.cons (t := 6) rfl .nil)))) (.cons (t := 10) rfl .nil) rfl ?_ ?_ (fun zz => ?_)
        · try dsimp only [List.cons_append, List.nil_append]
          first | refine SubF.cons rfl ?_ | (refine SubF.ent rfl ?_ ?_; · repeat (first | exact Ents.nil | refine Ents.cons ?_ ?_ | refine Ent.tup ?_ | refine Ent.agg ?_ | exact Ent.row _ _ _ _ | exact Ent.nil _ _ | exact Ent.func _ | exact Ent.refl _ | exact Ent.of_eq rfl | refine Ent.cells ?_))
          exact SubF.nil
        · try dsimp only [List.cons_append, List.nil_append]
          repeat (first | exact SubL.nil | refine SubL.cons rfl ?_)
        · obtain ⟨j, hj1, hj2⟩ := zz
          dsimp only [List.cons_append, List.nil_append]
          refine tr_seq ?_
          refine tr_seq ?_
          refine tr_region (fun N8 hN => ?_)
          refine lx (op_move rfl) rfl ?_
          refine lx (op_move rfl) rfl ?_
          refine lx (op_lss rfl rfl) rfl ?_
          refine lx_end ⟨by kernel_rfl, ?_⟩
          refine pe_then_normal ?_
          refine tr_sub hC (.cons (t := 0) rfl (.cons (t := 1) rfl (.cons (t := 5) rfl (.cons (t := 6) rfl (.cons (t := 7) rfl (.cons (t := 43) rfl .nil)))))) (.cons (t := 10) rfl .nil) rfl ?_
          refine tr_cond rfl (fun h43 => ?_) (fun h43 => ?_)
          · (try simp only [Bool.and_eq_true, Bool.or_eq_true, Bool.and_eq_false_iff, Bool.or_eq_false_iff, decide_eq_true_eq, decide_eq_false_iff_not, Bool.not_eq_true', Bool.not_eq_false', List.length_map, ne_eq, Decidable.not_not, Int.not_lt, Int.not_le] at h43)
            refine tr_skip ?_
            refine pe_then_normal ?_
            refine tr_sub hC (.cons (t := 0) rfl (.cons (t := 1) rfl (.cons (t := 5) rfl (.cons (t := 6) rfl (.cons (t := 7) rfl .nil))))) (.cons (t := 10) rfl .nil) rfl ?_
            refine tr_seq ?_
            refine tr_block ?_
            refine tr_seq ?_
            refine tr_seq ?_
            refine tr_drawn mixed (fun N10 hN => ?_)
            refine lx (op_move rfl) rfl ?_
            refine lx (op_move rfl) rfl ?_
            refine lx (op_index_row rfl rfl el26 sz33 rfl (List.getElem?_eq_getElem (by omega : j < (a ++ b).length))) rfl ?_
            first | refine lx (op_fieldAddr rfl fl33_0 sz3) rfl ?_ | refine lx (op_fieldCells rfl fl33_0 sz3) rfl ?_
            first | refine lx (op_load_one rfl ag3 rfl) rfl ?_ | refine lx (op_bload_one (m := 10) rfl rfl ag3 rfl) rfl ?_
            refine lx (op_move rfl) rfl ?_
            refine lx (op_move rfl) rfl ?_
            refine lx (op_index_row rfl rfl el26 sz33 rfl (List.getElem?_eq_getElem (by omega : i < (a ++ b).length))) rfl ?_
            first | refine lx (op_fieldAddr rfl fl33_0 sz3) rfl ?_ | refine lx (op_fieldCells rfl fl33_0 sz3) rfl ?_
            first | refine lx (op_load_one rfl ag3 rfl) rfl ?_ | refine lx (op_bload_one (m := 10) rfl rfl ag3 rfl) rfl ?_
            refine lx (op_eql rfl rfl) rfl ?_
            refine lx (op_move rfl) rfl ?_
            refine lxs rfl rfl rfl guard_eq (.cons (t := 5) rfl (fun _ => Ent.refl _) .nil) (op_move rfl) rfl ?_
            refine lxs rfl rfl rfl guard_eq (.cons (t := 7) rfl (fun _ => Ent.refl _) .nil) (op_move rfl) rfl ?_
            refine lxs rfl rfl rfl guard_eq (.cons (t := 58) rfl (fun h => entW h) (.cons (t := 59) rfl (fun h => entW h) .nil)) (op_index_row rfl rfl el26 sz33 rfl (List.getElem?_eq_getElem (by omega : j < (a ++ b).length))) rfl ?_
            first | refine lxs rfl rfl rfl guard_eq (.cons (t := 60) rfl (fun h => entW h) .nil) (op_fieldAddr rfl fl33_1 sz3) rfl ?_ | refine lxs rfl rfl rfl guard_eq (.cons (t := 60) rfl (fun h => entW h) .nil) (op_fieldCells rfl fl33_1 sz3) rfl ?_
            first | refine lxs rfl rfl rfl guard_eq (.cons (t := 61) rfl (fun h => entW h) .nil) (op_load_one rfl ag3 rfl) rfl ?_ | refine lxs rfl rfl rfl guard_eq (.cons (t := 61) rfl (fun h => entW h) .nil) (op_bload_one (m := 10) rfl rfl ag3 rfl) rfl ?_
            refine lxs rfl rfl rfl guard_eq (.cons (t := 5) rfl (fun _ => Ent.refl _) .nil) (op_move rfl) rfl ?_
            refine lxs rfl rfl rfl guard_eq (.cons (t := 6) rfl (fun _ => Ent.refl _) .nil) (op_move rfl) rfl ?_
            refine lxs rfl rfl rfl guard_eq (.cons (t := 63) rfl (fun h => entW h) (.cons (t := 64) rfl (fun h => entW h) .nil)) (op_index_row rfl rfl el26 sz33 rfl (List.getElem?_eq_getElem (by omega : i < (a ++ b).length))) rfl ?_
            first | refine lxs rfl rfl rfl guard_eq (.cons (t := 65) rfl (fun h => entW h) .nil) (op_fieldAddr rfl fl33_1 sz3) rfl ?_ | refine lxs rfl rfl rfl guard_eq (.cons (t := 65) rfl (fun h => entW h) .nil) (op_fieldCells rfl fl33_1 sz3) rfl ?_
            first | refine lxs rfl rfl rfl guard_eq (.cons (t := 66) rfl (fun h => entW h) .nil) (op_load_one rfl ag3 rfl) rfl ?_ | refine lxs rfl rfl rfl guard_eq (.cons (t := 66) rfl (fun h => entW h) .nil) (op_bload_one (m := 10) rfl rfl ag3 rfl) rfl ?_
            refine lxs rfl rfl rfl guard_eq (.cons (t := 62) rfl (fun h => entW h) (.cons (t := 67) rfl (fun h => entW h) .nil)) (op_eql rfl rfl) rfl ?_
            refine lxs rfl rfl rfl guard_eq (.cons (t := 68) rfl (fun h => entW h) .nil) (op_move rfl) rfl ?_
            refine lxs rfl rfl rfl guard_w (.cons (t := 5) rfl (fun _ => Ent.refl _) .nil) (op_move rfl) rfl ?_
            refine lxs rfl rfl rfl guard_w (.cons (t := 7) rfl (fun _ => Ent.refl _) .nil) (op_move rfl) rfl ?_
            refine lxs rfl rfl rfl guard_w (.cons (t := 70) rfl (fun h => entW h) (.cons (t := 71) rfl (fun h => entW h) .nil)) (op_index_row rfl rfl el26 sz33 rfl (List.getElem?_eq_getElem (by omega : j < (a ++ b).length))) rfl ?_
            first | refine lxs rfl rfl rfl guard_w (.cons (t := 72) rfl (fun h => entW h) .nil) (op_fieldAddr rfl fl33_1 sz3) rfl ?_ | refine lxs rfl rfl rfl guard_w (.cons (t := 72) rfl (fun h => entW h) .nil) (op_fieldCells rfl fl33_1 sz3) rfl ?_
            first | refine lxs rfl rfl rfl guard_w (.cons (t := 73) rfl (fun h => entW h) .nil) (op_load_one rfl ag3 rfl) rfl ?_ | refine lxs rfl rfl rfl guard_w (.cons (t := 73) rfl (fun h => entW h) .nil) (op_bload_one (m := 10) rfl rfl ag3 rfl) rfl ?_
            refine lxs rfl rfl rfl guard_w (.cons (t := 74) rfl (fun h => entW h) .nil) (op_eql rfl rfl) rfl ?_
            refine lxs rfl rfl rfl guard_eq (.cons (t := 69) rfl (fun h => entW h) (.cons (t := 75) rfl (fun h => entS h) .nil)) (op_pick_or rfl rfl) rfl ?_
            refine lxs rfl rfl rfl guard_eq (.cons (t := 76) rfl (fun h => entW h) .nil) (op_move rfl) rfl ?_
            refine lxs rfl rfl rfl guard_w (.cons (t := 5) rfl (fun _ => Ent.refl _) .nil) (op_move rfl) rfl ?_
            refine lxs rfl rfl rfl guard_w (.cons (t := 6) rfl (fun _ => Ent.refl _) .nil) (op_move rfl) rfl ?_
            refine lxs rfl rfl rfl guard_w (.cons (t := 78) rfl (fun h => entW h) (.cons (t := 79) rfl (fun h => entW h) .nil)) (op_index_row rfl rfl el26 sz33 rfl (List.getElem?_eq_getElem (by omega : i < (a ++ b).length))) rfl ?_
            first | refine lxs rfl rfl rfl guard_w (.cons (t := 80) rfl (fun h => entW h) .nil) (op_fieldAddr rfl fl33_1 sz3) rfl ?_ | refine lxs rfl rfl rfl guard_w (.cons (t := 80) rfl (fun h => entW h) .nil) (op_fieldCells rfl fl33_1 sz3) rfl ?_
            first | refine lxs rfl rfl rfl guard_w (.cons (t := 81) rfl (fun h => entW h) .nil) (op_load_one rfl ag3 rfl) rfl ?_ | refine lxs rfl rfl rfl guard_w (.cons (t := 81) rfl (fun h => entW h) .nil) (op_bload_one (m := 10) rfl rfl ag3 rfl) rfl ?_
            refine lxs rfl rfl rfl guard_w (.cons (t := 82) rfl (fun h => entW h) .nil) (op_eql rfl rfl) rfl ?_
            refine lxs rfl rfl rfl guard_eq (.cons (t := 77) rfl (fun h => entW h) (.cons (t := 83) rfl (fun h => entS h) .nil)) (op_pick_or rfl rfl) rfl ?_
            refine lx (op_pick_and rfl rfl) rfl ?_
            refine lx_end ⟨by kernel_rfl, ?_⟩
            refine pe_then_normal ?_
            refine tr_sub hC (.cons (t := 0) rfl (.cons (t := 1) rfl (.cons (t := 5) rfl (.cons (t := 6) rfl (.cons (t := 7) rfl (.cons (t := 85) rfl .nil)))))) (.cons (t := 10) rfl .nil) rfl ?_
            refine tr_cond rfl (fun h85 => ?_) (fun h85 => ?_)
            · have hno := waiters_clash (by omega : i < (a ++ b).length) hi2 (by omega : j < i) (.inl h85)
              refine tr_seq ?_
              refine tr_region (fun N11 hN => ?_)
              refine lx (op_assign rfl) rfl ?_
              refine lx_end ⟨by kernel_rfl, ?_⟩
              refine pe_then_normal ?_
              refine tr_sub hC (.cons (t := 4) rfl .nil) .nil rfl ?_
              refine tr_ret ?_
              refine pe_then_ret ?_
              refine pe_block_ret ?_
              refine pe_then_ret ?_
              refine pe_then_ret ?_
              refine pe_block_ret ?_
              refine pe_block_ret ?_
              refine pe_then_ret ?_
              refine pe_then_ret ?_
              refine pe_block_ret ?_
              refine pe_then_ret ?_
              refine pe_ret1 rfl hO rfl (.tmp rfl .nil) ?_
              exact entB hno.symm
            · have hcl : clash ((a ++ b)[j]'(by omega)) ((a ++ b)[i]'(by omega)) = false := h85
              refine tr_skip ?_
              refine pe_then_normal ?_
              refine tr_sub hC (.cons (t := 0) rfl (.cons (t := 1) rfl (.cons (t := 5) rfl (.cons (t := 6) rfl (.cons (t := 7) rfl .nil))))) (.cons (t := 10) rfl .nil) rfl ?_
              refine tr_seq ?_
              refine tr_drawn mixed (fun N12 hN => ?_)
              refine lx (op_move rfl) rfl ?_
              first | refine lx (op_len rfl el26) rfl ?_ | refine lx (op_len_row rfl el26) rfl ?_ | refine lx (op_len_mv rfl el26) rfl ?_ | refine lx (op_len_nil rfl el26) rfl ?_
              refine lx (op_gtr rfl rfl) rfl ?_
              refine lx (op_move rfl) rfl ?_
              refine lxs rfl rfl rfl guard_eq (.cons (t := 1) rfl (fun _ => Ent.refl _) .nil) (op_move rfl) rfl ?_
              first | refine lxs rfl rfl rfl guard_eq (.cons (t := 90) rfl (fun h => entW h) .nil) (op_len rfl el26) rfl ?_ | refine lxs rfl rfl rfl guard_eq (.cons (t := 90) rfl (fun h => entW h) .nil) (op_len_row rfl el26) rfl ?_ | refine lxs rfl rfl rfl guard_eq (.cons (t := 90) rfl (fun h => entW h) .nil) (op_len_mv rfl el26) rfl ?_ | refine lxs rfl rfl rfl guard_eq (.cons (t := 90) rfl (fun h => entW h) .nil) (op_len_nil rfl el26) rfl ?_
              refine lxs rfl rfl rfl guard_eq (.cons (t := 91) rfl (fun h => entW h) .nil) (op_gtr rfl rfl) rfl ?_
              refine lx (op_pick_and rfl rfl) rfl ?_
              refine lx (op_move rfl) rfl ?_
              refine lxs rfl rfl rfl guard_eq (.cons (t := 5) rfl (fun _ => Ent.refl _) .nil) (op_move rfl) rfl ?_
              refine lxs rfl rfl rfl guard_eq (.cons (t := 7) rfl (fun _ => Ent.refl _) .nil) (op_move rfl) rfl ?_
              refine lxs rfl rfl rfl guard_eq (.cons (t := 95) rfl (fun h => entW h) (.cons (t := 96) rfl (fun h => entW h) .nil)) (op_index_row rfl rfl el26 sz33 rfl (List.getElem?_eq_getElem (by omega : j < (a ++ b).length))) rfl ?_
              first | refine lxs rfl rfl rfl guard_eq (.cons (t := 97) rfl (fun h => entW h) .nil) (op_fieldAddr rfl fl33_0 sz3) rfl ?_ | refine lxs rfl rfl rfl guard_eq (.cons (t := 97) rfl (fun h => entW h) .nil) (op_fieldCells rfl fl33_0 sz3) rfl ?_
              first | refine lxs rfl rfl rfl guard_eq (.cons (t := 98) rfl (fun h => entW h) .nil) (op_load_one rfl ag3 rfl) rfl ?_ | refine lxs rfl rfl rfl guard_eq (.cons (t := 98) rfl (fun h => entW h) .nil) (op_bload_one (m := 10) rfl rfl ag3 rfl) rfl ?_
              refine lxs rfl rfl rfl guard_eq (.cons (t := 5) rfl (fun _ => Ent.refl _) .nil) (op_move rfl) rfl ?_
              refine lxs rfl rfl rfl guard_eq (.cons (t := 6) rfl (fun _ => Ent.refl _) .nil) (op_move rfl) rfl ?_
              refine lxs rfl rfl rfl guard_eq (.cons (t := 100) rfl (fun h => entW h) (.cons (t := 101) rfl (fun h => entW h) .nil)) (op_index_row rfl rfl el26 sz33 rfl (List.getElem?_eq_getElem (by omega : i < (a ++ b).length))) rfl ?_
              first | refine lxs rfl rfl rfl guard_eq (.cons (t := 102) rfl (fun h => entW h) .nil) (op_fieldAddr rfl fl33_0 sz3) rfl ?_ | refine lxs rfl rfl rfl guard_eq (.cons (t := 102) rfl (fun h => entW h) .nil) (op_fieldCells rfl fl33_0 sz3) rfl ?_
              first | refine lxs rfl rfl rfl guard_eq (.cons (t := 103) rfl (fun h => entW h) .nil) (op_load_one rfl ag3 rfl) rfl ?_ | refine lxs rfl rfl rfl guard_eq (.cons (t := 103) rfl (fun h => entW h) .nil) (op_bload_one (m := 10) rfl rfl ag3 rfl) rfl ?_
              refine lxs rfl rfl rfl guard_eq (.cons (t := 99) rfl (fun h => entW h) (.cons (t := 104) rfl (fun h => entW h) .nil)) (op_neq rfl rfl) rfl ?_
              refine lx (op_pick_and rfl rfl) rfl ?_
              refine lx_end ⟨by kernel_rfl, ?_⟩
              refine pe_then_normal ?_
              refine tr_sub hC (.cons (t := 0) rfl (.cons (t := 1) rfl (.cons (t := 5) rfl (.cons (t := 6) rfl (.cons (t := 7) rfl (.cons (t := 106) rfl .nil)))))) (.cons (t := 10) rfl .nil) rfl ?_
              refine tr_cond rfl (fun h106 => ?_) (fun h106 => ?_)
              · have hno := waiters_clash (by omega : i < (a ++ b).length) hi2 (by omega : j < i) (.inr h106)
                refine tr_seq ?_
                refine tr_region (fun N13 hN => ?_)
                refine lx (op_assign rfl) rfl ?_
                refine lx_end ⟨by kernel_rfl, ?_⟩
                refine pe_then_normal ?_
                refine tr_sub hC (.cons (t := 4) rfl .nil) .nil rfl ?_
                refine tr_ret ?_
                refine pe_block_ret ?_
                refine pe_then_ret ?_
                refine pe_then_ret ?_
                refine pe_block_ret ?_
                refine pe_block_ret ?_
                refine pe_then_ret ?_
                refine pe_then_ret ?_
                refine pe_block_ret ?_
                refine pe_then_ret ?_
                refine pe_ret1 rfl hO rfl (.tmp rfl .nil) ?_
                exact entB hno.symm
              · have hst := waiters_step (by omega : i < (a ++ b).length) (by omega : j < (a ++ b).length) hj2 hcl h106
                refine tr_skip ?_
                refine pe_block_normal ?_
                refine pe_then_normal ?_
                refine tr_sub hC (.cons (t := 0) rfl (.cons (t := 1) rfl (.cons (t := 5) rfl (.cons (t := 6) rfl (.cons (t := 7) rfl .nil))))) (.cons (t := 10) rfl .nil) rfl ?_
                refine tr_region (fun N9 hN => ?_)
                refine lx (op_move rfl) rfl ?_
                refine lx (op_add rfl rfl (by omega)) rfl ?_
                refine lx (op_assign rfl) rfl ?_
                refine lx_end ⟨by kernel_rfl, ?_⟩
                refine pe_round (⟨(j + 1), by omega, hst⟩) (by dsimp only; omega) (pe_st hC ?_ ?_ rfl)
                · try dsimp only [List.cons_append, List.nil_append]
                  first | refine SubF.cons rfl ?_ | (refine SubF.ent rfl ?_ ?_; · repeat (first | exact Ents.nil | refine Ents.cons ?_ ?_ | refine Ent.tup ?_ | refine Ent.agg ?_ | exact Ent.row _ _ _ _ | exact Ent.nil _ _ | exact Ent.func _ | exact Ent.refl _ | exact Ent.of_eq rfl | refine Ent.cells ?_))
                  first | refine SubF.cons rfl ?_ | (refine SubF.ent rfl ?_ ?_; · repeat (first | exact Ents.nil | refine Ents.cons ?_ ?_ | refine Ent.tup ?_ | refine Ent.agg ?_ | exact Ent.row _ _ _ _ | exact Ent.nil _ _ | exact Ent.func _ | exact Ent.refl _ | exact Ent.of_eq rfl | refine Ent.cells ?_))
                  first | refine SubF.cons rfl ?_ | (refine SubF.ent rfl ?_ ?_; · repeat (first | exact Ents.nil | refine Ents.cons ?_ ?_ | refine Ent.tup ?_ | refine Ent.agg ?_ | exact Ent.row _ _ _ _ | exact Ent.nil _ _ | exact Ent.func _ | exact Ent.refl _ | exact Ent.of_eq rfl | refine Ent.cells ?_))
                  first | refine SubF.cons rfl ?_ | (refine SubF.ent rfl ?_ ?_; · repeat (first | exact Ents.nil | refine Ents.cons ?_ ?_ | refine Ent.tup ?_ | refine Ent.agg ?_ | exact Ent.row _ _ _ _ | exact Ent.nil _ _ | exact Ent.func _ | exact Ent.refl _ | exact Ent.of_eq rfl | refine Ent.cells ?_))
                  first | refine SubF.cons rfl ?_ | (refine SubF.ent rfl ?_ ?_; · repeat (first | exact Ents.nil | refine Ents.cons ?_ ?_ | refine Ent.tup ?_ | refine Ent.agg ?_ | exact Ent.row _ _ _ _ | exact Ent.nil _ _ | exact Ent.func _ | exact Ent.refl _ | exact Ent.of_eq rfl | refine Ent.cells ?_))
                  exact SubF.nil
                · try dsimp only [List.cons_append, List.nil_append]
                  repeat (first | exact SubL.nil | refine SubL.cons rfl ?_)
          · (try simp only [Bool.and_eq_true, Bool.or_eq_true, Bool.and_eq_false_iff, Bool.or_eq_false_iff, decide_eq_true_eq, decide_eq_false_iff_not, Bool.not_eq_true', Bool.not_eq_false', List.length_map, ne_eq, Decidable.not_not, Int.not_lt, Int.not_le] at h43)
            have hj3 : j = i := by omega
            rw [hj3] at hj2
            have hnext := waiters_next (by omega : i < (a ++ b).length) hi2 hin hj2
            refine tr_exit ?_
            refine pe_then_exit ?_
            refine pe_then_exit ?_
            refine pe_block_eq ?_
            refine pe_block_normal ?_
            refine pe_then_normal ?_
            refine tr_sub hC (.cons (t := 0) rfl (.cons (t := 1) rfl (.cons (t := 5) rfl (.cons (t := 6) rfl .nil)))) (.cons (t := 10) rfl .nil) rfl ?_
            refine tr_region (fun N4 hN => ?_)
            refine lx (op_move rfl) rfl ?_
            refine lx (op_add rfl rfl (by omega)) rfl ?_
            refine lx (op_assign rfl) rfl ?_
            refine lx_end ⟨by kernel_rfl, ?_⟩
            refine pe_round (⟨(i + 1), by omega, hnext⟩) (by dsimp only; omega) (pe_st hC ?_ ?_ rfl)
            · try dsimp only [List.cons_append, List.nil_append]
              first | refine SubF.cons rfl ?_ | (refine SubF.ent rfl ?_ ?_; · repeat (first | exact Ents.nil | refine Ents.cons ?_ ?_ | refine Ent.tup ?_ | refine Ent.agg ?_ | exact Ent.row _ _ _ _ | exact Ent.nil _ _ | exact Ent.func _ | exact Ent.refl _ | exact Ent.of_eq rfl | refine Ent.cells ?_))
              first | refine SubF.cons rfl ?_ | (refine SubF.ent rfl ?_ ?_; · repeat (first | exact Ents.nil | refine Ents.cons ?_ ?_ | refine Ent.tup ?_ | refine Ent.agg ?_ | exact Ent.row _ _ _ _ | exact Ent.nil _ _ | exact Ent.func _ | exact Ent.refl _ | exact Ent.of_eq rfl | refine Ent.cells ?_))
              first | refine SubF.cons rfl ?_ | (refine SubF.ent rfl ?_ ?_; · repeat (first | exact Ents.nil | refine Ents.cons ?_ ?_ | refine Ent.tup ?_ | refine Ent.agg ?_ | exact Ent.row _ _ _ _ | exact Ent.nil _ _ | exact Ent.func _ | exact Ent.refl _ | exact Ent.of_eq rfl | refine Ent.cells ?_))
              first | refine SubF.cons rfl ?_ | (refine SubF.ent rfl ?_ ?_; · repeat (first | exact Ents.nil | refine Ents.cons ?_ ?_ | refine Ent.tup ?_ | refine Ent.agg ?_ | exact Ent.row _ _ _ _ | exact Ent.nil _ _ | exact Ent.func _ | exact Ent.refl _ | exact Ent.of_eq rfl | refine Ent.cells ?_))
              exact SubF.nil
            · try dsimp only [List.cons_append, List.nil_append]
              repeat (first | exact SubL.nil | refine SubL.cons rfl ?_)
    · (try simp only [Bool.and_eq_true, Bool.or_eq_true, Bool.and_eq_false_iff, Bool.or_eq_false_iff, decide_eq_true_eq, decide_eq_false_iff_not, Bool.not_eq_true', Bool.not_eq_false', List.length_map, ne_eq, Decidable.not_not, Int.not_lt, Int.not_le] at h16)
      have hi3 : (a ++ b).length ≤ i := by omega
      have hyes := waiters_end hi3 hi2
      refine tr_exit ?_
      refine pe_then_exit ?_
      refine pe_then_exit ?_
      refine pe_block_eq ?_
      refine pe_then_normal ?_
      refine tr_sub hC .nil .nil rfl ?_
      refine tr_seq ?_
      refine tr_region (fun N14 hN => ?_)
      refine lx (op_assign rfl) rfl ?_
      refine lx_end ⟨by kernel_rfl, ?_⟩
      refine pe_then_normal ?_
      refine tr_sub hC (.cons (t := 4) rfl .nil) .nil rfl ?_
      refine tr_ret ?_
      refine pe_ret1 rfl hO rfl (.tmp rfl .nil) ?_
      exact entB hyes.symm

theorem rValid_ok (o : Ob) (hs : Lens o) : FnP Try.prog 17 [aggP o.ps] (eqP (.bool (validF o))) := by
  have hq := hs.queue
  have hsn := hs.senders
  have hrc := hs.receivers
  refine fn_pure' Try.func17 rfl Try.ntmps17 rfl ?_
  intro σ0 M ex Rf R hC hO
  simp only [frameOf, tokOf]
  refine tr_seq ?_
  refine tr_region (fun N0 hN => ?_)
  refine lxn (op_box (m := 1) (k := 1) rfl (.agg rfl) (by first | exact hC.low _ (by decide) | rfl)) rfl ?_
  refine lx (op_assign rfl) rfl ?_
  refine lx_end ⟨by kernel_rfl, ?_⟩
  refine pe_then_normal ?_
  refine tr_sub hC (.cons (t := 1) rfl .nil) (.cons (t := 1) rfl .nil) rfl ?_
  refine tr_seq ?_
  refine tr_seq ?_
  refine tr_region (fun N1 hN => ?_)
  refine lx (op_fieldAddr rfl fl28_2 sz4) rfl ?_
  refine lx (op_bload_one (m := 1) rfl rfl ag4 rfl) rfl ?_
  first | refine lx (op_not rfl) rfl ?_ | refine lx (op_not_b rfl) rfl ?_
  refine lx (op_move rfl) rfl ?_
  refine lxs rfl rfl rfl guard_eq (.cons (t := 1) rfl (fun _ => Ent.refl _) .nil) (op_fieldAddr rfl fl28_1 sz25) rfl ?_
  refine lxs rfl rfl rfl guard_eq (.cons (t := 8) rfl (fun h => entW h) .nil) (op_bload_one (m := 1) rfl rfl ag25 rfl) rfl ?_
  first | refine lxs rfl rfl rfl guard_eq (.cons (t := 9) rfl (fun h => entW h) .nil) (op_len rfl el25) rfl ?_ | refine lxs rfl rfl rfl guard_eq (.cons (t := 9) rfl (fun h => entW h) .nil) (op_len_row rfl el25) rfl ?_ | refine lxs rfl rfl rfl guard_eq (.cons (t := 9) rfl (fun h => entW h) .nil) (op_len_mv rfl el25) rfl ?_ | refine lxs rfl rfl rfl guard_eq (.cons (t := 9) rfl (fun h => entW h) .nil) (op_len_nil rfl el25) rfl ?_
  refine lxs rfl rfl rfl guard_eq (.cons (t := 10) rfl (fun h => entW h) .nil) (op_neq rfl rfl) rfl ?_
  refine lx (op_pick_or rfl rfl) rfl ?_
  refine lx (op_move rfl) rfl ?_
  refine lxs rfl rfl rfl guard_eq (.cons (t := 1) rfl (fun _ => Ent.refl _) .nil) (op_fieldAddr rfl fl28_3 sz3) rfl ?_
  refine lxs rfl rfl rfl guard_eq (.cons (t := 14) rfl (fun h => entW h) .nil) (op_bload_one (m := 1) rfl rfl ag3 rfl) rfl ?_
  refine lxs rfl rfl rfl guard_eq (.cons (t := 15) rfl (fun h => entW h) .nil) (op_lss rfl rfl) rfl ?_
  refine lx (op_pick_or rfl rfl) rfl ?_
  refine lx (op_move rfl) rfl ?_
  refine lxs rfl rfl rfl guard_eq (.cons (t := 1) rfl (fun _ => Ent.refl _) .nil) (op_fieldAddr rfl fl28_3 sz3) rfl ?_
  refine lxs rfl rfl rfl guard_eq (.cons (t := 19) rfl (fun h => entW h) .nil) (op_bload_one (m := 1) rfl rfl ag3 rfl) rfl ?_
  refine lxs rfl rfl rfl guard_eq (.cons (t := 20) rfl (fun h => entW h) .nil) (op_gtr rfl rfl) rfl ?_
  refine lx (op_pick_or rfl rfl) rfl ?_
  refine lx (op_move rfl) rfl ?_
  refine lxs rfl rfl rfl guard_eq (.cons (t := 1) rfl (fun _ => Ent.refl _) .nil) (op_fieldAddr rfl fl28_4 sz25) rfl ?_
  refine lxs rfl rfl rfl guard_eq (.cons (t := 24) rfl (fun h => entW h) .nil) (op_bload_one (m := 1) rfl rfl ag25 rfl) rfl ?_
  first | refine lxs rfl rfl rfl guard_eq (.cons (t := 25) rfl (fun h => entW h) .nil) (op_len rfl el25) rfl ?_ | refine lxs rfl rfl rfl guard_eq (.cons (t := 25) rfl (fun h => entW h) .nil) (op_len_row rfl el25) rfl ?_ | refine lxs rfl rfl rfl guard_eq (.cons (t := 25) rfl (fun h => entW h) .nil) (op_len_mv rfl el25) rfl ?_ | refine lxs rfl rfl rfl guard_eq (.cons (t := 25) rfl (fun h => entW h) .nil) (op_len_nil rfl el25) rfl ?_
  refine lxs rfl rfl rfl guard_eq (.cons (t := 1) rfl (fun _ => Ent.refl _) .nil) (op_fieldAddr rfl fl28_3 sz3) rfl ?_
  refine lxs rfl rfl rfl guard_eq (.cons (t := 27) rfl (fun h => entW h) .nil) (op_bload_one (m := 1) rfl rfl ag3 rfl) rfl ?_
  refine lxs rfl rfl rfl guard_eq (.cons (t := 26) rfl (fun h => entW h) (.cons (t := 28) rfl (fun h => entW h) .nil)) (op_gtr rfl rfl) rfl ?_
  refine lx (op_pick_or rfl rfl) rfl ?_
  refine lx (op_move rfl) rfl ?_
  refine lxs rfl rfl rfl guard_eq (.cons (t := 1) rfl (fun _ => Ent.refl _) .nil) (op_fieldAddr rfl fl28_7 sz3) rfl ?_
  refine lxs rfl rfl rfl guard_eq (.cons (t := 32) rfl (fun h => entW h) .nil) (op_bload_one (m := 1) rfl rfl ag3 rfl) rfl ?_
  refine lxs rfl rfl rfl guard_eq (.cons (t := 33) rfl (fun h => entW h) .nil) (op_lss rfl rfl) rfl ?_
  refine lx (op_pick_or rfl rfl) rfl ?_
  refine lx (op_move rfl) rfl ?_
  refine lxs rfl rfl rfl guard_eq (.cons (t := 1) rfl (fun _ => Ent.refl _) .nil) (op_fieldAddr rfl fl28_7 sz3) rfl ?_
  refine lxs rfl rfl rfl guard_eq (.cons (t := 37) rfl (fun h => entW h) .nil) (op_bload_one (m := 1) rfl rfl ag3 rfl) rfl ?_
  refine lxs rfl rfl rfl guard_eq (.cons (t := 38) rfl (fun h => entW h) .nil) (op_gtr rfl rfl) rfl ?_
  refine lx (op_pick_or rfl rfl) rfl ?_
  refine lx (op_move rfl) rfl ?_
  refine lxs rfl rfl rfl guard_eq (.cons (t := 1) rfl (fun _ => Ent.refl _) .nil) (op_fieldAddr rfl fl28_6 sz3) rfl ?_
  refine lxs rfl rfl rfl guard_eq (.cons (t := 42) rfl (fun h => entW h) .nil) (op_bload_one (m := 1) rfl rfl ag3 rfl) rfl ?_
  refine lxs rfl rfl rfl guard_eq (.cons (t := 1) rfl (fun _ => Ent.refl _) .nil) (op_fieldAddr rfl fl28_7 sz3) rfl ?_
  refine lxs rfl rfl rfl guard_eq (.cons (t := 44) rfl (fun h => entW h) .nil) (op_bload_one (m := 1) rfl rfl ag3 rfl) rfl ?_
  refine lxs rfl rfl rfl guard_eq (.cons (t := 1) rfl (fun _ => Ent.refl _) .nil) (op_fieldAddr rfl fl28_4 sz25) rfl ?_
  refine lxs rfl rfl rfl guard_eq (.cons (t := 46) rfl (fun h => entW h) .nil) (op_bload_one (m := 1) rfl rfl ag25 rfl) rfl ?_
  first | refine lxs rfl rfl rfl guard_eq (.cons (t := 47) rfl (fun h => entW h) .nil) (op_len rfl el25) rfl ?_ | refine lxs rfl rfl rfl guard_eq (.cons (t := 47) rfl (fun h => entW h) .nil) (op_len_row rfl el25) rfl ?_ | refine lxs rfl rfl rfl guard_eq (.cons (t := 47) rfl (fun h => entW h) .nil) (op_len_mv rfl el25) rfl ?_ | refine lxs rfl rfl rfl guard_eq (.cons (t := 47) rfl (fun h => entW h) .nil) (op_len_nil rfl el25) rfl ?_
  refine lxs rfl rfl rfl guard_eq (.cons (t := 45) rfl (fun h => entW h) (.cons (t := 48) rfl (fun h => entW h) .nil)) (op_add_w rfl rfl) rfl ?_
  refine lxs rfl rfl rfl guard_eq (.cons (t := 43) rfl (fun h => entW h) (.cons (t := 49) rfl (fun h => entW h) .nil)) (op_neq rfl rfl) rfl ?_
  refine lx (op_pick_or rfl rfl) rfl ?_
  refine lx_end ⟨by kernel_rfl, ?_⟩
  refine pe_then_normal ?_
  refine tr_sub hC (.cons (t := 1) rfl (.cons (t := 51) rfl .nil)) (.cons (t := 1) rfl .nil) rfl ?_
  refine tr_cond rfl (fun h51 => ?_) (fun h51 => ?_)
  · have hno := validF_no1 (o := o) (fun hh => head1_no hh h51)
    refine tr_seq ?_
    refine tr_region (fun N2 hN => ?_)
    refine lx (op_assign rfl) rfl ?_
    refine lx_end ⟨by kernel_rfl, ?_⟩
    refine pe_then_normal ?_
    refine tr_sub hC (.cons (t := 2) rfl .nil) .nil rfl ?_
    refine tr_ret ?_
    refine pe_then_ret ?_
    refine pe_ret1 rfl hO rfl (.tmp rfl .nil) ?_
    exact entB hno.symm
  · have hh1 := head1_yes (by omega) h51
    refine tr_skip ?_
    refine pe_then_normal ?_
    refine tr_sub hC (.cons (t := 1) rfl .nil) (.cons (t := 1) rfl .nil) rfl ?_
    refine tr_seq ?_
    refine tr_seq ?_
    refine tr_region (fun N3 hN => ?_)
    refine lx (op_fieldAddr rfl fl28_5 sz4) rfl ?_
    refine lx (op_bload_one (m := 1) rfl rfl ag4 rfl) rfl ?_
    refine lx (op_move rfl) rfl ?_
    refine lxs rfl rfl rfl guard_eq (.cons (t := 1) rfl (fun _ => Ent.refl _) .nil) (op_fieldAddr rfl fl28_8 sz26) rfl ?_
    refine lxs rfl rfl rfl guard_eq (.cons (t := 55) rfl (fun h => entW h) .nil) (op_bload_one (m := 1) rfl rfl ag26 rfl) rfl ?_
    first | refine lxs rfl rfl rfl guard_eq (.cons (t := 56) rfl (fun h => entW h) .nil) (op_len rfl el26) rfl ?_ | refine lxs rfl rfl rfl guard_eq (.cons (t := 56) rfl (fun h => entW h) .nil) (op_len_row rfl el26) rfl ?_ | refine lxs rfl rfl rfl guard_eq (.cons (t := 56) rfl (fun h => entW h) .nil) (op_len_mv rfl el26) rfl ?_ | refine lxs rfl rfl rfl guard_eq (.cons (t := 56) rfl (fun h => entW h) .nil) (op_len_nil rfl el26) rfl ?_
    refine lxs rfl rfl rfl guard_eq (.cons (t := 57) rfl (fun h => entW h) .nil) (op_gtr rfl rfl) rfl ?_
    refine lxs rfl rfl rfl guard_eq (.cons (t := 58) rfl (fun h => entW h) .nil) (op_move rfl) rfl ?_
    refine lxs rfl rfl rfl guard_w (.cons (t := 1) rfl (fun _ => Ent.refl _) .nil) (op_fieldAddr rfl fl28_9 sz26) rfl ?_
    refine lxs rfl rfl rfl guard_w (.cons (t := 60) rfl (fun h => entW h) .nil) (op_bload_one (m := 1) rfl rfl ag26 rfl) rfl ?_
    first | refine lxs rfl rfl rfl guard_w (.cons (t := 61) rfl (fun h => entW h) .nil) (op_len rfl el26) rfl ?_ | refine lxs rfl rfl rfl guard_w (.cons (t := 61) rfl (fun h => entW h) .nil) (op_len_row rfl el26) rfl ?_ | refine lxs rfl rfl rfl guard_w (.cons (t := 61) rfl (fun h => entW h) .nil) (op_len_mv rfl el26) rfl ?_ | refine lxs rfl rfl rfl guard_w (.cons (t := 61) rfl (fun h => entW h) .nil) (op_len_nil rfl el26) rfl ?_
    refine lxs rfl rfl rfl guard_w (.cons (t := 62) rfl (fun h => entW h) .nil) (op_gtr rfl rfl) rfl ?_
    refine lxs rfl rfl rfl guard_eq (.cons (t := 59) rfl (fun h => entW h) (.cons (t := 63) rfl (fun h => entS h) .nil)) (op_pick_or rfl rfl) rfl ?_
    refine lx (op_pick_and rfl rfl) rfl ?_
    refine lx_end ⟨by kernel_rfl, ?_⟩
    refine pe_then_normal ?_
    refine tr_sub hC (.cons (t := 1) rfl (.cons (t := 65) rfl .nil)) (.cons (t := 1) rfl .nil) rfl ?_
    refine tr_cond rfl (fun h65 => ?_) (fun h65 => ?_)
    · have hno := validF_no2 (o := o) (fun hh => head2_d hh h65)
      refine tr_seq ?_
      refine tr_region (fun N4 hN => ?_)
      refine lx (op_assign rfl) rfl ?_
      refine lx_end ⟨by kernel_rfl, ?_⟩
      refine pe_then_normal ?_
      refine tr_sub hC (.cons (t := 2) rfl .nil) .nil rfl ?_
      refine tr_ret ?_
      refine pe_then_ret ?_
      refine pe_ret1 rfl hO rfl (.tmp rfl .nil) ?_
      exact entB hno.symm
    · have hh2 := head2_d2 h65
      refine tr_skip ?_
      refine pe_then_normal ?_
      refine tr_sub hC (.cons (t := 1) rfl .nil) (.cons (t := 1) rfl .nil) rfl ?_
      refine tr_seq ?_
      refine tr_seq ?_
      refine tr_region (fun N5 hN => ?_)
      refine lx (op_fieldAddr rfl fl28_8 sz26) rfl ?_
      refine lx (op_bload_one (m := 1) rfl rfl ag26 rfl) rfl ?_
      first | refine lx (op_len rfl el26) rfl ?_ | refine lx (op_len_row rfl el26) rfl ?_ | refine lx (op_len_mv rfl el26) rfl ?_ | refine lx (op_len_nil rfl el26) rfl ?_
      refine lx (op_gtr rfl rfl) rfl ?_
      refine lx (op_move rfl) rfl ?_
      refine lxs rfl rfl rfl guard_eq (.cons (t := 1) rfl (fun _ => Ent.refl _) .nil) (op_fieldAddr rfl fl28_4 sz25) rfl ?_
      refine lxs rfl rfl rfl guard_eq (.cons (t := 71) rfl (fun h => entW h) .nil) (op_bload_one (m := 1) rfl rfl ag25 rfl) rfl ?_
      first | refine lxs rfl rfl rfl guard_eq (.cons (t := 72) rfl (fun h => entW h) .nil) (op_len rfl el25) rfl ?_ | refine lxs rfl rfl rfl guard_eq (.cons (t := 72) rfl (fun h => entW h) .nil) (op_len_row rfl el25) rfl ?_ | refine lxs rfl rfl rfl guard_eq (.cons (t := 72) rfl (fun h => entW h) .nil) (op_len_mv rfl el25) rfl ?_ | refine lxs rfl rfl rfl guard_eq (.cons (t := 72) rfl (fun h => entW h) .nil) (op_len_nil rfl el25) rfl ?_
      refine lxs rfl rfl rfl guard_eq (.cons (t := 1) rfl (fun _ => Ent.refl _) .nil) (op_fieldAddr rfl fl28_3 sz3) rfl ?_
      refine lxs rfl rfl rfl guard_eq (.cons (t := 74) rfl (fun h => entW h) .nil) (op_bload_one (m := 1) rfl rfl ag3 rfl) rfl ?_
      refine lxs rfl rfl rfl guard_eq (.cons (t := 73) rfl (fun h => entW h) (.cons (t := 75) rfl (fun h => entW h) .nil)) (op_lss rfl rfl) rfl ?_
      refine lx (op_pick_and rfl rfl) rfl ?_
      refine lx (op_move rfl) rfl ?_
      refine lxs rfl rfl rfl guard_eq (.cons (t := 1) rfl (fun _ => Ent.refl _) .nil) (op_fieldAddr rfl fl28_9 sz26) rfl ?_
      refine lxs rfl rfl rfl guard_eq (.cons (t := 79) rfl (fun h => entW h) .nil) (op_bload_one (m := 1) rfl rfl ag26 rfl) rfl ?_
      first | refine lxs rfl rfl rfl guard_eq (.cons (t := 80) rfl (fun h => entW h) .nil) (op_len rfl el26) rfl ?_ | refine lxs rfl rfl rfl guard_eq (.cons (t := 80) rfl (fun h => entW h) .nil) (op_len_row rfl el26) rfl ?_ | refine lxs rfl rfl rfl guard_eq (.cons (t := 80) rfl (fun h => entW h) .nil) (op_len_mv rfl el26) rfl ?_ | refine lxs rfl rfl rfl guard_eq (.cons (t := 80) rfl (fun h => entW h) .nil) (op_len_nil rfl el26) rfl ?_
      refine lxs rfl rfl rfl guard_eq (.cons (t := 81) rfl (fun h => entW h) .nil) (op_gtr rfl rfl) rfl ?_
      refine lxs rfl rfl rfl guard_eq (.cons (t := 82) rfl (fun h => entW h) .nil) (op_move rfl) rfl ?_
      refine lxs rfl rfl rfl guard_w (.cons (t := 1) rfl (fun _ => Ent.refl _) .nil) (op_fieldAddr rfl fl28_4 sz25) rfl ?_
      refine lxs rfl rfl rfl guard_w (.cons (t := 84) rfl (fun h => entW h) .nil) (op_bload_one (m := 1) rfl rfl ag25 rfl) rfl ?_
      first | refine lxs rfl rfl rfl guard_w (.cons (t := 85) rfl (fun h => entW h) .nil) (op_len rfl el25) rfl ?_ | refine lxs rfl rfl rfl guard_w (.cons (t := 85) rfl (fun h => entW h) .nil) (op_len_row rfl el25) rfl ?_ | refine lxs rfl rfl rfl guard_w (.cons (t := 85) rfl (fun h => entW h) .nil) (op_len_mv rfl el25) rfl ?_ | refine lxs rfl rfl rfl guard_w (.cons (t := 85) rfl (fun h => entW h) .nil) (op_len_nil rfl el25) rfl ?_
      refine lxs rfl rfl rfl guard_w (.cons (t := 86) rfl (fun h => entW h) .nil) (op_gtr rfl rfl) rfl ?_
      refine lxs rfl rfl rfl guard_eq (.cons (t := 83) rfl (fun h => entW h) (.cons (t := 87) rfl (fun h => entS h) .nil)) (op_pick_and rfl rfl) rfl ?_
      refine lx (op_pick_or rfl rfl) rfl ?_
      refine lx_end ⟨by kernel_rfl, ?_⟩
      refine pe_then_normal ?_
      refine tr_sub hC (.cons (t := 1) rfl (.cons (t := 89) rfl .nil)) (.cons (t := 1) rfl .nil) rfl ?_
      refine tr_cond rfl (fun h89 => ?_) (fun h89 => ?_)
      · have hno := validF_no2 (o := o) (fun hh => head2_e hh h89)
        refine tr_seq ?_
        refine tr_region (fun N6 hN => ?_)
        refine lx (op_assign rfl) rfl ?_
        refine lx_end ⟨by kernel_rfl, ?_⟩
        refine pe_then_normal ?_
        refine tr_sub hC (.cons (t := 2) rfl .nil) .nil rfl ?_
        refine tr_ret ?_
        refine pe_then_ret ?_
        refine pe_ret1 rfl hO rfl (.tmp rfl .nil) ?_
        exact entB hno.symm
      · have hh3 := head2_e2 hh1 hh2 h89
        refine tr_skip ?_
        refine pe_then_normal ?_
        refine tr_sub hC (.cons (t := 1) rfl .nil) (.cons (t := 1) rfl .nil) rfl ?_
        refine tr_seq ?_
        refine tr_seq ?_
        refine tr_region (fun N7 hN => ?_)
        refine lx (op_assign rfl) rfl ?_
        refine lx_end ⟨by kernel_rfl, ?_⟩
        refine pe_then_normal ?_
        refine tr_sub hC (.cons (t := 1) rfl (.cons (t := 3) rfl .nil)) (.cons (t := 1) rfl .nil) rfl ?_
        refine tr_block ?_
        refine tr_loopK (α := {zz : Nat // zz ≤ o.receivers.length ∧ (o.receivers.take zz).all (fun w => decide (w.v = v0)) = true}) (⟨(0), Nat.zero_le _, by simp⟩) (fun zz => [(3, eqP (.int .i64 (zz.1 : Int)))]) (fun zz => []) (fun zz => o.receivers.length - zz.1) hC (.cons (t := 1) rfl .nil) (.cons (t := 1) rfl .nil) rfl ?_ ?_ (fun zz => ?_)
        · try dsimp only [List.cons_append, List.nil_append]
          first | refine SubF.cons rfl ?_ | (refine SubF.ent rfl ?_ ?_; · repeat (first | exact Ents.nil | refine Ents.cons ?_ ?_ | refine Ent.tup ?_ | refine Ent.agg ?_ | exact Ent.row _ _ _ _ | exact Ent.nil _ _ | exact Ent.func _ | exact Ent.refl _ | exact Ent.of_eq rfl | refine Ent.cells ?_))
          exact SubF.nil
        · try dsimp only [List.cons_append, List.nil_append]
          repeat (first | exact SubL.nil | refine SubL.cons rfl ?_)
        · obtain ⟨k, hk1, hk2⟩ := zz
          dsimp only [List.cons_append, List.nil_append]
          refine tr_seq ?_
          refine tr_seq ?_
          refine tr_region (fun N8 hN => ?_)
          refine lx (op_move rfl) rfl ?_
          refine lx (op_fieldAddr rfl fl28_9 sz26) rfl ?_
          refine lx (op_bload_one (m := 1) rfl rfl ag26 rfl) rfl ?_
          first | refine lx (op_len rfl el26) rfl ?_ | refine lx (op_len_row rfl el26) rfl ?_ | refine lx (op_len_mv rfl el26) rfl ?_ | refine lx (op_len_nil rfl el26) rfl ?_
          refine lx (op_lss rfl rfl) rfl ?_
          refine lx_end ⟨by kernel_rfl, ?_⟩
          refine pe_then_normal ?_
          refine tr_sub hC (.cons (t := 1) rfl (.cons (t := 3) rfl (.cons (t := 94) rfl .nil))) (.cons (t := 1) rfl .nil) rfl ?_
          refine tr_cond rfl (fun h94 => ?_) (fun h94 => ?_)
          · (try simp only [Bool.and_eq_true, Bool.or_eq_true, Bool.and_eq_false_iff, Bool.or_eq_false_iff, decide_eq_true_eq, decide_eq_false_iff_not, Bool.not_eq_true', Bool.not_eq_false', List.length_map, ne_eq, Decidable.not_not, Int.not_lt, Int.not_le] at h94)
            refine tr_skip ?_
            refine pe_then_normal ?_
            refine tr_sub hC (.cons (t := 1) rfl (.cons (t := 3) rfl .nil)) (.cons (t := 1) rfl .nil) rfl ?_
            refine tr_seq ?_
            refine tr_block ?_
            refine tr_seq ?_
            refine tr_region (fun N10 hN => ?_)
            refine lx (op_fieldAddr rfl fl28_9 sz26) rfl ?_
            refine lx (op_bload_one (m := 1) rfl rfl ag26 rfl) rfl ?_
            refine lx (op_move rfl) rfl ?_
            refine lx (op_index rfl rfl el26 sz33 rfl (List.getElem?_eq_getElem (by omega : k < o.receivers.length))) rfl ?_
            first | refine lx (op_fieldAddr rfl fl33_2 sz23) rfl ?_ | refine lx (op_fieldCells rfl fl33_2 sz23) rfl ?_
            first | refine lx (op_load_all rfl ag23 sz23) rfl ?_ | refine lx (op_load_agg rfl ag23 sz23 rfl) rfl ?_ | refine lx (op_bload (m := 1) rfl rfl ag23 sz23) rfl ?_ | refine lx (op_bload_part (m := 1) (qs := [_, _, _]) rfl rfl ag23 sz23 rfl rfl) rfl ?_
            refine lx (op_build (qs := [_, _, _]) (parts := []) ze23 rfl rfl fs23 .nil rfl rfl) rfl ?_
            refine lx (op_neq_agg rfl rfl (eqV _ v0)) rfl ?_
            refine lx_end ⟨by kernel_rfl, ?_⟩
            refine pe_then_normal ?_
            refine tr_sub hC (.cons (t := 1) rfl (.cons (t := 3) rfl (.cons (t := 104) rfl .nil))) (.cons (t := 1) rfl .nil) rfl ?_
            refine tr_cond rfl (fun h104 => ?_) (fun h104 => ?_)
            · (try simp only [Bool.and_eq_true, Bool.or_eq_true, Bool.and_eq_false_iff, Bool.or_eq_false_iff, decide_eq_true_eq, decide_eq_false_iff_not, Bool.not_eq_true', Bool.not_eq_false', List.length_map, ne_eq, Decidable.not_not, Int.not_lt, Int.not_le] at h104)
              have hno := validF_no3 (o := o) (all_bad (φ := fun w : Wt => decide (w.v = v0)) (by omega : k < o.receivers.length) (decide_eq_false h104))
              refine tr_seq ?_
              refine tr_region (fun N11 hN => ?_)
              refine lx (op_assign rfl) rfl ?_
              refine lx_end ⟨by kernel_rfl, ?_⟩
              refine pe_then_normal ?_
              refine tr_sub hC (.cons (t := 2) rfl .nil) .nil rfl ?_
              refine tr_ret ?_
              refine pe_block_ret ?_
              refine pe_then_ret ?_
              refine pe_then_ret ?_
              refine pe_block_ret ?_
              refine pe_then_ret ?_
              refine pe_ret1 rfl hO rfl (.tmp rfl .nil) ?_
              exact entB hno.symm
            · (try simp only [Bool.and_eq_true, Bool.or_eq_true, Bool.and_eq_false_iff, Bool.or_eq_false_iff, decide_eq_true_eq, decide_eq_false_iff_not, Bool.not_eq_true', Bool.not_eq_false', List.length_map, ne_eq, Decidable.not_not, Int.not_lt, Int.not_le] at h104)
              refine tr_skip ?_
              refine pe_block_normal ?_
              refine pe_then_normal ?_
              refine tr_sub hC (.cons (t := 1) rfl (.cons (t := 3) rfl .nil)) (.cons (t := 1) rfl .nil) rfl ?_
              refine tr_region (fun N9 hN => ?_)
              refine lx (op_move rfl) rfl ?_
              refine lx (op_add rfl rfl (by omega)) rfl ?_
              refine lx (op_assign rfl) rfl ?_
              refine lx_end ⟨by kernel_rfl, ?_⟩
              refine pe_round (⟨(k + 1), by omega, all_step (φ := fun w : Wt => decide (w.v = v0)) hk2 (by omega) (decide_eq_true h104)⟩) (by dsimp only; omega) (pe_st hC ?_ ?_ rfl)
              · try dsimp only [List.cons_append, List.nil_append]
                first | refine SubF.cons rfl ?_ | (refine SubF.ent rfl ?_ ?_; · repeat (first | exact Ents.nil | refine Ents.cons ?_ ?_ | refine Ent.tup ?_ | refine Ent.agg ?_ | exact Ent.row _ _ _ _ | exact Ent.nil _ _ | exact Ent.func _ | exact Ent.refl _ | exact Ent.of_eq rfl | refine Ent.cells ?_))
                first | refine SubF.cons rfl ?_ | (refine SubF.ent rfl ?_ ?_; · repeat (first | exact Ents.nil | refine Ents.cons ?_ ?_ | refine Ent.tup ?_ | refine Ent.agg ?_ | exact Ent.row _ _ _ _ | exact Ent.nil _ _ | exact Ent.func _ | exact Ent.refl _ | exact Ent.of_eq rfl | refine Ent.cells ?_))
                exact SubF.nil
              · try dsimp only [List.cons_append, List.nil_append]
                repeat (first | exact SubL.nil | refine SubL.cons rfl ?_)
          · (try simp only [Bool.and_eq_true, Bool.or_eq_true, Bool.and_eq_false_iff, Bool.or_eq_false_iff, decide_eq_true_eq, decide_eq_false_iff_not, Bool.not_eq_true', Bool.not_eq_false', List.length_map, ne_eq, Decidable.not_not, Int.not_lt, Int.not_le] at h94)
            have hk3 : k = o.receivers.length := by omega
            have hz : (o.receivers.all fun w => decide (w.v = v0)) = true := all_end hk2 (by omega)
            have hyes := valid_w hh1 hh3 hz
            refine tr_exit ?_
            refine pe_then_exit ?_
            refine pe_then_exit ?_
            refine pe_block_eq ?_
            refine pe_then_normal ?_
            refine tr_sub hC (.cons (t := 1) rfl .nil) (.cons (t := 1) rfl .nil) rfl ?_
            refine tr_seq ?_
            refine tr_region (fun N12 hN => ?_)
            refine lx (op_fieldAddr rfl fl28_8 sz26) rfl ?_
            refine lx (op_bload_one (m := 1) rfl rfl ag26 rfl) rfl ?_
            refine lx (op_fieldAddr rfl fl28_9 sz26) rfl ?_
            refine lx (op_bload_one (m := 1) rfl rfl ag26 rfl) rfl ?_
            first | refine lx (op_call (l := [(Go.Operand.tmp 106), (Go.Operand.tmp 108)]) (waiters_ok o.senders o.receivers hsn hrc) (.cons rfl (.cons rfl .nil)) fn44) rfl ?_ | refine lx (op_call (l := [(Go.Operand.tmp 106), (Go.Operand.tmp 108)]) (waiters_ok o.senders o.receivers hsn hrc) (.ent rfl (by repeat (first | exact Ents.nil | refine Ents.cons ?_ ?_ | refine Ent.tup ?_ | refine Ent.agg ?_ | exact Ent.row _ _ _ _ | exact Ent.nil _ _ | exact Ent.func _ | exact Ent.refl _ | exact Ent.of_eq rfl | refine Ent.cells ?_)) (.ent rfl (by repeat (first | exact Ents.nil | refine Ents.cons ?_ ?_ | refine Ent.tup ?_ | refine Ent.agg ?_ | exact Ent.row _ _ _ _ | exact Ent.nil _ _ | exact Ent.func _ | exact Ent.refl _ | exact Ent.of_eq rfl | refine Ent.cells ?_)) .nil)) fn44) rfl ?_
            refine lx (op_assign rfl) rfl ?_
            refine lx_end ⟨by kernel_rfl, ?_⟩
            refine pe_then_normal ?_
            refine tr_sub hC (.cons (t := 2) rfl .nil) .nil rfl ?_
            refine tr_ret ?_
            refine pe_ret1 rfl hO rfl (.tmp rfl .nil) ?_
            exact entB hyes.symm

theorem copy_ok (o : Ob) (hs : Lens o) : FnP Try.prog 45 [aggP o.ps] (aggP o.ps) := by
  refine fn_pure' Try.func45 rfl Try.ntmps45 rfl ?_
  intro σ0 M ex Rf R hC hO
  simp only [frameOf, tokOf]
  refine tr_seq ?_
  refine tr_region (fun N0 hN => ?_)
  refine lxn (op_box (m := 1) (k := 1) rfl (.agg rfl) (by first | exact hC.low _ (by decide) | rfl)) rfl ?_
  refine lxn (op_alloc (m := 2) (k := 2) (ps := [eqP (.int .i64 0), eqP (.slice none 0 0), eqP (.bool false), eqP (.int .i64 0), eqP (.slice none 0 0), eqP (.bool false), eqP (.int .i64 0), eqP (.int .i64 0), eqP (.slice none 0 0), eqP (.slice none 0 0)]) ze28 rfl rfl (by first | exact hC.low _ (by decide) | rfl)) rfl ?_
  refine lx_end ⟨by kernel_rfl, ?_⟩
  refine pe_then_normal ?_
  refine tr_sub hC (.cons (t := 1) rfl (.cons (t := 2) rfl .nil)) (.cons (t := 1) rfl (.cons (t := 2) rfl .nil)) rfl ?_
  refine tr_seq ?_
  refine tr_region (fun N1 hN => ?_)
  refine lxn (op_buildEmpty (m' := 3) (kk := 3) (f := vp) el25 sz23 (by first | exact hC.low _ (by decide) | rfl)) rfl ?_
  refine lx (op_fieldAddr rfl fl28_1 sz25) rfl ?_
  refine lx (op_bload_one (m := 1) rfl rfl ag25 rfl) rfl ?_
  refine lxr (op_append (m := 3) (m' := 6) (kk := 6) rfl rfl rfl (.inr (by first | exact hC.low _ (by decide) | rfl)) el25 ze23 sz23 by23 rfl vp_len (by have := hs.cells; simp; omega) (by have := hs.cells; simp; omega)) rfl ?_
  refine lx (op_fieldAddr rfl fl28_1 sz25) rfl ?_
  refine lxr (op_store (m := 1) (rs := [_, _, _, _, _, _, _, _, _, _]) rfl rfl rfl (.one (by (first | exact One.eq rfl | exact One.mv _ _ _ _ _ | exact One.cl _ _ _ | exact One.map _ | exact One.sl _ _ _ | exact One.row _ _ _ _ | exact One.msl _ _ _ _ | exact One.ptr _ _ | exact One.b _ | exact One.cells _))) sz25 rfl rfl rfl) rfl ?_
  refine lx_end ⟨by kernel_rfl, ?_⟩
  refine pe_then_normal ?_
  refine tr_sub hC (.cons (t := 1) rfl (.cons (t := 2) rfl .nil)) (.cons (t := 1) rfl (.cons (t := 2) rfl .nil)) rfl ?_
  refine tr_seq ?_
  refine tr_region (fun N2 hN => ?_)
  refine lxn (op_buildEmpty (m' := 8) (kk := 8) (f := vp) el25 sz23 (by first | exact hC.low _ (by decide) | rfl)) rfl ?_
  refine lx (op_fieldAddr rfl fl28_4 sz25) rfl ?_
  refine lx (op_bload_one (m := 1) rfl rfl ag25 rfl) rfl ?_
  refine lxr (op_append (m := 8) (m' := 11) (kk := 11) rfl rfl rfl (.inr (by first | exact hC.low _ (by decide) | rfl)) el25 ze23 sz23 by23 rfl vp_len (by have := hs.queue; simp; omega) (by have := hs.queue; simp; omega)) rfl ?_
  refine lx (op_fieldAddr rfl fl28_4 sz25) rfl ?_
  refine lxr (op_store (m := 1) (rs := [_, _, _, _, _, _, _, _, _, _]) rfl rfl rfl (.one (by (first | exact One.eq rfl | exact One.mv _ _ _ _ _ | exact One.cl _ _ _ | exact One.map _ | exact One.sl _ _ _ | exact One.row _ _ _ _ | exact One.msl _ _ _ _ | exact One.ptr _ _ | exact One.b _ | exact One.cells _))) sz25 rfl rfl rfl) rfl ?_
  refine lx_end ⟨by kernel_rfl, ?_⟩
  refine pe_then_normal ?_
  refine tr_sub hC (.cons (t := 1) rfl (.cons (t := 2) rfl .nil)) (.cons (t := 1) rfl (.cons (t := 2) rfl .nil)) rfl ?_
  refine tr_seq ?_
  refine tr_region (fun N3 hN => ?_)
  refine lxn (op_buildEmpty (m' := 13) (kk := 13) (f := wp) el26 sz33 (by first | exact hC.low _ (by decide) | rfl)) rfl ?_
  refine lx (op_fieldAddr rfl fl28_8 sz26) rfl ?_
  refine lx (op_bload_one (m := 1) rfl rfl ag26 rfl) rfl ?_
  refine lxr (op_append (m := 13) (m' := 16) (kk := 16) rfl rfl rfl (.inr (by first | exact hC.low _ (by decide) | rfl)) el26 ze33 sz33 by33 rfl wp_len (by have := hs.senders; simp; omega) (by have := hs.senders; simp; omega)) rfl ?_
  refine lx (op_fieldAddr rfl fl28_8 sz26) rfl ?_
  refine lxr (op_store (m := 1) (rs := [_, _, _, _, _, _, _, _, _, _]) rfl rfl rfl (.one (by (first | exact One.eq rfl | exact One.mv _ _ _ _ _ | exact One.cl _ _ _ | exact One.map _ | exact One.sl _ _ _ | exact One.row _ _ _ _ | exact One.msl _ _ _ _ | exact One.ptr _ _ | exact One.b _ | exact One.cells _))) sz26 rfl rfl rfl) rfl ?_
  refine lx_end ⟨by kernel_rfl, ?_⟩
  refine pe_then_normal ?_
  refine tr_sub hC (.cons (t := 1) rfl (.cons (t := 2) rfl .nil)) (.cons (t := 1) rfl (.cons (t := 2) rfl .nil)) rfl ?_
  refine tr_seq ?_
  refine tr_region (fun N4 hN => ?_)
  refine lxn (op_buildEmpty (m' := 18) (kk := 18) (f := wp) el26 sz33 (by first | exact hC.low _ (by decide) | rfl)) rfl ?_
  refine lx (op_fieldAddr rfl fl28_9 sz26) rfl ?_
  refine lx (op_bload_one (m := 1) rfl rfl ag26 rfl) rfl ?_
  refine lxr (op_append (m := 18) (m' := 21) (kk := 21) rfl rfl rfl (.inr (by first | exact hC.low _ (by decide) | rfl)) el26 ze33 sz33 by33 rfl wp_len (by have := hs.receivers; simp; omega) (by have := hs.receivers; simp; omega)) rfl ?_
  refine lx (op_fieldAddr rfl fl28_9 sz26) rfl ?_
  refine lxr (op_store (m := 1) (rs := [_, _, _, _, _, _, _, _, _, _]) rfl rfl rfl (.one (by (first | exact One.eq rfl | exact One.mv _ _ _ _ _ | exact One.cl _ _ _ | exact One.map _ | exact One.sl _ _ _ | exact One.row _ _ _ _ | exact One.msl _ _ _ _ | exact One.ptr _ _ | exact One.b _ | exact One.cells _))) sz26 rfl rfl rfl) rfl ?_
  refine lx_end ⟨by kernel_rfl, ?_⟩
  refine pe_then_normal ?_
  refine tr_sub hC (.cons (t := 1) rfl (.cons (t := 2) rfl .nil)) (.cons (t := 1) rfl (.cons (t := 2) rfl .nil)) rfl ?_
  refine tr_seq ?_
  refine tr_region (fun N5 hN => ?_)
  refine lx (op_bload (m := 1) rfl rfl ag28 sz28) rfl ?_
  refine lxr (op_store_all (m := 2) rfl rfl rfl (.agg rfl) sz28 rfl) rfl ?_
  refine lx_end ⟨by kernel_rfl, ?_⟩
  refine pe_then_normal ?_
  refine tr_sub hC (.cons (t := 2) rfl .nil) (.cons (t := 2) rfl .nil) rfl ?_
  refine tr_ret ?_
  refine pe_ret1 rfl hO rfl (.cell (m := 2) rfl rfl ag28 sz28 .nil) ?_
  repeat (first | exact Ents.nil | refine Ents.cons ?_ ?_ | refine Ent.tup ?_ | refine Ent.agg ?_ | exact Ent.row _ _ _ _ | exact Ent.nil _ _ | exact Ent.func _ | exact Ent.refl _ | exact Ent.of_eq rfl | refine Ent.cells ?_)

theorem rother_ok (l : List Wt) (x : Int) (hl : l.length ≤ 1000000) : FnP Try.prog 46 [slP wp 5 l, eqP (.int .i64 x)] (tupP [aggP (wp (otherF l x).1), eqP (.bool (otherF l x).2)]) := by
  refine fn_pure' Try.func46 rfl Try.ntmps46 rfl ?_
  intro σ0 M ex Rf R hC hO
  simp only [frameOf, tokOf]
  refine tr_seq ?_
  refine tr_region (fun N0 hN => ?_)
  refine lxn (op_alloc (m := 4) (k := 4) (ps := [eqP (.int .i64 0), eqP (.int .i64 0), eqP (.int .i64 0), eqP (.int .i64 0), eqP (.int .i64 0)]) ze33 rfl rfl (by first | exact hC.low _ (by decide) | rfl)) rfl ?_
  refine lx (op_assign rfl) rfl ?_
  refine lx_end ⟨by kernel_rfl, ?_⟩
  refine pe_then_normal ?_
  refine tr_sub hC (.cons (t := 0) rfl (.cons (t := 1) rfl (.cons (t := 4) rfl .nil))) (.cons (t := 4) rfl .nil) rfl ?_
  refine tr_seq ?_
  refine tr_seq ?_
  refine tr_region (fun N1 hN => ?_)
  refine lx (op_assign rfl) rfl ?_
  refine lx_end ⟨by kernel_rfl, ?_⟩
  refine pe_then_normal ?_
  refine tr_sub hC (.cons (t := 0) rfl (.cons (t := 1) rfl (.cons (t := 4) rfl (.cons (t := 6) rfl .nil)))) (.cons (t := 4) rfl .nil) rfl ?_
  refine tr_block ?_
  refine tr_loopK (α := {zz : Nat // zz ≤ l.length ∧ ∀ w ∈ l.take zz, decide (w.g ≠ x) = false}) (⟨(0), Nat.zero_le _, by simp⟩) (fun zz => [(6, eqP (.int .i64 (zz.1 : Int)))]) (fun zz => []) (fun zz => l.length - zz.1) hC (.cons (t := 0) rfl (.cons (t := 1) rfl (.cons (t := 4) rfl .nil))) (.cons (t := 4) rfl .nil) rfl ?_ ?_ (fun zz => ?_)
  · try dsimp only [List.cons_append, List.nil_append]
    first | refine SubF.cons rfl ?_ | (refine SubF.ent rfl ?_ ?_; · repeat (first | exact Ents.nil | refine Ents.cons ?_ ?_ | refine Ent.tup ?_ | refine Ent.agg ?_ | exact Ent.row _ _ _ _ | exact Ent.nil _ _ | exact Ent.func _ | exact Ent.refl _ | exact Ent.of_eq rfl | refine Ent.cells ?_))
    exact SubF.nil
  · try dsimp only [List.cons_append, List.nil_append]
    repeat (first | exact SubL.nil | refine SubL.cons rfl ?_)
  · obtain ⟨k, hk1, hk2⟩ := zz
    dsimp only [List.cons_append, List.nil_append]
    refine tr_seq ?_
    refine tr_seq ?_
    refine tr_region (fun N2 hN => ?_)
    refine lx (op_move rfl) rfl ?_
    refine lx (op_move rfl) rfl ?_
    first | refine lx (op_len rfl el26) rfl ?_ | refine lx (op_len_row rfl el26) rfl ?_ | refine lx (op_len_mv rfl el26) rfl ?_ | refine lx (op_len_nil rfl el26) rfl ?_
    refine lx (op_lss rfl rfl) rfl ?_
    refine lx_end ⟨by kernel_rfl, ?_⟩
    refine pe_then_normal ?_
    refine tr_sub hC (.cons (t := 0) rfl (.cons (t := 1) rfl (.cons (t := 4) rfl (.cons (t := 6) rfl (.cons (t := 10) rfl .nil))))) (.cons (t := 4) rfl .nil) rfl ?_
    refine tr_cond rfl (fun h10 => ?_) (fun h10 => ?_)
    · (try simp only [Bool.and_eq_true, Bool.or_eq_true, Bool.and_eq_false_iff, Bool.or_eq_false_iff, decide_eq_true_eq, decide_eq_false_iff_not, Bool.not_eq_true', Bool.not_eq_false', List.length_map, ne_eq, Decidable.not_not, Int.not_lt, Int.not_le] at h10)
      refine tr_skip ?_
      refine pe_then_normal ?_
      refine tr_sub hC (.cons (t := 0) rfl (.cons (t := 1) rfl (.cons (t := 4) rfl (.cons (t := 6) rfl .nil)))) (.cons (t := 4) rfl .nil) rfl ?_
      refine tr_seq ?_
      refine tr_block ?_
      refine tr_seq ?_
      refine tr_region (fun N4 hN => ?_)
      refine lx (op_move rfl) rfl ?_
      refine lx (op_move rfl) rfl ?_
      refine lx (op_index rfl rfl el26 sz33 rfl (List.getElem?_eq_getElem (by omega : k < l.length))) rfl ?_
      first | refine lx (op_fieldAddr rfl fl33_0 sz3) rfl ?_ | refine lx (op_fieldCells rfl fl33_0 sz3) rfl ?_
      first | refine lx (op_load_one rfl ag3 rfl) rfl ?_ | refine lx (op_bload_one (m := 4) rfl rfl ag3 rfl) rfl ?_
      refine lx (op_move rfl) rfl ?_
      refine lx (op_neq rfl rfl) rfl ?_
      refine lx_end ⟨by kernel_rfl, ?_⟩
      refine pe_then_normal ?_
      refine tr_sub hC (.cons (t := 0) rfl (.cons (t := 1) rfl (.cons (t := 4) rfl (.cons (t := 6) rfl (.cons (t := 19) rfl .nil))))) (.cons (t := 4) rfl .nil) rfl ?_
      refine tr_cond rfl (fun h19 => ?_) (fun h19 => ?_)
      · (try simp only [Bool.and_eq_true, Bool.or_eq_true, Bool.and_eq_false_iff, Bool.or_eq_false_iff, decide_eq_true_eq, decide_eq_false_iff_not, Bool.not_eq_true', Bool.not_eq_false', List.length_map, ne_eq, Decidable.not_not, Int.not_lt, Int.not_le] at h19)
        have hyes : otherF l x = (l[k], true) := otherF_at (by omega) hk2 (by simpa using h19)
        refine tr_seq ?_
        refine tr_region (fun N5 hN => ?_)
        refine lx (op_move rfl) rfl ?_
        refine lx (op_move rfl) rfl ?_
        refine lx (op_index rfl rfl el26 sz33 rfl (List.getElem?_eq_getElem (by omega : k < l.length))) rfl ?_
        first | refine lx (op_load_all rfl ag33 sz33) rfl ?_ | refine lx (op_load_agg rfl ag33 sz33 rfl) rfl ?_ | refine lx (op_bload (m := 4) rfl rfl ag33 sz33) rfl ?_ | refine lx (op_bload_part (m := 4) (qs := [_, _, _, _, _]) rfl rfl ag33 sz33 rfl rfl) rfl ?_
        refine lxr (op_store_all (m := 4) rfl rfl rfl (.agg rfl) sz33 rfl) rfl ?_
        refine lx (op_assign rfl) rfl ?_
        refine lx_end ⟨by kernel_rfl, ?_⟩
        refine pe_then_normal ?_
        refine tr_sub hC (.cons (t := 4) rfl (.cons (t := 5) rfl .nil)) (.cons (t := 4) rfl .nil) rfl ?_
        refine tr_ret ?_
        refine pe_block_ret ?_
        refine pe_then_ret ?_
        refine pe_then_ret ?_
        refine pe_block_ret ?_
        refine pe_then_ret ?_
        refine pe_retN (rs := [.cell 4 33, .tmp 5]) rfl rfl hO rfl (.cell (m := 4) rfl rfl ag33 sz33 (.tmp rfl .nil)) ?_
        rw [hyes]
        repeat (first | exact Ents.nil | refine Ents.cons ?_ ?_ | refine Ent.tup ?_ | refine Ent.agg ?_ | exact Ent.row _ _ _ _ | exact Ent.nil _ _ | exact Ent.func _ | exact Ent.refl _ | exact Ent.of_eq rfl | refine Ent.cells ?_)
      · (try simp only [Bool.and_eq_true, Bool.or_eq_true, Bool.and_eq_false_iff, Bool.or_eq_false_iff, decide_eq_true_eq, decide_eq_false_iff_not, Bool.not_eq_true', Bool.not_eq_false', List.length_map, ne_eq, Decidable.not_not, Int.not_lt, Int.not_le] at h19)
        refine tr_skip ?_
        refine pe_block_normal ?_
        refine pe_then_normal ?_
        refine tr_sub hC (.cons (t := 0) rfl (.cons (t := 1) rfl (.cons (t := 4) rfl (.cons (t := 6) rfl .nil)))) (.cons (t := 4) rfl .nil) rfl ?_
        refine tr_region (fun N3 hN => ?_)
        refine lx (op_move rfl) rfl ?_
        refine lx (op_add rfl rfl (by omega)) rfl ?_
        refine lx (op_assign rfl) rfl ?_
        refine lx_end ⟨by kernel_rfl, ?_⟩
        refine pe_round (⟨(k + 1), by omega, take_all (φ := fun w : Wt => decide (w.g ≠ x)) hk2 (by omega) (by simpa using h19)⟩) (by dsimp only; omega) (pe_st hC ?_ ?_ rfl)
        · try dsimp only [List.cons_append, List.nil_append]
          first | refine SubF.cons rfl ?_ | (refine SubF.ent rfl ?_ ?_; · repeat (first | exact Ents.nil | refine Ents.cons ?_ ?_ | refine Ent.tup ?_ | refine Ent.agg ?_ | exact Ent.row _ _ _ _ | exact Ent.nil _ _ | exact Ent.func _ | exact Ent.refl _ | exact Ent.of_eq rfl | refine Ent.cells ?_))
          first | refine SubF.cons rfl ?_ | (refine SubF.ent rfl ?_ ?_; · repeat (first | exact Ents.nil | refine Ents.cons ?_ ?_ | refine Ent.tup ?_ | refine Ent.agg ?_ | exact Ent.row _ _ _ _ | exact Ent.nil _ _ | exact Ent.func _ | exact Ent.refl _ | exact Ent.of_eq rfl | refine Ent.cells ?_))
          first | refine SubF.cons rfl ?_ | (refine SubF.ent rfl ?_ ?_; · repeat (first | exact Ents.nil | refine Ents.cons ?_ ?_ | refine Ent.tup ?_ | refine Ent.agg ?_ | exact Ent.row _ _ _ _ | exact Ent.nil _ _ | exact Ent.func _ | exact Ent.refl _ | exact Ent.of_eq rfl | refine Ent.cells ?_))
          first | refine SubF.cons rfl ?_ | (refine SubF.ent rfl ?_ ?_; · repeat (first | exact Ents.nil | refine Ents.cons ?_ ?_ | refine Ent.tup ?_ | refine Ent.agg ?_ | exact Ent.row _ _ _ _ | exact Ent.nil _ _ | exact Ent.func _ | exact Ent.refl _ | exact Ent.of_eq rfl | refine Ent.cells ?_))
          exact SubF.nil
        · try dsimp only [List.cons_append, List.nil_append]
          repeat (first | exact SubL.nil | refine SubL.cons rfl ?_)
    · (try simp only [Bool.and_eq_true, Bool.or_eq_true, Bool.and_eq_false_iff, Bool.or_eq_false_iff, decide_eq_true_eq, decide_eq_false_iff_not, Bool.not_eq_true', Bool.not_eq_false', List.length_map, ne_eq, Decidable.not_not, Int.not_lt, Int.not_le] at h10)
      have hno : otherF l x = (w0, false) := otherF_none (by rw [List.take_of_length_le (by omega)] at hk2; exact hk2)
      refine tr_exit ?_
      refine pe_then_exit ?_
      refine pe_then_exit ?_
      refine pe_block_eq ?_
      refine pe_then_normal ?_
      refine tr_sub hC (.cons (t := 4) rfl .nil) (.cons (t := 4) rfl .nil) rfl ?_
      refine tr_seq ?_
      refine tr_region (fun N6 hN => ?_)
      refine lx (op_build (qs := [_, _, _, _, _]) (parts := []) ze33 rfl rfl fs33 .nil rfl rfl) rfl ?_
      refine lxr (op_store_all (m := 4) rfl rfl rfl (.agg rfl) sz33 rfl) rfl ?_
      refine lx (op_assign rfl) rfl ?_
      refine lx_end ⟨by kernel_rfl, ?_⟩
      refine pe_then_normal ?_
      refine tr_sub hC (.cons (t := 4) rfl (.cons (t := 5) rfl .nil)) (.cons (t := 4) rfl .nil) rfl ?_
      refine tr_ret ?_
      refine pe_retN (rs := [.cell 4 33, .tmp 5]) rfl rfl hO rfl (.cell (m := 4) rfl rfl ag33 sz33 (.tmp rfl .nil)) ?_
      rw [hno]
      repeat (first | exact Ents.nil | refine Ents.cons ?_ ?_ | refine Ent.tup ?_ | refine Ent.agg ?_ | exact Ent.row _ _ _ _ | exact Ent.nil _ _ | exact Ent.func _ | exact Ent.refl _ | exact Ent.of_eq rfl | refine Ent.cells ?_)

theorem without_ok (l : List Wt) (x : Int) (hl : l.length ≤ 1000000) : FnP Try.prog 47 [slP wp 5 l, eqP (.int .i64 x)] (slP wp 5 (l.filter fun w => decide (w.g ≠ x))) := by
  refine fn_pure' Try.func47 rfl Try.ntmps47 rfl ?_
  intro σ0 M ex Rf R hC hO
  simp only [frameOf, tokOf]
  refine tr_seq ?_
  refine tr_region (fun N0 hN => ?_)
  refine lx (op_assign rfl) rfl ?_
  refine lx_end ⟨by kernel_rfl, ?_⟩
  refine pe_then_normal ?_
  refine tr_sub hC (.cons (t := 0) rfl (.cons (t := 1) rfl .nil)) .nil rfl ?_
  refine tr_seq ?_
  refine tr_region (fun N1 hN => ?_)
  refine lx (op_assign rfl) rfl ?_
  refine lx_end ⟨by kernel_rfl, ?_⟩
  refine pe_then_normal ?_
  refine tr_sub hC (.cons (t := 0) rfl (.cons (t := 1) rfl (.cons (t := 5) rfl .nil))) .nil rfl ?_
  refine tr_seq ?_
  refine tr_seq ?_
  refine tr_region (fun N2 hN => ?_)
  refine lx (op_assign rfl) rfl ?_
  refine lx_end ⟨by kernel_rfl, ?_⟩
  refine pe_then_normal ?_
  refine tr_sub hC (.cons (t := 0) rfl (.cons (t := 1) rfl (.cons (t := 5) rfl (.cons (t := 6) rfl .nil)))) .nil rfl ?_
  refine tr_block ?_
  refine tr_nilrow wp 5 33 5 600 rfl (by first | exact hC.low _ (by decide) | rfl) (fun idN => ?_)
  refine tr_loopK (α := {zz : Nat × (List Wt) × AL.Id // zz.1 ≤ l.length ∧ zz.2.1 ++ (l.drop zz.1).filter (fun w => decide (w.g ≠ x)) = l.filter (fun w => decide (w.g ≠ x)) ∧ zz.2.1.length ≤ zz.1}) (⟨(0, [], idN), Nat.zero_le _, rfl, Nat.le_refl _⟩) (fun zz => [(5, rowP zz.1.2.2 wp 5 zz.1.2.1), (6, eqP (.int .i64 (zz.1.1 : Int)))]) (fun zz => [(600, some (zz.1.2.2, tail 33 5 (zz.1.2.1.length * 5)))]) (fun zz => l.length - zz.1.1) hC (.cons (t := 0) rfl (.cons (t := 1) rfl .nil)) .nil rfl ?_ ?_ (fun zz => ?_)
  · try dsimp only [List.cons_append, List.nil_append]
    first | refine SubF.cons rfl ?_ | (refine SubF.ent rfl ?_ ?_; · repeat (first | exact Ents.nil | refine Ents.cons ?_ ?_ | refine Ent.tup ?_ | refine Ent.agg ?_ | exact Ent.row _ _ _ _ | exact Ent.nil _ _ | exact Ent.func _ | exact Ent.refl _ | exact Ent.of_eq rfl | refine Ent.cells ?_))
    first | refine SubF.cons rfl ?_ | (refine SubF.ent rfl ?_ ?_; · repeat (first | exact Ents.nil | refine Ents.cons ?_ ?_ | refine Ent.tup ?_ | refine Ent.agg ?_ | exact Ent.row _ _ _ _ | exact Ent.nil _ _ | exact Ent.func _ | exact Ent.refl _ | exact Ent.of_eq rfl | refine Ent.cells ?_))
    exact SubF.nil
  · try dsimp only [List.cons_append, List.nil_append]
    repeat (first | exact SubL.nil | refine SubL.cons rfl ?_)
  · obtain ⟨⟨k, out, id⟩, hk1, hk2, hk3⟩ := zz
    try dsimp only at hk1
    try dsimp only at hk2
    try dsimp only at hk3
    dsimp only [List.cons_append, List.nil_append]
    refine tr_seq ?_
    refine tr_seq ?_
    refine tr_region (fun N3 hN => ?_)
    refine lx (op_move rfl) rfl ?_
    refine lx (op_move rfl) rfl ?_
    first | refine lx (op_len rfl el26) rfl ?_ | refine lx (op_len_row rfl el26) rfl ?_ | refine lx (op_len_mv rfl el26) rfl ?_ | refine lx (op_len_nil rfl el26) rfl ?_
    refine lx (op_lss rfl rfl) rfl ?_
    refine lx_end ⟨by kernel_rfl, ?_⟩
    refine pe_then_normal ?_
    refine tr_sub hC (.cons (t := 0) rfl (.cons (t := 1) rfl (.cons (t := 5) rfl (.cons (t := 6) rfl (.cons (t := 10) rfl .nil))))) (.cons (t := 600) rfl .nil) rfl ?_
    refine tr_cond rfl (fun h10 => ?_) (fun h10 => ?_)
    · (try simp only [Bool.and_eq_true, Bool.or_eq_true, Bool.and_eq_false_iff, Bool.or_eq_false_iff, decide_eq_true_eq, decide_eq_false_iff_not, Bool.not_eq_true', Bool.not_eq_false', List.length_map, ne_eq, Decidable.not_not, Int.not_lt, Int.not_le] at h10)
      refine tr_skip ?_
      refine pe_then_normal ?_
      refine tr_sub hC (.cons (t := 0) rfl (.cons (t := 1) rfl (.cons (t := 5) rfl (.cons (t := 6) rfl .nil)))) (.cons (t := 600) rfl .nil) rfl ?_
      refine tr_seq ?_
      refine tr_block ?_
      refine tr_seq ?_
      refine tr_region (fun N5 hN => ?_)
      refine lx (op_move rfl) rfl ?_
      refine lx (op_move rfl) rfl ?_
      refine lx (op_index rfl rfl el26 sz33 rfl (List.getElem?_eq_getElem (by omega : k < l.length))) rfl ?_
      first | refine lx (op_fieldAddr rfl fl33_0 sz3) rfl ?_ | refine lx (op_fieldCells rfl fl33_0 sz3) rfl ?_
      first | refine lx (op_load_one rfl ag3 rfl) rfl ?_ | refine lx (op_bload_one (m := 600) rfl rfl ag3 rfl) rfl ?_
      refine lx (op_move rfl) rfl ?_
      refine lx (op_neq rfl rfl) rfl ?_
      refine lx_end ⟨by kernel_rfl, ?_⟩
      refine pe_then_normal ?_
      refine tr_sub hC (.cons (t := 0) rfl (.cons (t := 1) rfl (.cons (t := 5) rfl (.cons (t := 6) rfl (.cons (t := 19) rfl .nil))))) (.cons (t := 600) rfl .nil) rfl ?_
      refine tr_cond rfl (fun h19 => ?_) (fun h19 => ?_)
      · (try simp only [Bool.and_eq_true, Bool.or_eq_true, Bool.and_eq_false_iff, Bool.or_eq_false_iff, decide_eq_true_eq, decide_eq_false_iff_not, Bool.not_eq_true', Bool.not_eq_false', List.length_map, ne_eq, Decidable.not_not, Int.not_lt, Int.not_le] at h19)
        refine tr_region (fun N6 hN => ?_)
        refine lx (op_move rfl) rfl ?_
        refine lx (op_move rfl) rfl ?_
        refine lx (op_move rfl) rfl ?_
        refine lx (op_index rfl rfl el26 sz33 rfl (List.getElem?_eq_getElem (by omega : k < l.length))) rfl ?_
        first | refine lx (op_load_all rfl ag33 sz33) rfl ?_ | refine lx (op_load_agg rfl ag33 sz33 rfl) rfl ?_ | refine lx (op_bload (m := 600) rfl rfl ag33 sz33) rfl ?_ | refine lx (op_bload_part (m := 600) (qs := [_, _, _, _, _]) rfl rfl ag33 sz33 rfl rfl) rfl ?_
        refine lx (op_buildSlice (f := wp) (xs := [l[k]]) (l := [(0, (Go.Operand.tmp 24))]) ze33 rfl rfl (by decide) el26 sz33 wp_len (.cons rfl (.agg rfl) .nil) rfl (by decide)) rfl ?_
        refine lxr (op_append (m := 600) (m' := 600) (kk := 26) rfl rfl rfl (.inl rfl) el26 ze33 sz33 by33 rfl wp_len (by rw [List.length_singleton]; omega) (by rw [List.length_singleton]; omega)) rfl ?_
        refine lx (op_assign rfl) rfl ?_
        refine lx_end ⟨by kernel_rfl, ?_⟩
        refine pe_block_normal ?_
        refine pe_then_normal ?_
        refine tr_sub hC (.cons (t := 0) rfl (.cons (t := 1) rfl (.cons (t := 5) rfl (.cons (t := 6) rfl .nil)))) (.cons (t := 600) rfl .nil) rfl ?_
        refine tr_region (fun N4 hN => ?_)
        refine lx (op_move rfl) rfl ?_
        refine lx (op_add rfl rfl (by omega)) rfl ?_
        refine lx (op_assign rfl) rfl ?_
        refine lx_end ⟨by kernel_rfl, ?_⟩
        refine pe_round (⟨(k + 1, out ++ [l[k]], (N6, 26)), by dsimp only; omega, by dsimp only; rw [drop_at (by omega : k < l.length), List.filter_cons, if_pos (by simpa using h19)] at hk2; rw [List.append_assoc]; exact hk2, by dsimp only; rw [List.length_append, List.length_singleton]; omega⟩) (by dsimp only; omega) (pe_st hC ?_ ?_ rfl)
        · try dsimp only [List.cons_append, List.nil_append]
          first | refine SubF.cons rfl ?_ | (refine SubF.ent rfl ?_ ?_; · repeat (first | exact Ents.nil | refine Ents.cons ?_ ?_ | refine Ent.tup ?_ | refine Ent.agg ?_ | exact Ent.row _ _ _ _ | exact Ent.nil _ _ | exact Ent.func _ | exact Ent.refl _ | exact Ent.of_eq rfl | refine Ent.cells ?_))
          first | refine SubF.cons rfl ?_ | (refine SubF.ent rfl ?_ ?_; · repeat (first | exact Ents.nil | refine Ents.cons ?_ ?_ | refine Ent.tup ?_ | refine Ent.agg ?_ | exact Ent.row _ _ _ _ | exact Ent.nil _ _ | exact Ent.func _ | exact Ent.refl _ | exact Ent.of_eq rfl | refine Ent.cells ?_))
          first | refine SubF.cons rfl ?_ | (refine SubF.ent rfl ?_ ?_; · repeat (first | exact Ents.nil | refine Ents.cons ?_ ?_ | refine Ent.tup ?_ | refine Ent.agg ?_ | exact Ent.row _ _ _ _ | exact Ent.nil _ _ | exact Ent.func _ | exact Ent.refl _ | exact Ent.of_eq rfl | refine Ent.cells ?_))
          first | refine SubF.cons rfl ?_ | (refine SubF.ent rfl ?_ ?_; · repeat (first | exact Ents.nil | refine Ents.cons ?_ ?_ | refine Ent.tup ?_ | refine Ent.agg ?_ | exact Ent.row _ _ _ _ | exact Ent.nil _ _ | exact Ent.func _ | exact Ent.refl _ | exact Ent.of_eq rfl | refine Ent.cells ?_))
          exact SubF.nil
        · try dsimp only [List.cons_append, List.nil_append]
          repeat (first | exact SubL.nil | refine SubL.cons rfl ?_)
      · (try simp only [Bool.and_eq_true, Bool.or_eq_true, Bool.and_eq_false_iff, Bool.or_eq_false_iff, decide_eq_true_eq, decide_eq_false_iff_not, Bool.not_eq_true', Bool.not_eq_false', List.length_map, ne_eq, Decidable.not_not, Int.not_lt, Int.not_le] at h19)
        refine tr_skip ?_
        refine pe_block_normal ?_
        refine pe_then_normal ?_
        refine tr_sub hC (.cons (t := 0) rfl (.cons (t := 1) rfl (.cons (t := 5) rfl (.cons (t := 6) rfl .nil)))) (.cons (t := 600) rfl .nil) rfl ?_
        refine tr_region (fun N4 hN => ?_)
        refine lx (op_move rfl) rfl ?_
        refine lx (op_add rfl rfl (by omega)) rfl ?_
        refine lx (op_assign rfl) rfl ?_
        refine lx_end ⟨by kernel_rfl, ?_⟩
        refine pe_round (⟨(k + 1, out, id), by dsimp only; omega, by dsimp only; rw [drop_at (by omega : k < l.length), List.filter_cons, if_neg (by simpa using h19)] at hk2; exact hk2, by dsimp only; omega⟩) (by dsimp only; omega) (pe_st hC ?_ ?_ rfl)
        · try dsimp only [List.cons_append, List.nil_append]
          first | refine SubF.cons rfl ?_ | (refine SubF.ent rfl ?_ ?_; · repeat (first | exact Ents.nil | refine Ents.cons ?_ ?_ | refine Ent.tup ?_ | refine Ent.agg ?_ | exact Ent.row _ _ _ _ | exact Ent.nil _ _ | exact Ent.func _ | exact Ent.refl _ | exact Ent.of_eq rfl | refine Ent.cells ?_))
          first | refine SubF.cons rfl ?_ | (refine SubF.ent rfl ?_ ?_; · repeat (first | exact Ents.nil | refine Ents.cons ?_ ?_ | refine Ent.tup ?_ | refine Ent.agg ?_ | exact Ent.row _ _ _ _ | exact Ent.nil _ _ | exact Ent.func _ | exact Ent.refl _ | exact Ent.of_eq rfl | refine Ent.cells ?_))
          first | refine SubF.cons rfl ?_ | (refine SubF.ent rfl ?_ ?_; · repeat (first | exact Ents.nil | refine Ents.cons ?_ ?_ | refine Ent.tup ?_ | refine Ent.agg ?_ | exact Ent.row _ _ _ _ | exact Ent.nil _ _ | exact Ent.func _ | exact Ent.refl _ | exact Ent.of_eq rfl | refine Ent.cells ?_))
          first | refine SubF.cons rfl ?_ | (refine SubF.ent rfl ?_ ?_; · repeat (first | exact Ents.nil | refine Ents.cons ?_ ?_ | refine Ent.tup ?_ | refine Ent.agg ?_ | exact Ent.row _ _ _ _ | exact Ent.nil _ _ | exact Ent.func _ | exact Ent.refl _ | exact Ent.of_eq rfl | refine Ent.cells ?_))
          exact SubF.nil
        · try dsimp only [List.cons_append, List.nil_append]
          repeat (first | exact SubL.nil | refine SubL.cons rfl ?_)
    · (try simp only [Bool.and_eq_true, Bool.or_eq_true, Bool.and_eq_false_iff, Bool.or_eq_false_iff, decide_eq_true_eq, decide_eq_false_iff_not, Bool.not_eq_true', Bool.not_eq_false', List.length_map, ne_eq, Decidable.not_not, Int.not_lt, Int.not_le] at h10)
      have hfin : out = l.filter (fun w => decide (w.g ≠ x)) := by rw [List.drop_eq_nil_of_le (by omega)] at hk2; simpa using hk2
      refine tr_exit ?_
      refine pe_then_exit ?_
      refine pe_then_exit ?_
      refine pe_block_eq ?_
      refine pe_then_normal ?_
      refine tr_sub hC (.cons (t := 5) rfl .nil) (.cons (t := 600) rfl .nil) rfl ?_
      refine tr_seq ?_
      refine tr_region (fun N7 hN => ?_)
      refine lx (op_move rfl) rfl ?_
      refine lx (op_assign rfl) rfl ?_
      refine lx_end ⟨by kernel_rfl, ?_⟩
      refine pe_then_normal ?_
      refine tr_sub hC (.cons (t := 4) rfl .nil) (.cons (t := 600) rfl .nil) rfl ?_
      refine tr_ret ?_
      refine pe_ret1 rfl hO rfl (.tmp rfl .nil) ?_
      rw [← hfin]
      repeat (first | exact Ents.nil | refine Ents.cons ?_ ?_ | refine Ent.tup ?_ | refine Ent.agg ?_ | exact Ent.row _ _ _ _ | exact Ent.nil _ _ | exact Ent.func _ | exact Ent.refl _ | exact Ent.of_eq rfl | refine Ent.cells ?_)

theorem firsts_ok (l but : List Wt) (hl : l.length ≤ 1000000) (hb : but.length ≤ 1000000) : FnP Try.prog 52 [slP wp 5 l, slP wp 5 but] (slP wp 5 (firstsF but [] l)) := by
  refine fn_pure' Try.func52 rfl Try.ntmps52 rfl ?_
  intro σ0 M ex Rf R hC hO
  simp only [frameOf, tokOf]
  refine tr_seq ?_
  refine tr_region (fun N0 hN => ?_)
  refine lx (op_assign rfl) rfl ?_
  refine lx_end ⟨by kernel_rfl, ?_⟩
  refine pe_then_normal ?_
  refine tr_sub hC (.cons (t := 0) rfl (.cons (t := 1) rfl .nil)) .nil rfl ?_
  refine tr_seq ?_
  refine tr_region (fun N1 hN => ?_)
  refine lx (op_assign rfl) rfl ?_
  refine lx_end ⟨by kernel_rfl, ?_⟩
  refine pe_then_normal ?_
  refine tr_sub hC (.cons (t := 0) rfl (.cons (t := 1) rfl (.cons (t := 5) rfl .nil))) .nil rfl ?_
  refine tr_seq ?_
  refine tr_seq ?_
  refine tr_region (fun N2 hN => ?_)
  refine lx (op_assign rfl) rfl ?_
  refine lx_end ⟨by kernel_rfl, ?_⟩
  refine pe_then_normal ?_
  refine tr_sub hC (.cons (t := 0) rfl (.cons (t := 1) rfl (.cons (t := 5) rfl (.cons (t := 6) rfl .nil)))) .nil rfl ?_
  refine tr_block ?_
  refine tr_nilrow wp 5 33 5 600 rfl (by first | exact hC.low _ (by decide) | rfl) (fun idN => ?_)
  refine tr_loopK (α := {zz : Nat × (List Wt) × AL.Id // zz.1 ≤ l.length ∧ firstsF but zz.2.1 (l.drop zz.1) = firstsF but [] l ∧ zz.2.1.length ≤ zz.1}) (⟨(0, [], idN), Nat.zero_le _, rfl, Nat.le_refl _⟩) (fun zz => [(5, rowP zz.1.2.2 wp 5 zz.1.2.1), (6, eqP (.int .i64 (zz.1.1 : Int)))]) (fun zz => [(600, some (zz.1.2.2, tail 33 5 (zz.1.2.1.length * 5)))]) (fun zz => l.length - zz.1.1) hC (.cons (t := 0) rfl (.cons (t := 1) rfl .nil)) .nil rfl ?_ ?_ (fun zz => ?_)
  · try dsimp only [List.cons_append, List.nil_append]
    first | refine SubF.cons rfl ?_ | (refine SubF.ent rfl ?_ ?_; · repeat (first | exact Ents.nil | refine Ents.cons ?_ ?_ | refine Ent.tup ?_ | refine Ent.agg ?_ | exact Ent.row _ _ _ _ | exact Ent.nil _ _ | exact Ent.func _ | exact Ent.refl _ | exact Ent.of_eq rfl | refine Ent.cells ?_))
    first | refine SubF.cons rfl ?_ | (refine SubF.ent rfl ?_ ?_; · repeat (first | exact Ents.nil | refine Ents.cons ?_ ?_ | refine Ent.tup ?_ | refine Ent.agg ?_ | exact Ent.row _ _ _ _ | exact Ent.nil _ _ | exact Ent.func _ | exact Ent.refl _ | exact Ent.of_eq rfl | refine Ent.cells ?_))
    exact SubF.nil
  · try dsimp only [List.cons_append, List.nil_append]
    repeat (first | exact SubL.nil | refine SubL.cons rfl ?_)
  · obtain ⟨⟨k, out, id⟩, hk1, hk2, hk3⟩ := zz
    try dsimp only at hk1
    try dsimp only at hk2
    try dsimp only at hk3
    dsimp only [List.cons_append, List.nil_append]
    refine tr_seq ?_
    refine tr_seq ?_
    refine tr_region (fun N3 hN => ?_)
    refine lx (op_move rfl) rfl ?_
    refine lx (op_move rfl) rfl ?_
    first | refine lx (op_len rfl el26) rfl ?_ | refine lx (op_len_row rfl el26) rfl ?_ | refine lx (op_len_mv rfl el26) rfl ?_ | refine lx (op_len_nil rfl el26) rfl ?_
    refine lx (op_lss rfl rfl) rfl ?_
    refine lx_end ⟨by kernel_rfl, ?_⟩
    refine pe_then_normal ?_
    refine tr_sub hC (.cons (t := 0) rfl (.cons (t := 1) rfl (.cons (t := 5) rfl (.cons (t := 6) rfl (.cons (t := 13) rfl .nil))))) (.cons (t := 600) rfl .nil) rfl ?_
    refine tr_cond rfl (fun h13 => ?_) (fun h13 => ?_)
    · (try simp only [Bool.and_eq_true, Bool.or_eq_true, Bool.and_eq_false_iff, Bool.or_eq_false_iff, decide_eq_true_eq, decide_eq_false_iff_not, Bool.not_eq_true', Bool.not_eq_false', List.length_map, ne_eq, Decidable.not_not, Int.not_lt, Int.not_le] at h13)
      refine tr_skip ?_
      refine pe_then_normal ?_
      refine tr_sub hC (.cons (t := 0) rfl (.cons (t := 1) rfl (.cons (t := 5) rfl (.cons (t := 6) rfl .nil)))) (.cons (t := 600) rfl .nil) rfl ?_
      refine tr_seq ?_
      refine tr_block ?_
      refine tr_seq ?_
      refine tr_region (fun N5 hN => ?_)
      refine lx (op_assign rfl) rfl ?_
      refine lx_end ⟨by kernel_rfl, ?_⟩
      refine pe_then_normal ?_
      refine tr_sub hC (.cons (t := 0) rfl (.cons (t := 1) rfl (.cons (t := 5) rfl (.cons (t := 6) rfl (.cons (t := 7) rfl .nil))))) (.cons (t := 600) rfl .nil) rfl ?_
      refine tr_seq ?_
      refine tr_seq ?_
      refine tr_region (fun N6 hN => ?_)
      refine lx (op_assign rfl) rfl ?_
      refine lx_end ⟨by kernel_rfl, ?_⟩
      refine pe_then_normal ?_
      refine tr_sub hC (.cons (t := 0) rfl (.cons (t := 1) rfl (.cons (t := 5) rfl (.cons (t := 6) rfl (.cons (t := 7) rfl (.cons (t := 8) rfl .nil)))))) (.cons (t := 600) rfl .nil) rfl ?_
      refine tr_block ?_
      refine tr_loopK (α := {zz : Nat × Bool // zz.1 ≤ out.length ∧ zz.2 = (out.take zz.1).any (fun x => decide (x.g = (l[k]'(by omega)).g))}) (⟨(0, false), Nat.zero_le _, by simp⟩) (fun zz => [(7, eqP (.bool zz.1.2)), (8, eqP (.int .i64 (zz.1.1 : Int)))]) (fun zz => []) (fun zz => out.length - zz.1.1) hC (.cons (t := 0) rfl (.cons (t := 1) rfl (.cons (t := 5) rfl (.cons (t := 6) rfl .nil)))) (.cons (t := 600) rfl .nil) rfl ?_ ?_ (fun zz => ?_)
      · try dsimp only [List.cons_append, List.nil_append]
        first | refine SubF.cons rfl ?_ | (refine SubF.ent rfl ?_ ?_; · repeat (first | exact Ents.nil | refine Ents.cons ?_ ?_ | refine Ent.tup ?_ | refine Ent.agg ?_ | exact Ent.row _ _ _ _ | exact Ent.nil _ _ | exact Ent.func _ | exact Ent.refl _ | exact Ent.of_eq rfl | refine Ent.cells ?_))
        first | refine SubF.cons rfl ?_ | (refine SubF.ent rfl ?_ ?_; · repeat (first | exact Ents.nil | refine Ents.cons ?_ ?_ | refine Ent.tup ?_ | refine Ent.agg ?_ | exact Ent.row _ _ _ _ | exact Ent.nil _ _ | exact Ent.func _ | exact Ent.refl _ | exact Ent.of_eq rfl | refine Ent.cells ?_))
        exact SubF.nil
      · try dsimp only [List.cons_append, List.nil_append]
        repeat (first | exact SubL.nil | refine SubL.cons rfl ?_)
      · obtain ⟨⟨j, b⟩, hj1, hj2⟩ := zz
        try dsimp only at hj1
        try dsimp only at hj2
        dsimp only [List.cons_append, List.nil_append]
        refine tr_seq ?_
        refine tr_seq ?_
        refine tr_region (fun N7 hN => ?_)
        refine lx (op_move rfl) rfl ?_
        refine lx (op_move rfl) rfl ?_
        first | refine lx (op_len rfl el26) rfl ?_ | refine lx (op_len_row rfl el26) rfl ?_ | refine lx (op_len_mv rfl el26) rfl ?_ | refine lx (op_len_nil rfl el26) rfl ?_
        refine lx (op_lss rfl rfl) rfl ?_
        refine lx_end ⟨by kernel_rfl, ?_⟩
        refine pe_then_normal ?_
        refine tr_sub hC (.cons (t := 0) rfl (.cons (t := 1) rfl (.cons (t := 5) rfl (.cons (t := 6) rfl (.cons (t := 7) rfl (.cons (t := 8) rfl (.cons (t := 19) rfl .nil))))))) (.cons (t := 600) rfl .nil) rfl ?_
        refine tr_cond rfl (fun h19 => ?_) (fun h19 => ?_)
        · (try simp only [Bool.and_eq_true, Bool.or_eq_true, Bool.and_eq_false_iff, Bool.or_eq_false_iff, decide_eq_true_eq, decide_eq_false_iff_not, Bool.not_eq_true', Bool.not_eq_false', List.length_map, ne_eq, Decidable.not_not, Int.not_lt, Int.not_le] at h19)
          refine tr_skip ?_
          refine pe_then_normal ?_
          refine tr_sub hC (.cons (t := 0) rfl (.cons (t := 1) rfl (.cons (t := 5) rfl (.cons (t := 6) rfl (.cons (t := 7) rfl (.cons (t := 8) rfl .nil)))))) (.cons (t := 600) rfl .nil) rfl ?_
          refine tr_seq ?_
          refine tr_block ?_
          refine tr_seq ?_
          refine tr_drawn mixed (fun N9 hN => ?_)
          refine lx (op_move rfl) rfl ?_
          refine lx (op_move rfl) rfl ?_
          refine lx (op_index_row rfl rfl el26 sz33 rfl (List.getElem?_eq_getElem (by omega : j < out.length))) rfl ?_
          first | refine lx (op_fieldAddr rfl fl33_0 sz3) rfl ?_ | refine lx (op_fieldCells rfl fl33_0 sz3) rfl ?_
          first | refine lx (op_load_one rfl ag3 rfl) rfl ?_ | refine lx (op_bload_one (m := 600) rfl rfl ag3 rfl) rfl ?_
          refine lx (op_move rfl) rfl ?_
          refine lx (op_move rfl) rfl ?_
          refine lx (op_index rfl rfl el26 sz33 rfl (List.getElem?_eq_getElem (by omega : k < l.length))) rfl ?_
          first | refine lx (op_fieldAddr rfl fl33_0 sz3) rfl ?_ | refine lx (op_fieldCells rfl fl33_0 sz3) rfl ?_
          first | refine lx (op_load_one rfl ag3 rfl) rfl ?_ | refine lx (op_bload_one (m := 600) rfl rfl ag3 rfl) rfl ?_
          refine lx (op_eql rfl rfl) rfl ?_
          refine lx_end ⟨by kernel_rfl, ?_⟩
          refine pe_then_normal ?_
          refine tr_sub hC (.cons (t := 0) rfl (.cons (t := 1) rfl (.cons (t := 5) rfl (.cons (t := 6) rfl (.cons (t := 7) rfl (.cons (t := 8) rfl (.cons (t := 32) rfl .nil))))))) (.cons (t := 600) rfl .nil) rfl ?_
          refine tr_cond rfl (fun h32 => ?_) (fun h32 => ?_)
          · (try simp only [Bool.and_eq_true, Bool.or_eq_true, Bool.and_eq_false_iff, Bool.or_eq_false_iff, decide_eq_true_eq, decide_eq_false_iff_not, Bool.not_eq_true', Bool.not_eq_false', List.length_map, ne_eq, Decidable.not_not, Int.not_lt, Int.not_le] at h32)
            refine tr_region (fun N10 hN => ?_)
            refine lx (op_assign rfl) rfl ?_
            refine lx_end ⟨by kernel_rfl, ?_⟩
            refine pe_block_normal ?_
            refine pe_then_normal ?_
            refine tr_sub hC (.cons (t := 0) rfl (.cons (t := 1) rfl (.cons (t := 5) rfl (.cons (t := 6) rfl (.cons (t := 7) rfl (.cons (t := 8) rfl .nil)))))) (.cons (t := 600) rfl .nil) rfl ?_
            refine tr_region (fun N8 hN => ?_)
            refine lx (op_move rfl) rfl ?_
            refine lx (op_add rfl rfl (by omega)) rfl ?_
            refine lx (op_assign rfl) rfl ?_
            refine lx_end ⟨by kernel_rfl, ?_⟩
            refine pe_round (⟨(j + 1, true), by dsimp only; omega, any_hit (φ := fun x => decide (x.g = (l[k]'(by omega)).g)) (by omega) (decide_eq_true h32)⟩) (by dsimp only; omega) (pe_st hC ?_ ?_ rfl)
            · try dsimp only [List.cons_append, List.nil_append]
              first | refine SubF.cons rfl ?_ | (refine SubF.ent rfl ?_ ?_; · repeat (first | exact Ents.nil | refine Ents.cons ?_ ?_ | refine Ent.tup ?_ | refine Ent.agg ?_ | exact Ent.row _ _ _ _ | exact Ent.nil _ _ | exact Ent.func _ | exact Ent.refl _ | exact Ent.of_eq rfl | refine Ent.cells ?_))
              first | refine SubF.cons rfl ?_ | (refine SubF.ent rfl ?_ ?_; · repeat (first | exact Ents.nil | refine Ents.cons ?_ ?_ | refine Ent.tup ?_ | refine Ent.agg ?_ | exact Ent.row _ _ _ _ | exact Ent.nil _ _ | exact Ent.func _ | exact Ent.refl _ | exact Ent.of_eq rfl | refine Ent.cells ?_))
              first | refine SubF.cons rfl ?_ | (refine SubF.ent rfl ?_ ?_; · repeat (first | exact Ents.nil | refine Ents.cons ?_ ?_ | refine Ent.tup ?_ | refine Ent.agg ?_ | exact Ent.row _ _ _ _ | exact Ent.nil _ _ | exact Ent.func _ | exact Ent.refl _ | exact Ent.of_eq rfl | refine Ent.cells ?_))
              first | refine SubF.cons rfl ?_ | (refine SubF.ent rfl ?_ ?_; · repeat (first | exact Ents.nil | refine Ents.cons ?_ ?_ | refine Ent.tup ?_ | refine Ent.agg ?_ | exact Ent.row _ _ _ _ | exact Ent.nil _ _ | exact Ent.func _ | exact Ent.refl _ | exact Ent.of_eq rfl | refine Ent.cells ?_))
              first | refine SubF.cons rfl ?_ | (refine SubF.ent rfl ?_ ?_; · repeat (first | exact Ents.nil | refine Ents.cons ?_ ?_ | refine Ent.tup ?_ | refine Ent.agg ?_ | exact Ent.row _ _ _ _ | exact Ent.nil _ _ | exact Ent.func _ | exact Ent.refl _ | exact Ent.of_eq rfl | refine Ent.cells ?_))
              first | refine SubF.cons rfl ?_ | (refine SubF.ent rfl ?_ ?_; · repeat (first | exact Ents.nil | refine Ents.cons ?_ ?_ | refine Ent.tup ?_ | refine Ent.agg ?_ | exact Ent.row _ _ _ _ | exact Ent.nil _ _ | exact Ent.func _ | exact Ent.refl _ | exact Ent.of_eq rfl | refine Ent.cells ?_))
              exact SubF.nil
            · try dsimp only [List.cons_append, List.nil_append]
              repeat (first | exact SubL.nil | refine SubL.cons rfl ?_)
          · (try simp only [Bool.and_eq_true, Bool.or_eq_true, Bool.and_eq_false_iff, Bool.or_eq_false_iff, decide_eq_true_eq, decide_eq_false_iff_not, Bool.not_eq_true', Bool.not_eq_false', List.length_map, ne_eq, Decidable.not_not, Int.not_lt, Int.not_le] at h32)
            refine tr_skip ?_
            refine pe_block_normal ?_
            refine pe_then_normal ?_
            refine tr_sub hC (.cons (t := 0) rfl (.cons (t := 1) rfl (.cons (t := 5) rfl (.cons (t := 6) rfl (.cons (t := 7) rfl (.cons (t := 8) rfl .nil)))))) (.cons (t := 600) rfl .nil) rfl ?_
            refine tr_region (fun N8 hN => ?_)
            refine lx (op_move rfl) rfl ?_
            refine lx (op_add rfl rfl (by omega)) rfl ?_
            refine lx (op_assign rfl) rfl ?_
            refine lx_end ⟨by kernel_rfl, ?_⟩
            refine pe_round (⟨(j + 1, b), by dsimp only; omega, any_miss (φ := fun x => decide (x.g = (l[k]'(by omega)).g)) hj2 (by omega) (decide_eq_false h32)⟩) (by dsimp only; omega) (pe_st hC ?_ ?_ rfl)
            · try dsimp only [List.cons_append, List.nil_append]
              first | refine SubF.cons rfl ?_ | (refine SubF.ent rfl ?_ ?_; · repeat (first | exact Ents.nil | refine Ents.cons ?_ ?_ | refine Ent.tup ?_ | refine Ent.agg ?_ | exact Ent.row _ _ _ _ | exact Ent.nil _ _ | exact Ent.func _ | exact Ent.refl _ | exact Ent.of_eq rfl | refine Ent.cells ?_))
              first | refine SubF.cons rfl ?_ | (refine SubF.ent rfl ?_ ?_; · repeat (first | exact Ents.nil | refine Ents.cons ?_ ?_ | refine Ent.tup ?_ | refine Ent.agg ?_ | exact Ent.row _ _ _ _ | exact Ent.nil _ _ | exact Ent.func _ | exact Ent.refl _ | exact Ent.of_eq rfl | refine Ent.cells ?_))
              first | refine SubF.cons rfl ?_ | (refine SubF.ent rfl ?_ ?_; · repeat (first | exact Ents.nil | refine Ents.cons ?_ ?_ | refine Ent.tup ?_ | refine Ent.agg ?_ | exact Ent.row _ _ _ _ | exact Ent.nil _ _ | exact Ent.func _ | exact Ent.refl _ | exact Ent.of_eq rfl | refine Ent.cells ?_))
              first | refine SubF.cons rfl ?_ | (refine SubF.ent rfl ?_ ?_; · repeat (first | exact Ents.nil | refine Ents.cons ?_ ?_ | refine Ent.tup ?_ | refine Ent.agg ?_ | exact Ent.row _ _ _ _ | exact Ent.nil _ _ | exact Ent.func _ | exact Ent.refl _ | exact Ent.of_eq rfl | refine Ent.cells ?_))
              first | refine SubF.cons rfl ?_ | (refine SubF.ent rfl ?_ ?_; · repeat (first | exact Ents.nil | refine Ents.cons ?_ ?_ | refine Ent.tup ?_ | refine Ent.agg ?_ | exact Ent.row _ _ _ _ | exact Ent.nil _ _ | exact Ent.func _ | exact Ent.refl _ | exact Ent.of_eq rfl | refine Ent.cells ?_))
              first | refine SubF.cons rfl ?_ | (refine SubF.ent rfl ?_ ?_; · repeat (first | exact Ents.nil | refine Ents.cons ?_ ?_ | refine Ent.tup ?_ | refine Ent.agg ?_ | exact Ent.row _ _ _ _ | exact Ent.nil _ _ | exact Ent.func _ | exact Ent.refl _ | exact Ent.of_eq rfl | refine Ent.cells ?_))
              exact SubF.nil
            · try dsimp only [List.cons_append, List.nil_append]
              repeat (first | exact SubL.nil | refine SubL.cons rfl ?_)
        · (try simp only [Bool.and_eq_true, Bool.or_eq_true, Bool.and_eq_false_iff, Bool.or_eq_false_iff, decide_eq_true_eq, decide_eq_false_iff_not, Bool.not_eq_true', Bool.not_eq_false', List.length_map, ne_eq, Decidable.not_not, Int.not_lt, Int.not_le] at h19)
          have hj3 : b = out.any (fun x => decide (x.g = (l[k]'(by omega)).g)) := by rw [List.take_of_length_le (by omega)] at hj2; exact hj2
          refine tr_exit ?_
          refine pe_then_exit ?_
          refine pe_then_exit ?_
          refine pe_block_eq ?_
          refine pe_then_normal ?_
          refine tr_sub hC (.cons (t := 0) rfl (.cons (t := 1) rfl (.cons (t := 5) rfl (.cons (t := 6) rfl (.cons (t := 7) rfl .nil))))) (.cons (t := 600) rfl .nil) rfl ?_
          refine tr_seq ?_
          refine tr_seq ?_
          refine tr_region (fun N11 hN => ?_)
          refine lx (op_assign rfl) rfl ?_
          refine lx_end ⟨by kernel_rfl, ?_⟩
          refine pe_then_normal ?_
          refine tr_sub hC (.cons (t := 0) rfl (.cons (t := 1) rfl (.cons (t := 5) rfl (.cons (t := 6) rfl (.cons (t := 7) rfl (.cons (t := 9) rfl .nil)))))) (.cons (t := 600) rfl .nil) rfl ?_
          refine tr_block ?_
          refine tr_loopK (α := {zz : Nat × Bool // zz.1 ≤ but.length ∧ zz.2 = (b || (but.take zz.1).any (fun x => decide (x.g = (l[k]'(by omega)).g)))}) (⟨(0, b), Nat.zero_le _, by simp⟩) (fun zz => [(7, eqP (.bool zz.1.2)), (9, eqP (.int .i64 (zz.1.1 : Int)))]) (fun zz => []) (fun zz => but.length - zz.1.1) hC (.cons (t := 0) rfl (.cons (t := 1) rfl (.cons (t := 5) rfl (.cons (t := 6) rfl .nil)))) (.cons (t := 600) rfl .nil) rfl ?_ ?_ (fun zz => ?_)
          · try dsimp only [List.cons_append, List.nil_append]
            first | refine SubF.cons rfl ?_ | (refine SubF.ent rfl ?_ ?_; · repeat (first | exact Ents.nil | refine Ents.cons ?_ ?_ | refine Ent.tup ?_ | refine Ent.agg ?_ | exact Ent.row _ _ _ _ | exact Ent.nil _ _ | exact Ent.func _ | exact Ent.refl _ | exact Ent.of_eq rfl | refine Ent.cells ?_))
            first | refine SubF.cons rfl ?_ | (refine SubF.ent rfl ?_ ?_; · repeat (first | exact Ents.nil | refine Ents.cons ?_ ?_ | refine Ent.tup ?_ | refine Ent.agg ?_ | exact Ent.row _ _ _ _ | exact Ent.nil _ _ | exact Ent.func _ | exact Ent.refl _ | exact Ent.of_eq rfl | refine Ent.cells ?_))
            exact SubF.nil
          · try dsimp only [List.cons_append, List.nil_append]
            repeat (first | exact SubL.nil | refine SubL.cons rfl ?_)
          · obtain ⟨⟨m, c⟩, hm1, hm2⟩ := zz
            try dsimp only at hm1
            try dsimp only at hm2
            dsimp only [List.cons_append, List.nil_append]
            refine tr_seq ?_
            refine tr_seq ?_
            refine tr_region (fun N12 hN => ?_)
            refine lx (op_move rfl) rfl ?_
            refine lx (op_move rfl) rfl ?_
            first | refine lx (op_len rfl el26) rfl ?_ | refine lx (op_len_row rfl el26) rfl ?_ | refine lx (op_len_mv rfl el26) rfl ?_ | refine lx (op_len_nil rfl el26) rfl ?_
            refine lx (op_lss rfl rfl) rfl ?_
            refine lx_end ⟨by kernel_rfl, ?_⟩
            refine pe_then_normal ?_
            refine tr_sub hC (.cons (t := 0) rfl (.cons (t := 1) rfl (.cons (t := 5) rfl (.cons (t := 6) rfl (.cons (t := 7) rfl (.cons (t := 9) rfl (.cons (t := 36) rfl .nil))))))) (.cons (t := 600) rfl .nil) rfl ?_
            refine tr_cond rfl (fun h36 => ?_) (fun h36 => ?_)
            · (try simp only [Bool.and_eq_true, Bool.or_eq_true, Bool.and_eq_false_iff, Bool.or_eq_false_iff, decide_eq_true_eq, decide_eq_false_iff_not, Bool.not_eq_true', Bool.not_eq_false', List.length_map, ne_eq, Decidable.not_not, Int.not_lt, Int.not_le] at h36)
              refine tr_skip ?_
              refine pe_then_normal ?_
              refine tr_sub hC (.cons (t := 0) rfl (.cons (t := 1) rfl (.cons (t := 5) rfl (.cons (t := 6) rfl (.cons (t := 7) rfl (.cons (t := 9) rfl .nil)))))) (.cons (t := 600) rfl .nil) rfl ?_
              refine tr_seq ?_
              refine tr_block ?_
              refine tr_seq ?_
              refine tr_drawn mixed (fun N14 hN => ?_)
              refine lx (op_move rfl) rfl ?_
              refine lx (op_move rfl) rfl ?_
              refine lx (op_index rfl rfl el26 sz33 rfl (List.getElem?_eq_getElem (by omega : m < but.length))) rfl ?_
              first | refine lx (op_fieldAddr rfl fl33_0 sz3) rfl ?_ | refine lx (op_fieldCells rfl fl33_0 sz3) rfl ?_
              first | refine lx (op_load_one rfl ag3 rfl) rfl ?_ | refine lx (op_bload_one (m := 600) rfl rfl ag3 rfl) rfl ?_
              refine lx (op_move rfl) rfl ?_
              refine lx (op_move rfl) rfl ?_
              refine lx (op_index rfl rfl el26 sz33 rfl (List.getElem?_eq_getElem (by omega : k < l.length))) rfl ?_
              first | refine lx (op_fieldAddr rfl fl33_0 sz3) rfl ?_ | refine lx (op_fieldCells rfl fl33_0 sz3) rfl ?_
              first | refine lx (op_load_one rfl ag3 rfl) rfl ?_ | refine lx (op_bload_one (m := 600) rfl rfl ag3 rfl) rfl ?_
              refine lx (op_eql rfl rfl) rfl ?_
              refine lx_end ⟨by kernel_rfl, ?_⟩
              refine pe_then_normal ?_
              refine tr_sub hC (.cons (t := 0) rfl (.cons (t := 1) rfl (.cons (t := 5) rfl (.cons (t := 6) rfl (.cons (t := 7) rfl (.cons (t := 9) rfl (.cons (t := 49) rfl .nil))))))) (.cons (t := 600) rfl .nil) rfl ?_
              refine tr_cond rfl (fun h49 => ?_) (fun h49 => ?_)
              · (try simp only [Bool.and_eq_true, Bool.or_eq_true, Bool.and_eq_false_iff, Bool.or_eq_false_iff, decide_eq_true_eq, decide_eq_false_iff_not, Bool.not_eq_true', Bool.not_eq_false', List.length_map, ne_eq, Decidable.not_not, Int.not_lt, Int.not_le] at h49)
                refine tr_region (fun N15 hN => ?_)
                refine lx (op_assign rfl) rfl ?_
                refine lx_end ⟨by kernel_rfl, ?_⟩
                refine pe_block_normal ?_
                refine pe_then_normal ?_
                refine tr_sub hC (.cons (t := 0) rfl (.cons (t := 1) rfl (.cons (t := 5) rfl (.cons (t := 6) rfl (.cons (t := 7) rfl (.cons (t := 9) rfl .nil)))))) (.cons (t := 600) rfl .nil) rfl ?_
                refine tr_region (fun N13 hN => ?_)
                refine lx (op_move rfl) rfl ?_
                refine lx (op_add rfl rfl (by omega)) rfl ?_
                refine lx (op_assign rfl) rfl ?_
                refine lx_end ⟨by kernel_rfl, ?_⟩
                refine pe_round (⟨(m + 1, true), by dsimp only; omega, any_hit2 (φ := fun x => decide (x.g = (l[k]'(by omega)).g)) (by omega) (decide_eq_true h49)⟩) (by dsimp only; omega) (pe_st hC ?_ ?_ rfl)
                · try dsimp only [List.cons_append, List.nil_append]
                  first | refine SubF.cons rfl ?_ | (refine SubF.ent rfl ?_ ?_; · repeat (first | exact Ents.nil | refine Ents.cons ?_ ?_ | refine Ent.tup ?_ | refine Ent.agg ?_ | exact Ent.row _ _ _ _ | exact Ent.nil _ _ | exact Ent.func _ | exact Ent.refl _ | exact Ent.of_eq rfl | refine Ent.cells ?_))
                  first | refine SubF.cons rfl ?_ | (refine SubF.ent rfl ?_ ?_; · repeat (first | exact Ents.nil | refine Ents.cons ?_ ?_ | refine Ent.tup ?_ | refine Ent.agg ?_ | exact Ent.row _ _ _ _ | exact Ent.nil _ _ | exact Ent.func _ | exact Ent.refl _ | exact Ent.of_eq rfl | refine Ent.cells ?_))
                  first | refine SubF.cons rfl ?_ | (refine SubF.ent rfl ?_ ?_; · repeat (first | exact Ents.nil | refine Ents.cons ?_ ?_ | refine Ent.tup ?_ | refine Ent.agg ?_ | exact Ent.row _ _ _ _ | exact Ent.nil _ _ | exact Ent.func _ | exact Ent.refl _ | exact Ent.of_eq rfl | refine Ent.cells ?_))
                  first | refine SubF.cons rfl ?_ | (refine SubF.ent rfl ?_ ?_; · repeat (first | exact Ents.nil | refine Ents.cons ?_ ?_ | refine Ent.tup ?_ | refine Ent.agg ?_ | exact Ent.row _ _ _ _ | exact Ent.nil _ _ | exact Ent.func _ | exact Ent.refl _ | exact Ent.of_eq rfl | refine Ent.cells ?_))
                  first | refine SubF.cons rfl ?_ | (refine SubF.ent rfl ?_ ?_; · repeat (first | exact Ents.nil | refine Ents.cons ?_ ?_ | refine Ent.tup ?_ | refine Ent.agg ?_ | exact Ent.row _ _ _ _ | exact Ent.nil _ _ | exact Ent.func _ | exact Ent.refl _ | exact Ent.of_eq rfl | refine Ent.cells ?_))
                  first | refine SubF.cons rfl ?_ | (refine SubF.ent rfl ?_ ?_; · repeat (first | exact Ents.nil | refine Ents.cons ?_ ?_ | refine Ent.tup ?_ | refine Ent.agg ?_ | exact Ent.row _ _ _ _ | exact Ent.nil _ _ | exact Ent.func _ | exact Ent.refl _ | exact Ent.of_eq rfl | refine Ent.cells ?_))
                  exact SubF.nil
                · try dsimp only [List.cons_append, List.nil_append]
                  repeat (first | exact SubL.nil | refine SubL.cons rfl ?_)
              · (try simp only [Bool.and_eq_true, Bool.or_eq_true, Bool.and_eq_false_iff, Bool.or_eq_false_iff, decide_eq_true_eq, decide_eq_false_iff_not, Bool.not_eq_true', Bool.not_eq_false', List.length_map, ne_eq, Decidable.not_not, Int.not_lt, Int.not_le] at h49)
                refine tr_skip ?_
                refine pe_block_normal ?_
                refine pe_then_normal ?_
                refine tr_sub hC (.cons (t := 0) rfl (.cons (t := 1) rfl (.cons (t := 5) rfl (.cons (t := 6) rfl (.cons (t := 7) rfl (.cons (t := 9) rfl .nil)))))) (.cons (t := 600) rfl .nil) rfl ?_
                refine tr_region (fun N13 hN => ?_)
                refine lx (op_move rfl) rfl ?_
                refine lx (op_add rfl rfl (by omega)) rfl ?_
                refine lx (op_assign rfl) rfl ?_
                refine lx_end ⟨by kernel_rfl, ?_⟩
                refine pe_round (⟨(m + 1, c), by dsimp only; omega, any_miss2 (φ := fun x => decide (x.g = (l[k]'(by omega)).g)) hm2 (by omega) (decide_eq_false h49)⟩) (by dsimp only; omega) (pe_st hC ?_ ?_ rfl)
                · try dsimp only [List.cons_append, List.nil_append]
                  first | refine SubF.cons rfl ?_ | (refine SubF.ent rfl ?_ ?_; · repeat (first | exact Ents.nil | refine Ents.cons ?_ ?_ | refine Ent.tup ?_ | refine Ent.agg ?_ | exact Ent.row _ _ _ _ | exact Ent.nil _ _ | exact Ent.func _ | exact Ent.refl _ | exact Ent.of_eq rfl | refine Ent.cells ?_))
                  first | refine SubF.cons rfl ?_ | (refine SubF.ent rfl ?_ ?_; · repeat (first | exact Ents.nil | refine Ents.cons ?_ ?_ | refine Ent.tup ?_ | refine Ent.agg ?_ | exact Ent.row _ _ _ _ | exact Ent.nil _ _ | exact Ent.func _ | exact Ent.refl _ | exact Ent.of_eq rfl | refine Ent.cells ?_))
                  first | refine SubF.cons rfl ?_ | (refine SubF.ent rfl ?_ ?_; · repeat (first | exact Ents.nil | refine Ents.cons ?_ ?_ | refine Ent.tup ?_ | refine Ent.agg ?_ | exact Ent.row _ _ _ _ | exact Ent.nil _ _ | exact Ent.func _ | exact Ent.refl _ | exact Ent.of_eq rfl | refine Ent.cells ?_))
                  first | refine SubF.cons rfl ?_ | (refine SubF.ent rfl ?_ ?_; · repeat (first | exact Ents.nil | refine Ents.cons ?_ ?_ | refine Ent.tup ?_ | refine Ent.agg ?_ | exact Ent.row _ _ _ _ | exact Ent.nil _ _ | exact Ent.func _ | exact Ent.refl _ | exact Ent.of_eq rfl | refine Ent.cells ?_))
                  first | refine SubF.cons rfl ?_ | (refine SubF.ent rfl ?_ ?_; · repeat (first | exact Ents.nil | refine Ents.cons ?_ ?_ | refine Ent.tup ?_ | refine Ent.agg ?_ | exact Ent.row _ _ _ _ | exact Ent.nil _ _ | exact Ent.func _ | exact Ent.refl _ | exact Ent.of_eq rfl | refine Ent.cells ?_))
                  first | refine SubF.cons rfl ?_ | (refine SubF.ent rfl ?_ ?_; · repeat (first | exact Ents.nil | refine Ents.cons ?_ ?_ | refine Ent.tup ?_ | refine Ent.agg ?_ | exact Ent.row _ _ _ _ | exact Ent.nil _ _ | exact Ent.func _ | exact Ent.refl _ | exact Ent.of_eq rfl | refine Ent.cells ?_))
                  exact SubF.nil
                · try dsimp only [List.cons_append, List.nil_append]
                  repeat (first | exact SubL.nil | refine SubL.cons rfl ?_)
            · (try simp only [Bool.and_eq_true, Bool.or_eq_true, Bool.and_eq_false_iff, Bool.or_eq_false_iff, decide_eq_true_eq, decide_eq_false_iff_not, Bool.not_eq_true', Bool.not_eq_false', List.length_map, ne_eq, Decidable.not_not, Int.not_lt, Int.not_le] at h36)
              have hm3 : c = (out.any (fun x => decide (x.g = (l[k]'(by omega)).g)) || but.any (fun x => decide (x.g = (l[k]'(by omega)).g))) := by rw [List.take_of_length_le (by omega), hj3] at hm2; exact hm2
              refine tr_exit ?_
              refine pe_then_exit ?_
              refine pe_then_exit ?_
              refine pe_block_eq ?_
              refine pe_then_normal ?_
              refine tr_sub hC (.cons (t := 0) rfl (.cons (t := 1) rfl (.cons (t := 5) rfl (.cons (t := 6) rfl (.cons (t := 7) rfl .nil))))) (.cons (t := 600) rfl .nil) rfl ?_
              refine tr_seq ?_
              refine tr_region (fun N16 hN => ?_)
              refine lx (op_move rfl) rfl ?_
              first | refine lx (op_not rfl) rfl ?_ | refine lx (op_not_b rfl) rfl ?_
              refine lx_end ⟨by kernel_rfl, ?_⟩
              refine pe_then_normal ?_
              refine tr_sub hC (.cons (t := 0) rfl (.cons (t := 1) rfl (.cons (t := 5) rfl (.cons (t := 6) rfl (.cons (t := 51) rfl .nil))))) (.cons (t := 600) rfl .nil) rfl ?_
              refine tr_cond rfl (fun h51 => ?_) (fun h51 => ?_)
              · (try simp only [Bool.and_eq_true, Bool.or_eq_true, Bool.and_eq_false_iff, Bool.or_eq_false_iff, decide_eq_true_eq, decide_eq_false_iff_not, Bool.not_eq_true', Bool.not_eq_false', List.length_map, ne_eq, Decidable.not_not, Int.not_lt, Int.not_le] at h51)
                have hst := firsts_new (by omega : k < l.length) hk2 (hm3.symm.trans h51)
                refine tr_region (fun N17 hN => ?_)
                refine lx (op_move rfl) rfl ?_
                refine lx (op_move rfl) rfl ?_
                refine lx (op_move rfl) rfl ?_
                refine lx (op_index rfl rfl el26 sz33 rfl (List.getElem?_eq_getElem (by omega : k < l.length))) rfl ?_
                first | refine lx (op_load_all rfl ag33 sz33) rfl ?_ | refine lx (op_load_agg rfl ag33 sz33 rfl) rfl ?_ | refine lx (op_bload (m := 600) rfl rfl ag33 sz33) rfl ?_ | refine lx (op_bload_part (m := 600) (qs := [_, _, _, _, _]) rfl rfl ag33 sz33 rfl rfl) rfl ?_
                refine lx (op_buildSlice (f := wp) (xs := [l[k]]) (l := [(0, (Go.Operand.tmp 56))]) ze33 rfl rfl (by decide) el26 sz33 wp_len (.cons rfl (.agg rfl) .nil) rfl (by decide)) rfl ?_
                refine lxr (op_append (m := 600) (m' := 600) (kk := 58) rfl rfl rfl (.inl rfl) el26 ze33 sz33 by33 rfl wp_len (by rw [List.length_singleton]; omega) (by rw [List.length_singleton]; omega)) rfl ?_
                refine lx (op_assign rfl) rfl ?_
                refine lx_end ⟨by kernel_rfl, ?_⟩
                refine pe_block_normal ?_
                refine pe_then_normal ?_
                refine tr_sub hC (.cons (t := 0) rfl (.cons (t := 1) rfl (.cons (t := 5) rfl (.cons (t := 6) rfl .nil)))) (.cons (t := 600) rfl .nil) rfl ?_
                refine tr_region (fun N4 hN => ?_)
                refine lx (op_move rfl) rfl ?_
                refine lx (op_add rfl rfl (by omega)) rfl ?_
                refine lx (op_assign rfl) rfl ?_
                refine lx_end ⟨by kernel_rfl, ?_⟩
                refine pe_round (⟨(k + 1, out ++ [l[k]], (N17, 58)), by dsimp only; omega, hst, by dsimp only; rw [List.length_append, List.length_singleton]; omega⟩) (by dsimp only; omega) (pe_st hC ?_ ?_ rfl)
                · try dsimp only [List.cons_append, List.nil_append]
                  first | refine SubF.cons rfl ?_ | (refine SubF.ent rfl ?_ ?_; · repeat (first | exact Ents.nil | refine Ents.cons ?_ ?_ | refine Ent.tup ?_ | refine Ent.agg ?_ | exact Ent.row _ _ _ _ | exact Ent.nil _ _ | exact Ent.func _ | exact Ent.refl _ | exact Ent.of_eq rfl | refine Ent.cells ?_))
                  first | refine SubF.cons rfl ?_ | (refine SubF.ent rfl ?_ ?_; · repeat (first | exact Ents.nil | refine Ents.cons ?_ ?_ | refine Ent.tup ?_ | refine Ent.agg ?_ | exact Ent.row _ _ _ _ | exact Ent.nil _ _ | exact Ent.func _ | exact Ent.refl _ | exact Ent.of_eq rfl | refine Ent.cells ?_))
                  first | refine SubF.cons rfl ?_ | (refine SubF.ent rfl ?_ ?_; · repeat (first | exact Ents.nil | refine Ents.cons ?_ ?_ | refine Ent.tup ?_ | refine Ent.agg ?_ | exact Ent.row _ _ _ _ | exact Ent.nil _ _ | exact Ent.func _ | exact Ent.refl _ | exact Ent.of_eq rfl | refine Ent.cells ?_))
                  first | refine SubF.cons rfl ?_ | (refine SubF.ent rfl ?_ ?_; · repeat (first | exact Ents.nil | refine Ents.cons ?_ ?_ | refine Ent.tup ?_ | refine Ent.agg ?_ | exact Ent.row _ _ _ _ | exact Ent.nil _ _ | exact Ent.func _ | exact Ent.refl _ | exact Ent.of_eq rfl | refine Ent.cells ?_))
                  exact SubF.nil
                · try dsimp only [List.cons_append, List.nil_append]
                  repeat (first | exact SubL.nil | refine SubL.cons rfl ?_)
              · (try simp only [Bool.and_eq_true, Bool.or_eq_true, Bool.and_eq_false_iff, Bool.or_eq_false_iff, decide_eq_true_eq, decide_eq_false_iff_not, Bool.not_eq_true', Bool.not_eq_false', List.length_map, ne_eq, Decidable.not_not, Int.not_lt, Int.not_le] at h51)
                have hst := firsts_old (by omega : k < l.length) hk2 (hm3.symm.trans h51)
                refine tr_skip ?_
                refine pe_block_normal ?_
                refine pe_then_normal ?_
                refine tr_sub hC (.cons (t := 0) rfl (.cons (t := 1) rfl (.cons (t := 5) rfl (.cons (t := 6) rfl .nil)))) (.cons (t := 600) rfl .nil) rfl ?_
                refine tr_region (fun N4 hN => ?_)
                refine lx (op_move rfl) rfl ?_
                refine lx (op_add rfl rfl (by omega)) rfl ?_
                refine lx (op_assign rfl) rfl ?_
                refine lx_end ⟨by kernel_rfl, ?_⟩
                refine pe_round (⟨(k + 1, out, id), by dsimp only; omega, hst, by dsimp only; omega⟩) (by dsimp only; omega) (pe_st hC ?_ ?_ rfl)
                · try dsimp only [List.cons_append, List.nil_append]
                  first | refine SubF.cons rfl ?_ | (refine SubF.ent rfl ?_ ?_; · repeat (first | exact Ents.nil | refine Ents.cons ?_ ?_ | refine Ent.tup ?_ | refine Ent.agg ?_ | exact Ent.row _ _ _ _ | exact Ent.nil _ _ | exact Ent.func _ | exact Ent.refl _ | exact Ent.of_eq rfl | refine Ent.cells ?_))
                  first | refine SubF.cons rfl ?_ | (refine SubF.ent rfl ?_ ?_; · repeat (first | exact Ents.nil | refine Ents.cons ?_ ?_ | refine Ent.tup ?_ | refine Ent.agg ?_ | exact Ent.row _ _ _ _ | exact Ent.nil _ _ | exact Ent.func _ | exact Ent.refl _ | exact Ent.of_eq rfl | refine Ent.cells ?_))
                  first | refine SubF.cons rfl ?_ | (refine SubF.ent rfl ?_ ?_; · repeat (first | exact Ents.nil | refine Ents.cons ?_ ?_ | refine Ent.tup ?_ | refine Ent.agg ?_ | exact Ent.row _ _ _ _ | exact Ent.nil _ _ | exact Ent.func _ | exact Ent.refl _ | exact Ent.of_eq rfl | refine Ent.cells ?_))
                  first | refine SubF.cons rfl ?_ | (refine SubF.ent rfl ?_ ?_; · repeat (first | exact Ents.nil | refine Ents.cons ?_ ?_ | refine Ent.tup ?_ | refine Ent.agg ?_ | exact Ent.row _ _ _ _ | exact Ent.nil _ _ | exact Ent.func _ | exact Ent.refl _ | exact Ent.of_eq rfl | refine Ent.cells ?_))
                  exact SubF.nil
                · try dsimp only [List.cons_append, List.nil_append]
                  repeat (first | exact SubL.nil | refine SubL.cons rfl ?_)
    · (try simp only [Bool.and_eq_true, Bool.or_eq_true, Bool.and_eq_false_iff, Bool.or_eq_false_iff, decide_eq_true_eq, decide_eq_false_iff_not, Bool.not_eq_true', Bool.not_eq_false', List.length_map, ne_eq, Decidable.not_not, Int.not_lt, Int.not_le] at h13)
      have hfin : out = firstsF but [] l := by rw [List.drop_eq_nil_of_le (by omega)] at hk2; exact hk2
      refine tr_exit ?_
      refine pe_then_exit ?_
      refine pe_then_exit ?_
      refine pe_block_eq ?_
      refine pe_then_normal ?_
      refine tr_sub hC (.cons (t := 5) rfl .nil) (.cons (t := 600) rfl .nil) rfl ?_
      refine tr_seq ?_
      refine tr_region (fun N18 hN => ?_)
      refine lx (op_move rfl) rfl ?_
      refine lx (op_assign rfl) rfl ?_
      refine lx_end ⟨by kernel_rfl, ?_⟩
      refine pe_then_normal ?_
      refine tr_sub hC (.cons (t := 4) rfl .nil) (.cons (t := 600) rfl .nil) rfl ?_
      refine tr_ret ?_
      refine pe_ret1 rfl hO rfl (.tmp rfl .nil) ?_
      rw [← hfin]
      repeat (first | exact Ents.nil | refine Ents.cons ?_ ?_ | refine Ent.tup ?_ | refine Ent.agg ?_ | exact Ent.row _ _ _ _ | exact Ent.nil _ _ | exact Ent.func _ | exact Ent.refl _ | exact Ent.of_eq rfl | refine Ent.cells ?_)

theorem rLeave_ok (o : Ob) (x : Int) (hs : Lens o) : FnP Try.prog 22 [aggP o.ps, eqP (.int .i64 x)] (aggP (leaveF o x).ps) := by
  refine fn_pure' Try.func22 rfl Try.ntmps22 rfl ?_
  intro σ0 M ex Rf R hC hO
  simp only [frameOf, tokOf]
  refine tr_seq ?_
  refine tr_region (fun N0 hN => ?_)
  refine lxn (op_box (m := 2) (k := 2) rfl (.agg rfl) (by first | exact hC.low _ (by decide) | rfl)) rfl ?_
  refine lxn (op_alloc (m := 4) (k := 4) (ps := [eqP (.int .i64 0), eqP (.slice none 0 0), eqP (.bool false), eqP (.int .i64 0), eqP (.slice none 0 0), eqP (.bool false), eqP (.int .i64 0), eqP (.int .i64 0), eqP (.slice none 0 0), eqP (.slice none 0 0)]) ze28 rfl rfl (by first | exact hC.low _ (by decide) | rfl)) rfl ?_
  refine lx_end ⟨by kernel_rfl, ?_⟩
  refine pe_then_normal ?_
  refine tr_sub hC (.cons (t := 1) rfl (.cons (t := 2) rfl (.cons (t := 4) rfl .nil))) (.cons (t := 2) rfl (.cons (t := 4) rfl .nil)) rfl ?_
  refine tr_seq ?_
  refine tr_region (fun N1 hN => ?_)
  refine lx (op_bload (m := 2) rfl rfl ag28 sz28) rfl ?_
  first | refine lx (op_call (l := [(Go.Operand.tmp 6)]) (copy_ok o hs) (.cons rfl .nil) fn45) rfl ?_ | refine lx (op_call (l := [(Go.Operand.tmp 6)]) (copy_ok o hs) (.ent rfl (by repeat (first | exact Ents.nil | refine Ents.cons ?_ ?_ | refine Ent.tup ?_ | refine Ent.agg ?_ | exact Ent.row _ _ _ _ | exact Ent.nil _ _ | exact Ent.func _ | exact Ent.refl _ | exact Ent.of_eq rfl | refine Ent.cells ?_)) .nil) fn45) rfl ?_
  refine lxn (op_alloc (m := 5) (k := 5) (ps := [eqP (.int .i64 0), eqP (.slice none 0 0), eqP (.bool false), eqP (.int .i64 0), eqP (.slice none 0 0), eqP (.bool false), eqP (.int .i64 0), eqP (.int .i64 0), eqP (.slice none 0 0), eqP (.slice none 0 0)]) ze28 rfl rfl (by first | exact hC.low _ (by decide) | rfl)) rfl ?_
  refine lxr (op_store_all (m := 5) rfl rfl rfl (.agg rfl) sz28 rfl) rfl ?_
  refine lx_end ⟨by kernel_rfl, ?_⟩
  refine pe_then_normal ?_
  refine tr_sub hC (.cons (t := 1) rfl (.cons (t := 2) rfl (.cons (t := 4) rfl (.cons (t := 5) rfl .nil)))) (.cons (t := 2) rfl (.cons (t := 4) rfl (.cons (t := 5) rfl .nil))) rfl ?_
  refine tr_seq ?_
  refine tr_region (fun N2 hN => ?_)
  refine lx (op_fieldAddr rfl fl28_8 sz26) rfl ?_
  refine lx (op_bload_one (m := 2) rfl rfl ag26 rfl) rfl ?_
  refine lx (op_move rfl) rfl ?_
  first | refine lx (op_call (l := [(Go.Operand.tmp 9), (Go.Operand.tmp 10)]) (without_ok o.senders x (by have := hs.senders; omega)) (.cons rfl (.cons rfl .nil)) fn47) rfl ?_ | refine lx (op_call (l := [(Go.Operand.tmp 9), (Go.Operand.tmp 10)]) (without_ok o.senders x (by have := hs.senders; omega)) (.ent rfl (by repeat (first | exact Ents.nil | refine Ents.cons ?_ ?_ | refine Ent.tup ?_ | refine Ent.agg ?_ | exact Ent.row _ _ _ _ | exact Ent.nil _ _ | exact Ent.func _ | exact Ent.refl _ | exact Ent.of_eq rfl | refine Ent.cells ?_)) (.ent rfl (by repeat (first | exact Ents.nil | refine Ents.cons ?_ ?_ | refine Ent.tup ?_ | refine Ent.agg ?_ | exact Ent.row _ _ _ _ | exact Ent.nil _ _ | exact Ent.func _ | exact Ent.refl _ | exact Ent.of_eq rfl | refine Ent.cells ?_)) .nil)) fn47) rfl ?_
  refine lx (op_fieldAddr rfl fl28_8 sz26) rfl ?_
  refine lxr (op_store (m := 5) (rs := [_, _, _, _, _, _, _, _, _, _]) rfl rfl rfl (.one (by (first | exact One.eq rfl | exact One.mv _ _ _ _ _ | exact One.cl _ _ _ | exact One.map _ | exact One.sl _ _ _ | exact One.row _ _ _ _ | exact One.msl _ _ _ _ | exact One.ptr _ _ | exact One.b _ | exact One.cells _))) sz26 rfl rfl rfl) rfl ?_
  refine lx_end ⟨by kernel_rfl, ?_⟩
  refine pe_then_normal ?_
  refine tr_sub hC (.cons (t := 1) rfl (.cons (t := 2) rfl (.cons (t := 4) rfl (.cons (t := 5) rfl .nil)))) (.cons (t := 2) rfl (.cons (t := 4) rfl (.cons (t := 5) rfl .nil))) rfl ?_
  refine tr_seq ?_
  refine tr_region (fun N3 hN => ?_)
  refine lx (op_fieldAddr rfl fl28_9 sz26) rfl ?_
  refine lx (op_bload_one (m := 2) rfl rfl ag26 rfl) rfl ?_
  refine lx (op_move rfl) rfl ?_
  first | refine lx (op_call (l := [(Go.Operand.tmp 14), (Go.Operand.tmp 15)]) (without_ok o.receivers x (by have := hs.receivers; omega)) (.cons rfl (.cons rfl .nil)) fn47) rfl ?_ | refine lx (op_call (l := [(Go.Operand.tmp 14), (Go.Operand.tmp 15)]) (without_ok o.receivers x (by have := hs.receivers; omega)) (.ent rfl (by repeat (first | exact Ents.nil | refine Ents.cons ?_ ?_ | refine Ent.tup ?_ | refine Ent.agg ?_ | exact Ent.row _ _ _ _ | exact Ent.nil _ _ | exact Ent.func _ | exact Ent.refl _ | exact Ent.of_eq rfl | refine Ent.cells ?_)) (.ent rfl (by repeat (first | exact Ents.nil | refine Ents.cons ?_ ?_ | refine Ent.tup ?_ | refine Ent.agg ?_ | exact Ent.row _ _ _ _ | exact Ent.nil _ _ | exact Ent.func _ | exact Ent.refl _ | exact Ent.of_eq rfl | refine Ent.cells ?_)) .nil)) fn47) rfl ?_
  refine lx (op_fieldAddr rfl fl28_9 sz26) rfl ?_
  refine lxr (op_store (m := 5) (rs := [_, _, _, _, _, _, _, _, _, _]) rfl rfl rfl (.one (by (first | exact One.eq rfl | exact One.mv _ _ _ _ _ | exact One.cl _ _ _ | exact One.map _ | exact One.sl _ _ _ | exact One.row _ _ _ _ | exact One.msl _ _ _ _ | exact One.ptr _ _ | exact One.b _ | exact One.cells _))) sz26 rfl rfl rfl) rfl ?_
  refine lx_end ⟨by kernel_rfl, ?_⟩
  refine pe_then_normal ?_
  refine tr_sub hC (.cons (t := 4) rfl (.cons (t := 5) rfl .nil)) (.cons (t := 4) rfl (.cons (t := 5) rfl .nil)) rfl ?_
  refine tr_seq ?_
  refine tr_region (fun N4 hN => ?_)
  refine lx (op_bload (m := 5) rfl rfl ag28 sz28) rfl ?_
  refine lxr (op_store_all (m := 4) rfl rfl rfl (.agg rfl) sz28 rfl) rfl ?_
  refine lx_end ⟨by kernel_rfl, ?_⟩
  refine pe_then_normal ?_
  refine tr_sub hC (.cons (t := 4) rfl .nil) (.cons (t := 4) rfl .nil) rfl ?_
  refine tr_ret ?_
  refine pe_ret1 rfl hO rfl (.cell (m := 4) rfl rfl ag28 sz28 .nil) ?_
  repeat (first | exact Ents.nil | refine Ents.cons ?_ ?_ | refine Ent.tup ?_ | refine Ent.agg ?_ | exact Ent.row _ _ _ _ | exact Ent.nil _ _ | exact Ent.func _ | exact Ent.refl _ | exact Ent.of_eq rfl | refine Ent.cells ?_)

end Go.Proofs.Ytagjjeofdcgcmaa
