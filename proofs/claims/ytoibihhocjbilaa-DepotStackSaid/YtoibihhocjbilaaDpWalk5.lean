/- Walks of the functions of layer 21: Push -/
import Derived.Test.YtoibihhocjbilaaDpWalk4
set_option linter.unusedVariables false
set_option linter.unusedSimpArgs false
namespace Go.Proofs.Ytoibihhocjbilaa
open Go.AL Go.Dp Go.RowKit
theorem fn13 : fnB Try.prog 13 = true := by kernel_rfl
theorem fn25 : fnB Try.prog 25 = true := by kernel_rfl
theorem fn27 : fnB Try.prog 27 = true := by kernel_rfl
theorem fn28 : fnB Try.prog 28 = true := by kernel_rfl
theorem rpush_ok (l : List E) (p : Int) (s : Site) (hx : l.length ≤ 1000000) : FnP Try.prog 28 [aggP (ofE l).ps, eqP (.int .i64 p), aggP (sp s)] (tupP [aggP (ofE (pushE l (p, s)).1).ps, eqP (.int .i64 ((pushE l (p, s)).2 : Int))]) := by
  have hS := lenS l
  have hP := lenP l
  refine fn_pure' Try.func28 rfl Try.ntmps28 rfl ?_
  intro σ0 M ex Rf R hC hO
  simp only [frameOf, tokOf]
  refine tr_seq ?_
  refine tr_region (fun N0 hN => ?_)
  refine lxn (op_box (m := 3) (k := 3) rfl (.agg rfl) (by first | exact hC.low _ (by decide) | rfl)) rfl ?_
  refine lxn (op_box (m := 5) (k := 5) rfl (.agg rfl) (by first | exact hC.low _ (by decide) | rfl)) rfl ?_
  refine lxn (op_alloc (m := 6) (k := 6) (ps := [eqP (.slice none 0 0), eqP (.slice none 0 0)]) ze25 rfl rfl (by first | exact hC.low _ (by decide) | rfl)) rfl ?_
  refine lx (op_assign rfl) rfl ?_
  refine lx_end ⟨by kernel_rfl, ?_⟩
  refine pe_then_normal ?_
  refine tr_sub hC (.cons (t := 1) rfl (.cons (t := 3) rfl (.cons (t := 5) rfl (.cons (t := 6) rfl .nil)))) (.cons (t := 3) rfl (.cons (t := 5) rfl (.cons (t := 6) rfl .nil))) rfl ?_
  refine tr_seq ?_
  refine tr_seq ?_
  refine tr_region (fun N1 hN => ?_)
  refine lx (op_assign rfl) rfl ?_
  refine lx_end ⟨by kernel_rfl, ?_⟩
  refine pe_then_normal ?_
  refine tr_sub hC (.cons (t := 1) rfl (.cons (t := 3) rfl (.cons (t := 5) rfl (.cons (t := 6) rfl (.cons (t := 8) rfl .nil))))) (.cons (t := 3) rfl (.cons (t := 5) rfl (.cons (t := 6) rfl .nil))) rfl ?_
  refine tr_block ?_
  refine tr_loopK (α := {zz : Nat // zz ≤ l.length ∧ ∀ x ∈ l.take zz, decide (x = (p, s)) = false}) (⟨(0), Nat.zero_le _, by simp⟩) (fun zz => [(8, eqP (.int .i64 (zz.1 : Int)))]) (fun zz => []) (fun zz => l.length - zz.1) hC (.cons (t := 1) rfl (.cons (t := 3) rfl (.cons (t := 5) rfl (.cons (t := 6) rfl .nil)))) (.cons (t := 3) rfl (.cons (t := 5) rfl (.cons (t := 6) rfl .nil))) rfl ?_ ?_ (fun zz => ?_)
  · try dsimp only [List.cons_append, List.nil_append]
    first | refine SubF.cons rfl ?_ | (refine SubF.ent rfl ?_ ?_; · repeat (first | exact Ent.refl _ | exact Ents.nil | exact Ent.nil _ _ | exact Ent.row _ _ _ _ | exact Ent.func _ | refine Ents.cons ?_ ?_ | refine Ent.tup ?_ | refine Ent.agg ?_ | refine Ent.cells ?_ | exact Ent.of_eq rfl))
    exact SubF.nil
  · try dsimp only [List.cons_append, List.nil_append]
    repeat (first | exact SubL.nil | refine SubL.cons rfl ?_)
  · obtain ⟨k, hk1, hk2⟩ := zz
    dsimp only [List.cons_append, List.nil_append]
    refine tr_seq ?_
    refine tr_seq ?_
    refine tr_region (fun N2 hN => ?_)
    refine lx (op_move rfl) rfl ?_
    refine lx (op_fieldAddr rfl fl25_0 sz22) rfl ?_
    refine lx (op_bload_one (m := 3) rfl rfl ag22 rfl) rfl ?_
    first | refine lx (op_len rfl el22) rfl ?_ | refine lx (op_len_row rfl el22) rfl ?_ | refine lx (op_len_mv rfl el22) rfl ?_
    refine lx (op_lss rfl rfl) rfl ?_
    refine lx_end ⟨by kernel_rfl, ?_⟩
    refine pe_then_normal ?_
    refine tr_sub hC (.cons (t := 1) rfl (.cons (t := 3) rfl (.cons (t := 5) rfl (.cons (t := 6) rfl (.cons (t := 8) rfl (.cons (t := 14) rfl .nil)))))) (.cons (t := 3) rfl (.cons (t := 5) rfl (.cons (t := 6) rfl .nil))) rfl ?_
    refine tr_cond rfl (fun h14 => ?_) (fun h14 => ?_)
    · (try simp only [Bool.and_eq_true, Bool.or_eq_true, Bool.and_eq_false_iff, Bool.or_eq_false_iff, decide_eq_true_eq, decide_eq_false_iff_not, Bool.not_eq_true', Bool.not_eq_false', List.length_map, ne_eq, Decidable.not_not, Int.not_lt, Int.not_le] at h14)
      refine tr_skip ?_
      refine pe_then_normal ?_
      refine tr_sub hC (.cons (t := 1) rfl (.cons (t := 3) rfl (.cons (t := 5) rfl (.cons (t := 6) rfl (.cons (t := 8) rfl .nil))))) (.cons (t := 3) rfl (.cons (t := 5) rfl (.cons (t := 6) rfl .nil))) rfl ?_
      refine tr_seq ?_
      refine tr_block ?_
      refine tr_seq ?_
      refine tr_drawn mixed (fun N4 hN => ?_)
      refine lx (op_fieldAddr rfl fl25_0 sz22) rfl ?_
      refine lx (op_bload_one (m := 3) rfl rfl ag22 rfl) rfl ?_
      refine lx (op_move rfl) rfl ?_
      refine lx (op_index rfl rfl el22 sz29 rfl (sites_at (by omega : k < l.length))) rfl ?_
      first | refine lx (op_load_all rfl ag29 sz29) rfl ?_ | refine lx (op_load_agg rfl ag29 sz29 rfl) rfl ?_ | refine lx (op_bload (m := 3) rfl rfl ag29 sz29) rfl ?_ | refine lx (op_bload (m := 5) rfl rfl ag29 sz29) rfl ?_ | refine lx (op_bload (m := 6) rfl rfl ag29 sz29) rfl ?_ | refine lx (op_bload_part (m := 3) rfl rfl ag29 sz29 rfl rfl) rfl ?_ | refine lx (op_bload_part (m := 5) rfl rfl ag29 sz29 rfl rfl) rfl ?_ | refine lx (op_bload_part (m := 6) rfl rfl ag29 sz29 rfl rfl) rfl ?_
      first | refine lx (op_bload (m := 5) rfl rfl ag29 sz29) rfl ?_ | refine lx (op_bload_part (m := 5) rfl rfl ag29 sz29 rfl rfl) rfl ?_
      refine lx (op_eql_agg rfl rfl (eqS _ _)) rfl ?_
      refine lx (op_move rfl) rfl ?_
      refine lxs rfl rfl rfl guard_eq (.cons (t := 3) rfl (fun _ => Ent.refl _) .nil) (op_fieldAddr rfl fl25_1 sz23) rfl ?_
      refine lxs rfl rfl rfl guard_eq (.cons (t := 25) rfl (fun h => entW h) .nil) (op_bload_one (m := 3) rfl rfl ag23 rfl) rfl ?_
      refine lxs rfl rfl rfl guard_eq (.cons (t := 8) rfl (fun _ => Ent.refl _) .nil) (op_move rfl) rfl ?_
      refine lxs rfl rfl rfl guard_eq (.cons (t := 26) rfl (fun h => entW h) (.cons (t := 27) rfl (fun h => entW h) .nil)) (op_index rfl rfl el23 sz3 rfl (parents_at (by omega : k < l.length))) rfl ?_
      first | refine lxs rfl rfl rfl guard_eq (.cons (t := 28) rfl (fun h => entW h) .nil) (op_load_one rfl ag3 rfl) rfl ?_ | refine lxs rfl rfl rfl guard_eq (.cons (t := 28) rfl (fun h => entW h) .nil) (op_bload_one (m := 3) rfl rfl ag3 rfl) rfl ?_ | refine lxs rfl rfl rfl guard_eq (.cons (t := 28) rfl (fun h => entW h) .nil) (op_bload_one (m := 5) rfl rfl ag3 rfl) rfl ?_ | refine lxs rfl rfl rfl guard_eq (.cons (t := 28) rfl (fun h => entW h) .nil) (op_bload_one (m := 6) rfl rfl ag3 rfl) rfl ?_
      refine lxs rfl rfl rfl guard_eq (.cons (t := 1) rfl (fun _ => Ent.refl _) .nil) (op_move rfl) rfl ?_
      refine lxs rfl rfl rfl guard_eq (.cons (t := 29) rfl (fun h => entW h) (.cons (t := 30) rfl (fun h => entW h) .nil)) (op_eql rfl rfl) rfl ?_
      refine lx (op_pick_and rfl rfl) rfl ?_
      refine lx_end ⟨by kernel_rfl, ?_⟩
      refine pe_then_normal ?_
      refine tr_sub hC (.cons (t := 1) rfl (.cons (t := 3) rfl (.cons (t := 5) rfl (.cons (t := 6) rfl (.cons (t := 8) rfl (.cons (t := 32) rfl .nil)))))) (.cons (t := 3) rfl (.cons (t := 5) rfl (.cons (t := 6) rfl .nil))) rfl ?_
      refine tr_cond rfl (fun h32 => ?_) (fun h32 => ?_)
      · (try simp only [Bool.and_eq_true, Bool.or_eq_true, Bool.and_eq_false_iff, Bool.or_eq_false_iff, decide_eq_true_eq, decide_eq_false_iff_not, Bool.not_eq_true', Bool.not_eq_false', List.length_map, ne_eq, Decidable.not_not, Int.not_lt, Int.not_le] at h32)
        have hp : pushE l (p, s) = (l, k) := pushE_some (findIdx_at (by omega) hk2 (decide_eq_true (pair_eq h32)))
        refine tr_seq ?_
        refine tr_region (fun N5 hN => ?_)
        first | refine lx (op_bload (m := 3) rfl rfl ag25 sz25) rfl ?_ | refine lx (op_bload_part (m := 3) rfl rfl ag25 sz25 rfl rfl) rfl ?_
        refine lx (op_move rfl) rfl ?_
        first | refine lxr (op_store_all (m := 6) rfl rfl rfl (.agg rfl) sz25 rfl) rfl ?_ | refine lxr (op_store (m := 6) rfl rfl rfl (.agg rfl) sz25 rfl rfl rfl) rfl ?_
        refine lx (op_assign rfl) rfl ?_
        refine lx_end ⟨by kernel_rfl, ?_⟩
        refine pe_then_normal ?_
        refine tr_sub hC (.cons (t := 6) rfl (.cons (t := 7) rfl .nil)) (.cons (t := 6) rfl .nil) rfl ?_
        refine tr_ret ?_
        refine pe_block_ret ?_
        refine pe_then_ret ?_
        refine pe_then_ret ?_
        refine pe_block_ret ?_
        refine pe_then_ret ?_
        refine pe_retN (rs := [.cell 6 25, .tmp 7]) rfl rfl hO rfl (.cell (m := 6) rfl rfl ag25 sz25 (.tmp rfl .nil)) ?_
        rw [hp]
        repeat (first | exact Ent.refl _ | exact Ents.nil | exact Ent.nil _ _ | exact Ent.row _ _ _ _ | exact Ent.func _ | refine Ents.cons ?_ ?_ | refine Ent.tup ?_ | refine Ent.agg ?_ | refine Ent.cells ?_ | exact Ent.of_eq rfl)
      · (try simp only [Bool.and_eq_true, Bool.or_eq_true, Bool.and_eq_false_iff, Bool.or_eq_false_iff, decide_eq_true_eq, decide_eq_false_iff_not, Bool.not_eq_true', Bool.not_eq_false', List.length_map, ne_eq, Decidable.not_not, Int.not_lt, Int.not_le] at h32)
        have hmiss : decide (l[k] = (p, s)) = false := decide_eq_false (pair_ne h32)
        refine tr_skip ?_
        refine pe_block_normal ?_
        refine pe_then_normal ?_
        refine tr_sub hC (.cons (t := 1) rfl (.cons (t := 3) rfl (.cons (t := 5) rfl (.cons (t := 6) rfl (.cons (t := 8) rfl .nil))))) (.cons (t := 3) rfl (.cons (t := 5) rfl (.cons (t := 6) rfl .nil))) rfl ?_
        refine tr_region (fun N3 hN => ?_)
        refine lx (op_move rfl) rfl ?_
        refine lx (op_add rfl rfl (by omega)) rfl ?_
        refine lx (op_assign rfl) rfl ?_
        refine lx_end ⟨by kernel_rfl, ?_⟩
        refine pe_round (⟨(k + 1), by omega, take_all hk2 (by omega) hmiss⟩) (by dsimp only; omega) (pe_st hC ?_ ?_ rfl)
        · try dsimp only [List.cons_append, List.nil_append]
          first | refine SubF.cons rfl ?_ | (refine SubF.ent rfl ?_ ?_; · repeat (first | exact Ent.refl _ | exact Ents.nil | exact Ent.nil _ _ | exact Ent.row _ _ _ _ | exact Ent.func _ | refine Ents.cons ?_ ?_ | refine Ent.tup ?_ | refine Ent.agg ?_ | refine Ent.cells ?_ | exact Ent.of_eq rfl))
          first | refine SubF.cons rfl ?_ | (refine SubF.ent rfl ?_ ?_; · repeat (first | exact Ent.refl _ | exact Ents.nil | exact Ent.nil _ _ | exact Ent.row _ _ _ _ | exact Ent.func _ | refine Ents.cons ?_ ?_ | refine Ent.tup ?_ | refine Ent.agg ?_ | refine Ent.cells ?_ | exact Ent.of_eq rfl))
          first | refine SubF.cons rfl ?_ | (refine SubF.ent rfl ?_ ?_; · repeat (first | exact Ent.refl _ | exact Ents.nil | exact Ent.nil _ _ | exact Ent.row _ _ _ _ | exact Ent.func _ | refine Ents.cons ?_ ?_ | refine Ent.tup ?_ | refine Ent.agg ?_ | refine Ent.cells ?_ | exact Ent.of_eq rfl))
          first | refine SubF.cons rfl ?_ | (refine SubF.ent rfl ?_ ?_; · repeat (first | exact Ent.refl _ | exact Ents.nil | exact Ent.nil _ _ | exact Ent.row _ _ _ _ | exact Ent.func _ | refine Ents.cons ?_ ?_ | refine Ent.tup ?_ | refine Ent.agg ?_ | refine Ent.cells ?_ | exact Ent.of_eq rfl))
          first | refine SubF.cons rfl ?_ | (refine SubF.ent rfl ?_ ?_; · repeat (first | exact Ent.refl _ | exact Ents.nil | exact Ent.nil _ _ | exact Ent.row _ _ _ _ | exact Ent.func _ | refine Ents.cons ?_ ?_ | refine Ent.tup ?_ | refine Ent.agg ?_ | refine Ent.cells ?_ | exact Ent.of_eq rfl))
          exact SubF.nil
        · try dsimp only [List.cons_append, List.nil_append]
          repeat (first | exact SubL.nil | refine SubL.cons rfl ?_)
    · (try simp only [Bool.and_eq_true, Bool.or_eq_true, Bool.and_eq_false_iff, Bool.or_eq_false_iff, decide_eq_true_eq, decide_eq_false_iff_not, Bool.not_eq_true', Bool.not_eq_false', List.length_map, ne_eq, Decidable.not_not, Int.not_lt, Int.not_le] at h14)
      have hk3 : k = l.length := by omega
      have hp : pushE l (p, s) = (l ++ [(p, s)], l.length) := pushE_none (by unfold idxE; rw [List.findIdx?_eq_none_iff]; intro x hx; exact hk2 x (by rw [hk3, List.take_of_length_le (Nat.le_refl _)]; exact hx))
      refine tr_exit ?_
      refine pe_then_exit ?_
      refine pe_then_exit ?_
      refine pe_block_eq ?_
      refine pe_then_normal ?_
      refine tr_sub hC (.cons (t := 1) rfl (.cons (t := 3) rfl (.cons (t := 5) rfl (.cons (t := 6) rfl .nil)))) (.cons (t := 3) rfl (.cons (t := 5) rfl (.cons (t := 6) rfl .nil))) rfl ?_
      refine tr_seq ?_
      refine tr_region (fun N6 hN => ?_)
      refine lxn (op_alloc (m := 9) (k := 9) (ps := [eqP (.slice none 0 0), eqP (.slice none 0 0)]) ze25 rfl rfl (by first | exact hC.low _ (by decide) | rfl)) rfl ?_
      refine lx_end ⟨by kernel_rfl, ?_⟩
      refine pe_then_normal ?_
      refine tr_sub hC (.cons (t := 1) rfl (.cons (t := 3) rfl (.cons (t := 5) rfl (.cons (t := 6) rfl (.cons (t := 9) rfl .nil))))) (.cons (t := 3) rfl (.cons (t := 5) rfl (.cons (t := 6) rfl (.cons (t := 9) rfl .nil)))) rfl ?_
      refine tr_seq ?_
      refine tr_drawn mixed (fun N7 hN => ?_)
      refine lx (op_fieldAddr rfl fl25_0 sz22) rfl ?_
      refine lx (op_bload_one (m := 9) rfl rfl ag22 rfl) rfl ?_
      refine lx (op_fieldAddr rfl fl25_0 sz22) rfl ?_
      refine lx (op_bload_one (m := 3) rfl rfl ag22 rfl) rfl ?_
      refine lxn (op_append_nil (f := sp) (m' := 39) (kk := 39) rfl rfl (by first | exact hC.low _ (by decide) | rfl) el22 ze29 sz29 by29 rfl sp_len (by omega) (by omega)) rfl ?_
      first | refine lx (op_bload (m := 5) rfl rfl ag29 sz29) rfl ?_ | refine lx (op_bload_part (m := 5) rfl rfl ag29 sz29 rfl rfl) rfl ?_
      refine lx (op_buildSlice (f := sp) (xs := [s]) (l := [(0, (Go.Operand.tmp 40))]) ze29 rfl rfl (by decide) el22 sz29 sp_len (.cons rfl (.agg rfl) .nil) rfl (by decide)) rfl ?_
      refine lxr (op_append (m := 39) (m' := 42) (kk := 42) rfl rfl rfl (.inr (by first | exact hC.low _ (by decide) | rfl)) el22 ze29 sz29 by29 rfl sp_len (by simp [ofE]; omega) (by simp [ofE]; omega)) rfl ?_
      refine lx (op_fieldAddr rfl fl25_0 sz22) rfl ?_
      refine lxr (op_store_one (m := 9) rfl rfl rfl (by (first | exact One.eq rfl | exact One.mv _ _ _ _ _ | exact One.cl _ _ _ | exact One.map _ | exact One.sl _ _ _ | exact One.row _ _ _ _ | exact One.msl _ _ _ _ | exact One.ptr _ _ | exact One.b _ | exact One.cells _)) sz22 rfl) rfl ?_
      refine lx_end ⟨by kernel_rfl, ?_⟩
      refine pe_then_normal ?_
      refine tr_sub hC (.cons (t := 1) rfl (.cons (t := 3) rfl (.cons (t := 6) rfl (.cons (t := 9) rfl .nil)))) (.cons (t := 3) rfl (.cons (t := 6) rfl (.cons (t := 9) rfl (.cons (t := 42) rfl .nil)))) rfl ?_
      refine tr_seq ?_
      refine tr_region (fun N8 hN => ?_)
      refine lx (op_fieldAddr rfl fl25_1 sz23) rfl ?_
      refine lx (op_bload_one (m := 9) rfl rfl ag23 rfl) rfl ?_
      refine lx (op_fieldAddr rfl fl25_1 sz23) rfl ?_
      refine lx (op_bload_one (m := 3) rfl rfl ag23 rfl) rfl ?_
      refine lxn (op_append_nil (f := ip) (m' := 48) (kk := 48) rfl rfl (by first | exact hC.low _ (by decide) | rfl) el23 ze3 sz3 by3 rfl ip_len (by omega) (by omega)) rfl ?_
      refine lx (op_move rfl) rfl ?_
      refine lx (op_buildSlice (f := ip) (xs := [p]) (l := [(0, (Go.Operand.tmp 49))]) ze3 rfl rfl (by decide) el23 sz3 ip_len (.cons rfl (.one (by (first | exact One.eq rfl | exact One.mv _ _ _ _ _ | exact One.cl _ _ _ | exact One.map _ | exact One.sl _ _ _ | exact One.row _ _ _ _ | exact One.msl _ _ _ _ | exact One.ptr _ _ | exact One.b _ | exact One.cells _))) .nil) rfl (by decide)) rfl ?_
      refine lxr (op_append (m := 48) (m' := 51) (kk := 51) rfl rfl rfl (.inr (by first | exact hC.low _ (by decide) | rfl)) el23 ze3 sz3 by3 rfl ip_len (by simp [ofE]; omega) (by simp [ofE]; omega)) rfl ?_
      refine lx (op_fieldAddr rfl fl25_1 sz23) rfl ?_
      refine lxr (op_store_one (m := 9) rfl rfl rfl (by (first | exact One.eq rfl | exact One.mv _ _ _ _ _ | exact One.cl _ _ _ | exact One.map _ | exact One.sl _ _ _ | exact One.row _ _ _ _ | exact One.msl _ _ _ _ | exact One.ptr _ _ | exact One.b _ | exact One.cells _)) sz23 rfl) rfl ?_
      refine lx_end ⟨by kernel_rfl, ?_⟩
      refine pe_then_normal ?_
      refine tr_sub hC (.cons (t := 3) rfl (.cons (t := 6) rfl (.cons (t := 9) rfl .nil))) (.cons (t := 3) rfl (.cons (t := 6) rfl (.cons (t := 9) rfl (.cons (t := 42) rfl (.cons (t := 51) rfl .nil))))) rfl ?_
      refine tr_seq ?_
      refine tr_drawn mixed (fun N9 hN => ?_)
      first | refine lx (op_bload (m := 9) rfl rfl ag25 sz25) rfl ?_ | refine lx (op_bload_part (m := 9) rfl rfl ag25 sz25 rfl rfl) rfl ?_
      refine lx (op_fieldAddr rfl fl25_0 sz22) rfl ?_
      refine lx (op_bload_one (m := 3) rfl rfl ag22 rfl) rfl ?_
      first | refine lx (op_len rfl el22) rfl ?_ | refine lx (op_len_row rfl el22) rfl ?_ | refine lx (op_len_mv rfl el22) rfl ?_
      first | refine lxr (op_store_all (m := 6) rfl rfl rfl (.agg rfl) sz25 rfl) rfl ?_ | refine lxr (op_store (m := 6) rfl rfl rfl (.agg rfl) sz25 rfl rfl rfl) rfl ?_
      refine lx (op_assign rfl) rfl ?_
      refine lx_end ⟨by kernel_rfl, ?_⟩
      refine pe_then_normal ?_
      refine tr_sub hC (.cons (t := 6) rfl (.cons (t := 7) rfl .nil)) (.cons (t := 6) rfl (.cons (t := 42) rfl (.cons (t := 51) rfl .nil))) rfl ?_
      refine tr_ret ?_
      refine pe_retN (rs := [.cell 6 25, .tmp 7]) rfl rfl hO rfl (.cell (m := 6) rfl rfl ag25 sz25 (.tmp rfl .nil)) ?_
      rw [hp]
      refine Ent.tup (.cons (Ent.agg ?_) (.cons (entI (by simp [ofE])) .nil))
      simp only [ofE, Dep.ps, List.map_append, List.map_cons, List.map_nil]
      repeat (first | exact Ent.refl _ | exact Ents.nil | exact Ent.nil _ _ | exact Ent.row _ _ _ _ | exact Ent.func _ | refine Ents.cons ?_ ?_ | refine Ent.tup ?_ | refine Ent.agg ?_ | refine Ent.cells ?_ | exact Ent.of_eq rfl)

theorem Push_n (d : Dep) (hv : validF d = false) (hx : d.sites.length ≤ 1000000) (hy : d.parents.length ≤ 1000000) (p : Int) (s : Site) : FnP Try.prog 14 [aggP d.ps, eqP (.int .i64 p), aggP (sp s)] (tupP [aggP (pushF d p s).1.ps, eqP (.int .i64 (pushF d p s).2)]) := by
  refine fn_pure' Try.func14 rfl Try.ntmps14 rfl ?_
  intro σ0 M ex Rf R hC hO
  simp only [frameOf, tokOf]
  refine tr_seq ?_
  refine tr_region (fun N0 hN => ?_)
  refine lxn (op_box (m := 3) (k := 3) rfl (.agg rfl) (by first | exact hC.low _ (by decide) | rfl)) rfl ?_
  refine lxn (op_box (m := 5) (k := 5) rfl (.agg rfl) (by first | exact hC.low _ (by decide) | rfl)) rfl ?_
  refine lxn (op_alloc (m := 6) (k := 6) (ps := [eqP (.slice none 0 0), eqP (.slice none 0 0)]) ze25 rfl rfl (by first | exact hC.low _ (by decide) | rfl)) rfl ?_
  refine lx (op_assign rfl) rfl ?_
  refine lx_end ⟨by kernel_rfl, ?_⟩
  refine pe_then_normal ?_
  refine tr_sub hC (.cons (t := 1) rfl (.cons (t := 3) rfl (.cons (t := 5) rfl (.cons (t := 6) rfl .nil)))) (.cons (t := 3) rfl (.cons (t := 5) rfl (.cons (t := 6) rfl .nil))) rfl ?_
  refine tr_seq ?_
  refine tr_region (fun N1 hN => ?_)
  first | refine lx (op_bload (m := 3) rfl rfl ag25 sz25) rfl ?_ | refine lx (op_bload_part (m := 3) rfl rfl ag25 sz25 rfl rfl) rfl ?_
  first | refine lx (op_call (l := [(Go.Operand.tmp 12)]) (build_n d hv hx hy) (.cons rfl .nil) fn25) rfl ?_ | refine lx (op_call (l := [(Go.Operand.tmp 12)]) (build_n d hv hx hy) (.ent rfl (by repeat (first | exact Ent.refl _ | exact Ents.nil | exact Ent.nil _ _ | exact Ent.row _ _ _ _ | exact Ent.func _ | refine Ents.cons ?_ ?_ | refine Ent.tup ?_ | refine Ent.agg ?_ | refine Ent.cells ?_ | exact Ent.of_eq rfl)) .nil) fn25) rfl ?_
  refine lx (op_move rfl) rfl ?_
  refine lx (op_extract rfl rfl) rfl ?_
  refine lx (op_extract rfl rfl) rfl ?_
  refine lx (op_assign rfl) rfl ?_
  refine lx (op_assign rfl) rfl ?_
  refine lx_end ⟨by kernel_rfl, ?_⟩
  refine pe_then_normal ?_
  refine tr_sub hC (.cons (t := 1) rfl (.cons (t := 3) rfl (.cons (t := 5) rfl (.cons (t := 6) rfl (.cons (t := 8) rfl (.cons (t := 9) rfl .nil)))))) (.cons (t := 3) rfl (.cons (t := 5) rfl (.cons (t := 6) rfl .nil))) rfl ?_
  refine tr_seq ?_
  refine tr_seq ?_
  refine tr_region (fun N2 hN => ?_)
  refine lx (op_move rfl) rfl ?_
  first | refine lx (op_not rfl) rfl ?_ | refine lx (op_not_b rfl) rfl ?_
  refine lx (op_move rfl) rfl ?_
  refine lxs rfl rfl rfl guard_eq (.cons (t := 1) rfl (fun _ => Ent.refl _) .nil) (op_move rfl) rfl ?_
  refine lxs rfl rfl rfl guard_eq (.cons (t := 19) rfl (fun h => entW h) .nil) (op_lss rfl rfl) rfl ?_
  refine lx (op_pick_or rfl rfl) rfl ?_
  refine lx (op_move rfl) rfl ?_
  refine lxs rfl rfl rfl guard_eq (.cons (t := 1) rfl (fun _ => Ent.refl _) .nil) (op_move rfl) rfl ?_
  refine lxs rfl rfl rfl guard_eq (.cons (t := 3) rfl (fun _ => Ent.refl _) .nil) (op_fieldAddr rfl fl25_0 sz22) rfl ?_
  refine lxs rfl rfl rfl guard_eq (.cons (t := 24) rfl (fun h => entW h) .nil) (op_bload_one (m := 3) rfl rfl ag22 rfl) rfl ?_
  first | refine lxs rfl rfl rfl guard_eq (.cons (t := 25) rfl (fun h => entW h) .nil) (op_len rfl el22) rfl ?_ | refine lxs rfl rfl rfl guard_eq (.cons (t := 25) rfl (fun h => entW h) .nil) (op_len_row rfl el22) rfl ?_ | refine lxs rfl rfl rfl guard_eq (.cons (t := 25) rfl (fun h => entW h) .nil) (op_len_mv rfl el22) rfl ?_
  refine lxs rfl rfl rfl guard_eq (.cons (t := 23) rfl (fun h => entW h) (.cons (t := 26) rfl (fun h => entW h) .nil)) (op_geq rfl rfl) rfl ?_
  refine lx (op_pick_or rfl rfl) rfl ?_
  refine lx (op_move rfl) rfl ?_
  first | refine lxs rfl rfl rfl guard_eq (.cons (t := 5) rfl (fun _ => Ent.refl _) .nil) (op_bload (m := 5) rfl rfl ag29 sz29) rfl ?_ | refine lxs rfl rfl rfl guard_eq (.cons (t := 5) rfl (fun _ => Ent.refl _) .nil) (op_bload_part (m := 5) rfl rfl ag29 sz29 rfl rfl) rfl ?_
  first | refine lxs rfl rfl rfl guard_eq (.cons (t := 30) rfl (fun h => entW h) .nil) (op_call (l := [(Go.Operand.tmp 30)]) (proper_ok _) (.cons rfl .nil) fn26) rfl ?_ | refine lxs rfl rfl rfl guard_eq (.cons (t := 30) rfl (fun h => entW h) .nil) (op_call (l := [(Go.Operand.tmp 30)]) (proper_ok _) (.ent rfl (by repeat (first | exact Ent.refl _ | exact Ents.nil | exact Ent.nil _ _ | exact Ent.row _ _ _ _ | exact Ent.func _ | refine Ents.cons ?_ ?_ | refine Ent.tup ?_ | refine Ent.agg ?_ | refine Ent.cells ?_ | exact Ent.of_eq rfl)) .nil) fn26) rfl ?_
  first | refine lxs rfl rfl rfl guard_eq (.cons (t := 31) rfl (fun h => entW h) .nil) (op_not rfl) rfl ?_ | refine lxs rfl rfl rfl guard_eq (.cons (t := 31) rfl (fun h => entW h) .nil) (op_not_b rfl) rfl ?_
  refine lx (op_pick_or rfl rfl) rfl ?_
  refine lx_end ⟨by kernel_rfl, ?_⟩
  refine pe_then_normal ?_
  refine tr_sub hC (.cons (t := 1) rfl (.cons (t := 5) rfl (.cons (t := 6) rfl (.cons (t := 8) rfl (.cons (t := 33) rfl .nil))))) (.cons (t := 5) rfl (.cons (t := 6) rfl .nil)) rfl ?_
  refine tr_cond rfl (fun h33 => ?_) (fun h33 => ?_)
  · (try simp only [Bool.and_eq_true, Bool.or_eq_true, Bool.and_eq_false_iff, Bool.or_eq_false_iff, decide_eq_true_eq, decide_eq_false_iff_not, Bool.not_eq_true', Bool.not_eq_false', List.length_map, ne_eq, Decidable.not_not, Int.not_lt, Int.not_le] at h33)
    refine tr_seq ?_
    refine tr_region (fun N3 hN => ?_)
    refine lx (op_build (parts := []) ze25 rfl rfl fs25 .nil rfl rfl) rfl ?_
    first | refine lxr (op_store_all (m := 6) rfl rfl rfl (.agg rfl) sz25 rfl) rfl ?_ | refine lxr (op_store (m := 6) rfl rfl rfl (.agg rfl) sz25 rfl rfl rfl) rfl ?_
    refine lx (op_assign rfl) rfl ?_
    refine lx_end ⟨by kernel_rfl, ?_⟩
    refine pe_then_normal ?_
    refine tr_sub hC (.cons (t := 6) rfl (.cons (t := 7) rfl .nil)) (.cons (t := 6) rfl .nil) rfl ?_
    refine tr_ret ?_
    refine pe_then_ret ?_
    refine pe_retN (rs := [.cell 6 25, .tmp 7]) rfl rfl hO rfl (.cell (m := 6) rfl rfl ag25 sz25 (.tmp rfl .nil)) ?_
    rw [pushF_no (fun h => by rw [hv] at h; exact absurd h.1 (by simp))]
    repeat (first | exact Ent.refl _ | exact Ents.nil | exact Ent.nil _ _ | exact Ent.row _ _ _ _ | exact Ent.func _ | refine Ents.cons ?_ ?_ | refine Ent.tup ?_ | refine Ent.agg ?_ | refine Ent.cells ?_ | exact Ent.of_eq rfl)
  · exact absurd h33 (by simp)

theorem Push_v (l : List E) (hv : validE l = true) (hx : l.length ≤ 1000000) (p : Int) (s : Site) : FnP Try.prog 14 [aggP (ofE l).ps, eqP (.int .i64 p), aggP (sp s)] (tupP [aggP (pushF (ofE l) p s).1.ps, eqP (.int .i64 (pushF (ofE l) p s).2)]) := by
  refine fn_pure' Try.func14 rfl Try.ntmps14 rfl ?_
  intro σ0 M ex Rf R hC hO
  simp only [frameOf, tokOf]
  refine tr_seq ?_
  refine tr_region (fun N0 hN => ?_)
  refine lxn (op_box (m := 3) (k := 3) rfl (.agg rfl) (by first | exact hC.low _ (by decide) | rfl)) rfl ?_
  refine lxn (op_box (m := 5) (k := 5) rfl (.agg rfl) (by first | exact hC.low _ (by decide) | rfl)) rfl ?_
  refine lxn (op_alloc (m := 6) (k := 6) (ps := [eqP (.slice none 0 0), eqP (.slice none 0 0)]) ze25 rfl rfl (by first | exact hC.low _ (by decide) | rfl)) rfl ?_
  refine lx (op_assign rfl) rfl ?_
  refine lx_end ⟨by kernel_rfl, ?_⟩
  refine pe_then_normal ?_
  refine tr_sub hC (.cons (t := 1) rfl (.cons (t := 3) rfl (.cons (t := 5) rfl (.cons (t := 6) rfl .nil)))) (.cons (t := 3) rfl (.cons (t := 5) rfl (.cons (t := 6) rfl .nil))) rfl ?_
  refine tr_seq ?_
  refine tr_region (fun N1 hN => ?_)
  first | refine lx (op_bload (m := 3) rfl rfl ag25 sz25) rfl ?_ | refine lx (op_bload_part (m := 3) rfl rfl ag25 sz25 rfl rfl) rfl ?_
  first | refine lx_any rfl (op_callG2 (l := [(Go.Operand.tmp 12)]) (add := [(130, ((N1, 100130), blk 52 [rowP ((N1, 100131)) sp 2 ((l).map (·.2)), rowP ((N1, 100132)) ip 1 ((l).map (·.1)), mapP ((N1, 100133))])), (131, ((N1, 100131), tail 29 2 (((l).map (·.2)).length * 2))), (132, ((N1, 100132), tail 3 1 (((l).map (·.1)).length * 1))), (133, ((N1, 100133), mapR ev iv (tab (l))))]) (ks := [100130, 100131, 100132, 100133]) (φ := tupP [ptrP (N1, 100130) 0, eqP (.bool true)]) .nil (build_v l hv hx) (.cons rfl .nil) fn25 rfl rfl rfl (.new (by first | exact hC.low _ (by decide) | rfl) (.new (by first | exact hC.low _ (by decide) | rfl) (.new (by first | exact hC.low _ (by decide) | rfl) (.new (by first | exact hC.low _ (by decide) | rfl) .nil)))) rfl) (dOK_spec rfl) ?_ | refine lx_any rfl (op_callG2 (l := [(Go.Operand.tmp 12)]) (add := [(130, ((N1, 100130), blk 52 [rowP ((N1, 100131)) sp 2 ((l).map (·.2)), rowP ((N1, 100132)) ip 1 ((l).map (·.1)), mapP ((N1, 100133))])), (131, ((N1, 100131), tail 29 2 (((l).map (·.2)).length * 2))), (132, ((N1, 100132), tail 3 1 (((l).map (·.1)).length * 1))), (133, ((N1, 100133), mapR ev iv (tab (l))))]) (ks := [100130, 100131, 100132, 100133]) (φ := tupP [ptrP (N1, 100130) 0, eqP (.bool true)]) .nil (build_v l hv hx) (.ent rfl (by repeat (first | exact Ent.refl _ | exact Ents.nil | exact Ent.nil _ _ | exact Ent.row _ _ _ _ | exact Ent.func _ | refine Ents.cons ?_ ?_ | refine Ent.tup ?_ | refine Ent.agg ?_ | refine Ent.cells ?_ | exact Ent.of_eq rfl)) .nil) fn25 rfl rfl rfl (.new (by first | exact hC.low _ (by decide) | rfl) (.new (by first | exact hC.low _ (by decide) | rfl) (.new (by first | exact hC.low _ (by decide) | rfl) (.new (by first | exact hC.low _ (by decide) | rfl) .nil)))) rfl) (dOK_spec rfl) ?_
  refine lx (op_move rfl) rfl ?_
  refine lx (op_extract rfl rfl) rfl ?_
  refine lx (op_extract rfl rfl) rfl ?_
  refine lx (op_assign rfl) rfl ?_
  refine lx (op_assign rfl) rfl ?_
  refine lx_end ⟨by kernel_rfl, ?_⟩
  refine pe_then_normal ?_
  refine tr_sub hC (.cons (t := 1) rfl (.cons (t := 3) rfl (.cons (t := 5) rfl (.cons (t := 6) rfl (.cons (t := 8) rfl (.cons (t := 9) rfl .nil)))))) (.cons (t := 3) rfl (.cons (t := 5) rfl (.cons (t := 6) rfl (.cons (t := 130) rfl (.cons (t := 131) rfl (.cons (t := 132) rfl (.cons (t := 133) rfl .nil))))))) rfl ?_
  refine tr_seq ?_
  refine tr_seq ?_
  refine tr_region (fun N2 hN => ?_)
  refine lx (op_move rfl) rfl ?_
  first | refine lx (op_not rfl) rfl ?_ | refine lx (op_not_b rfl) rfl ?_
  refine lx (op_move rfl) rfl ?_
  refine lxs rfl rfl rfl guard_eq (.cons (t := 1) rfl (fun _ => Ent.refl _) .nil) (op_move rfl) rfl ?_
  refine lxs rfl rfl rfl guard_eq (.cons (t := 19) rfl (fun h => entW h) .nil) (op_lss rfl rfl) rfl ?_
  refine lx (op_pick_or rfl rfl) rfl ?_
  refine lx (op_move rfl) rfl ?_
  refine lxs rfl rfl rfl guard_eq (.cons (t := 1) rfl (fun _ => Ent.refl _) .nil) (op_move rfl) rfl ?_
  refine lxs rfl rfl rfl guard_eq (.cons (t := 3) rfl (fun _ => Ent.refl _) .nil) (op_fieldAddr rfl fl25_0 sz22) rfl ?_
  refine lxs rfl rfl rfl guard_eq (.cons (t := 24) rfl (fun h => entW h) .nil) (op_bload_one (m := 3) rfl rfl ag22 rfl) rfl ?_
  first | refine lxs rfl rfl rfl guard_eq (.cons (t := 25) rfl (fun h => entW h) .nil) (op_len rfl el22) rfl ?_ | refine lxs rfl rfl rfl guard_eq (.cons (t := 25) rfl (fun h => entW h) .nil) (op_len_row rfl el22) rfl ?_ | refine lxs rfl rfl rfl guard_eq (.cons (t := 25) rfl (fun h => entW h) .nil) (op_len_mv rfl el22) rfl ?_
  refine lxs rfl rfl rfl guard_eq (.cons (t := 23) rfl (fun h => entW h) (.cons (t := 26) rfl (fun h => entW h) .nil)) (op_geq rfl rfl) rfl ?_
  refine lx (op_pick_or rfl rfl) rfl ?_
  refine lx (op_move rfl) rfl ?_
  first | refine lxs rfl rfl rfl guard_eq (.cons (t := 5) rfl (fun _ => Ent.refl _) .nil) (op_bload (m := 5) rfl rfl ag29 sz29) rfl ?_ | refine lxs rfl rfl rfl guard_eq (.cons (t := 5) rfl (fun _ => Ent.refl _) .nil) (op_bload_part (m := 5) rfl rfl ag29 sz29 rfl rfl) rfl ?_
  first | refine lxs rfl rfl rfl guard_eq (.cons (t := 30) rfl (fun h => entW h) .nil) (op_call (l := [(Go.Operand.tmp 30)]) (proper_ok _) (.cons rfl .nil) fn26) rfl ?_ | refine lxs rfl rfl rfl guard_eq (.cons (t := 30) rfl (fun h => entW h) .nil) (op_call (l := [(Go.Operand.tmp 30)]) (proper_ok _) (.ent rfl (by repeat (first | exact Ent.refl _ | exact Ents.nil | exact Ent.nil _ _ | exact Ent.row _ _ _ _ | exact Ent.func _ | refine Ents.cons ?_ ?_ | refine Ent.tup ?_ | refine Ent.agg ?_ | refine Ent.cells ?_ | exact Ent.of_eq rfl)) .nil) fn26) rfl ?_
  first | refine lxs rfl rfl rfl guard_eq (.cons (t := 31) rfl (fun h => entW h) .nil) (op_not rfl) rfl ?_ | refine lxs rfl rfl rfl guard_eq (.cons (t := 31) rfl (fun h => entW h) .nil) (op_not_b rfl) rfl ?_
  refine lx (op_pick_or rfl rfl) rfl ?_
  refine lx_end ⟨by kernel_rfl, ?_⟩
  refine pe_then_normal ?_
  refine tr_sub hC (.cons (t := 1) rfl (.cons (t := 5) rfl (.cons (t := 6) rfl (.cons (t := 8) rfl (.cons (t := 33) rfl .nil))))) (.cons (t := 5) rfl (.cons (t := 6) rfl (.cons (t := 130) rfl (.cons (t := 131) rfl (.cons (t := 132) rfl (.cons (t := 133) rfl .nil)))))) rfl ?_
  refine tr_cond rfl (fun h33 => ?_) (fun h33 => ?_)
  · have hno := pushF_no (push_bad (l := l) h33)
    refine tr_seq ?_
    refine tr_region (fun N3 hN => ?_)
    refine lx (op_build (parts := []) ze25 rfl rfl fs25 .nil rfl rfl) rfl ?_
    first | refine lxr (op_store_all (m := 6) rfl rfl rfl (.agg rfl) sz25 rfl) rfl ?_ | refine lxr (op_store (m := 6) rfl rfl rfl (.agg rfl) sz25 rfl rfl rfl) rfl ?_
    refine lx (op_assign rfl) rfl ?_
    refine lx_end ⟨by kernel_rfl, ?_⟩
    refine pe_then_normal ?_
    refine tr_sub hC (.cons (t := 6) rfl (.cons (t := 7) rfl .nil)) (.cons (t := 6) rfl (.cons (t := 130) rfl (.cons (t := 131) rfl (.cons (t := 132) rfl (.cons (t := 133) rfl .nil))))) rfl ?_
    refine tr_ret ?_
    refine pe_then_ret ?_
    refine pe_retN (rs := [.cell 6 25, .tmp 7]) rfl rfl hO rfl (.cell (m := 6) rfl rfl ag25 sz25 (.tmp rfl .nil)) ?_
    rw [hno]
    repeat (first | exact Ent.refl _ | exact Ents.nil | exact Ent.nil _ _ | exact Ent.row _ _ _ _ | exact Ent.func _ | refine Ents.cons ?_ ?_ | refine Ent.tup ?_ | refine Ent.agg ?_ | refine Ent.cells ?_ | exact Ent.of_eq rfl)
  · have hyes := pushF_yes (push_good hv h33)
    refine tr_skip ?_
    refine pe_then_normal ?_
    refine tr_sub hC (.cons (t := 1) rfl (.cons (t := 5) rfl (.cons (t := 6) rfl (.cons (t := 8) rfl .nil)))) (.cons (t := 5) rfl (.cons (t := 6) rfl (.cons (t := 130) rfl (.cons (t := 131) rfl (.cons (t := 132) rfl (.cons (t := 133) rfl .nil)))))) rfl ?_
    refine tr_seq ?_
    refine tr_region (fun N4 hN => ?_)
    refine lx (op_move rfl) rfl ?_
    refine lx (op_move rfl) rfl ?_
    first | refine lx (op_bload (m := 5) rfl rfl ag29 sz29) rfl ?_ | refine lx (op_bload_part (m := 5) rfl rfl ag29 sz29 rfl rfl) rfl ?_
    first | refine lx_any rfl (op_callG2 (l := [(Go.Operand.tmp 35), (Go.Operand.tmp 36), (Go.Operand.tmp 37)]) (add := [(130, ((N1, 100130), blk 52 [rowP ((N4, 100380)) sp 2 (((pushE l (p, s)).1).map (·.2)), rowP ((N4, 100381)) ip 1 (((pushE l (p, s)).1).map (·.1)), mapP ((N1, 100133))])), (131, ((N4, 100380), tail 29 2 ((((pushE l (p, s)).1).map (·.2)).length * 2))), (132, ((N4, 100381), tail 3 1 ((((pushE l (p, s)).1).map (·.1)).length * 1))), (133, ((N1, 100133), mapR ev iv (tab ((pushE l (p, s)).1))))]) (ks := [100380, 100381]) (φ := eqP (.int .i64 ((pushE l (p, s)).2 : Int))) (.cons (m := 130) rfl (.cons (m := 131) rfl (.cons (m := 132) rfl (.cons (m := 133) rfl .nil)))) (push_ok _ _ _ _ l p s hx) (.cons rfl (.cons rfl (.cons rfl .nil))) fn27 rfl rfl rfl (.old rfl (.old rfl (.old rfl (.old rfl .nil)))) rfl) (dOK_spec rfl) ?_ | refine lx_any rfl (op_callG2 (l := [(Go.Operand.tmp 35), (Go.Operand.tmp 36), (Go.Operand.tmp 37)]) (add := [(130, ((N1, 100130), blk 52 [rowP ((N4, 100380)) sp 2 (((pushE l (p, s)).1).map (·.2)), rowP ((N4, 100381)) ip 1 (((pushE l (p, s)).1).map (·.1)), mapP ((N1, 100133))])), (131, ((N4, 100380), tail 29 2 ((((pushE l (p, s)).1).map (·.2)).length * 2))), (132, ((N4, 100381), tail 3 1 ((((pushE l (p, s)).1).map (·.1)).length * 1))), (133, ((N1, 100133), mapR ev iv (tab ((pushE l (p, s)).1))))]) (ks := [100380, 100381]) (φ := eqP (.int .i64 ((pushE l (p, s)).2 : Int))) (.cons (m := 130) rfl (.cons (m := 131) rfl (.cons (m := 132) rfl (.cons (m := 133) rfl .nil)))) (push_ok _ _ _ _ l p s hx) (.ent rfl (by repeat (first | exact Ent.refl _ | exact Ents.nil | exact Ent.nil _ _ | exact Ent.row _ _ _ _ | exact Ent.func _ | refine Ents.cons ?_ ?_ | refine Ent.tup ?_ | refine Ent.agg ?_ | refine Ent.cells ?_ | exact Ent.of_eq rfl)) (.ent rfl (by repeat (first | exact Ent.refl _ | exact Ents.nil | exact Ent.nil _ _ | exact Ent.row _ _ _ _ | exact Ent.func _ | refine Ents.cons ?_ ?_ | refine Ent.tup ?_ | refine Ent.agg ?_ | refine Ent.cells ?_ | exact Ent.of_eq rfl)) (.ent rfl (by repeat (first | exact Ent.refl _ | exact Ents.nil | exact Ent.nil _ _ | exact Ent.row _ _ _ _ | exact Ent.func _ | refine Ents.cons ?_ ?_ | refine Ent.tup ?_ | refine Ent.agg ?_ | refine Ent.cells ?_ | exact Ent.of_eq rfl)) .nil))) fn27 rfl rfl rfl (.old rfl (.old rfl (.old rfl (.old rfl .nil)))) rfl) (dOK_spec rfl) ?_
    refine lx (op_assign rfl) rfl ?_
    refine lx_end ⟨by kernel_rfl, ?_⟩
    refine pe_then_normal ?_
    refine tr_sub hC (.cons (t := 6) rfl (.cons (t := 8) rfl (.cons (t := 10) rfl .nil))) (.cons (t := 6) rfl (.cons (t := 130) rfl (.cons (t := 131) rfl (.cons (t := 132) rfl (.cons (t := 133) rfl .nil))))) rfl ?_
    refine tr_seq ?_
    refine tr_region (fun N5 hN => ?_)
    refine lx (op_move rfl) rfl ?_
    first | refine lx (op_nilCheck rfl) rfl ?_ | refine lx (op_nilCheckC rfl) rfl ?_
    refine lx (op_fieldAddr rfl fl52_0 sz25) rfl ?_
    first | refine lx (op_bload (m := 130) rfl rfl ag25 sz25) rfl ?_ | refine lx (op_bload_part (m := 130) rfl rfl ag25 sz25 rfl rfl) rfl ?_
    refine lx (op_move rfl) rfl ?_
    first | refine lxr (op_store_all (m := 6) rfl rfl rfl (.agg rfl) sz25 rfl) rfl ?_ | refine lxr (op_store (m := 6) rfl rfl rfl (.agg rfl) sz25 rfl rfl rfl) rfl ?_
    refine lx (op_assign rfl) rfl ?_
    refine lx_end ⟨by kernel_rfl, ?_⟩
    refine pe_then_normal ?_
    refine tr_sub hC (.cons (t := 6) rfl (.cons (t := 7) rfl .nil)) (.cons (t := 6) rfl (.cons (t := 130) rfl (.cons (t := 131) rfl (.cons (t := 132) rfl (.cons (t := 133) rfl .nil))))) rfl ?_
    refine tr_ret ?_
    refine pe_retN (rs := [.cell 6 25, .tmp 7]) rfl rfl hO rfl (.cell (m := 6) rfl rfl ag25 sz25 (.tmp rfl .nil)) ?_
    rw [hyes]
    repeat (first | exact Ent.refl _ | exact Ents.nil | exact Ent.nil _ _ | exact Ent.row _ _ _ _ | exact Ent.func _ | refine Ents.cons ?_ ?_ | refine Ent.tup ?_ | refine Ent.agg ?_ | refine Ent.cells ?_ | exact Ent.of_eq rfl)

theorem rPush_n (d : Dep) (hv : validF d = false) (hx : d.sites.length ≤ 1000000) (p : Int) (s : Site) : FnP Try.prog 15 [aggP d.ps, eqP (.int .i64 p), aggP (sp s)] (tupP [aggP (pushF d p s).1.ps, eqP (.int .i64 (pushF d p s).2)]) := by
  refine fn_pure' Try.func15 rfl Try.ntmps15 rfl ?_
  intro σ0 M ex Rf R hC hO
  simp only [frameOf, tokOf]
  refine tr_seq ?_
  refine tr_region (fun N0 hN => ?_)
  refine lxn (op_box (m := 3) (k := 3) rfl (.agg rfl) (by first | exact hC.low _ (by decide) | rfl)) rfl ?_
  refine lxn (op_box (m := 5) (k := 5) rfl (.agg rfl) (by first | exact hC.low _ (by decide) | rfl)) rfl ?_
  refine lxn (op_alloc (m := 6) (k := 6) (ps := [eqP (.slice none 0 0), eqP (.slice none 0 0)]) ze25 rfl rfl (by first | exact hC.low _ (by decide) | rfl)) rfl ?_
  refine lx (op_assign rfl) rfl ?_
  refine lx_end ⟨by kernel_rfl, ?_⟩
  refine pe_then_normal ?_
  refine tr_sub hC (.cons (t := 1) rfl (.cons (t := 3) rfl (.cons (t := 5) rfl (.cons (t := 6) rfl .nil)))) (.cons (t := 3) rfl (.cons (t := 5) rfl (.cons (t := 6) rfl .nil))) rfl ?_
  refine tr_seq ?_
  refine tr_seq ?_
  refine tr_region (fun N1 hN => ?_)
  first | refine lx (op_bload (m := 3) rfl rfl ag25 sz25) rfl ?_ | refine lx (op_bload_part (m := 3) rfl rfl ag25 sz25 rfl rfl) rfl ?_
  first | refine lx (op_call (l := [(Go.Operand.tmp 8)]) (rvalid_ok _ (by omega)) (.cons rfl .nil) fn13) rfl ?_ | refine lx (op_call (l := [(Go.Operand.tmp 8)]) (rvalid_ok _ (by omega)) (.ent rfl (by repeat (first | exact Ent.refl _ | exact Ents.nil | exact Ent.nil _ _ | exact Ent.row _ _ _ _ | exact Ent.func _ | refine Ents.cons ?_ ?_ | refine Ent.tup ?_ | refine Ent.agg ?_ | refine Ent.cells ?_ | exact Ent.of_eq rfl)) .nil) fn13) rfl ?_
  first | refine lx (op_not rfl) rfl ?_ | refine lx (op_not_b rfl) rfl ?_
  refine lx (op_move rfl) rfl ?_
  refine lxs rfl rfl rfl guard_eq (.cons (t := 1) rfl (fun _ => Ent.refl _) .nil) (op_move rfl) rfl ?_
  refine lxs rfl rfl rfl guard_eq (.cons (t := 12) rfl (fun h => entW h) .nil) (op_lss rfl rfl) rfl ?_
  refine lx (op_pick_or rfl rfl) rfl ?_
  refine lx (op_move rfl) rfl ?_
  refine lxs rfl rfl rfl guard_eq (.cons (t := 1) rfl (fun _ => Ent.refl _) .nil) (op_move rfl) rfl ?_
  refine lxs rfl rfl rfl guard_eq (.cons (t := 3) rfl (fun _ => Ent.refl _) .nil) (op_fieldAddr rfl fl25_0 sz22) rfl ?_
  refine lxs rfl rfl rfl guard_eq (.cons (t := 17) rfl (fun h => entW h) .nil) (op_bload_one (m := 3) rfl rfl ag22 rfl) rfl ?_
  first | refine lxs rfl rfl rfl guard_eq (.cons (t := 18) rfl (fun h => entW h) .nil) (op_len rfl el22) rfl ?_ | refine lxs rfl rfl rfl guard_eq (.cons (t := 18) rfl (fun h => entW h) .nil) (op_len_row rfl el22) rfl ?_ | refine lxs rfl rfl rfl guard_eq (.cons (t := 18) rfl (fun h => entW h) .nil) (op_len_mv rfl el22) rfl ?_
  refine lxs rfl rfl rfl guard_eq (.cons (t := 16) rfl (fun h => entW h) (.cons (t := 19) rfl (fun h => entW h) .nil)) (op_geq rfl rfl) rfl ?_
  refine lx (op_pick_or rfl rfl) rfl ?_
  refine lx (op_move rfl) rfl ?_
  refine lxs rfl rfl rfl guard_eq (.cons (t := 5) rfl (fun _ => Ent.refl _) .nil) (op_fieldAddr rfl fl29_0 sz3) rfl ?_
  refine lxs rfl rfl rfl guard_eq (.cons (t := 23) rfl (fun h => entW h) .nil) (op_bload_one (m := 5) rfl rfl ag3 rfl) rfl ?_
  refine lxs rfl rfl rfl guard_eq (.cons (t := 24) rfl (fun h => entW h) .nil) (op_lss rfl rfl) rfl ?_
  refine lx (op_pick_or rfl rfl) rfl ?_
  refine lx (op_move rfl) rfl ?_
  refine lxs rfl rfl rfl guard_eq (.cons (t := 5) rfl (fun _ => Ent.refl _) .nil) (op_fieldAddr rfl fl29_1 sz3) rfl ?_
  refine lxs rfl rfl rfl guard_eq (.cons (t := 28) rfl (fun h => entW h) .nil) (op_bload_one (m := 5) rfl rfl ag3 rfl) rfl ?_
  refine lxs rfl rfl rfl guard_eq (.cons (t := 29) rfl (fun h => entW h) .nil) (op_lss rfl rfl) rfl ?_
  refine lx (op_pick_or rfl rfl) rfl ?_
  refine lx_end ⟨by kernel_rfl, ?_⟩
  refine pe_then_normal ?_
  refine tr_sub hC (.cons (t := 1) rfl (.cons (t := 3) rfl (.cons (t := 5) rfl (.cons (t := 6) rfl (.cons (t := 31) rfl .nil))))) (.cons (t := 3) rfl (.cons (t := 5) rfl (.cons (t := 6) rfl .nil))) rfl ?_
  refine tr_cond rfl (fun h31 => ?_) (fun h31 => ?_)
  · (try simp only [Bool.and_eq_true, Bool.or_eq_true, Bool.and_eq_false_iff, Bool.or_eq_false_iff, decide_eq_true_eq, decide_eq_false_iff_not, Bool.not_eq_true', Bool.not_eq_false', List.length_map, ne_eq, Decidable.not_not, Int.not_lt, Int.not_le] at h31)
    refine tr_seq ?_
    refine tr_region (fun N2 hN => ?_)
    refine lx (op_build (parts := []) ze25 rfl rfl fs25 .nil rfl rfl) rfl ?_
    first | refine lxr (op_store_all (m := 6) rfl rfl rfl (.agg rfl) sz25 rfl) rfl ?_ | refine lxr (op_store (m := 6) rfl rfl rfl (.agg rfl) sz25 rfl rfl rfl) rfl ?_
    refine lx (op_assign rfl) rfl ?_
    refine lx_end ⟨by kernel_rfl, ?_⟩
    refine pe_then_normal ?_
    refine tr_sub hC (.cons (t := 6) rfl (.cons (t := 7) rfl .nil)) (.cons (t := 6) rfl .nil) rfl ?_
    refine tr_ret ?_
    refine pe_then_ret ?_
    refine pe_retN (rs := [.cell 6 25, .tmp 7]) rfl rfl hO rfl (.cell (m := 6) rfl rfl ag25 sz25 (.tmp rfl .nil)) ?_
    rw [pushF_no (fun h => by rw [hv] at h; exact absurd h.1 (by simp))]
    repeat (first | exact Ent.refl _ | exact Ents.nil | exact Ent.nil _ _ | exact Ent.row _ _ _ _ | exact Ent.func _ | refine Ents.cons ?_ ?_ | refine Ent.tup ?_ | refine Ent.agg ?_ | refine Ent.cells ?_ | exact Ent.of_eq rfl)
  · exact absurd h31 (by rw [hv]; simp)

theorem rPush_v (l : List E) (hv : validE l = true) (hx : l.length ≤ 1000000) (p : Int) (s : Site) : FnP Try.prog 15 [aggP (ofE l).ps, eqP (.int .i64 p), aggP (sp s)] (tupP [aggP (pushF (ofE l) p s).1.ps, eqP (.int .i64 (pushF (ofE l) p s).2)]) := by
  refine fn_pure' Try.func15 rfl Try.ntmps15 rfl ?_
  intro σ0 M ex Rf R hC hO
  simp only [frameOf, tokOf]
  refine tr_seq ?_
  refine tr_region (fun N0 hN => ?_)
  refine lxn (op_box (m := 3) (k := 3) rfl (.agg rfl) (by first | exact hC.low _ (by decide) | rfl)) rfl ?_
  refine lxn (op_box (m := 5) (k := 5) rfl (.agg rfl) (by first | exact hC.low _ (by decide) | rfl)) rfl ?_
  refine lxn (op_alloc (m := 6) (k := 6) (ps := [eqP (.slice none 0 0), eqP (.slice none 0 0)]) ze25 rfl rfl (by first | exact hC.low _ (by decide) | rfl)) rfl ?_
  refine lx (op_assign rfl) rfl ?_
  refine lx_end ⟨by kernel_rfl, ?_⟩
  refine pe_then_normal ?_
  refine tr_sub hC (.cons (t := 1) rfl (.cons (t := 3) rfl (.cons (t := 5) rfl (.cons (t := 6) rfl .nil)))) (.cons (t := 3) rfl (.cons (t := 5) rfl (.cons (t := 6) rfl .nil))) rfl ?_
  refine tr_seq ?_
  refine tr_seq ?_
  refine tr_region (fun N1 hN => ?_)
  first | refine lx (op_bload (m := 3) rfl rfl ag25 sz25) rfl ?_ | refine lx (op_bload_part (m := 3) rfl rfl ag25 sz25 rfl rfl) rfl ?_
  first | refine lx (op_call (l := [(Go.Operand.tmp 8)]) (rvalid_ok (ofE l) (by simpa [ofE] using hx)) (.cons rfl .nil) fn13) rfl ?_ | refine lx (op_call (l := [(Go.Operand.tmp 8)]) (rvalid_ok (ofE l) (by simpa [ofE] using hx)) (.ent rfl (by repeat (first | exact Ent.refl _ | exact Ents.nil | exact Ent.nil _ _ | exact Ent.row _ _ _ _ | exact Ent.func _ | refine Ents.cons ?_ ?_ | refine Ent.tup ?_ | refine Ent.agg ?_ | refine Ent.cells ?_ | exact Ent.of_eq rfl)) .nil) fn13) rfl ?_
  first | refine lx (op_not rfl) rfl ?_ | refine lx (op_not_b rfl) rfl ?_
  refine lx (op_move rfl) rfl ?_
  refine lxs rfl rfl rfl guard_eq (.cons (t := 1) rfl (fun _ => Ent.refl _) .nil) (op_move rfl) rfl ?_
  refine lxs rfl rfl rfl guard_eq (.cons (t := 12) rfl (fun h => entW h) .nil) (op_lss rfl rfl) rfl ?_
  refine lx (op_pick_or rfl rfl) rfl ?_
  refine lx (op_move rfl) rfl ?_
  refine lxs rfl rfl rfl guard_eq (.cons (t := 1) rfl (fun _ => Ent.refl _) .nil) (op_move rfl) rfl ?_
  refine lxs rfl rfl rfl guard_eq (.cons (t := 3) rfl (fun _ => Ent.refl _) .nil) (op_fieldAddr rfl fl25_0 sz22) rfl ?_
  refine lxs rfl rfl rfl guard_eq (.cons (t := 17) rfl (fun h => entW h) .nil) (op_bload_one (m := 3) rfl rfl ag22 rfl) rfl ?_
  first | refine lxs rfl rfl rfl guard_eq (.cons (t := 18) rfl (fun h => entW h) .nil) (op_len rfl el22) rfl ?_ | refine lxs rfl rfl rfl guard_eq (.cons (t := 18) rfl (fun h => entW h) .nil) (op_len_row rfl el22) rfl ?_ | refine lxs rfl rfl rfl guard_eq (.cons (t := 18) rfl (fun h => entW h) .nil) (op_len_mv rfl el22) rfl ?_
  refine lxs rfl rfl rfl guard_eq (.cons (t := 16) rfl (fun h => entW h) (.cons (t := 19) rfl (fun h => entW h) .nil)) (op_geq rfl rfl) rfl ?_
  refine lx (op_pick_or rfl rfl) rfl ?_
  refine lx (op_move rfl) rfl ?_
  refine lxs rfl rfl rfl guard_eq (.cons (t := 5) rfl (fun _ => Ent.refl _) .nil) (op_fieldAddr rfl fl29_0 sz3) rfl ?_
  refine lxs rfl rfl rfl guard_eq (.cons (t := 23) rfl (fun h => entW h) .nil) (op_bload_one (m := 5) rfl rfl ag3 rfl) rfl ?_
  refine lxs rfl rfl rfl guard_eq (.cons (t := 24) rfl (fun h => entW h) .nil) (op_lss rfl rfl) rfl ?_
  refine lx (op_pick_or rfl rfl) rfl ?_
  refine lx (op_move rfl) rfl ?_
  refine lxs rfl rfl rfl guard_eq (.cons (t := 5) rfl (fun _ => Ent.refl _) .nil) (op_fieldAddr rfl fl29_1 sz3) rfl ?_
  refine lxs rfl rfl rfl guard_eq (.cons (t := 28) rfl (fun h => entW h) .nil) (op_bload_one (m := 5) rfl rfl ag3 rfl) rfl ?_
  refine lxs rfl rfl rfl guard_eq (.cons (t := 29) rfl (fun h => entW h) .nil) (op_lss rfl rfl) rfl ?_
  refine lx (op_pick_or rfl rfl) rfl ?_
  refine lx_end ⟨by kernel_rfl, ?_⟩
  refine pe_then_normal ?_
  refine tr_sub hC (.cons (t := 1) rfl (.cons (t := 3) rfl (.cons (t := 5) rfl (.cons (t := 6) rfl (.cons (t := 31) rfl .nil))))) (.cons (t := 3) rfl (.cons (t := 5) rfl (.cons (t := 6) rfl .nil))) rfl ?_
  refine tr_cond rfl (fun h31 => ?_) (fun h31 => ?_)
  · rw [valid_of hv] at h31
    have hno := pushF_no (push_bad2 (l := l) h31)
    refine tr_seq ?_
    refine tr_region (fun N2 hN => ?_)
    refine lx (op_build (parts := []) ze25 rfl rfl fs25 .nil rfl rfl) rfl ?_
    first | refine lxr (op_store_all (m := 6) rfl rfl rfl (.agg rfl) sz25 rfl) rfl ?_ | refine lxr (op_store (m := 6) rfl rfl rfl (.agg rfl) sz25 rfl rfl rfl) rfl ?_
    refine lx (op_assign rfl) rfl ?_
    refine lx_end ⟨by kernel_rfl, ?_⟩
    refine pe_then_normal ?_
    refine tr_sub hC (.cons (t := 6) rfl (.cons (t := 7) rfl .nil)) (.cons (t := 6) rfl .nil) rfl ?_
    refine tr_ret ?_
    refine pe_then_ret ?_
    refine pe_retN (rs := [.cell 6 25, .tmp 7]) rfl rfl hO rfl (.cell (m := 6) rfl rfl ag25 sz25 (.tmp rfl .nil)) ?_
    rw [hno]
    repeat (first | exact Ent.refl _ | exact Ents.nil | exact Ent.nil _ _ | exact Ent.row _ _ _ _ | exact Ent.func _ | refine Ents.cons ?_ ?_ | refine Ent.tup ?_ | refine Ent.agg ?_ | refine Ent.cells ?_ | exact Ent.of_eq rfl)
  · rw [valid_of hv] at h31
    have hyes := pushF_yes (push_good2 hv h31)
    refine tr_skip ?_
    refine pe_then_normal ?_
    refine tr_sub hC (.cons (t := 1) rfl (.cons (t := 3) rfl (.cons (t := 5) rfl (.cons (t := 6) rfl .nil)))) (.cons (t := 3) rfl (.cons (t := 5) rfl (.cons (t := 6) rfl .nil))) rfl ?_
    refine tr_seq ?_
    refine tr_region (fun N3 hN => ?_)
    first | refine lx (op_bload (m := 3) rfl rfl ag25 sz25) rfl ?_ | refine lx (op_bload_part (m := 3) rfl rfl ag25 sz25 rfl rfl) rfl ?_
    refine lx (op_move rfl) rfl ?_
    first | refine lx (op_bload (m := 5) rfl rfl ag29 sz29) rfl ?_ | refine lx (op_bload_part (m := 5) rfl rfl ag29 sz29 rfl rfl) rfl ?_
    first | refine lx (op_call (l := [(Go.Operand.tmp 33), (Go.Operand.tmp 34), (Go.Operand.tmp 35)]) (rpush_ok l p s hx) (.cons rfl (.cons rfl (.cons rfl .nil))) fn28) rfl ?_ | refine lx (op_call (l := [(Go.Operand.tmp 33), (Go.Operand.tmp 34), (Go.Operand.tmp 35)]) (rpush_ok l p s hx) (.ent rfl (by repeat (first | exact Ent.refl _ | exact Ents.nil | exact Ent.nil _ _ | exact Ent.row _ _ _ _ | exact Ent.func _ | refine Ents.cons ?_ ?_ | refine Ent.tup ?_ | refine Ent.agg ?_ | refine Ent.cells ?_ | exact Ent.of_eq rfl)) (.ent rfl (by repeat (first | exact Ent.refl _ | exact Ents.nil | exact Ent.nil _ _ | exact Ent.row _ _ _ _ | exact Ent.func _ | refine Ents.cons ?_ ?_ | refine Ent.tup ?_ | refine Ent.agg ?_ | refine Ent.cells ?_ | exact Ent.of_eq rfl)) (.ent rfl (by repeat (first | exact Ent.refl _ | exact Ents.nil | exact Ent.nil _ _ | exact Ent.row _ _ _ _ | exact Ent.func _ | refine Ents.cons ?_ ?_ | refine Ent.tup ?_ | refine Ent.agg ?_ | refine Ent.cells ?_ | exact Ent.of_eq rfl)) .nil))) fn28) rfl ?_
    refine lx (op_extract rfl rfl) rfl ?_
    refine lx (op_extract rfl rfl) rfl ?_
    first | refine lxr (op_store_all (m := 6) rfl rfl rfl (.agg rfl) sz25 rfl) rfl ?_ | refine lxr (op_store (m := 6) rfl rfl rfl (.agg rfl) sz25 rfl rfl rfl) rfl ?_
    refine lx (op_assign rfl) rfl ?_
    refine lx_end ⟨by kernel_rfl, ?_⟩
    refine pe_then_normal ?_
    refine tr_sub hC (.cons (t := 6) rfl (.cons (t := 7) rfl .nil)) (.cons (t := 6) rfl .nil) rfl ?_
    refine tr_ret ?_
    refine pe_retN (rs := [.cell 6 25, .tmp 7]) rfl rfl hO rfl (.cell (m := 6) rfl rfl ag25 sz25 (.tmp rfl .nil)) ?_
    rw [hyes]
    repeat (first | exact Ent.refl _ | exact Ents.nil | exact Ent.nil _ _ | exact Ent.row _ _ _ _ | exact Ent.func _ | refine Ents.cons ?_ ?_ | refine Ent.tup ?_ | refine Ent.agg ?_ | refine Ent.cells ?_ | exact Ent.of_eq rfl)

theorem Push_ok (d : Dep) (hx : d.sites.length ≤ 1000000) (hy : d.parents.length ≤ 1000000) (p : Int) (s : Site) : FnP Try.prog 14 [aggP d.ps, eqP (.int .i64 p), aggP (sp s)] (tupP [aggP (pushF d p s).1.ps, eqP (.int .i64 (pushF d p s).2)]) := by
  cases hv : validF d with
  | false => exact Push_n d hv hx hy p s
  | true =>
    obtain ⟨hl, hv⟩ := (validF_iff d).1 hv
    have h := Push_v d.es hv (by rw [len_es d hl]; exact hx) p s
    rwa [ofE_es hl] at h
theorem rPush_ok (d : Dep) (hx : d.sites.length ≤ 1000000) (hy : d.parents.length ≤ 1000000) (p : Int) (s : Site) : FnP Try.prog 15 [aggP d.ps, eqP (.int .i64 p), aggP (sp s)] (tupP [aggP (pushF d p s).1.ps, eqP (.int .i64 (pushF d p s).2)]) := by
  cases hv : validF d with
  | false => exact rPush_n d hv hx p s
  | true =>
    obtain ⟨hl, hv⟩ := (validF_iff d).1 hv
    have h := rPush_v d.es hv (by rw [len_es d hl]; exact hx) p s
    rwa [ofE_es hl] at h
end Go.Proofs.Ytoibihhocjbilaa
