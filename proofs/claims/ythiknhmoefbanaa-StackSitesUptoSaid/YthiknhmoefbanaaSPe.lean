/- Parts of a proof that share one text: StWalk11, StWalk12, StWalk13, StWalk14, StWalk15, StWalk16, StWalk17. -/
import Derived.Test.YthiknhmoefbanaaSPd
import Derived.Test.YthiknhmoefbanaaSPb

set_option linter.unusedVariables false
set_option linter.unusedSimpArgs false
namespace Go.Proofs.Ythiknhmoefbanaa
open Go.AL Go.Ch Go.Hp Go.RowKit
theorem ag62 : aggB Try.prog 62 = some false := by kernel_rfl
theorem ag89 : aggB Try.prog 89 = some false := by kernel_rfl
theorem ag91 : aggB Try.prog 91 = some true := by kernel_rfl
theorem ag97 : aggB Try.prog 97 = some true := by kernel_rfl
theorem ag98 : aggB Try.prog 98 = some false := by kernel_rfl
theorem el89 : elemB Try.prog 89 = some 97 := by kernel_rfl
theorem el92 : elemB Try.prog 92 = some 91 := by kernel_rfl
theorem fl43_0 : fldB Try.prog 43 0 = some (0, 3) := by kernel_rfl
theorem fl43_1 : fldB Try.prog 43 1 = some (1, 3) := by kernel_rfl
theorem fl43_2 : fldB Try.prog 43 2 = some (2, 3) := by kernel_rfl
theorem fl91_0 : fldB Try.prog 91 0 = some (0, 3) := by kernel_rfl
theorem fl91_1 : fldB Try.prog 91 1 = some (1, 33) := by kernel_rfl
theorem fl91_2 : fldB Try.prog 91 2 = some (2, 4) := by kernel_rfl
theorem fl91_3 : fldB Try.prog 91 3 = some (3, 3) := by kernel_rfl
theorem fl91_4 : fldB Try.prog 91 4 = some (4, 33) := by kernel_rfl
theorem fl91_5 : fldB Try.prog 91 5 = some (5, 4) := by kernel_rfl
theorem fl91_6 : fldB Try.prog 91 6 = some (6, 3) := by kernel_rfl
theorem fl91_7 : fldB Try.prog 91 7 = some (7, 3) := by kernel_rfl
theorem fl91_8 : fldB Try.prog 91 8 = some (8, 89) := by kernel_rfl
theorem fl91_9 : fldB Try.prog 91 9 = some (9, 89) := by kernel_rfl
theorem fl97_0 : fldB Try.prog 97 0 = some (0, 3) := by kernel_rfl
theorem fl97_1 : fldB Try.prog 97 1 = some (1, 3) := by kernel_rfl
theorem fl97_2 : fldB Try.prog 97 2 = some (2, 43) := by kernel_rfl
theorem fn50 : fnB Try.prog 50 = true := by kernel_rfl
theorem fn51 : fnB Try.prog 51 = true := by kernel_rfl
theorem fn52 : fnB Try.prog 52 = true := by kernel_rfl
theorem fn53 : fnB Try.prog 53 = true := by kernel_rfl
theorem fn54 : fnB Try.prog 54 = true := by kernel_rfl
theorem fn55 : fnB Try.prog 55 = true := by kernel_rfl
theorem fn56 : fnB Try.prog 56 = true := by kernel_rfl
theorem fn57 : fnB Try.prog 57 = true := by kernel_rfl
theorem fn58 : fnB Try.prog 58 = true := by kernel_rfl
theorem fn59 : fnB Try.prog 59 = true := by kernel_rfl
theorem fn60 : fnB Try.prog 60 = true := by kernel_rfl
theorem fn61 : fnB Try.prog 61 = true := by kernel_rfl
theorem fs91 : sizesB Try.prog 91 = true := by kernel_rfl
theorem sz89 : sizeB Try.prog 89 = some 1 := by kernel_rfl
theorem sz91 : sizeB Try.prog 91 = some 10 := by kernel_rfl
theorem sz97 : sizeB Try.prog 97 = some 5 := by kernel_rfl
theorem ze91 : zeroB Try.prog 91 = some (some (.agg #[.int .i64 0, .slice none 0 0, .bool false, .int .i64 0, .slice none 0 0, .bool false, .int .i64 0, .int .i64 0, .slice none 0 0, .slice none 0 0])) := by kernel_rfl
theorem vval_ok (v : V) : FnP Try.prog 53 [aggP (vp v)] (eqP (.bool (vval v))) := by
  refine fn_pure' Try.func53 rfl Try.ntmps53 rfl ?_
  intro σ0 M ex Rf R hC hO
  simp only [frameOf, tokOf]
  refine tr_seq ?_
  refine tr_region (fun N0 hN => ?_)
  refine lxn (op_box (m := 1) (k := 1) rfl (.agg rfl) (by first | exact hC.low _ (by decide) | rfl)) rfl ?_
  refine lx (op_assign rfl) rfl ?_
  refine lx_end ⟨by kernel_rfl, ?_⟩
  refine pe_then_normal ?_
  refine tr_sub hC (.cons (t := 1) rfl .nil) (.cons (t := 1) rfl .nil) rfl ?_
  refine tr_seq ?_
  refine tr_seq ?_
  refine tr_region (fun N1 hN => ?_)
  refine lx (op_fieldAddr rfl fl43_0 sz3) rfl ?_
  refine lx (op_bload_one (m := 1) rfl rfl ag3 rfl) rfl ?_
  refine lx_end ⟨by kernel_rfl, ?_⟩
  refine pe_then_normal ?_
  refine tr_sub hC (.cons (t := 1) rfl (.cons (t := 4) rfl .nil)) (.cons (t := 1) rfl .nil) rfl ?_
  refine tr_block ?_
  refine tr_seq ?_
  refine tr_region (fun N2 hN => ?_)
  refine lx (op_eql rfl rfl) rfl ?_
  refine lx (op_assign rfl) rfl ?_
  refine lx_end ⟨by kernel_rfl, ?_⟩
  refine pe_then_normal ?_
  refine tr_sub hC (.cons (t := 1) rfl (.cons (t := 4) rfl (.cons (t := 5) rfl .nil))) (.cons (t := 1) rfl .nil) rfl ?_
  refine tr_cond rfl (fun h5 => ?_) (fun h5 => ?_)
  · (try simp only [Bool.and_eq_true, Bool.or_eq_true, Bool.and_eq_false_iff, Bool.or_eq_false_iff, decide_eq_true_eq, decide_eq_false_iff_not, Bool.not_eq_true', Bool.not_eq_false', List.length_map, ne_eq, Decidable.not_not, Int.not_lt, Int.not_le] at h5)
    have h := vval_0 h5
    refine tr_seq ?_
    refine tr_region (fun N3 hN => ?_)
    refine lx (op_fieldAddr rfl fl43_2 sz3) rfl ?_
    refine lx (op_bload_one (m := 1) rfl rfl ag3 rfl) rfl ?_
    refine lx (op_eql rfl rfl) rfl ?_
    refine lx (op_assign rfl) rfl ?_
    refine lx_end ⟨by kernel_rfl, ?_⟩
    refine pe_then_normal ?_
    refine tr_sub hC (.cons (t := 2) rfl .nil) .nil rfl ?_
    refine tr_ret ?_
    refine pe_block_ret ?_
    refine pe_then_ret ?_
    refine pe_ret1 rfl hO rfl (.tmp rfl .nil) ?_
    exact entB h.symm
  · (try simp only [Bool.and_eq_true, Bool.or_eq_true, Bool.and_eq_false_iff, Bool.or_eq_false_iff, decide_eq_true_eq, decide_eq_false_iff_not, Bool.not_eq_true', Bool.not_eq_false', List.length_map, ne_eq, Decidable.not_not, Int.not_lt, Int.not_le] at h5)
    refine tr_seq ?_
    refine tr_region (fun N4 hN => ?_)
    refine lx (op_eql rfl rfl) rfl ?_
    refine lx (op_assign rfl) rfl ?_
    refine lx_end ⟨by kernel_rfl, ?_⟩
    refine pe_then_normal ?_
    refine tr_sub hC (.cons (t := 1) rfl (.cons (t := 4) rfl (.cons (t := 10) rfl .nil))) (.cons (t := 1) rfl .nil) rfl ?_
    refine tr_cond rfl (fun h10 => ?_) (fun h10 => ?_)
    · (try simp only [Bool.and_eq_true, Bool.or_eq_true, Bool.and_eq_false_iff, Bool.or_eq_false_iff, decide_eq_true_eq, decide_eq_false_iff_not, Bool.not_eq_true', Bool.not_eq_false', List.length_map, ne_eq, Decidable.not_not, Int.not_lt, Int.not_le] at h10)
      have h := vval_1 h5 h10
      refine tr_seq ?_
      refine tr_region (fun N5 hN => ?_)
      refine lx (op_fieldAddr rfl fl43_1 sz3) rfl ?_
      refine lx (op_bload_one (m := 1) rfl rfl ag3 rfl) rfl ?_
      refine lx (op_eql rfl rfl) rfl ?_
      refine lx (op_move rfl) rfl ?_
      refine lxs rfl rfl rfl guard_eq (.cons (t := 1) rfl (fun _ => Ent.refl _) .nil) (op_fieldAddr rfl fl43_2 sz3) rfl ?_
      refine lxs rfl rfl rfl guard_eq (.cons (t := 16) rfl (fun h => entW h) .nil) (op_bload_one (m := 1) rfl rfl ag3 rfl) rfl ?_
      refine lxs rfl rfl rfl guard_eq (.cons (t := 17) rfl (fun h => entW h) .nil) (op_eql rfl rfl) rfl ?_
      refine lx (op_pick_and rfl rfl) rfl ?_
      refine lx (op_assign rfl) rfl ?_
      refine lx_end ⟨by kernel_rfl, ?_⟩
      refine pe_then_normal ?_
      refine tr_sub hC (.cons (t := 2) rfl .nil) .nil rfl ?_
      refine tr_ret ?_
      refine pe_block_ret ?_
      refine pe_then_ret ?_
      refine pe_ret1 rfl hO rfl (.tmp rfl .nil) ?_
      exact entB h.symm
    · (try simp only [Bool.and_eq_true, Bool.or_eq_true, Bool.and_eq_false_iff, Bool.or_eq_false_iff, decide_eq_true_eq, decide_eq_false_iff_not, Bool.not_eq_true', Bool.not_eq_false', List.length_map, ne_eq, Decidable.not_not, Int.not_lt, Int.not_le] at h10)
      refine tr_seq ?_
      refine tr_region (fun N6 hN => ?_)
      refine lx (op_eql rfl rfl) rfl ?_
      refine lx (op_assign rfl) rfl ?_
      refine lx_end ⟨by kernel_rfl, ?_⟩
      refine pe_then_normal ?_
      refine tr_sub hC (.cons (t := 1) rfl (.cons (t := 20) rfl .nil)) (.cons (t := 1) rfl .nil) rfl ?_
      refine tr_cond rfl (fun h20 => ?_) (fun h20 => ?_)
      · (try simp only [Bool.and_eq_true, Bool.or_eq_true, Bool.and_eq_false_iff, Bool.or_eq_false_iff, decide_eq_true_eq, decide_eq_false_iff_not, Bool.not_eq_true', Bool.not_eq_false', List.length_map, ne_eq, Decidable.not_not, Int.not_lt, Int.not_le] at h20)
        have h := vval_2 h5 h10 h20
        refine tr_seq ?_
        refine tr_region (fun N7 hN => ?_)
        refine lx (op_fieldAddr rfl fl43_1 sz3) rfl ?_
        refine lx (op_bload_one (m := 1) rfl rfl ag3 rfl) rfl ?_
        refine lx (op_geq rfl rfl) rfl ?_
        refine lx (op_move rfl) rfl ?_
        refine lxs rfl rfl rfl guard_eq (.cons (t := 1) rfl (fun _ => Ent.refl _) .nil) (op_fieldAddr rfl fl43_2 sz3) rfl ?_
        refine lxs rfl rfl rfl guard_eq (.cons (t := 26) rfl (fun h => entW h) .nil) (op_bload_one (m := 1) rfl rfl ag3 rfl) rfl ?_
        refine lxs rfl rfl rfl guard_eq (.cons (t := 27) rfl (fun h => entW h) .nil) (op_geq rfl rfl) rfl ?_
        refine lx (op_pick_and rfl rfl) rfl ?_
        refine lx (op_move rfl) rfl ?_
        refine lxs rfl rfl rfl guard_eq (.cons (t := 1) rfl (fun _ => Ent.refl _) .nil) (op_fieldAddr rfl fl43_2 sz3) rfl ?_
        refine lxs rfl rfl rfl guard_eq (.cons (t := 31) rfl (fun h => entW h) .nil) (op_bload_one (m := 1) rfl rfl ag3 rfl) rfl ?_
        refine lxs rfl rfl rfl guard_eq (.cons (t := 32) rfl (fun h => entW h) .nil) (op_leq rfl rfl) rfl ?_
        refine lx (op_pick_and rfl rfl) rfl ?_
        refine lx (op_assign rfl) rfl ?_
        refine lx_end ⟨by kernel_rfl, ?_⟩
        refine pe_then_normal ?_
        refine tr_sub hC (.cons (t := 2) rfl .nil) .nil rfl ?_
        refine tr_ret ?_
        refine pe_block_ret ?_
        refine pe_then_ret ?_
        refine pe_ret1 rfl hO rfl (.tmp rfl .nil) ?_
        exact entB h.symm
      · (try simp only [Bool.and_eq_true, Bool.or_eq_true, Bool.and_eq_false_iff, Bool.or_eq_false_iff, decide_eq_true_eq, decide_eq_false_iff_not, Bool.not_eq_true', Bool.not_eq_false', List.length_map, ne_eq, Decidable.not_not, Int.not_lt, Int.not_le] at h20)
        have h := vval_3 h5 h10 h20
        refine tr_skip ?_
        refine pe_block_normal ?_
        refine pe_then_normal ?_
        refine tr_sub hC .nil .nil rfl ?_
        refine tr_seq ?_
        refine tr_region (fun N8 hN => ?_)
        refine lx (op_assign rfl) rfl ?_
        refine lx_end ⟨by kernel_rfl, ?_⟩
        refine pe_then_normal ?_
        refine tr_sub hC (.cons (t := 2) rfl .nil) .nil rfl ?_
        refine tr_ret ?_
        refine pe_ret1 rfl hO rfl (.tmp rfl .nil) ?_
        exact entB h.symm
theorem wval_ok (w : Wt) : FnP Try.prog 55 [aggP (wp w)] (eqP (.bool (wval w))) := by
  refine fn_pure' Try.func55 rfl Try.ntmps55 rfl ?_
  intro σ0 M ex Rf R hC hO
  simp only [frameOf, tokOf]
  refine tr_seq ?_
  refine tr_region (fun N0 hN => ?_)
  refine lxn (op_box (m := 1) (k := 1) rfl (.agg rfl) (by first | exact hC.low _ (by decide) | rfl)) rfl ?_
  refine lx (op_assign rfl) rfl ?_
  refine lx_end ⟨by kernel_rfl, ?_⟩
  refine pe_then_normal ?_
  refine tr_sub hC (.cons (t := 1) rfl .nil) (.cons (t := 1) rfl .nil) rfl ?_
  refine tr_seq ?_
  refine tr_region (fun N1 hN => ?_)
  refine lx (op_fieldAddr rfl fl97_0 sz3) rfl ?_
  refine lx (op_bload_one (m := 1) rfl rfl ag3 rfl) rfl ?_
  refine lx (op_geq rfl rfl) rfl ?_
  refine lx (op_move rfl) rfl ?_
  refine lxs rfl rfl rfl guard_eq (.cons (t := 1) rfl (fun _ => Ent.refl _) .nil) (op_fieldAddr rfl fl97_0 sz3) rfl ?_
  refine lxs rfl rfl rfl guard_eq (.cons (t := 7) rfl (fun h => entW h) .nil) (op_bload_one (m := 1) rfl rfl ag3 rfl) rfl ?_
  refine lxs rfl rfl rfl guard_eq (.cons (t := 8) rfl (fun h => entW h) .nil) (op_lss rfl rfl) rfl ?_
  refine lx (op_pick_and rfl rfl) rfl ?_
  refine lx (op_move rfl) rfl ?_
  refine lxs rfl rfl rfl guard_eq (.cons (t := 1) rfl (fun _ => Ent.refl _) .nil) (op_fieldAddr rfl fl97_1 sz3) rfl ?_
  refine lxs rfl rfl rfl guard_eq (.cons (t := 12) rfl (fun h => entW h) .nil) (op_bload_one (m := 1) rfl rfl ag3 rfl) rfl ?_
  refine lxs rfl rfl rfl guard_eq (.cons (t := 13) rfl (fun h => entW h) .nil) (op_geq rfl rfl) rfl ?_
  refine lx (op_pick_and rfl rfl) rfl ?_
  refine lx (op_move rfl) rfl ?_
  refine lxs rfl rfl rfl guard_eq (.cons (t := 1) rfl (fun _ => Ent.refl _) .nil) (op_fieldAddr rfl fl97_1 sz3) rfl ?_
  refine lxs rfl rfl rfl guard_eq (.cons (t := 17) rfl (fun h => entW h) .nil) (op_bload_one (m := 1) rfl rfl ag3 rfl) rfl ?_
  refine lxs rfl rfl rfl guard_eq (.cons (t := 18) rfl (fun h => entW h) .nil) (op_leq rfl rfl) rfl ?_
  refine lx (op_pick_and rfl rfl) rfl ?_
  refine lx (op_move rfl) rfl ?_
  refine lxs rfl rfl rfl guard_eq (.cons (t := 1) rfl (fun _ => Ent.refl _) .nil) (op_fieldAddr rfl fl97_2 sz43) rfl ?_
  refine lxs rfl rfl rfl guard_eq (.cons (t := 22) rfl (fun h => entW h) .nil) (op_bload_part (m := 1) (qs := [_, _, _]) rfl rfl ag43 sz43 rfl rfl) rfl ?_
  first | refine lxs rfl rfl rfl guard_eq (.cons (t := 23) rfl (fun h => entW h) .nil) (op_call (l := [(Go.Operand.tmp 23)]) (vval_ok w.v) (.cons rfl .nil) fn53) rfl ?_ | refine lxs rfl rfl rfl guard_eq (.cons (t := 23) rfl (fun h => entW h) .nil) (op_call (l := [(Go.Operand.tmp 23)]) (vval_ok w.v) (.ent rfl (by repeat (first | exact Ents.nil | refine Ents.cons ?_ ?_ | refine Ent.tup ?_ | refine Ent.agg ?_ | exact Ent.row _ _ _ _ | exact Ent.nil _ _ | exact Ent.func _ | exact Ent.refl _ | exact Ent.of_eq rfl | refine Ent.cells ?_)) .nil) fn53) rfl ?_
  refine lx (op_pick_and rfl rfl) rfl ?_
  refine lx (op_assign rfl) rfl ?_
  refine lx_end ⟨by kernel_rfl, ?_⟩
  refine pe_then_normal ?_
  refine tr_sub hC (.cons (t := 2) rfl .nil) .nil rfl ?_
  refine tr_ret ?_
  refine pe_ret1 rfl hO rfl (.tmp rfl .nil) ?_
  repeat (first | exact Ents.nil | refine Ents.cons ?_ ?_ | refine Ent.tup ?_ | refine Ent.agg ?_ | exact Ent.row _ _ _ _ | exact Ent.nil _ _ | exact Ent.func _ | exact Ent.refl _ | exact Ent.of_eq rfl | refine Ent.cells ?_)
theorem idxV_ok (q : FuncId) (caps : List Pred) (φ : V → Bool) (hq : ∀ w, FnP Try.prog q ([] ++ [aggP (vp w)] ++ caps) (eqP (.bool (φ w)))) (hf : fnB Try.prog q = true) (xs : List V) (hx : xs.length ≤ 9223372036854775807) : FnP Try.prog 60 [slP vp 3 xs, clP q [] caps] (eqP (.int .i64 (idxF φ xs))) := by
  refine fn_pure' Try.func60 rfl Try.ntmps60 rfl ?_
  intro σ0 M ex Rf R hC hO
  simp only [frameOf, tokOf]
  refine tr_seq ?_
  refine tr_region (fun N0 hN => ?_)
  refine lx (op_assign rfl) rfl ?_
  refine lx_end ⟨by kernel_rfl, ?_⟩
  refine pe_then_normal ?_
  refine tr_sub hC (.cons (t := 0) rfl (.cons (t := 1) rfl .nil)) .nil rfl ?_
  refine tr_seq ?_
  refine tr_seq ?_
  refine tr_region (fun N1 hN => ?_)
  refine lx (op_move rfl) rfl ?_
  first | refine lx (op_len rfl el33) rfl ?_ | refine lx (op_len_row rfl el33) rfl ?_ | refine lx (op_len_mv rfl el33) rfl ?_ | refine lx (op_len_nil rfl el33) rfl ?_
  refine lx (op_move rfl) rfl ?_
  refine lx_end ⟨by kernel_rfl, ?_⟩
  refine pe_then_normal ?_
  refine tr_sub hC (.cons (t := 0) rfl (.cons (t := 1) rfl (.cons (t := 7) rfl (.cons (t := 8) rfl .nil)))) .nil rfl ?_
  refine tr_block ?_
  refine tr_loopK (α := {zz : Nat // zz ≤ xs.length ∧ ∀ x ∈ xs.take zz, φ x = false}) (⟨(0), Nat.zero_le _, by simp⟩) (fun zz => [(8, eqP (.int .i64 (zz.1 : Int)))]) (fun zz => []) (fun zz => xs.length - zz.1) hC (.cons (t := 0) rfl (.cons (t := 1) rfl (.cons (t := 7) rfl .nil))) .nil rfl ?_ ?_ (fun zz => ?_)
  · try dsimp only [List.cons_append, List.nil_append]
    first | refine SubF.cons rfl ?_ | (refine SubF.ent rfl ?_ ?_; · repeat (first | exact Ents.nil | refine Ents.cons ?_ ?_ | refine Ent.tup ?_ | refine Ent.agg ?_ | exact Ent.row _ _ _ _ | exact Ent.nil _ _ | exact Ent.func _ | exact Ent.refl _ | exact Ent.of_eq rfl | refine Ent.cells ?_))
    exact SubF.nil
  · try dsimp only [List.cons_append, List.nil_append]
    repeat (first | exact SubL.nil | refine SubL.cons rfl ?_)
  · obtain ⟨k, hk1, hk2⟩ := zz
    dsimp only [List.cons_append, List.nil_append]
    refine tr_seq ?_
    refine tr_region (fun N2 hN => ?_)
    refine lx (op_lss rfl rfl) rfl ?_
    refine lx_end ⟨by kernel_rfl, ?_⟩
    refine pe_then_normal ?_
    refine tr_sub hC (.cons (t := 0) rfl (.cons (t := 1) rfl (.cons (t := 7) rfl (.cons (t := 8) rfl (.cons (t := 9) rfl .nil))))) .nil rfl ?_
    refine tr_seq ?_
    refine tr_cond rfl (fun h9 => ?_) (fun h9 => ?_)
    · (try simp only [Bool.and_eq_true, Bool.or_eq_true, Bool.and_eq_false_iff, Bool.or_eq_false_iff, decide_eq_true_eq, decide_eq_false_iff_not, Bool.not_eq_true', Bool.not_eq_false', List.length_map, ne_eq, Decidable.not_not, Int.not_lt, Int.not_le] at h9)
      refine tr_skip ?_
      refine pe_then_normal ?_
      refine tr_sub hC (.cons (t := 0) rfl (.cons (t := 1) rfl (.cons (t := 7) rfl (.cons (t := 8) rfl .nil)))) .nil rfl ?_
      refine tr_seq ?_
      refine tr_block ?_
      refine tr_seq ?_
      refine tr_region (fun N3 hN => ?_)
      refine lx (op_move rfl) rfl ?_
      refine lx (op_assign rfl) rfl ?_
      refine lx_end ⟨by kernel_rfl, ?_⟩
      refine pe_then_normal ?_
      refine tr_sub hC (.cons (t := 0) rfl (.cons (t := 1) rfl (.cons (t := 5) rfl (.cons (t := 7) rfl (.cons (t := 8) rfl .nil))))) .nil rfl ?_
      refine tr_seq ?_
      refine tr_region (fun N4 hN => ?_)
      refine lx (op_move rfl) rfl ?_
      refine lx (op_move rfl) rfl ?_
      refine lx (op_move rfl) rfl ?_
      refine lx (op_index rfl rfl el33 sz43 rfl (List.getElem?_eq_getElem (by omega : k < xs.length))) rfl ?_
      first | refine lx (op_load_all rfl ag43 sz43) rfl ?_ | refine lx (op_load_agg rfl ag43 sz43 rfl) rfl ?_
      first | refine lx (op_callV (l := [(Go.Operand.tmp 15)]) rfl (hq _) (.cons rfl .nil) hf) rfl ?_ | refine lx (op_callV (l := [(Go.Operand.tmp 15)]) rfl (hq _) (.ent rfl (by repeat (first | exact Ents.nil | refine Ents.cons ?_ ?_ | refine Ent.tup ?_ | refine Ent.agg ?_ | exact Ent.row _ _ _ _ | exact Ent.nil _ _ | exact Ent.func _ | exact Ent.refl _ | exact Ent.of_eq rfl | refine Ent.cells ?_)) .nil) hf) rfl ?_
      refine lx_end ⟨by kernel_rfl, ?_⟩
      refine pe_then_normal ?_
      refine tr_sub hC (.cons (t := 0) rfl (.cons (t := 1) rfl (.cons (t := 5) rfl (.cons (t := 7) rfl (.cons (t := 8) rfl (.cons (t := 16) rfl .nil)))))) .nil rfl ?_
      refine tr_cond rfl (fun h16 => ?_) (fun h16 => ?_)
      · (try simp only [Bool.and_eq_true, Bool.or_eq_true, Bool.and_eq_false_iff, Bool.or_eq_false_iff, decide_eq_true_eq, decide_eq_false_iff_not, Bool.not_eq_true', Bool.not_eq_false', List.length_map, ne_eq, Decidable.not_not, Int.not_lt, Int.not_le] at h16)
        refine tr_seq ?_
        refine tr_region (fun N5 hN => ?_)
        refine lx (op_move rfl) rfl ?_
        refine lx (op_assign rfl) rfl ?_
        refine lx_end ⟨by kernel_rfl, ?_⟩
        refine pe_then_normal ?_
        refine tr_sub hC (.cons (t := 4) rfl .nil) .nil rfl ?_
        refine tr_ret ?_
        refine pe_block_ret ?_
        refine pe_then_ret ?_
        refine pe_then_ret ?_
        refine pe_block_ret ?_
        refine pe_then_ret ?_
        refine pe_ret1 rfl hO rfl (.tmp rfl .nil) ?_
        exact entI (idxF_at (by omega) hk2 h16).symm
      · (try simp only [Bool.and_eq_true, Bool.or_eq_true, Bool.and_eq_false_iff, Bool.or_eq_false_iff, decide_eq_true_eq, decide_eq_false_iff_not, Bool.not_eq_true', Bool.not_eq_false', List.length_map, ne_eq, Decidable.not_not, Int.not_lt, Int.not_le] at h16)
        refine tr_skip ?_
        refine pe_block_normal ?_
        refine pe_then_normal ?_
        refine tr_sub hC (.cons (t := 0) rfl (.cons (t := 1) rfl (.cons (t := 7) rfl (.cons (t := 8) rfl .nil)))) .nil rfl ?_
        refine tr_region (fun N6 hN => ?_)
        refine lx (op_add rfl rfl (by omega)) rfl ?_
        refine lx (op_move rfl) rfl ?_
        refine lx_end ⟨by kernel_rfl, ?_⟩
        refine pe_round (⟨(k + 1), by omega, take_all hk2 (by omega) h16⟩) (by dsimp only; omega) (pe_st hC ?_ ?_ rfl)
        · try dsimp only [List.cons_append, List.nil_append]
          first | refine SubF.cons rfl ?_ | (refine SubF.ent rfl ?_ ?_; · repeat (first | exact Ents.nil | refine Ents.cons ?_ ?_ | refine Ent.tup ?_ | refine Ent.agg ?_ | exact Ent.row _ _ _ _ | exact Ent.nil _ _ | exact Ent.func _ | exact Ent.refl _ | exact Ent.of_eq rfl | refine Ent.cells ?_))
          first | refine SubF.cons rfl ?_ | (refine SubF.ent rfl ?_ ?_; · repeat (first | exact Ents.nil | refine Ents.cons ?_ ?_ | refine Ent.tup ?_ | refine Ent.agg ?_ | exact Ent.row _ _ _ _ | exact Ent.nil _ _ | exact Ent.func _ | exact Ent.refl _ | exact Ent.of_eq rfl | refine Ent.cells ?_))
          first | refine SubF.cons rfl ?_ | (refine SubF.ent rfl ?_ ?_; · repeat (first | exact Ents.nil | refine Ents.cons ?_ ?_ | refine Ent.tup ?_ | refine Ent.agg ?_ | exact Ent.row _ _ _ _ | exact Ent.nil _ _ | exact Ent.func _ | exact Ent.refl _ | exact Ent.of_eq rfl | refine Ent.cells ?_))
          first | refine SubF.cons rfl ?_ | (refine SubF.ent rfl ?_ ?_; · repeat (first | exact Ents.nil | refine Ents.cons ?_ ?_ | refine Ent.tup ?_ | refine Ent.agg ?_ | exact Ent.row _ _ _ _ | exact Ent.nil _ _ | exact Ent.func _ | exact Ent.refl _ | exact Ent.of_eq rfl | refine Ent.cells ?_))
          exact SubF.nil
        · try dsimp only [List.cons_append, List.nil_append]
          repeat (first | exact SubL.nil | refine SubL.cons rfl ?_)
    · (try simp only [Bool.and_eq_true, Bool.or_eq_true, Bool.and_eq_false_iff, Bool.or_eq_false_iff, decide_eq_true_eq, decide_eq_false_iff_not, Bool.not_eq_true', Bool.not_eq_false', List.length_map, ne_eq, Decidable.not_not, Int.not_lt, Int.not_le] at h9)
      have hk3 : k = xs.length := by omega
      refine tr_exit ?_
      refine pe_then_exit ?_
      refine pe_then_exit ?_
      refine pe_block_eq ?_
      refine pe_then_normal ?_
      refine tr_sub hC .nil .nil rfl ?_
      refine tr_seq ?_
      refine tr_region (fun N7 hN => ?_)
      refine lx (op_assign rfl) rfl ?_
      refine lx_end ⟨by kernel_rfl, ?_⟩
      refine pe_then_normal ?_
      refine tr_sub hC (.cons (t := 4) rfl .nil) .nil rfl ?_
      refine tr_ret ?_
      refine pe_ret1 rfl hO rfl (.tmp rfl .nil) ?_
      exact entI (idxF_none (by rwa [hk3, List.take_of_length_le (Nat.le_refl _)] at hk2)).symm
theorem idxW_ok (q : FuncId) (caps : List Pred) (φ : Wt → Bool) (hq : ∀ w, FnP Try.prog q ([] ++ [aggP (wp w)] ++ caps) (eqP (.bool (φ w)))) (hf : fnB Try.prog q = true) (xs : List Wt) (hx : xs.length ≤ 9223372036854775807) : FnP Try.prog 61 [slP wp 5 xs, clP q [] caps] (eqP (.int .i64 (idxF φ xs))) := by
  refine fn_pure' Try.func61 rfl Try.ntmps61 rfl ?_
  intro σ0 M ex Rf R hC hO
  simp only [frameOf, tokOf]
  refine tr_seq ?_
  refine tr_region (fun N0 hN => ?_)
  refine lx (op_assign rfl) rfl ?_
  refine lx_end ⟨by kernel_rfl, ?_⟩
  refine pe_then_normal ?_
  refine tr_sub hC (.cons (t := 0) rfl (.cons (t := 1) rfl .nil)) .nil rfl ?_
  refine tr_seq ?_
  refine tr_seq ?_
  refine tr_region (fun N1 hN => ?_)
  refine lx (op_move rfl) rfl ?_
  first | refine lx (op_len rfl el89) rfl ?_ | refine lx (op_len_row rfl el89) rfl ?_ | refine lx (op_len_mv rfl el89) rfl ?_ | refine lx (op_len_nil rfl el89) rfl ?_
  refine lx (op_move rfl) rfl ?_
  refine lx_end ⟨by kernel_rfl, ?_⟩
  refine pe_then_normal ?_
  refine tr_sub hC (.cons (t := 0) rfl (.cons (t := 1) rfl (.cons (t := 7) rfl (.cons (t := 8) rfl .nil)))) .nil rfl ?_
  refine tr_block ?_
  refine tr_loopK (α := {zz : Nat // zz ≤ xs.length ∧ ∀ x ∈ xs.take zz, φ x = false}) (⟨(0), Nat.zero_le _, by simp⟩) (fun zz => [(8, eqP (.int .i64 (zz.1 : Int)))]) (fun zz => []) (fun zz => xs.length - zz.1) hC (.cons (t := 0) rfl (.cons (t := 1) rfl (.cons (t := 7) rfl .nil))) .nil rfl ?_ ?_ (fun zz => ?_)
  · try dsimp only [List.cons_append, List.nil_append]
    first | refine SubF.cons rfl ?_ | (refine SubF.ent rfl ?_ ?_; · repeat (first | exact Ents.nil | refine Ents.cons ?_ ?_ | refine Ent.tup ?_ | refine Ent.agg ?_ | exact Ent.row _ _ _ _ | exact Ent.nil _ _ | exact Ent.func _ | exact Ent.refl _ | exact Ent.of_eq rfl | refine Ent.cells ?_))
    exact SubF.nil
  · try dsimp only [List.cons_append, List.nil_append]
    repeat (first | exact SubL.nil | refine SubL.cons rfl ?_)
  · obtain ⟨k, hk1, hk2⟩ := zz
    dsimp only [List.cons_append, List.nil_append]
    refine tr_seq ?_
    refine tr_region (fun N2 hN => ?_)
    refine lx (op_lss rfl rfl) rfl ?_
    refine lx_end ⟨by kernel_rfl, ?_⟩
    refine pe_then_normal ?_
    refine tr_sub hC (.cons (t := 0) rfl (.cons (t := 1) rfl (.cons (t := 7) rfl (.cons (t := 8) rfl (.cons (t := 9) rfl .nil))))) .nil rfl ?_
    refine tr_seq ?_
    refine tr_cond rfl (fun h9 => ?_) (fun h9 => ?_)
    · (try simp only [Bool.and_eq_true, Bool.or_eq_true, Bool.and_eq_false_iff, Bool.or_eq_false_iff, decide_eq_true_eq, decide_eq_false_iff_not, Bool.not_eq_true', Bool.not_eq_false', List.length_map, ne_eq, Decidable.not_not, Int.not_lt, Int.not_le] at h9)
      refine tr_skip ?_
      refine pe_then_normal ?_
      refine tr_sub hC (.cons (t := 0) rfl (.cons (t := 1) rfl (.cons (t := 7) rfl (.cons (t := 8) rfl .nil)))) .nil rfl ?_
      refine tr_seq ?_
      refine tr_block ?_
      refine tr_seq ?_
      refine tr_region (fun N3 hN => ?_)
      refine lx (op_move rfl) rfl ?_
      refine lx (op_assign rfl) rfl ?_
      refine lx_end ⟨by kernel_rfl, ?_⟩
      refine pe_then_normal ?_
      refine tr_sub hC (.cons (t := 0) rfl (.cons (t := 1) rfl (.cons (t := 5) rfl (.cons (t := 7) rfl (.cons (t := 8) rfl .nil))))) .nil rfl ?_
      refine tr_seq ?_
      refine tr_region (fun N4 hN => ?_)
      refine lx (op_move rfl) rfl ?_
      refine lx (op_move rfl) rfl ?_
      refine lx (op_move rfl) rfl ?_
      refine lx (op_index rfl rfl el89 sz97 rfl (List.getElem?_eq_getElem (by omega : k < xs.length))) rfl ?_
      first | refine lx (op_load_all rfl ag97 sz97) rfl ?_ | refine lx (op_load_agg rfl ag97 sz97 rfl) rfl ?_
      first | refine lx (op_callV (l := [(Go.Operand.tmp 15)]) rfl (hq _) (.cons rfl .nil) hf) rfl ?_ | refine lx (op_callV (l := [(Go.Operand.tmp 15)]) rfl (hq _) (.ent rfl (by repeat (first | exact Ents.nil | refine Ents.cons ?_ ?_ | refine Ent.tup ?_ | refine Ent.agg ?_ | exact Ent.row _ _ _ _ | exact Ent.nil _ _ | exact Ent.func _ | exact Ent.refl _ | exact Ent.of_eq rfl | refine Ent.cells ?_)) .nil) hf) rfl ?_
      refine lx_end ⟨by kernel_rfl, ?_⟩
      refine pe_then_normal ?_
      refine tr_sub hC (.cons (t := 0) rfl (.cons (t := 1) rfl (.cons (t := 5) rfl (.cons (t := 7) rfl (.cons (t := 8) rfl (.cons (t := 16) rfl .nil)))))) .nil rfl ?_
      refine tr_cond rfl (fun h16 => ?_) (fun h16 => ?_)
      · (try simp only [Bool.and_eq_true, Bool.or_eq_true, Bool.and_eq_false_iff, Bool.or_eq_false_iff, decide_eq_true_eq, decide_eq_false_iff_not, Bool.not_eq_true', Bool.not_eq_false', List.length_map, ne_eq, Decidable.not_not, Int.not_lt, Int.not_le] at h16)
        refine tr_seq ?_
        refine tr_region (fun N5 hN => ?_)
        refine lx (op_move rfl) rfl ?_
        refine lx (op_assign rfl) rfl ?_
        refine lx_end ⟨by kernel_rfl, ?_⟩
        refine pe_then_normal ?_
        refine tr_sub hC (.cons (t := 4) rfl .nil) .nil rfl ?_
        refine tr_ret ?_
        refine pe_block_ret ?_
        refine pe_then_ret ?_
        refine pe_then_ret ?_
        refine pe_block_ret ?_
        refine pe_then_ret ?_
        refine pe_ret1 rfl hO rfl (.tmp rfl .nil) ?_
        exact entI (idxF_at (by omega) hk2 h16).symm
      · (try simp only [Bool.and_eq_true, Bool.or_eq_true, Bool.and_eq_false_iff, Bool.or_eq_false_iff, decide_eq_true_eq, decide_eq_false_iff_not, Bool.not_eq_true', Bool.not_eq_false', List.length_map, ne_eq, Decidable.not_not, Int.not_lt, Int.not_le] at h16)
        refine tr_skip ?_
        refine pe_block_normal ?_
        refine pe_then_normal ?_
        refine tr_sub hC (.cons (t := 0) rfl (.cons (t := 1) rfl (.cons (t := 7) rfl (.cons (t := 8) rfl .nil)))) .nil rfl ?_
        refine tr_region (fun N6 hN => ?_)
        refine lx (op_add rfl rfl (by omega)) rfl ?_
        refine lx (op_move rfl) rfl ?_
        refine lx_end ⟨by kernel_rfl, ?_⟩
        refine pe_round (⟨(k + 1), by omega, take_all hk2 (by omega) h16⟩) (by dsimp only; omega) (pe_st hC ?_ ?_ rfl)
        · try dsimp only [List.cons_append, List.nil_append]
          first | refine SubF.cons rfl ?_ | (refine SubF.ent rfl ?_ ?_; · repeat (first | exact Ents.nil | refine Ents.cons ?_ ?_ | refine Ent.tup ?_ | refine Ent.agg ?_ | exact Ent.row _ _ _ _ | exact Ent.nil _ _ | exact Ent.func _ | exact Ent.refl _ | exact Ent.of_eq rfl | refine Ent.cells ?_))
          first | refine SubF.cons rfl ?_ | (refine SubF.ent rfl ?_ ?_; · repeat (first | exact Ents.nil | refine Ents.cons ?_ ?_ | refine Ent.tup ?_ | refine Ent.agg ?_ | exact Ent.row _ _ _ _ | exact Ent.nil _ _ | exact Ent.func _ | exact Ent.refl _ | exact Ent.of_eq rfl | refine Ent.cells ?_))
          first | refine SubF.cons rfl ?_ | (refine SubF.ent rfl ?_ ?_; · repeat (first | exact Ents.nil | refine Ents.cons ?_ ?_ | refine Ent.tup ?_ | refine Ent.agg ?_ | exact Ent.row _ _ _ _ | exact Ent.nil _ _ | exact Ent.func _ | exact Ent.refl _ | exact Ent.of_eq rfl | refine Ent.cells ?_))
          first | refine SubF.cons rfl ?_ | (refine SubF.ent rfl ?_ ?_; · repeat (first | exact Ents.nil | refine Ents.cons ?_ ?_ | refine Ent.tup ?_ | refine Ent.agg ?_ | exact Ent.row _ _ _ _ | exact Ent.nil _ _ | exact Ent.func _ | exact Ent.refl _ | exact Ent.of_eq rfl | refine Ent.cells ?_))
          exact SubF.nil
        · try dsimp only [List.cons_append, List.nil_append]
          repeat (first | exact SubL.nil | refine SubL.cons rfl ?_)
    · (try simp only [Bool.and_eq_true, Bool.or_eq_true, Bool.and_eq_false_iff, Bool.or_eq_false_iff, decide_eq_true_eq, decide_eq_false_iff_not, Bool.not_eq_true', Bool.not_eq_false', List.length_map, ne_eq, Decidable.not_not, Int.not_lt, Int.not_le] at h9)
      have hk3 : k = xs.length := by omega
      refine tr_exit ?_
      refine pe_then_exit ?_
      refine pe_then_exit ?_
      refine pe_block_eq ?_
      refine pe_then_normal ?_
      refine tr_sub hC .nil .nil rfl ?_
      refine tr_seq ?_
      refine tr_region (fun N7 hN => ?_)
      refine lx (op_assign rfl) rfl ?_
      refine lx_end ⟨by kernel_rfl, ?_⟩
      refine pe_then_normal ?_
      refine tr_sub hC (.cons (t := 4) rfl .nil) .nil rfl ?_
      refine tr_ret ?_
      refine pe_ret1 rfl hO rfl (.tmp rfl .nil) ?_
      exact entI (idxF_none (by rwa [hk3, List.take_of_length_le (Nat.le_refl _)] at hk2)).symm
theorem clo57_ok (w : V) : FnP Try.prog 57 [aggP (vp w), cellsP [clP 53 [] []]] (eqP (.bool (!(vval w)))) := by
  refine fn_pure' Try.func57 rfl Try.ntmps57 rfl ?_
  intro σ0 M ex Rf R hC hO
  simp only [frameOf, tokOf]
  refine tr_seq ?_
  refine tr_region (fun N0 hN => ?_)
  refine lxn (op_box (m := 2) (k := 2) rfl (.agg rfl) (by first | exact hC.low _ (by decide) | rfl)) rfl ?_
  refine lx (op_assign rfl) rfl ?_
  refine lx_end ⟨by kernel_rfl, ?_⟩
  refine pe_then_normal ?_
  refine tr_sub hC (.cons (t := 1) rfl (.cons (t := 2) rfl .nil)) (.cons (t := 2) rfl .nil) rfl ?_
  refine tr_seq ?_
  refine tr_region (fun N1 hN => ?_)
  first | refine lx (op_load_one rfl ag62 rfl) rfl ?_ | refine lx (op_bload_one (m := 2) rfl rfl ag62 rfl) rfl ?_
  refine lx (op_bload (m := 2) rfl rfl ag43 sz43) rfl ?_
  first | refine lx (op_callV (l := [(Go.Operand.tmp 5)]) rfl (vval_ok w) (.cons rfl .nil) fn53) rfl ?_ | refine lx (op_callV (l := [(Go.Operand.tmp 5)]) rfl (vval_ok w) (.ent rfl (by repeat (first | exact Ents.nil | refine Ents.cons ?_ ?_ | refine Ent.tup ?_ | refine Ent.agg ?_ | exact Ent.row _ _ _ _ | exact Ent.nil _ _ | exact Ent.func _ | exact Ent.refl _ | exact Ent.of_eq rfl | refine Ent.cells ?_)) .nil) fn53) rfl ?_
  first | refine lx (op_not rfl) rfl ?_ | refine lx (op_not_b rfl) rfl ?_
  refine lx (op_assign rfl) rfl ?_
  refine lx_end ⟨by kernel_rfl, ?_⟩
  refine pe_then_normal ?_
  refine tr_sub hC (.cons (t := 3) rfl .nil) .nil rfl ?_
  refine tr_ret ?_
  refine pe_ret1 rfl hO rfl (.tmp rfl .nil) ?_
  repeat (first | exact Ents.nil | refine Ents.cons ?_ ?_ | refine Ent.tup ?_ | refine Ent.agg ?_ | exact Ent.row _ _ _ _ | exact Ent.nil _ _ | exact Ent.func _ | exact Ent.refl _ | exact Ent.of_eq rfl | refine Ent.cells ?_)
theorem cont56_ok (xs : List V) (hx : xs.length ≤ 9223372036854775807) : FnP Try.prog 56 [slP vp 3 xs, clP 57 [] [cellsP [clP 53 [] []]]] (eqP (.bool (xs.any fun w => !(vval w)))) := by
  refine fn_pure' Try.func56 rfl Try.ntmps56 rfl ?_
  intro σ0 M ex Rf R hC hO
  simp only [frameOf, tokOf]
  refine tr_seq ?_
  refine tr_region (fun N0 hN => ?_)
  refine lx (op_assign rfl) rfl ?_
  refine lx_end ⟨by kernel_rfl, ?_⟩
  refine pe_then_normal ?_
  refine tr_sub hC (.cons (t := 0) rfl (.cons (t := 1) rfl .nil)) .nil rfl ?_
  refine tr_seq ?_
  refine tr_region (fun N1 hN => ?_)
  refine lx (op_move rfl) rfl ?_
  refine lx (op_move rfl) rfl ?_
  first | refine lx (op_call (l := [(Go.Operand.tmp 5), (Go.Operand.tmp 6)]) (idxV_ok 57 [cellsP [clP 53 [] []]] (fun w => !(vval w)) (fun w => clo57_ok w) fn57 xs hx) (.cons rfl (.cons rfl .nil)) fn60) rfl ?_ | refine lx (op_call (l := [(Go.Operand.tmp 5), (Go.Operand.tmp 6)]) (idxV_ok 57 [cellsP [clP 53 [] []]] (fun w => !(vval w)) (fun w => clo57_ok w) fn57 xs hx) (.ent rfl (by repeat (first | exact Ents.nil | refine Ents.cons ?_ ?_ | refine Ent.tup ?_ | refine Ent.agg ?_ | exact Ent.row _ _ _ _ | exact Ent.nil _ _ | exact Ent.func _ | exact Ent.refl _ | exact Ent.of_eq rfl | refine Ent.cells ?_)) (.ent rfl (by repeat (first | exact Ents.nil | refine Ents.cons ?_ ?_ | refine Ent.tup ?_ | refine Ent.agg ?_ | exact Ent.row _ _ _ _ | exact Ent.nil _ _ | exact Ent.func _ | exact Ent.refl _ | exact Ent.of_eq rfl | refine Ent.cells ?_)) .nil)) fn60) rfl ?_
  refine lx (op_geq rfl rfl) rfl ?_
  refine lx (op_assign rfl) rfl ?_
  refine lx_end ⟨by kernel_rfl, ?_⟩
  refine pe_then_normal ?_
  refine tr_sub hC (.cons (t := 4) rfl .nil) .nil rfl ?_
  refine tr_ret ?_
  refine pe_ret1 rfl hO rfl (.tmp rfl .nil) ?_
  exact entB (idxF_any _ _)
theorem all52_ok (xs : List V) (hx : xs.length ≤ 9223372036854775807) : FnP Try.prog 52 [slP vp 3 xs, clP 53 [] []] (eqP (.bool (xs.all vval))) := by
  refine fn_pure' Try.func52 rfl Try.ntmps52 rfl ?_
  intro σ0 M ex Rf R hC hO
  simp only [frameOf, tokOf]
  refine tr_seq ?_
  refine tr_region (fun N0 hN => ?_)
  refine lxn (op_box (m := 3) (k := 3) rfl (.one (by (first | exact One.eq rfl | exact One.mv _ _ _ _ _ | exact One.cl _ _ _ | exact One.map _ | exact One.sl _ _ _ | exact One.row _ _ _ _ | exact One.msl _ _ _ _ | exact One.ptr _ _ | exact One.b _ | exact One.cells _))) (by first | exact hC.low _ (by decide) | rfl)) rfl ?_
  refine lx (op_assign rfl) rfl ?_
  refine lx_end ⟨by kernel_rfl, ?_⟩
  refine pe_then_normal ?_
  refine tr_sub hC (.cons (t := 0) rfl (.cons (t := 3) rfl .nil)) (.cons (t := 3) rfl .nil) rfl ?_
  refine tr_freeze (m := 3) rfl (.cons (t := 0) rfl (.ent (t := 3) rfl (FEnt.ptr) .nil)) ?_
  try dsimp only
  refine tr_seq ?_
  refine tr_region (fun N1 hN => ?_)
  refine lx (op_move rfl) rfl ?_
  refine lx (op_makeFunc (bs := []) (cs := [(Go.Operand.tmp 3)]) .nil (.cons rfl .nil)) rfl ?_
  first | refine lx (op_call (l := [(Go.Operand.tmp 5), (Go.Operand.tmp 6)]) (cont56_ok xs hx) (.cons rfl (.cons rfl .nil)) fn56) rfl ?_ | refine lx (op_call (l := [(Go.Operand.tmp 5), (Go.Operand.tmp 6)]) (cont56_ok xs hx) (.ent rfl (by repeat (first | exact Ents.nil | refine Ents.cons ?_ ?_ | refine Ent.tup ?_ | refine Ent.agg ?_ | exact Ent.row _ _ _ _ | exact Ent.nil _ _ | exact Ent.func _ | exact Ent.refl _ | exact Ent.of_eq rfl | refine Ent.cells ?_)) (.ent rfl (by repeat (first | exact Ents.nil | refine Ents.cons ?_ ?_ | refine Ent.tup ?_ | refine Ent.agg ?_ | exact Ent.row _ _ _ _ | exact Ent.nil _ _ | exact Ent.func _ | exact Ent.refl _ | exact Ent.of_eq rfl | refine Ent.cells ?_)) .nil)) fn56) rfl ?_
  first | refine lx (op_not rfl) rfl ?_ | refine lx (op_not_b rfl) rfl ?_
  refine lx (op_assign rfl) rfl ?_
  refine lx_end ⟨by kernel_rfl, ?_⟩
  refine pe_then_normal ?_
  refine tr_sub hC (.cons (t := 4) rfl .nil) .nil rfl ?_
  refine tr_ret ?_
  refine pe_ret1 rfl hO rfl (.tmp rfl .nil) ?_
  exact entB (by rw [List.not_any_eq_all_not]; simp)
theorem clo59_ok (w : Wt) : FnP Try.prog 59 [aggP (wp w), cellsP [clP 55 [] []]] (eqP (.bool (!(wval w)))) := by
  refine fn_pure' Try.func59 rfl Try.ntmps59 rfl ?_
  intro σ0 M ex Rf R hC hO
  simp only [frameOf, tokOf]
  refine tr_seq ?_
  refine tr_region (fun N0 hN => ?_)
  refine lxn (op_box (m := 2) (k := 2) rfl (.agg rfl) (by first | exact hC.low _ (by decide) | rfl)) rfl ?_
  refine lx (op_assign rfl) rfl ?_
  refine lx_end ⟨by kernel_rfl, ?_⟩
  refine pe_then_normal ?_
  refine tr_sub hC (.cons (t := 1) rfl (.cons (t := 2) rfl .nil)) (.cons (t := 2) rfl .nil) rfl ?_
  refine tr_seq ?_
  refine tr_region (fun N1 hN => ?_)
  first | refine lx (op_load_one rfl ag98 rfl) rfl ?_ | refine lx (op_bload_one (m := 2) rfl rfl ag98 rfl) rfl ?_
  refine lx (op_bload (m := 2) rfl rfl ag97 sz97) rfl ?_
  first | refine lx (op_callV (l := [(Go.Operand.tmp 5)]) rfl (wval_ok w) (.cons rfl .nil) fn55) rfl ?_ | refine lx (op_callV (l := [(Go.Operand.tmp 5)]) rfl (wval_ok w) (.ent rfl (by repeat (first | exact Ents.nil | refine Ents.cons ?_ ?_ | refine Ent.tup ?_ | refine Ent.agg ?_ | exact Ent.row _ _ _ _ | exact Ent.nil _ _ | exact Ent.func _ | exact Ent.refl _ | exact Ent.of_eq rfl | refine Ent.cells ?_)) .nil) fn55) rfl ?_
  first | refine lx (op_not rfl) rfl ?_ | refine lx (op_not_b rfl) rfl ?_
  refine lx (op_assign rfl) rfl ?_
  refine lx_end ⟨by kernel_rfl, ?_⟩
  refine pe_then_normal ?_
  refine tr_sub hC (.cons (t := 3) rfl .nil) .nil rfl ?_
  refine tr_ret ?_
  refine pe_ret1 rfl hO rfl (.tmp rfl .nil) ?_
  repeat (first | exact Ents.nil | refine Ents.cons ?_ ?_ | refine Ent.tup ?_ | refine Ent.agg ?_ | exact Ent.row _ _ _ _ | exact Ent.nil _ _ | exact Ent.func _ | exact Ent.refl _ | exact Ent.of_eq rfl | refine Ent.cells ?_)
theorem cont58_ok (xs : List Wt) (hx : xs.length ≤ 9223372036854775807) : FnP Try.prog 58 [slP wp 5 xs, clP 59 [] [cellsP [clP 55 [] []]]] (eqP (.bool (xs.any fun w => !(wval w)))) := by
  refine fn_pure' Try.func58 rfl Try.ntmps58 rfl ?_
  intro σ0 M ex Rf R hC hO
  simp only [frameOf, tokOf]
  refine tr_seq ?_
  refine tr_region (fun N0 hN => ?_)
  refine lx (op_assign rfl) rfl ?_
  refine lx_end ⟨by kernel_rfl, ?_⟩
  refine pe_then_normal ?_
  refine tr_sub hC (.cons (t := 0) rfl (.cons (t := 1) rfl .nil)) .nil rfl ?_
  refine tr_seq ?_
  refine tr_region (fun N1 hN => ?_)
  refine lx (op_move rfl) rfl ?_
  refine lx (op_move rfl) rfl ?_
  first | refine lx (op_call (l := [(Go.Operand.tmp 5), (Go.Operand.tmp 6)]) (idxW_ok 59 [cellsP [clP 55 [] []]] (fun w => !(wval w)) (fun w => clo59_ok w) fn59 xs hx) (.cons rfl (.cons rfl .nil)) fn61) rfl ?_ | refine lx (op_call (l := [(Go.Operand.tmp 5), (Go.Operand.tmp 6)]) (idxW_ok 59 [cellsP [clP 55 [] []]] (fun w => !(wval w)) (fun w => clo59_ok w) fn59 xs hx) (.ent rfl (by repeat (first | exact Ents.nil | refine Ents.cons ?_ ?_ | refine Ent.tup ?_ | refine Ent.agg ?_ | exact Ent.row _ _ _ _ | exact Ent.nil _ _ | exact Ent.func _ | exact Ent.refl _ | exact Ent.of_eq rfl | refine Ent.cells ?_)) (.ent rfl (by repeat (first | exact Ents.nil | refine Ents.cons ?_ ?_ | refine Ent.tup ?_ | refine Ent.agg ?_ | exact Ent.row _ _ _ _ | exact Ent.nil _ _ | exact Ent.func _ | exact Ent.refl _ | exact Ent.of_eq rfl | refine Ent.cells ?_)) .nil)) fn61) rfl ?_
  refine lx (op_geq rfl rfl) rfl ?_
  refine lx (op_assign rfl) rfl ?_
  refine lx_end ⟨by kernel_rfl, ?_⟩
  refine pe_then_normal ?_
  refine tr_sub hC (.cons (t := 4) rfl .nil) .nil rfl ?_
  refine tr_ret ?_
  refine pe_ret1 rfl hO rfl (.tmp rfl .nil) ?_
  exact entB (idxF_any _ _)
theorem all54_ok (xs : List Wt) (hx : xs.length ≤ 9223372036854775807) : FnP Try.prog 54 [slP wp 5 xs, clP 55 [] []] (eqP (.bool (xs.all wval))) := by
  refine fn_pure' Try.func54 rfl Try.ntmps54 rfl ?_
  intro σ0 M ex Rf R hC hO
  simp only [frameOf, tokOf]
  refine tr_seq ?_
  refine tr_region (fun N0 hN => ?_)
  refine lxn (op_box (m := 3) (k := 3) rfl (.one (by (first | exact One.eq rfl | exact One.mv _ _ _ _ _ | exact One.cl _ _ _ | exact One.map _ | exact One.sl _ _ _ | exact One.row _ _ _ _ | exact One.msl _ _ _ _ | exact One.ptr _ _ | exact One.b _ | exact One.cells _))) (by first | exact hC.low _ (by decide) | rfl)) rfl ?_
  refine lx (op_assign rfl) rfl ?_
  refine lx_end ⟨by kernel_rfl, ?_⟩
  refine pe_then_normal ?_
  refine tr_sub hC (.cons (t := 0) rfl (.cons (t := 3) rfl .nil)) (.cons (t := 3) rfl .nil) rfl ?_
  refine tr_freeze (m := 3) rfl (.cons (t := 0) rfl (.ent (t := 3) rfl (FEnt.ptr) .nil)) ?_
  try dsimp only
  refine tr_seq ?_
  refine tr_region (fun N1 hN => ?_)
  refine lx (op_move rfl) rfl ?_
  refine lx (op_makeFunc (bs := []) (cs := [(Go.Operand.tmp 3)]) .nil (.cons rfl .nil)) rfl ?_
  first | refine lx (op_call (l := [(Go.Operand.tmp 5), (Go.Operand.tmp 6)]) (cont58_ok xs hx) (.cons rfl (.cons rfl .nil)) fn58) rfl ?_ | refine lx (op_call (l := [(Go.Operand.tmp 5), (Go.Operand.tmp 6)]) (cont58_ok xs hx) (.ent rfl (by repeat (first | exact Ents.nil | refine Ents.cons ?_ ?_ | refine Ent.tup ?_ | refine Ent.agg ?_ | exact Ent.row _ _ _ _ | exact Ent.nil _ _ | exact Ent.func _ | exact Ent.refl _ | exact Ent.of_eq rfl | refine Ent.cells ?_)) (.ent rfl (by repeat (first | exact Ents.nil | refine Ents.cons ?_ ?_ | refine Ent.tup ?_ | refine Ent.agg ?_ | exact Ent.row _ _ _ _ | exact Ent.nil _ _ | exact Ent.func _ | exact Ent.refl _ | exact Ent.of_eq rfl | refine Ent.cells ?_)) .nil)) fn58) rfl ?_
  first | refine lx (op_not rfl) rfl ?_ | refine lx (op_not_b rfl) rfl ?_
  refine lx (op_assign rfl) rfl ?_
  refine lx_end ⟨by kernel_rfl, ?_⟩
  refine pe_then_normal ?_
  refine tr_sub hC (.cons (t := 4) rfl .nil) .nil rfl ?_
  refine tr_ret ?_
  refine pe_ret1 rfl hO rfl (.tmp rfl .nil) ?_
  exact entB (by rw [List.not_any_eq_all_not]; simp)
theorem object_ok (o : Ob) (hs : BdO 9223372036854775807 o) : FnP Try.prog 51 [aggP o.ps] (eqP (.bool (objF o))) := by
  refine fn_pure' Try.func51 rfl Try.ntmps51 rfl ?_
  intro σ0 M ex Rf R hC hO
  simp only [frameOf, tokOf]
  refine tr_seq ?_
  refine tr_region (fun N0 hN => ?_)
  refine lxn (op_box (m := 1) (k := 1) rfl (.agg rfl) (by first | exact hC.low _ (by decide) | rfl)) rfl ?_
  refine lx (op_assign rfl) rfl ?_
  refine lx_end ⟨by kernel_rfl, ?_⟩
  refine pe_then_normal ?_
  refine tr_sub hC (.cons (t := 1) rfl .nil) (.cons (t := 1) rfl .nil) rfl ?_
  refine tr_seq ?_
  refine tr_seq ?_
  refine tr_region (fun N1 hN => ?_)
  refine lx (op_fieldAddr rfl fl91_2 sz4) rfl ?_
  refine lx (op_bload_one (m := 1) rfl rfl ag4 rfl) rfl ?_
  refine lx_end ⟨by kernel_rfl, ?_⟩
  refine pe_then_normal ?_
  refine tr_sub hC (.cons (t := 1) rfl (.cons (t := 4) rfl .nil)) (.cons (t := 1) rfl .nil) rfl ?_
  refine tr_cond rfl (fun h4 => ?_) (fun h4 => ?_)
  · (try simp only [Bool.and_eq_true, Bool.or_eq_true, Bool.and_eq_false_iff, Bool.or_eq_false_iff, decide_eq_true_eq, decide_eq_false_iff_not, Bool.not_eq_true', Bool.not_eq_false', List.length_map, ne_eq, Decidable.not_not, Int.not_lt, Int.not_le] at h4)
    have h := objF_c h4
    refine tr_seq ?_
    refine tr_region (fun N2 hN => ?_)
    refine lx (op_fieldAddr rfl fl91_1 sz33) rfl ?_
    refine lx (op_bload_one (m := 1) rfl rfl ag33 rfl) rfl ?_
    first | refine lx (op_len rfl el33) rfl ?_ | refine lx (op_len_row rfl el33) rfl ?_ | refine lx (op_len_mv rfl el33) rfl ?_ | refine lx (op_len_nil rfl el33) rfl ?_
    refine lx (op_eql rfl rfl) rfl ?_
    refine lx (op_move rfl) rfl ?_
    refine lxs rfl rfl rfl guard_eq (.cons (t := 1) rfl (fun _ => Ent.refl _) .nil) (op_fieldAddr rfl fl91_3 sz3) rfl ?_
    refine lxs rfl rfl rfl guard_eq (.cons (t := 10) rfl (fun h => entW h) .nil) (op_bload_one (m := 1) rfl rfl ag3 rfl) rfl ?_
    refine lxs rfl rfl rfl guard_eq (.cons (t := 11) rfl (fun h => entW h) .nil) (op_geq rfl rfl) rfl ?_
    refine lx (op_pick_and rfl rfl) rfl ?_
    refine lx (op_move rfl) rfl ?_
    refine lxs rfl rfl rfl guard_eq (.cons (t := 1) rfl (fun _ => Ent.refl _) .nil) (op_fieldAddr rfl fl91_3 sz3) rfl ?_
    refine lxs rfl rfl rfl guard_eq (.cons (t := 15) rfl (fun h => entW h) .nil) (op_bload_one (m := 1) rfl rfl ag3 rfl) rfl ?_
    refine lxs rfl rfl rfl guard_eq (.cons (t := 16) rfl (fun h => entW h) .nil) (op_leq rfl rfl) rfl ?_
    refine lx (op_pick_and rfl rfl) rfl ?_
    refine lx (op_move rfl) rfl ?_
    refine lxs rfl rfl rfl guard_eq (.cons (t := 1) rfl (fun _ => Ent.refl _) .nil) (op_fieldAddr rfl fl91_4 sz33) rfl ?_
    refine lxs rfl rfl rfl guard_eq (.cons (t := 20) rfl (fun h => entW h) .nil) (op_bload_one (m := 1) rfl rfl ag33 rfl) rfl ?_
    first | refine lxs rfl rfl rfl guard_eq (.cons (t := 21) rfl (fun h => entW h) .nil) (op_len rfl el33) rfl ?_ | refine lxs rfl rfl rfl guard_eq (.cons (t := 21) rfl (fun h => entW h) .nil) (op_len_row rfl el33) rfl ?_ | refine lxs rfl rfl rfl guard_eq (.cons (t := 21) rfl (fun h => entW h) .nil) (op_len_mv rfl el33) rfl ?_ | refine lxs rfl rfl rfl guard_eq (.cons (t := 21) rfl (fun h => entW h) .nil) (op_len_nil rfl el33) rfl ?_
    refine lxs rfl rfl rfl guard_eq (.cons (t := 1) rfl (fun _ => Ent.refl _) .nil) (op_fieldAddr rfl fl91_3 sz3) rfl ?_
    refine lxs rfl rfl rfl guard_eq (.cons (t := 23) rfl (fun h => entW h) .nil) (op_bload_one (m := 1) rfl rfl ag3 rfl) rfl ?_
    refine lxs rfl rfl rfl guard_eq (.cons (t := 22) rfl (fun h => entW h) (.cons (t := 24) rfl (fun h => entW h) .nil)) (op_leq rfl rfl) rfl ?_
    refine lx (op_pick_and rfl rfl) rfl ?_
    refine lx (op_move rfl) rfl ?_
    refine lxs rfl rfl rfl guard_eq (.cons (t := 1) rfl (fun _ => Ent.refl _) .nil) (op_fieldAddr rfl fl91_4 sz33) rfl ?_
    refine lxs rfl rfl rfl guard_eq (.cons (t := 28) rfl (fun h => entW h) .nil) (op_bload_one (m := 1) rfl rfl ag33 rfl) rfl ?_
    first | refine lxs rfl rfl rfl guard_eq (.cons (t := 29) rfl (fun h => entW h) .nil) (op_call (l := [(Go.Operand.tmp 29), (Go.Operand.func 53)]) (all52_ok o.queue hs.queue) (.cons rfl (.cons rfl .nil)) fn52) rfl ?_ | refine lxs rfl rfl rfl guard_eq (.cons (t := 29) rfl (fun h => entW h) .nil) (op_call (l := [(Go.Operand.tmp 29), (Go.Operand.func 53)]) (all52_ok o.queue hs.queue) (.ent rfl (by repeat (first | exact Ents.nil | refine Ents.cons ?_ ?_ | refine Ent.tup ?_ | refine Ent.agg ?_ | exact Ent.row _ _ _ _ | exact Ent.nil _ _ | exact Ent.func _ | exact Ent.refl _ | exact Ent.of_eq rfl | refine Ent.cells ?_)) (.ent rfl (by repeat (first | exact Ents.nil | refine Ents.cons ?_ ?_ | refine Ent.tup ?_ | refine Ent.agg ?_ | exact Ent.row _ _ _ _ | exact Ent.nil _ _ | exact Ent.func _ | exact Ent.refl _ | exact Ent.of_eq rfl | refine Ent.cells ?_)) .nil)) fn52) rfl ?_
    refine lx (op_pick_and rfl rfl) rfl ?_
    refine lx (op_move rfl) rfl ?_
    refine lxs rfl rfl rfl guard_eq (.cons (t := 1) rfl (fun _ => Ent.refl _) .nil) (op_fieldAddr rfl fl91_6 sz3) rfl ?_
    refine lxs rfl rfl rfl guard_eq (.cons (t := 33) rfl (fun h => entW h) .nil) (op_bload_one (m := 1) rfl rfl ag3 rfl) rfl ?_
    refine lxs rfl rfl rfl guard_eq (.cons (t := 34) rfl (fun h => entW h) .nil) (op_geq rfl rfl) rfl ?_
    refine lx (op_pick_and rfl rfl) rfl ?_
    refine lx (op_move rfl) rfl ?_
    refine lxs rfl rfl rfl guard_eq (.cons (t := 1) rfl (fun _ => Ent.refl _) .nil) (op_fieldAddr rfl fl91_7 sz3) rfl ?_
    refine lxs rfl rfl rfl guard_eq (.cons (t := 38) rfl (fun h => entW h) .nil) (op_bload_one (m := 1) rfl rfl ag3 rfl) rfl ?_
    refine lxs rfl rfl rfl guard_eq (.cons (t := 39) rfl (fun h => entW h) .nil) (op_geq rfl rfl) rfl ?_
    refine lx (op_pick_and rfl rfl) rfl ?_
    refine lx (op_move rfl) rfl ?_
    refine lxs rfl rfl rfl guard_eq (.cons (t := 1) rfl (fun _ => Ent.refl _) .nil) (op_fieldAddr rfl fl91_8 sz89) rfl ?_
    refine lxs rfl rfl rfl guard_eq (.cons (t := 43) rfl (fun h => entW h) .nil) (op_bload_one (m := 1) rfl rfl ag89 rfl) rfl ?_
    first | refine lxs rfl rfl rfl guard_eq (.cons (t := 44) rfl (fun h => entW h) .nil) (op_call (l := [(Go.Operand.tmp 44), (Go.Operand.func 55)]) (all54_ok o.senders hs.senders) (.cons rfl (.cons rfl .nil)) fn54) rfl ?_ | refine lxs rfl rfl rfl guard_eq (.cons (t := 44) rfl (fun h => entW h) .nil) (op_call (l := [(Go.Operand.tmp 44), (Go.Operand.func 55)]) (all54_ok o.senders hs.senders) (.ent rfl (by repeat (first | exact Ents.nil | refine Ents.cons ?_ ?_ | refine Ent.tup ?_ | refine Ent.agg ?_ | exact Ent.row _ _ _ _ | exact Ent.nil _ _ | exact Ent.func _ | exact Ent.refl _ | exact Ent.of_eq rfl | refine Ent.cells ?_)) (.ent rfl (by repeat (first | exact Ents.nil | refine Ents.cons ?_ ?_ | refine Ent.tup ?_ | refine Ent.agg ?_ | exact Ent.row _ _ _ _ | exact Ent.nil _ _ | exact Ent.func _ | exact Ent.refl _ | exact Ent.of_eq rfl | refine Ent.cells ?_)) .nil)) fn54) rfl ?_
    refine lx (op_pick_and rfl rfl) rfl ?_
    refine lx (op_move rfl) rfl ?_
    refine lxs rfl rfl rfl guard_eq (.cons (t := 1) rfl (fun _ => Ent.refl _) .nil) (op_fieldAddr rfl fl91_9 sz89) rfl ?_
    refine lxs rfl rfl rfl guard_eq (.cons (t := 48) rfl (fun h => entW h) .nil) (op_bload_one (m := 1) rfl rfl ag89 rfl) rfl ?_
    first | refine lxs rfl rfl rfl guard_eq (.cons (t := 49) rfl (fun h => entW h) .nil) (op_call (l := [(Go.Operand.tmp 49), (Go.Operand.func 55)]) (all54_ok o.receivers hs.receivers) (.cons rfl (.cons rfl .nil)) fn54) rfl ?_ | refine lxs rfl rfl rfl guard_eq (.cons (t := 49) rfl (fun h => entW h) .nil) (op_call (l := [(Go.Operand.tmp 49), (Go.Operand.func 55)]) (all54_ok o.receivers hs.receivers) (.ent rfl (by repeat (first | exact Ents.nil | refine Ents.cons ?_ ?_ | refine Ent.tup ?_ | refine Ent.agg ?_ | exact Ent.row _ _ _ _ | exact Ent.nil _ _ | exact Ent.func _ | exact Ent.refl _ | exact Ent.of_eq rfl | refine Ent.cells ?_)) (.ent rfl (by repeat (first | exact Ents.nil | refine Ents.cons ?_ ?_ | refine Ent.tup ?_ | refine Ent.agg ?_ | exact Ent.row _ _ _ _ | exact Ent.nil _ _ | exact Ent.func _ | exact Ent.refl _ | exact Ent.of_eq rfl | refine Ent.cells ?_)) .nil)) fn54) rfl ?_
    refine lx (op_pick_and rfl rfl) rfl ?_
    refine lx (op_assign rfl) rfl ?_
    refine lx_end ⟨by kernel_rfl, ?_⟩
    refine pe_then_normal ?_
    refine tr_sub hC (.cons (t := 2) rfl .nil) .nil rfl ?_
    refine tr_ret ?_
    refine pe_then_ret ?_
    refine pe_ret1 rfl hO rfl (.tmp rfl .nil) ?_
    rw [h]
    repeat (first | exact Ents.nil | refine Ents.cons ?_ ?_ | refine Ent.tup ?_ | refine Ent.agg ?_ | exact Ent.row _ _ _ _ | exact Ent.nil _ _ | exact Ent.func _ | exact Ent.refl _ | exact Ent.of_eq rfl | refine Ent.cells ?_)
  · (try simp only [Bool.and_eq_true, Bool.or_eq_true, Bool.and_eq_false_iff, Bool.or_eq_false_iff, decide_eq_true_eq, decide_eq_false_iff_not, Bool.not_eq_true', Bool.not_eq_false', List.length_map, ne_eq, Decidable.not_not, Int.not_lt, Int.not_le] at h4)
    have h := objF_d h4
    refine tr_skip ?_
    refine pe_then_normal ?_
    refine tr_sub hC (.cons (t := 1) rfl .nil) (.cons (t := 1) rfl .nil) rfl ?_
    refine tr_seq ?_
    refine tr_region (fun N3 hN => ?_)
    refine lx (op_fieldAddr rfl fl91_1 sz33) rfl ?_
    refine lx (op_bload_one (m := 1) rfl rfl ag33 rfl) rfl ?_
    first | refine lx (op_len rfl el33) rfl ?_ | refine lx (op_len_row rfl el33) rfl ?_ | refine lx (op_len_mv rfl el33) rfl ?_ | refine lx (op_len_nil rfl el33) rfl ?_
    refine lx (op_leq rfl rfl) rfl ?_
    refine lx (op_move rfl) rfl ?_
    refine lxs rfl rfl rfl guard_eq (.cons (t := 1) rfl (fun _ => Ent.refl _) .nil) (op_fieldAddr rfl fl91_1 sz33) rfl ?_
    refine lxs rfl rfl rfl guard_eq (.cons (t := 57) rfl (fun h => entW h) .nil) (op_bload_one (m := 1) rfl rfl ag33 rfl) rfl ?_
    first | refine lxs rfl rfl rfl guard_eq (.cons (t := 58) rfl (fun h => entW h) .nil) (op_call (l := [(Go.Operand.tmp 58), (Go.Operand.func 53)]) (all52_ok o.cells hs.cells) (.cons rfl (.cons rfl .nil)) fn52) rfl ?_ | refine lxs rfl rfl rfl guard_eq (.cons (t := 58) rfl (fun h => entW h) .nil) (op_call (l := [(Go.Operand.tmp 58), (Go.Operand.func 53)]) (all52_ok o.cells hs.cells) (.ent rfl (by repeat (first | exact Ents.nil | refine Ents.cons ?_ ?_ | refine Ent.tup ?_ | refine Ent.agg ?_ | exact Ent.row _ _ _ _ | exact Ent.nil _ _ | exact Ent.func _ | exact Ent.refl _ | exact Ent.of_eq rfl | refine Ent.cells ?_)) (.ent rfl (by repeat (first | exact Ents.nil | refine Ents.cons ?_ ?_ | refine Ent.tup ?_ | refine Ent.agg ?_ | exact Ent.row _ _ _ _ | exact Ent.nil _ _ | exact Ent.func _ | exact Ent.refl _ | exact Ent.of_eq rfl | refine Ent.cells ?_)) .nil)) fn52) rfl ?_
    refine lx (op_pick_and rfl rfl) rfl ?_
    refine lx (op_move rfl) rfl ?_
    refine lxs rfl rfl rfl guard_eq (.cons (t := 1) rfl (fun _ => Ent.refl _) .nil) (op_fieldAddr rfl fl91_3 sz3) rfl ?_
    refine lxs rfl rfl rfl guard_eq (.cons (t := 62) rfl (fun h => entW h) .nil) (op_bload_one (m := 1) rfl rfl ag3 rfl) rfl ?_
    refine lxs rfl rfl rfl guard_eq (.cons (t := 63) rfl (fun h => entW h) .nil) (op_eql rfl rfl) rfl ?_
    refine lx (op_pick_and rfl rfl) rfl ?_
    refine lx (op_move rfl) rfl ?_
    refine lxs rfl rfl rfl guard_eq (.cons (t := 1) rfl (fun _ => Ent.refl _) .nil) (op_fieldAddr rfl fl91_4 sz33) rfl ?_
    refine lxs rfl rfl rfl guard_eq (.cons (t := 67) rfl (fun h => entW h) .nil) (op_bload_one (m := 1) rfl rfl ag33 rfl) rfl ?_
    first | refine lxs rfl rfl rfl guard_eq (.cons (t := 68) rfl (fun h => entW h) .nil) (op_len rfl el33) rfl ?_ | refine lxs rfl rfl rfl guard_eq (.cons (t := 68) rfl (fun h => entW h) .nil) (op_len_row rfl el33) rfl ?_ | refine lxs rfl rfl rfl guard_eq (.cons (t := 68) rfl (fun h => entW h) .nil) (op_len_mv rfl el33) rfl ?_ | refine lxs rfl rfl rfl guard_eq (.cons (t := 68) rfl (fun h => entW h) .nil) (op_len_nil rfl el33) rfl ?_
    refine lxs rfl rfl rfl guard_eq (.cons (t := 69) rfl (fun h => entW h) .nil) (op_eql rfl rfl) rfl ?_
    refine lx (op_pick_and rfl rfl) rfl ?_
    refine lx (op_move rfl) rfl ?_
    refine lxs rfl rfl rfl guard_eq (.cons (t := 1) rfl (fun _ => Ent.refl _) .nil) (op_fieldAddr rfl fl91_5 sz4) rfl ?_
    refine lxs rfl rfl rfl guard_eq (.cons (t := 73) rfl (fun h => entW h) .nil) (op_bload_one (m := 1) rfl rfl ag4 rfl) rfl ?_
    first | refine lxs rfl rfl rfl guard_eq (.cons (t := 74) rfl (fun h => entW h) .nil) (op_not rfl) rfl ?_ | refine lxs rfl rfl rfl guard_eq (.cons (t := 74) rfl (fun h => entW h) .nil) (op_not_b rfl) rfl ?_
    refine lx (op_pick_and rfl rfl) rfl ?_
    refine lx (op_move rfl) rfl ?_
    refine lxs rfl rfl rfl guard_eq (.cons (t := 1) rfl (fun _ => Ent.refl _) .nil) (op_fieldAddr rfl fl91_6 sz3) rfl ?_
    refine lxs rfl rfl rfl guard_eq (.cons (t := 78) rfl (fun h => entW h) .nil) (op_bload_one (m := 1) rfl rfl ag3 rfl) rfl ?_
    refine lxs rfl rfl rfl guard_eq (.cons (t := 79) rfl (fun h => entW h) .nil) (op_eql rfl rfl) rfl ?_
    refine lx (op_pick_and rfl rfl) rfl ?_
    refine lx (op_move rfl) rfl ?_
    refine lxs rfl rfl rfl guard_eq (.cons (t := 1) rfl (fun _ => Ent.refl _) .nil) (op_fieldAddr rfl fl91_7 sz3) rfl ?_
    refine lxs rfl rfl rfl guard_eq (.cons (t := 83) rfl (fun h => entW h) .nil) (op_bload_one (m := 1) rfl rfl ag3 rfl) rfl ?_
    refine lxs rfl rfl rfl guard_eq (.cons (t := 84) rfl (fun h => entW h) .nil) (op_eql rfl rfl) rfl ?_
    refine lx (op_pick_and rfl rfl) rfl ?_
    refine lx (op_move rfl) rfl ?_
    refine lxs rfl rfl rfl guard_eq (.cons (t := 1) rfl (fun _ => Ent.refl _) .nil) (op_fieldAddr rfl fl91_8 sz89) rfl ?_
    refine lxs rfl rfl rfl guard_eq (.cons (t := 88) rfl (fun h => entW h) .nil) (op_bload_one (m := 1) rfl rfl ag89 rfl) rfl ?_
    first | refine lxs rfl rfl rfl guard_eq (.cons (t := 89) rfl (fun h => entW h) .nil) (op_len rfl el89) rfl ?_ | refine lxs rfl rfl rfl guard_eq (.cons (t := 89) rfl (fun h => entW h) .nil) (op_len_row rfl el89) rfl ?_ | refine lxs rfl rfl rfl guard_eq (.cons (t := 89) rfl (fun h => entW h) .nil) (op_len_mv rfl el89) rfl ?_ | refine lxs rfl rfl rfl guard_eq (.cons (t := 89) rfl (fun h => entW h) .nil) (op_len_nil rfl el89) rfl ?_
    refine lxs rfl rfl rfl guard_eq (.cons (t := 90) rfl (fun h => entW h) .nil) (op_eql rfl rfl) rfl ?_
    refine lx (op_pick_and rfl rfl) rfl ?_
    refine lx (op_move rfl) rfl ?_
    refine lxs rfl rfl rfl guard_eq (.cons (t := 1) rfl (fun _ => Ent.refl _) .nil) (op_fieldAddr rfl fl91_9 sz89) rfl ?_
    refine lxs rfl rfl rfl guard_eq (.cons (t := 94) rfl (fun h => entW h) .nil) (op_bload_one (m := 1) rfl rfl ag89 rfl) rfl ?_
    first | refine lxs rfl rfl rfl guard_eq (.cons (t := 95) rfl (fun h => entW h) .nil) (op_len rfl el89) rfl ?_ | refine lxs rfl rfl rfl guard_eq (.cons (t := 95) rfl (fun h => entW h) .nil) (op_len_row rfl el89) rfl ?_ | refine lxs rfl rfl rfl guard_eq (.cons (t := 95) rfl (fun h => entW h) .nil) (op_len_mv rfl el89) rfl ?_ | refine lxs rfl rfl rfl guard_eq (.cons (t := 95) rfl (fun h => entW h) .nil) (op_len_nil rfl el89) rfl ?_
    refine lxs rfl rfl rfl guard_eq (.cons (t := 96) rfl (fun h => entW h) .nil) (op_eql rfl rfl) rfl ?_
    refine lx (op_pick_and rfl rfl) rfl ?_
    refine lx (op_assign rfl) rfl ?_
    refine lx_end ⟨by kernel_rfl, ?_⟩
    refine pe_then_normal ?_
    refine tr_sub hC (.cons (t := 2) rfl .nil) .nil rfl ?_
    refine tr_ret ?_
    refine pe_ret1 rfl hO rfl (.tmp rfl .nil) ?_
    rw [h]
    repeat (first | exact Ents.nil | refine Ents.cons ?_ ?_ | refine Ent.tup ?_ | refine Ent.agg ?_ | exact Ent.row _ _ _ _ | exact Ent.nil _ _ | exact Ent.func _ | exact Ent.refl _ | exact Ent.of_eq rfl | refine Ent.cells ?_)
theorem hValid_ok (xs : List Ob) (hx : xs.length ≤ 9223372036854775807) (hb : ∀ o ∈ xs, BdO 9223372036854775807 o) : FnP Try.prog 50 [slP Ob.ps 10 xs] (eqP (.bool (validF xs))) := by
  refine fn_pure' Try.func50 rfl Try.ntmps50 rfl ?_
  intro σ0 M ex Rf R hC hO
  simp only [frameOf, tokOf]
  refine tr_seq ?_
  refine tr_region (fun N0 hN => ?_)
  refine lx (op_assign rfl) rfl ?_
  refine lx_end ⟨by kernel_rfl, ?_⟩
  refine pe_then_normal ?_
  refine tr_sub hC (.cons (t := 0) rfl .nil) .nil rfl ?_
  refine tr_seq ?_
  refine tr_region (fun N1 hN => ?_)
  refine lx (op_assign rfl) rfl ?_
  refine lx_end ⟨by kernel_rfl, ?_⟩
  refine pe_then_normal ?_
  refine tr_sub hC (.cons (t := 0) rfl (.cons (t := 3) rfl .nil)) .nil rfl ?_
  refine tr_seq ?_
  refine tr_seq ?_
  refine tr_region (fun N2 hN => ?_)
  refine lx (op_move rfl) rfl ?_
  first | refine lx (op_len rfl el92) rfl ?_ | refine lx (op_len_row rfl el92) rfl ?_ | refine lx (op_len_mv rfl el92) rfl ?_ | refine lx (op_len_nil rfl el92) rfl ?_
  refine lx (op_move rfl) rfl ?_
  refine lx_end ⟨by kernel_rfl, ?_⟩
  refine pe_then_normal ?_
  refine tr_sub hC (.cons (t := 3) rfl (.cons (t := 6) rfl (.cons (t := 7) rfl (.cons (t := 8) rfl .nil)))) .nil rfl ?_
  refine tr_block ?_
  refine tr_loopK (α := {zz : Nat × Int // zz.1 ≤ xs.length ∧ vfrom zz.2 (xs.drop zz.1) = validF xs}) (⟨(0, -1), Nat.zero_le _, rfl⟩) (fun zz => [(3, eqP (.int .i64 zz.1.2)), (8, eqP (.int .i64 (zz.1.1 : Int)))]) (fun zz => []) (fun zz => xs.length - zz.1.1) hC (.cons (t := 6) rfl (.cons (t := 7) rfl .nil)) .nil rfl ?_ ?_ (fun zz => ?_)
  · try dsimp only [List.cons_append, List.nil_append]
    first | refine SubF.cons rfl ?_ | (refine SubF.ent rfl ?_ ?_; · repeat (first | exact Ents.nil | refine Ents.cons ?_ ?_ | refine Ent.tup ?_ | refine Ent.agg ?_ | exact Ent.row _ _ _ _ | exact Ent.nil _ _ | exact Ent.func _ | exact Ent.refl _ | exact Ent.of_eq rfl | refine Ent.cells ?_))
    first | refine SubF.cons rfl ?_ | (refine SubF.ent rfl ?_ ?_; · repeat (first | exact Ents.nil | refine Ents.cons ?_ ?_ | refine Ent.tup ?_ | refine Ent.agg ?_ | exact Ent.row _ _ _ _ | exact Ent.nil _ _ | exact Ent.func _ | exact Ent.refl _ | exact Ent.of_eq rfl | refine Ent.cells ?_))
    exact SubF.nil
  · try dsimp only [List.cons_append, List.nil_append]
    repeat (first | exact SubL.nil | refine SubL.cons rfl ?_)
  · obtain ⟨⟨k, last⟩, hk1, hk2⟩ := zz
    try dsimp only at hk1
    try dsimp only at hk2
    dsimp only [List.cons_append, List.nil_append]
    refine tr_seq ?_
    refine tr_region (fun N3 hN => ?_)
    refine lx (op_lss rfl rfl) rfl ?_
    refine lx_end ⟨by kernel_rfl, ?_⟩
    refine pe_then_normal ?_
    refine tr_sub hC (.cons (t := 3) rfl (.cons (t := 6) rfl (.cons (t := 7) rfl (.cons (t := 8) rfl (.cons (t := 9) rfl .nil))))) .nil rfl ?_
    refine tr_seq ?_
    refine tr_cond rfl (fun h9 => ?_) (fun h9 => ?_)
    · (try simp only [Bool.and_eq_true, Bool.or_eq_true, Bool.and_eq_false_iff, Bool.or_eq_false_iff, decide_eq_true_eq, decide_eq_false_iff_not, Bool.not_eq_true', Bool.not_eq_false', List.length_map, ne_eq, Decidable.not_not, Int.not_lt, Int.not_le] at h9)
      have hbk := hb _ (List.getElem_mem (by omega : k < xs.length))
      refine tr_skip ?_
      refine pe_then_normal ?_
      refine tr_sub hC (.cons (t := 3) rfl (.cons (t := 6) rfl (.cons (t := 7) rfl (.cons (t := 8) rfl .nil)))) .nil rfl ?_
      refine tr_seq ?_
      refine tr_block ?_
      refine tr_seq ?_
      refine tr_region (fun N4 hN => ?_)
      refine lx (op_index rfl rfl el92 sz91 rfl (List.getElem?_eq_getElem (by omega : k < xs.length))) rfl ?_
      first | refine lx (op_load_all rfl ag91 sz91) rfl ?_ | refine lx (op_load_agg rfl ag91 sz91 rfl) rfl ?_
      refine lxn (op_alloc (m := 5) (k := 5) (ps := [eqP (.int .i64 0), eqP (.slice none 0 0), eqP (.bool false), eqP (.int .i64 0), eqP (.slice none 0 0), eqP (.bool false), eqP (.int .i64 0), eqP (.int .i64 0), eqP (.slice none 0 0), eqP (.slice none 0 0)]) ze91 rfl rfl (by first | exact hC.low _ (by decide) | rfl)) rfl ?_
      refine lxr (op_store_all (m := 5) rfl rfl rfl (.agg rfl) sz91 rfl) rfl ?_
      refine lx_end ⟨by kernel_rfl, ?_⟩
      refine pe_then_normal ?_
      refine tr_sub hC (.cons (t := 3) rfl (.cons (t := 5) rfl (.cons (t := 6) rfl (.cons (t := 7) rfl (.cons (t := 8) rfl .nil))))) (.cons (t := 5) rfl .nil) rfl ?_
      refine tr_seq ?_
      refine tr_seq ?_
      refine tr_region (fun N5 hN => ?_)
      refine lx (op_fieldAddr rfl fl91_0 sz3) rfl ?_
      refine lx (op_bload_one (m := 5) rfl rfl ag3 rfl) rfl ?_
      refine lx (op_move rfl) rfl ?_
      refine lx (op_leq rfl rfl) rfl ?_
      refine lx (op_move rfl) rfl ?_
      refine lxs rfl rfl rfl guard_eq (.cons (t := 5) rfl (fun _ => Ent.refl _) .nil) (op_bload (m := 5) rfl rfl ag91 sz91) rfl ?_
      first | refine lxs rfl rfl rfl guard_eq (.cons (t := 17) rfl (fun h => entW h) .nil) (op_call (l := [(Go.Operand.tmp 17)]) (object_ok xs[k] hbk) (.cons rfl .nil) fn51) rfl ?_ | refine lxs rfl rfl rfl guard_eq (.cons (t := 17) rfl (fun h => entW h) .nil) (op_call (l := [(Go.Operand.tmp 17)]) (object_ok xs[k] hbk) (.ent rfl (by repeat (first | exact Ents.nil | refine Ents.cons ?_ ?_ | refine Ent.tup ?_ | refine Ent.agg ?_ | exact Ent.row _ _ _ _ | exact Ent.nil _ _ | exact Ent.func _ | exact Ent.refl _ | exact Ent.of_eq rfl | refine Ent.cells ?_)) .nil) fn51) rfl ?_
      first | refine lxs rfl rfl rfl guard_eq (.cons (t := 18) rfl (fun h => entW h) .nil) (op_not rfl) rfl ?_ | refine lxs rfl rfl rfl guard_eq (.cons (t := 18) rfl (fun h => entW h) .nil) (op_not_b rfl) rfl ?_
      refine lx (op_pick_or rfl rfl) rfl ?_
      refine lx_end ⟨by kernel_rfl, ?_⟩
      refine pe_then_normal ?_
      refine tr_sub hC (.cons (t := 5) rfl (.cons (t := 6) rfl (.cons (t := 7) rfl (.cons (t := 8) rfl (.cons (t := 20) rfl .nil))))) (.cons (t := 5) rfl .nil) rfl ?_
      refine tr_cond rfl (fun h20 => ?_) (fun h20 => ?_)
      · have hbad := vfrom_bad (by omega) hk2 h20
        refine tr_seq ?_
        refine tr_region (fun N6 hN => ?_)
        refine lx (op_assign rfl) rfl ?_
        refine lx_end ⟨by kernel_rfl, ?_⟩
        refine pe_then_normal ?_
        refine tr_sub hC (.cons (t := 2) rfl .nil) .nil rfl ?_
        refine tr_ret ?_
        refine pe_then_ret ?_
        refine pe_block_ret ?_
        refine pe_then_ret ?_
        refine pe_then_ret ?_
        refine pe_block_ret ?_
        refine pe_then_ret ?_
        refine pe_ret1 rfl hO rfl (.tmp rfl .nil) ?_
        exact entB hbad.symm
      · have hgo := h20
        refine tr_skip ?_
        refine pe_then_normal ?_
        refine tr_sub hC (.cons (t := 5) rfl (.cons (t := 6) rfl (.cons (t := 7) rfl (.cons (t := 8) rfl .nil)))) (.cons (t := 5) rfl .nil) rfl ?_
        refine tr_region (fun N7 hN => ?_)
        refine lx (op_fieldAddr rfl fl91_0 sz3) rfl ?_
        refine lx (op_bload_one (m := 5) rfl rfl ag3 rfl) rfl ?_
        refine lx (op_assign rfl) rfl ?_
        refine lx_end ⟨by kernel_rfl, ?_⟩
        refine pe_block_normal ?_
        refine pe_then_normal ?_
        refine tr_sub hC (.cons (t := 3) rfl (.cons (t := 6) rfl (.cons (t := 7) rfl (.cons (t := 8) rfl .nil)))) .nil rfl ?_
        refine tr_region (fun N8 hN => ?_)
        refine lx (op_add rfl rfl (by omega)) rfl ?_
        refine lx (op_move rfl) rfl ?_
        refine lx_end ⟨by kernel_rfl, ?_⟩
        refine pe_round (⟨(k + 1, xs[k].id), by dsimp only; omega, vfrom_next (by omega) hk2 h20⟩) (by dsimp only; omega) (pe_st hC ?_ ?_ rfl)
        · try dsimp only [List.cons_append, List.nil_append]
          first | refine SubF.cons rfl ?_ | (refine SubF.ent rfl ?_ ?_; · repeat (first | exact Ents.nil | refine Ents.cons ?_ ?_ | refine Ent.tup ?_ | refine Ent.agg ?_ | exact Ent.row _ _ _ _ | exact Ent.nil _ _ | exact Ent.func _ | exact Ent.refl _ | exact Ent.of_eq rfl | refine Ent.cells ?_))
          first | refine SubF.cons rfl ?_ | (refine SubF.ent rfl ?_ ?_; · repeat (first | exact Ents.nil | refine Ents.cons ?_ ?_ | refine Ent.tup ?_ | refine Ent.agg ?_ | exact Ent.row _ _ _ _ | exact Ent.nil _ _ | exact Ent.func _ | exact Ent.refl _ | exact Ent.of_eq rfl | refine Ent.cells ?_))
          first | refine SubF.cons rfl ?_ | (refine SubF.ent rfl ?_ ?_; · repeat (first | exact Ents.nil | refine Ents.cons ?_ ?_ | refine Ent.tup ?_ | refine Ent.agg ?_ | exact Ent.row _ _ _ _ | exact Ent.nil _ _ | exact Ent.func _ | exact Ent.refl _ | exact Ent.of_eq rfl | refine Ent.cells ?_))
          first | refine SubF.cons rfl ?_ | (refine SubF.ent rfl ?_ ?_; · repeat (first | exact Ents.nil | refine Ents.cons ?_ ?_ | refine Ent.tup ?_ | refine Ent.agg ?_ | exact Ent.row _ _ _ _ | exact Ent.nil _ _ | exact Ent.func _ | exact Ent.refl _ | exact Ent.of_eq rfl | refine Ent.cells ?_))
          exact SubF.nil
        · try dsimp only [List.cons_append, List.nil_append]
          repeat (first | exact SubL.nil | refine SubL.cons rfl ?_)
    · (try simp only [Bool.and_eq_true, Bool.or_eq_true, Bool.and_eq_false_iff, Bool.or_eq_false_iff, decide_eq_true_eq, decide_eq_false_iff_not, Bool.not_eq_true', Bool.not_eq_false', List.length_map, ne_eq, Decidable.not_not, Int.not_lt, Int.not_le] at h9)
      have hfin := vfrom_end (by omega) hk2
      refine tr_exit ?_
      refine pe_then_exit ?_
      refine pe_then_exit ?_
      refine pe_block_eq ?_
      refine pe_then_normal ?_
      refine tr_sub hC .nil .nil rfl ?_
      refine tr_seq ?_
      refine tr_region (fun N9 hN => ?_)
      refine lx (op_assign rfl) rfl ?_
      refine lx_end ⟨by kernel_rfl, ?_⟩
      refine pe_then_normal ?_
      refine tr_sub hC (.cons (t := 2) rfl .nil) .nil rfl ?_
      refine tr_ret ?_
      refine pe_ret1 rfl hO rfl (.tmp rfl .nil) ?_
      exact entB hfin.symm
theorem one_ok (xs : List V) (hx : xs.length ≤ 64) : FnP Try.prog 50 [slP Ob.ps 10 [{ ob0 with cells := xs }]] (eqP (.bool (validF [{ ob0 with cells := xs }]))) :=
  hValid_ok _ (by simp) fun o ho => by
    rw [List.mem_singleton] at ho
    subst ho
    exact ⟨by show xs.length ≤ _; omega, Nat.zero_le _, Nat.zero_le _, Nat.zero_le _⟩
theorem values_small (xs : List V) (hx : xs.length ≤ 64) : FnP Try.prog 44 [slP vp 3 xs] (eqP (.bool (xs.all vval))) := by
  refine fn_pure' Try.func44 rfl Try.ntmps44 rfl ?_
  intro σ0 M ex Rf R hC hO
  simp only [frameOf, tokOf]
  refine tr_seq ?_
  refine tr_region (fun N0 hN => ?_)
  refine lx (op_assign rfl) rfl ?_
  refine lx_end ⟨by kernel_rfl, ?_⟩
  refine pe_then_normal ?_
  refine tr_sub hC (.cons (t := 0) rfl .nil) .nil rfl ?_
  refine tr_seq ?_
  refine tr_block ?_
  refine tr_loopK (α := {zz : Nat // zz = 0}) (⟨(0), rfl⟩) (fun zz => [(0, slP vp 3 xs)]) (fun zz => []) (fun zz => 0) hC .nil .nil rfl ?_ ?_ (fun zz => ?_)
  · try dsimp only [List.cons_append, List.nil_append]
    first | refine SubF.cons rfl ?_ | (refine SubF.ent rfl ?_ ?_; · repeat (first | exact Ents.nil | refine Ents.cons ?_ ?_ | refine Ent.tup ?_ | refine Ent.agg ?_ | exact Ent.row _ _ _ _ | exact Ent.nil _ _ | exact Ent.func _ | exact Ent.refl _ | exact Ent.of_eq rfl | refine Ent.cells ?_))
    exact SubF.nil
  · try dsimp only [List.cons_append, List.nil_append]
    repeat (first | exact SubL.nil | refine SubL.cons rfl ?_)
  · obtain ⟨k, hk0⟩ := zz
    dsimp only [List.cons_append, List.nil_append]
    refine tr_seq ?_
    refine tr_seq ?_
    refine tr_region (fun N1 hN => ?_)
    refine lx (op_move rfl) rfl ?_
    first | refine lx (op_len rfl el33) rfl ?_ | refine lx (op_len_row rfl el33) rfl ?_ | refine lx (op_len_mv rfl el33) rfl ?_ | refine lx (op_len_nil rfl el33) rfl ?_
    refine lx (op_gtr rfl rfl) rfl ?_
    refine lx_end ⟨by kernel_rfl, ?_⟩
    refine pe_then_normal ?_
    refine tr_sub hC (.cons (t := 0) rfl (.cons (t := 5) rfl .nil)) .nil rfl ?_
    refine tr_cond rfl (fun h5 => ?_) (fun h5 => ?_)
    · (try simp only [Bool.and_eq_true, Bool.or_eq_true, Bool.and_eq_false_iff, Bool.or_eq_false_iff, decide_eq_true_eq, decide_eq_false_iff_not, Bool.not_eq_true', Bool.not_eq_false', List.length_map, ne_eq, Decidable.not_not, Int.not_lt, Int.not_le] at h5)
      omega
    · (try simp only [Bool.and_eq_true, Bool.or_eq_true, Bool.and_eq_false_iff, Bool.or_eq_false_iff, decide_eq_true_eq, decide_eq_false_iff_not, Bool.not_eq_true', Bool.not_eq_false', List.length_map, ne_eq, Decidable.not_not, Int.not_lt, Int.not_le] at h5)
      refine tr_exit ?_
      refine pe_then_exit ?_
      refine pe_then_exit ?_
      refine pe_block_eq ?_
      refine pe_then_normal ?_
      refine tr_sub hC (.cons (t := 0) rfl .nil) .nil rfl ?_
      refine tr_seq ?_
      refine tr_region (fun N5 hN => ?_)
      refine lx (op_move rfl) rfl ?_
      refine lx (OpJ.ent (op_build (qs := [_, _, _, _, _, _, _, _, _, _]) (parts := [(1, (Go.Operand.tmp 12))]) ze91 rfl rfl fs91 (.cons rfl (.one (by (first | exact One.eq rfl | exact One.mv _ _ _ _ _ | exact One.cl _ _ _ | exact One.map _ | exact One.sl _ _ _ | exact One.row _ _ _ _ | exact One.msl _ _ _ _ | exact One.ptr _ _ | exact One.b _ | exact One.cells _))) fl91_1 sz33 rfl .nil) rfl rfl) (show Ent _ (aggP (Ob.ps { ob0 with cells := xs })) from (by repeat (first | exact Ents.nil | refine Ents.cons ?_ ?_ | refine Ent.tup ?_ | refine Ent.agg ?_ | exact Ent.row _ _ _ _ | exact Ent.nil _ _ | exact Ent.func _ | exact Ent.refl _ | exact Ent.of_eq rfl | refine Ent.cells ?_)))) rfl ?_
      refine lx (op_buildSlice (f := Ob.ps) (xs := [{ ob0 with cells := xs }]) (l := [(0, (Go.Operand.tmp 13))]) ze91 rfl rfl (by decide) el92 sz91 Ob.len (.cons rfl (.agg rfl) .nil) rfl (by decide)) rfl ?_
      first | refine lx (op_call (l := [(Go.Operand.tmp 14)]) (one_ok xs (by omega)) (.cons rfl .nil) fn50) rfl ?_ | refine lx (op_call (l := [(Go.Operand.tmp 14)]) (one_ok xs (by omega)) (.ent rfl (by repeat (first | exact Ents.nil | refine Ents.cons ?_ ?_ | refine Ent.tup ?_ | refine Ent.agg ?_ | exact Ent.row _ _ _ _ | exact Ent.nil _ _ | exact Ent.func _ | exact Ent.refl _ | exact Ent.of_eq rfl | refine Ent.cells ?_)) .nil) fn50) rfl ?_
      refine lx (op_assign rfl) rfl ?_
      refine lx_end ⟨by kernel_rfl, ?_⟩
      refine pe_then_normal ?_
      refine tr_sub hC (.cons (t := 2) rfl .nil) .nil rfl ?_
      refine tr_ret ?_
      refine pe_ret1 rfl hO rfl (.tmp rfl .nil) ?_
      exact entB (one_obj hx)
end Go.Proofs.Ythiknhmoefbanaa


set_option linter.unusedVariables false
set_option linter.unusedSimpArgs false
namespace Go.Proofs.Ythiknhmoefbanaa
open Go.AL Go.Ch Go.Hp Go.RowKit
theorem ag64 : aggB Try.prog 64 = some false := by kernel_rfl
theorem ag66 : aggB Try.prog 66 = some true := by kernel_rfl
theorem el64 : elemB Try.prog 64 = some 80 := by kernel_rfl
theorem fl66_3 : fldB Try.prog 66 3 = some (3, 64) := by kernel_rfl
theorem fn37 : fnB Try.prog 37 = true := by kernel_rfl
theorem fn44 : fnB Try.prog 44 = true := by kernel_rfl
theorem sz64 : sizeB Try.prog 64 = some 1 := by kernel_rfl
theorem ze66 : zeroB Try.prog 66 = some (some (.agg #[.string ⟨#[]⟩, .int .i64 0, .int .i64 0, .slice none 0 0])) := by kernel_rfl
theorem values_ok (xs : List V) (hx : xs.length ≤ 9223372036854775807) : FnP Try.prog 44 [slP vp 3 xs] (eqP (.bool (xs.all vval))) := by
  refine fn_pure' Try.func44 rfl Try.ntmps44 rfl ?_
  intro σ0 M ex Rf R hC hO
  simp only [frameOf, tokOf]
  refine tr_seq ?_
  refine tr_region (fun N0 hN => ?_)
  refine lx (op_assign rfl) rfl ?_
  refine lx_end ⟨by kernel_rfl, ?_⟩
  refine pe_then_normal ?_
  refine tr_sub hC (.cons (t := 0) rfl .nil) .nil rfl ?_
  refine tr_seq ?_
  refine tr_block ?_
  refine tr_loopK (α := {zz : Nat // 64 * zz ≤ xs.length ∧ (xs.drop (64 * zz)).all vval = xs.all vval}) (⟨(0), Nat.zero_le _, rfl⟩) (fun zz => [(0, slP vp 3 (xs.drop (64 * zz.1)))]) (fun zz => []) (fun zz => xs.length - 64 * zz.1) hC .nil .nil rfl ?_ ?_ (fun zz => ?_)
  · try dsimp only [List.cons_append, List.nil_append]
    first | refine SubF.cons rfl ?_ | (refine SubF.ent rfl ?_ ?_; · repeat (first | exact Ents.nil | refine Ents.cons ?_ ?_ | refine Ent.tup ?_ | refine Ent.agg ?_ | exact Ent.row _ _ _ _ | exact Ent.nil _ _ | exact Ent.func _ | exact Ent.refl _ | exact Ent.of_eq rfl | refine Ent.cells ?_))
    exact SubF.nil
  · try dsimp only [List.cons_append, List.nil_append]
    repeat (first | exact SubL.nil | refine SubL.cons rfl ?_)
  · obtain ⟨k, hk1, hk2⟩ := zz
    dsimp only [List.cons_append, List.nil_append]
    refine tr_seq ?_
    refine tr_seq ?_
    refine tr_region (fun N1 hN => ?_)
    refine lx (op_move rfl) rfl ?_
    first | refine lx (op_len rfl el33) rfl ?_ | refine lx (op_len_row rfl el33) rfl ?_ | refine lx (op_len_mv rfl el33) rfl ?_ | refine lx (op_len_nil rfl el33) rfl ?_
    refine lx (op_gtr rfl rfl) rfl ?_
    refine lx_end ⟨by kernel_rfl, ?_⟩
    refine pe_then_normal ?_
    refine tr_sub hC (.cons (t := 0) rfl (.cons (t := 5) rfl .nil)) .nil rfl ?_
    refine tr_cond rfl (fun h5 => ?_) (fun h5 => ?_)
    · (try simp only [Bool.and_eq_true, Bool.or_eq_true, Bool.and_eq_false_iff, Bool.or_eq_false_iff, decide_eq_true_eq, decide_eq_false_iff_not, Bool.not_eq_true', Bool.not_eq_false', List.length_map, ne_eq, Decidable.not_not, Int.not_lt, Int.not_le] at h5)
      have hl : (xs.drop (64 * k)).length = xs.length - 64 * k := List.length_drop ..
      rw [hl] at h5
      refine tr_skip ?_
      refine pe_then_normal ?_
      refine tr_sub hC (.cons (t := 0) rfl .nil) .nil rfl ?_
      refine tr_block ?_
      refine tr_seq ?_
      refine tr_seq ?_
      refine tr_region (fun N2 hN => ?_)
      refine lx (op_move rfl) rfl ?_
      refine lx (op_slice_h rfl rfl el33 sz43 (show (64 : Int) = ((64 : Nat) : Int) from rfl) (by omega)) rfl ?_
      first | refine lx (op_call (l := [(Go.Operand.tmp 7)]) (values_small ((xs.drop (64 * k)).take 64) (by simp; omega)) (.cons rfl .nil) fn44) rfl ?_ | refine lx (op_call (l := [(Go.Operand.tmp 7)]) (values_small ((xs.drop (64 * k)).take 64) (by simp; omega)) (.ent rfl (by repeat (first | exact Ents.nil | refine Ents.cons ?_ ?_ | refine Ent.tup ?_ | refine Ent.agg ?_ | exact Ent.row _ _ _ _ | exact Ent.nil _ _ | exact Ent.func _ | exact Ent.refl _ | exact Ent.of_eq rfl | refine Ent.cells ?_)) .nil) fn44) rfl ?_
      first | refine lx (op_not rfl) rfl ?_ | refine lx (op_not_b rfl) rfl ?_
      refine lx_end ⟨by kernel_rfl, ?_⟩
      refine pe_then_normal ?_
      refine tr_sub hC (.cons (t := 0) rfl (.cons (t := 9) rfl .nil)) .nil rfl ?_
      refine tr_cond rfl (fun h9 => ?_) (fun h9 => ?_)
      · (try simp only [Bool.and_eq_true, Bool.or_eq_true, Bool.and_eq_false_iff, Bool.or_eq_false_iff, decide_eq_true_eq, decide_eq_false_iff_not, Bool.not_eq_true', Bool.not_eq_false', List.length_map, ne_eq, Decidable.not_not, Int.not_lt, Int.not_le] at h9)
        have hbad := all64_bad h9 hk2
        refine tr_seq ?_
        refine tr_region (fun N3 hN => ?_)
        refine lx (op_assign rfl) rfl ?_
        refine lx_end ⟨by kernel_rfl, ?_⟩
        refine pe_then_normal ?_
        refine tr_sub hC (.cons (t := 2) rfl .nil) .nil rfl ?_
        refine tr_ret ?_
        refine pe_then_ret ?_
        refine pe_block_ret ?_
        refine pe_then_ret ?_
        refine pe_block_ret ?_
        refine pe_then_ret ?_
        refine pe_ret1 rfl hO rfl (.tmp rfl .nil) ?_
        exact entB hbad.symm
      · (try simp only [Bool.and_eq_true, Bool.or_eq_true, Bool.and_eq_false_iff, Bool.or_eq_false_iff, decide_eq_true_eq, decide_eq_false_iff_not, Bool.not_eq_true', Bool.not_eq_false', List.length_map, ne_eq, Decidable.not_not, Int.not_lt, Int.not_le] at h9)
        have hgo := all64_go (k := 64 * (k + 1)) h9 hk2 (by omega)
        refine tr_skip ?_
        refine pe_then_normal ?_
        refine tr_sub hC (.cons (t := 0) rfl .nil) .nil rfl ?_
        refine tr_region (fun N4 hN => ?_)
        refine lx (op_move rfl) rfl ?_
        refine lx (OpJ.ent (op_slice_l rfl rfl el33 sz43 (show (64 : Int) = ((64 : Nat) : Int) from rfl) (by omega)) (show Ent _ (slP vp 3 (xs.drop (64 * (k + 1)))) from (by rw [show xs.drop (64 * (k + 1)) = (xs.drop (64 * k)).drop 64 by rw [List.drop_drop]; rfl]; exact Ent.refl _))) rfl ?_
        refine lx (op_assign rfl) rfl ?_
        refine lx_end ⟨by kernel_rfl, ?_⟩
        refine pe_block_normal ?_
        refine pe_round (⟨(k + 1), by omega, hgo⟩) (by dsimp only; omega) (pe_st hC ?_ ?_ rfl)
        · try dsimp only [List.cons_append, List.nil_append]
          first | refine SubF.cons rfl ?_ | (refine SubF.ent rfl ?_ ?_; · repeat (first | exact Ents.nil | refine Ents.cons ?_ ?_ | refine Ent.tup ?_ | refine Ent.agg ?_ | exact Ent.row _ _ _ _ | exact Ent.nil _ _ | exact Ent.func _ | exact Ent.refl _ | exact Ent.of_eq rfl | refine Ent.cells ?_))
          exact SubF.nil
        · try dsimp only [List.cons_append, List.nil_append]
          repeat (first | exact SubL.nil | refine SubL.cons rfl ?_)
    · (try simp only [Bool.and_eq_true, Bool.or_eq_true, Bool.and_eq_false_iff, Bool.or_eq_false_iff, decide_eq_true_eq, decide_eq_false_iff_not, Bool.not_eq_true', Bool.not_eq_false', List.length_map, ne_eq, Decidable.not_not, Int.not_lt, Int.not_le] at h5)
      have hl : (xs.drop (64 * k)).length = xs.length - 64 * k := List.length_drop ..
      rw [hl] at h5
      have hfin := (one_obj (by omega : (xs.drop (64 * k)).length ≤ 64)).trans hk2
      refine tr_exit ?_
      refine pe_then_exit ?_
      refine pe_then_exit ?_
      refine pe_block_eq ?_
      refine pe_then_normal ?_
      refine tr_sub hC (.cons (t := 0) rfl .nil) .nil rfl ?_
      refine tr_seq ?_
      refine tr_region (fun N5 hN => ?_)
      refine lx (op_move rfl) rfl ?_
      refine lx (OpJ.ent (op_build (qs := [_, _, _, _, _, _, _, _, _, _]) (parts := [(1, (Go.Operand.tmp 12))]) ze91 rfl rfl fs91 (.cons rfl (.one (by (first | exact One.eq rfl | exact One.mv _ _ _ _ _ | exact One.cl _ _ _ | exact One.map _ | exact One.sl _ _ _ | exact One.row _ _ _ _ | exact One.msl _ _ _ _ | exact One.ptr _ _ | exact One.b _ | exact One.cells _))) fl91_1 sz33 rfl .nil) rfl rfl) (show Ent _ (aggP (Ob.ps { ob0 with cells := (xs.drop (64 * k)) })) from (by repeat (first | exact Ents.nil | refine Ents.cons ?_ ?_ | refine Ent.tup ?_ | refine Ent.agg ?_ | exact Ent.row _ _ _ _ | exact Ent.nil _ _ | exact Ent.func _ | exact Ent.refl _ | exact Ent.of_eq rfl | refine Ent.cells ?_)))) rfl ?_
      refine lx (op_buildSlice (f := Ob.ps) (xs := [{ ob0 with cells := (xs.drop (64 * k)) }]) (l := [(0, (Go.Operand.tmp 13))]) ze91 rfl rfl (by decide) el92 sz91 Ob.len (.cons rfl (.agg rfl) .nil) rfl (by decide)) rfl ?_
      first | refine lx (op_call (l := [(Go.Operand.tmp 14)]) (one_ok (xs.drop (64 * k)) (by omega)) (.cons rfl .nil) fn50) rfl ?_ | refine lx (op_call (l := [(Go.Operand.tmp 14)]) (one_ok (xs.drop (64 * k)) (by omega)) (.ent rfl (by repeat (first | exact Ents.nil | refine Ents.cons ?_ ?_ | refine Ent.tup ?_ | refine Ent.agg ?_ | exact Ent.row _ _ _ _ | exact Ent.nil _ _ | exact Ent.func _ | exact Ent.refl _ | exact Ent.of_eq rfl | refine Ent.cells ?_)) .nil) fn50) rfl ?_
      refine lx (op_assign rfl) rfl ?_
      refine lx_end ⟨by kernel_rfl, ?_⟩
      refine pe_then_normal ?_
      refine tr_sub hC (.cons (t := 2) rfl .nil) .nil rfl ?_
      refine tr_ret ?_
      refine pe_ret1 rfl hO rfl (.tmp rfl .nil) ?_
      exact entB hfin
theorem frame_nil (p : Pg) (f : Fm) (hb : BdF 9223372036854775807 f) : FnP Try.prog 37 [aggP p.ps, aggP f.ps, eqP (.pointer none)] (eqP (.bool (frmOK p none f))) := by
  have hbr := hb.regs
  have hbd := hb.defers
  refine fn_pure' Try.func37 rfl Try.ntmps37 rfl ?_
  intro σ0 M ex Rf R hC hO
  simp only [frameOf, tokOf]
  refine tr_seq ?_
  refine tr_region (fun N0 hN => ?_)
  refine lxn (op_box (m := 3) (k := 3) rfl (.agg rfl) (by first | exact hC.low _ (by decide) | rfl)) rfl ?_
  refine lxn (op_box (m := 4) (k := 4) rfl (.agg rfl) (by first | exact hC.low _ (by decide) | rfl)) rfl ?_
  refine lx (op_assign rfl) rfl ?_
  refine lx_end ⟨by kernel_rfl, ?_⟩
  refine pe_then_normal ?_
  refine tr_sub hC (.cons (t := 2) rfl (.cons (t := 3) rfl (.cons (t := 4) rfl .nil))) (.cons (t := 3) rfl (.cons (t := 4) rfl .nil)) rfl ?_
  refine tr_seq ?_
  refine tr_seq ?_
  refine tr_region (fun N1 hN => ?_)
  refine lx (op_fieldAddr rfl fl60_0 sz3) rfl ?_
  refine lx (op_bload_one (m := 4) rfl rfl ag3 rfl) rfl ?_
  refine lx (op_lss rfl rfl) rfl ?_
  refine lx (op_move rfl) rfl ?_
  refine lxs rfl rfl rfl guard_eq (.cons (t := 4) rfl (fun _ => Ent.refl _) .nil) (op_fieldAddr rfl fl60_0 sz3) rfl ?_
  refine lxs rfl rfl rfl guard_eq (.cons (t := 14) rfl (fun h => entW h) .nil) (op_bload_one (m := 4) rfl rfl ag3 rfl) rfl ?_
  refine lxs rfl rfl rfl guard_eq (.cons (t := 3) rfl (fun _ => Ent.refl _) .nil) (op_fieldAddr rfl fl26_0 sz22) rfl ?_
  refine lxs rfl rfl rfl guard_eq (.cons (t := 16) rfl (fun h => entW h) .nil) (op_bload_one (m := 3) rfl rfl ag22 rfl) rfl ?_
  first | refine lxs rfl rfl rfl guard_eq (.cons (t := 17) rfl (fun h => entW h) .nil) (op_len rfl el22) rfl ?_ | refine lxs rfl rfl rfl guard_eq (.cons (t := 17) rfl (fun h => entW h) .nil) (op_len_row rfl el22) rfl ?_ | refine lxs rfl rfl rfl guard_eq (.cons (t := 17) rfl (fun h => entW h) .nil) (op_len_mv rfl el22) rfl ?_ | refine lxs rfl rfl rfl guard_eq (.cons (t := 17) rfl (fun h => entW h) .nil) (op_len_nil rfl el22) rfl ?_
  refine lxs rfl rfl rfl guard_eq (.cons (t := 15) rfl (fun h => entW h) (.cons (t := 18) rfl (fun h => entW h) .nil)) (op_geq rfl rfl) rfl ?_
  refine lx (op_pick_or rfl rfl) rfl ?_
  refine lx_end ⟨by kernel_rfl, ?_⟩
  refine pe_then_normal ?_
  refine tr_sub hC (.cons (t := 2) rfl (.cons (t := 3) rfl (.cons (t := 4) rfl (.cons (t := 20) rfl .nil)))) (.cons (t := 3) rfl (.cons (t := 4) rfl .nil)) rfl ?_
  refine tr_cond rfl (fun h20 => ?_) (fun h20 => ?_)
  · (try simp only [Bool.and_eq_true, Bool.or_eq_true, Bool.and_eq_false_iff, Bool.or_eq_false_iff, decide_eq_true_eq, decide_eq_false_iff_not, Bool.not_eq_true', Bool.not_eq_false', List.length_map, ne_eq, Decidable.not_not, Int.not_lt, Int.not_le] at h20)
    have hno := frm_no1 (p := p) (b := none) (f := f) (by omega)
    refine tr_seq ?_
    refine tr_region (fun N2 hN => ?_)
    refine lx (op_assign rfl) rfl ?_
    refine lx_end ⟨by kernel_rfl, ?_⟩
    refine pe_then_normal ?_
    refine tr_sub hC (.cons (t := 6) rfl .nil) .nil rfl ?_
    refine tr_ret ?_
    refine pe_then_ret ?_
    refine pe_ret1 rfl hO rfl (.tmp rfl .nil) ?_
    rw [hno]
    repeat (first | exact Ents.nil | refine Ents.cons ?_ ?_ | refine Ent.tup ?_ | refine Ent.agg ?_ | exact Ent.row _ _ _ _ | exact Ent.nil _ _ | exact Ent.func _ | exact Ent.refl _ | exact Ent.of_eq rfl | refine Ent.cells ?_)
  · (try simp only [Bool.and_eq_true, Bool.or_eq_true, Bool.and_eq_false_iff, Bool.or_eq_false_iff, decide_eq_true_eq, decide_eq_false_iff_not, Bool.not_eq_true', Bool.not_eq_false', List.length_map, ne_eq, Decidable.not_not, Int.not_lt, Int.not_le] at h20)
    have h1 : 0 ≤ f.fn ∧ f.fn < (p.funcs.length : Int) := by omega
    refine tr_skip ?_
    refine pe_then_normal ?_
    refine tr_sub hC (.cons (t := 2) rfl (.cons (t := 3) rfl (.cons (t := 4) rfl .nil))) (.cons (t := 3) rfl (.cons (t := 4) rfl .nil)) rfl ?_
    refine tr_seq ?_
    refine tr_region (fun N3 hN => ?_)
    refine lx (op_fieldAddr rfl fl26_0 sz22) rfl ?_
    refine lx (op_bload_one (m := 3) rfl rfl ag22 rfl) rfl ?_
    refine lx (op_fieldAddr rfl fl60_0 sz3) rfl ?_
    refine lx (op_bload_one (m := 4) rfl rfl ag3 rfl) rfl ?_
    refine lx (op_index rfl rfl el22 sz66 (by omega : f.fn = ((f.fn.toNat : Nat) : Int)) (pfn_at (by omega) (by omega))) rfl ?_
    first | refine lx (op_load_all rfl ag66 sz66) rfl ?_ | refine lx (op_load_agg rfl ag66 sz66 rfl) rfl ?_ | refine lx (op_bload (m := 3) rfl rfl ag66 sz66) rfl ?_ | refine lx (op_bload (m := 4) rfl rfl ag66 sz66) rfl ?_ | refine lx (op_bload_part (m := 3) (qs := [_, _, _, _]) rfl rfl ag66 sz66 rfl rfl) rfl ?_ | refine lx (op_bload_part (m := 4) (qs := [_, _, _, _]) rfl rfl ag66 sz66 rfl rfl) rfl ?_
    refine lxn (op_alloc (m := 7) (k := 7) (ps := [eqP (.string ⟨#[]⟩), eqP (.int .i64 0), eqP (.int .i64 0), eqP (.slice none 0 0)]) ze66 rfl rfl (by first | exact hC.low _ (by decide) | rfl)) rfl ?_
    refine lxr (op_store_all (m := 7) rfl rfl rfl (.agg rfl) sz66 rfl) rfl ?_
    refine lx_end ⟨by kernel_rfl, ?_⟩
    refine pe_then_normal ?_
    refine tr_sub hC (.cons (t := 2) rfl (.cons (t := 3) rfl (.cons (t := 4) rfl (.cons (t := 7) rfl .nil)))) (.cons (t := 3) rfl (.cons (t := 4) rfl (.cons (t := 7) rfl .nil))) rfl ?_
    refine tr_seq ?_
    refine tr_seq ?_
    refine tr_region (fun N4 hN => ?_)
    refine lx (op_fieldAddr rfl fl60_2 sz33) rfl ?_
    refine lx (op_bload_one (m := 4) rfl rfl ag33 rfl) rfl ?_
    first | refine lx (op_len rfl el33) rfl ?_ | refine lx (op_len_row rfl el33) rfl ?_ | refine lx (op_len_mv rfl el33) rfl ?_ | refine lx (op_len_nil rfl el33) rfl ?_
    refine lx (op_fieldAddr rfl fl66_2 sz3) rfl ?_
    refine lx (op_bload_one (m := 7) rfl rfl ag3 rfl) rfl ?_
    refine lx (op_neq rfl rfl) rfl ?_
    refine lx (op_move rfl) rfl ?_
    refine lxs rfl rfl rfl guard_eq (.cons (t := 4) rfl (fun _ => Ent.refl _) .nil) (op_fieldAddr rfl fl60_1 sz3) rfl ?_
    refine lxs rfl rfl rfl guard_eq (.cons (t := 34) rfl (fun h => entW h) .nil) (op_bload_one (m := 4) rfl rfl ag3 rfl) rfl ?_
    refine lxs rfl rfl rfl guard_eq (.cons (t := 35) rfl (fun h => entW h) .nil) (op_lss rfl rfl) rfl ?_
    refine lx (op_pick_or rfl rfl) rfl ?_
    refine lx (op_move rfl) rfl ?_
    refine lxs rfl rfl rfl guard_eq (.cons (t := 4) rfl (fun _ => Ent.refl _) .nil) (op_fieldAddr rfl fl60_1 sz3) rfl ?_
    refine lxs rfl rfl rfl guard_eq (.cons (t := 39) rfl (fun h => entW h) .nil) (op_bload_one (m := 4) rfl rfl ag3 rfl) rfl ?_
    refine lxs rfl rfl rfl guard_eq (.cons (t := 7) rfl (fun _ => Ent.refl _) .nil) (op_fieldAddr rfl fl66_3 sz64) rfl ?_
    refine lxs rfl rfl rfl guard_eq (.cons (t := 41) rfl (fun h => entW h) .nil) (op_bload_one (m := 7) rfl rfl ag64 rfl) rfl ?_
    first | refine lxs rfl rfl rfl guard_eq (.cons (t := 42) rfl (fun h => entW h) .nil) (op_len rfl el64) rfl ?_ | refine lxs rfl rfl rfl guard_eq (.cons (t := 42) rfl (fun h => entW h) .nil) (op_len_row rfl el64) rfl ?_ | refine lxs rfl rfl rfl guard_eq (.cons (t := 42) rfl (fun h => entW h) .nil) (op_len_mv rfl el64) rfl ?_ | refine lxs rfl rfl rfl guard_eq (.cons (t := 42) rfl (fun h => entW h) .nil) (op_len_nil rfl el64) rfl ?_
    refine lxs rfl rfl rfl guard_eq (.cons (t := 40) rfl (fun h => entW h) (.cons (t := 43) rfl (fun h => entW h) .nil)) (op_geq rfl rfl) rfl ?_
    refine lx (op_pick_or rfl rfl) rfl ?_
    refine lx (op_move rfl) rfl ?_
    refine lxs rfl rfl rfl guard_eq (.cons (t := 4) rfl (fun _ => Ent.refl _) .nil) (op_fieldAddr rfl fl60_2 sz33) rfl ?_
    refine lxs rfl rfl rfl guard_eq (.cons (t := 47) rfl (fun h => entW h) .nil) (op_bload_one (m := 4) rfl rfl ag33 rfl) rfl ?_
    first | refine lxs rfl rfl rfl guard_eq (.cons (t := 48) rfl (fun h => entW h) .nil) (op_call (l := [(Go.Operand.tmp 48)]) (values_ok f.regs (by omega)) (.cons rfl .nil) fn44) rfl ?_ | refine lxs rfl rfl rfl guard_eq (.cons (t := 48) rfl (fun h => entW h) .nil) (op_call (l := [(Go.Operand.tmp 48)]) (values_ok f.regs (by omega)) (.ent rfl (by repeat (first | exact Ents.nil | refine Ents.cons ?_ ?_ | refine Ent.tup ?_ | refine Ent.agg ?_ | exact Ent.row _ _ _ _ | exact Ent.nil _ _ | exact Ent.func _ | exact Ent.refl _ | exact Ent.of_eq rfl | refine Ent.cells ?_)) .nil) fn44) rfl ?_
    first | refine lxs rfl rfl rfl guard_eq (.cons (t := 49) rfl (fun h => entW h) .nil) (op_not rfl) rfl ?_ | refine lxs rfl rfl rfl guard_eq (.cons (t := 49) rfl (fun h => entW h) .nil) (op_not_b rfl) rfl ?_
    refine lx (op_pick_or rfl rfl) rfl ?_
    refine lx (op_move rfl) rfl ?_
    refine lxs rfl rfl rfl guard_eq (.cons (t := 4) rfl (fun _ => Ent.refl _) .nil) (op_fieldAddr rfl fl60_6 sz43) rfl ?_
    refine lxs rfl rfl rfl guard_eq (.cons (t := 53) rfl (fun h => entW h) .nil) (op_bload_part (m := 4) (qs := [_, _, _]) rfl rfl ag43 sz43 rfl rfl) rfl ?_
    refine lxs rfl rfl rfl guard_eq (.cons (t := 54) rfl (fun h => entW h) .nil) (op_buildSlice (f := vp) (xs := [f.result]) (l := [(0, (Go.Operand.tmp 54))]) ze43 rfl rfl (by decide) el33 sz43 vp_len (.cons rfl (.agg rfl) .nil) rfl (by decide)) rfl ?_
    first | refine lxs rfl rfl rfl guard_eq (.cons (t := 55) rfl (fun h => entW h) .nil) (op_call (l := [(Go.Operand.tmp 55)]) (values_ok [f.result] (by simp)) (.cons rfl .nil) fn44) rfl ?_ | refine lxs rfl rfl rfl guard_eq (.cons (t := 55) rfl (fun h => entW h) .nil) (op_call (l := [(Go.Operand.tmp 55)]) (values_ok [f.result] (by simp)) (.ent rfl (by repeat (first | exact Ents.nil | refine Ents.cons ?_ ?_ | refine Ent.tup ?_ | refine Ent.agg ?_ | exact Ent.row _ _ _ _ | exact Ent.nil _ _ | exact Ent.func _ | exact Ent.refl _ | exact Ent.of_eq rfl | refine Ent.cells ?_)) .nil) fn44) rfl ?_
    first | refine lxs rfl rfl rfl guard_eq (.cons (t := 56) rfl (fun h => entW h) .nil) (op_not rfl) rfl ?_ | refine lxs rfl rfl rfl guard_eq (.cons (t := 56) rfl (fun h => entW h) .nil) (op_not_b rfl) rfl ?_
    refine lx (op_pick_or rfl rfl) rfl ?_
    refine lx (op_move rfl) rfl ?_
    refine lxs rfl rfl rfl guard_eq (.cons (t := 4) rfl (fun _ => Ent.refl _) .nil) (op_fieldAddr rfl fl60_3 sz3) rfl ?_
    refine lxs rfl rfl rfl guard_eq (.cons (t := 60) rfl (fun h => entW h) .nil) (op_bload_one (m := 4) rfl rfl ag3 rfl) rfl ?_
    refine lxs rfl rfl rfl guard_eq (.cons (t := 61) rfl (fun h => entW h) .nil) (op_lss rfl rfl) rfl ?_
    refine lx (op_pick_or rfl rfl) rfl ?_
    refine lx_end ⟨by kernel_rfl, ?_⟩
    refine pe_then_normal ?_
    refine tr_sub hC (.cons (t := 2) rfl (.cons (t := 3) rfl (.cons (t := 4) rfl (.cons (t := 63) rfl .nil)))) (.cons (t := 3) rfl (.cons (t := 4) rfl .nil)) rfl ?_
    refine tr_cond rfl (fun h63 => ?_) (fun h63 => ?_)
    · have hno := frm_no2 (b := none) (mid_no h63)
      refine tr_seq ?_
      refine tr_region (fun N5 hN => ?_)
      refine lx (op_assign rfl) rfl ?_
      refine lx_end ⟨by kernel_rfl, ?_⟩
      refine pe_then_normal ?_
      refine tr_sub hC (.cons (t := 6) rfl .nil) .nil rfl ?_
      refine tr_ret ?_
      refine pe_then_ret ?_
      refine pe_ret1 rfl hO rfl (.tmp rfl .nil) ?_
      rw [hno]
      repeat (first | exact Ents.nil | refine Ents.cons ?_ ?_ | refine Ent.tup ?_ | refine Ent.agg ?_ | exact Ent.row _ _ _ _ | exact Ent.nil _ _ | exact Ent.func _ | exact Ent.refl _ | exact Ent.of_eq rfl | refine Ent.cells ?_)
    · have h2 := mid_yes h63
      refine tr_skip ?_
      refine pe_then_normal ?_
      refine tr_sub hC (.cons (t := 2) rfl (.cons (t := 3) rfl (.cons (t := 4) rfl .nil))) (.cons (t := 3) rfl (.cons (t := 4) rfl .nil)) rfl ?_
      refine tr_seq ?_
      refine tr_seq ?_
      refine tr_drawn mixed (fun N6 hN => ?_)
      refine lx (op_move rfl) rfl ?_
      first | refine lxk (op_eql_ptr pt73 rfl (IsPtr.own _ _)) (rfl) rfl ?_ | refine lxk (op_eql_ptr pt73 rfl (IsPtr.cells _)) (rfl) rfl ?_ | refine lxk (op_eql_ptr pt73 rfl (IsPtr.nil)) (rfl) rfl ?_
      refine lx (op_move rfl) rfl ?_
      refine lxg rfl rfl rfl (op_fieldAddr rfl fl60_3 sz3) rfl ?_
      refine lxg rfl rfl rfl (op_bload_one (m := 4) rfl rfl ag3 rfl) rfl ?_
      refine lxg rfl rfl rfl (op_neq rfl rfl) rfl ?_
      refine lxc (op_pick_t rfl rfl) rfl (fun h70 => ?_) (fun h70 => ?_)
      · (try simp only [Bool.and_eq_true, Bool.or_eq_true, Bool.and_eq_false_iff, Bool.or_eq_false_iff, decide_eq_true_eq, decide_eq_false_iff_not, Bool.not_eq_true', Bool.not_eq_false', List.length_map, ne_eq, Decidable.not_not, Int.not_lt, Int.not_le] at h70)
        have hno := frm_no3 (p := p) (b := none) (f := f) (decide_eq_false (by omega))
        refine lx (op_move rfl) rfl ?_
        refine lx_skip rfl rfl rfl (by first | exact notThe_bool rfl | exact notThe_undef) rfl ?_
        refine lx_skip rfl rfl rfl (by first | exact notThe_bool rfl | exact notThe_undef) rfl ?_
        refine lx_skip rfl rfl rfl (by first | exact notThe_bool rfl | exact notThe_undef) rfl ?_
        refine lx_skip rfl rfl rfl (by first | exact notThe_bool rfl | exact notThe_undef) rfl ?_
        refine lx_skip rfl rfl rfl (by first | exact notThe_bool rfl | exact notThe_undef) rfl ?_
        refine lx_skip rfl rfl rfl (by first | exact notThe_bool rfl | exact notThe_undef) rfl ?_
        refine lx_skip rfl rfl rfl (by first | exact notThe_bool rfl | exact notThe_undef) rfl ?_
        refine lx_skip rfl rfl rfl (by first | exact notThe_bool rfl | exact notThe_undef) rfl ?_
        refine lx_skip rfl rfl rfl (by first | exact notThe_bool rfl | exact notThe_undef) rfl ?_
        refine lx_skip rfl rfl rfl (by first | exact notThe_bool rfl | exact notThe_undef) rfl ?_
        refine lx_skip rfl rfl rfl (by first | exact notThe_bool rfl | exact notThe_undef) rfl ?_
        refine lx_skip rfl rfl rfl (by first | exact notThe_bool rfl | exact notThe_undef) rfl ?_
        refine lx (op_pick_t rfl rfl) rfl ?_
        refine lx_end ⟨by kernel_rfl, ?_⟩
        refine pe_then_normal ?_
        refine tr_sub hC (.cons (t := 3) rfl (.cons (t := 4) rfl (.cons (t := 84) rfl .nil))) (.cons (t := 3) rfl (.cons (t := 4) rfl .nil)) rfl ?_
        refine tr_cond_t rfl ?_
        refine tr_seq ?_
        refine tr_region (fun N7 hN => ?_)
        refine lx (op_assign rfl) rfl ?_
        refine lx_end ⟨by kernel_rfl, ?_⟩
        refine pe_then_normal ?_
        refine tr_sub hC (.cons (t := 6) rfl .nil) .nil rfl ?_
        refine tr_ret ?_
        refine pe_then_ret ?_
        refine pe_ret1 rfl hO rfl (.tmp rfl .nil) ?_
        rw [hno]
        repeat (first | exact Ents.nil | refine Ents.cons ?_ ?_ | refine Ent.tup ?_ | refine Ent.agg ?_ | exact Ent.row _ _ _ _ | exact Ent.nil _ _ | exact Ent.func _ | exact Ent.refl _ | exact Ent.of_eq rfl | refine Ent.cells ?_)
      · (try simp only [Bool.and_eq_true, Bool.or_eq_true, Bool.and_eq_false_iff, Bool.or_eq_false_iff, decide_eq_true_eq, decide_eq_false_iff_not, Bool.not_eq_true', Bool.not_eq_false', List.length_map, ne_eq, Decidable.not_not, Int.not_lt, Int.not_le] at h70)
        have h3 : destOK none f = true := decide_eq_true (by omega)
        refine lx (op_move rfl) rfl ?_
        refine lxg rfl rfl rfl (op_move rfl) rfl ?_
        first | refine lxgk rfl rfl rfl (op_neq_ptr pt73 rfl (IsPtr.own _ _)) (rfl) rfl ?_ | refine lxgk rfl rfl rfl (op_neq_ptr pt73 rfl (IsPtr.cells _)) (rfl) rfl ?_ | refine lxgk rfl rfl rfl (op_neq_ptr pt73 rfl (IsPtr.nil)) (rfl) rfl ?_
        refine lxg rfl rfl rfl (op_move rfl) rfl ?_
        refine lx_skip rfl rfl rfl (by first | exact notThe_bool rfl | exact notThe_undef) rfl ?_
        refine lx_skip rfl rfl rfl (by first | exact notThe_bool rfl | exact notThe_undef) rfl ?_
        refine lx_skip rfl rfl rfl (by first | exact notThe_bool rfl | exact notThe_undef) rfl ?_
        refine lx_skip rfl rfl rfl (by first | exact notThe_bool rfl | exact notThe_undef) rfl ?_
        refine lx_skip rfl rfl rfl (by first | exact notThe_bool rfl | exact notThe_undef) rfl ?_
        refine lx_skip rfl rfl rfl (by first | exact notThe_bool rfl | exact notThe_undef) rfl ?_
        refine lx_skip rfl rfl rfl (by first | exact notThe_bool rfl | exact notThe_undef) rfl ?_
        refine lx_skip rfl rfl rfl (by first | exact notThe_bool rfl | exact notThe_undef) rfl ?_
        refine lxg rfl rfl rfl (op_pick_f rfl rfl) rfl ?_
        refine lx (op_pick_f rfl rfl) rfl ?_
        refine lx_end ⟨by kernel_rfl, ?_⟩
        refine pe_then_normal ?_
        refine tr_sub hC (.cons (t := 3) rfl (.cons (t := 4) rfl (.cons (t := 84) rfl .nil))) (.cons (t := 3) rfl (.cons (t := 4) rfl .nil)) rfl ?_
        refine tr_cond_f rfl ?_
        refine tr_skip ?_
        refine pe_then_normal ?_
        refine tr_sub hC (.cons (t := 3) rfl (.cons (t := 4) rfl .nil)) (.cons (t := 3) rfl (.cons (t := 4) rfl .nil)) rfl ?_
        refine tr_seq ?_
        refine tr_seq ?_
        refine tr_region (fun N8 hN => ?_)
        refine lx (op_fieldAddr rfl fl60_4 sz58) rfl ?_
        refine lx (op_bload_one (m := 4) rfl rfl ag58 rfl) rfl ?_
        first | refine lx (op_len rfl el58) rfl ?_ | refine lx (op_len_row rfl el58) rfl ?_ | refine lx (op_len_mv rfl el58) rfl ?_ | refine lx (op_len_nil rfl el58) rfl ?_
        refine lx (op_move rfl) rfl ?_
        refine lx_end ⟨by kernel_rfl, ?_⟩
        refine pe_then_normal ?_
        refine tr_sub hC (.cons (t := 3) rfl (.cons (t := 86) rfl (.cons (t := 87) rfl (.cons (t := 88) rfl .nil)))) (.cons (t := 3) rfl .nil) rfl ?_
        refine tr_block ?_
        refine tr_loopK (α := {zz : Nat // zz ≤ f.defers.length ∧ (f.defers.take zz).all (defOK p) = true}) (⟨(0), Nat.zero_le _, by simp⟩) (fun zz => [(88, eqP (.int .i64 (zz.1 : Int)))]) (fun zz => []) (fun zz => f.defers.length - zz.1) hC (.cons (t := 3) rfl (.cons (t := 86) rfl (.cons (t := 87) rfl .nil))) (.cons (t := 3) rfl .nil) rfl ?_ ?_ (fun zz => ?_)
        · try dsimp only [List.cons_append, List.nil_append]
          first | refine SubF.cons rfl ?_ | (refine SubF.ent rfl ?_ ?_; · repeat (first | exact Ents.nil | refine Ents.cons ?_ ?_ | refine Ent.tup ?_ | refine Ent.agg ?_ | exact Ent.row _ _ _ _ | exact Ent.nil _ _ | exact Ent.func _ | exact Ent.refl _ | exact Ent.of_eq rfl | refine Ent.cells ?_))
          exact SubF.nil
        · try dsimp only [List.cons_append, List.nil_append]
          repeat (first | exact SubL.nil | refine SubL.cons rfl ?_)
        · obtain ⟨k, hk1, hk2⟩ := zz
          dsimp only [List.cons_append, List.nil_append]
          refine tr_seq ?_
          refine tr_region (fun N9 hN => ?_)
          refine lx (op_lss rfl rfl) rfl ?_
          refine lx_end ⟨by kernel_rfl, ?_⟩
          refine pe_then_normal ?_
          refine tr_sub hC (.cons (t := 3) rfl (.cons (t := 86) rfl (.cons (t := 87) rfl (.cons (t := 88) rfl (.cons (t := 89) rfl .nil))))) (.cons (t := 3) rfl .nil) rfl ?_
          refine tr_seq ?_
          refine tr_cond rfl (fun h89 => ?_) (fun h89 => ?_)
          · (try simp only [Bool.and_eq_true, Bool.or_eq_true, Bool.and_eq_false_iff, Bool.or_eq_false_iff, decide_eq_true_eq, decide_eq_false_iff_not, Bool.not_eq_true', Bool.not_eq_false', List.length_map, ne_eq, Decidable.not_not, Int.not_lt, Int.not_le] at h89)
            refine tr_skip ?_
            refine pe_then_normal ?_
            refine tr_sub hC (.cons (t := 3) rfl (.cons (t := 86) rfl (.cons (t := 87) rfl (.cons (t := 88) rfl .nil)))) (.cons (t := 3) rfl .nil) rfl ?_
            refine tr_seq ?_
            refine tr_block ?_
            refine tr_seq ?_
            refine tr_region (fun N10 hN => ?_)
            refine lx (op_index rfl rfl el58 sz47 rfl (List.getElem?_eq_getElem (by omega : k < f.defers.length))) rfl ?_
            first | refine lx (op_load_all rfl ag47 sz47) rfl ?_ | refine lx (op_load_agg rfl ag47 sz47 rfl) rfl ?_ | refine lx (op_bload (m := 3) rfl rfl ag47 sz47) rfl ?_ | refine lx (op_bload_part (m := 3) (qs := [_, _]) rfl rfl ag47 sz47 rfl rfl) rfl ?_
            refine lxn (op_alloc (m := 9) (k := 9) (ps := [eqP (.int .i64 0), eqP (.slice none 0 0)]) ze47 rfl rfl (by first | exact hC.low _ (by decide) | rfl)) rfl ?_
            refine lxr (op_store_all (m := 9) rfl rfl rfl (.agg rfl) sz47 rfl) rfl ?_
            refine lx_end ⟨by kernel_rfl, ?_⟩
            refine pe_then_normal ?_
            refine tr_sub hC (.cons (t := 3) rfl (.cons (t := 9) rfl (.cons (t := 86) rfl (.cons (t := 87) rfl (.cons (t := 88) rfl .nil))))) (.cons (t := 3) rfl (.cons (t := 9) rfl .nil)) rfl ?_
            refine tr_seq ?_
            refine tr_drawn mixed (fun N11 hN => ?_)
            refine lx (op_fieldAddr rfl fl47_0 sz3) rfl ?_
            refine lx (op_bload_one (m := 9) rfl rfl ag3 rfl) rfl ?_
            refine lx (op_lss rfl rfl) rfl ?_
            refine lx (op_move rfl) rfl ?_
            refine lxs rfl rfl rfl guard_eq (.cons (t := 9) rfl (fun _ => Ent.refl _) .nil) (op_fieldAddr rfl fl47_0 sz3) rfl ?_
            refine lxs rfl rfl rfl guard_eq (.cons (t := 96) rfl (fun h => entW h) .nil) (op_bload_one (m := 9) rfl rfl ag3 rfl) rfl ?_
            refine lxs rfl rfl rfl guard_eq (.cons (t := 3) rfl (fun _ => Ent.refl _) .nil) (op_fieldAddr rfl fl26_0 sz22) rfl ?_
            refine lxs rfl rfl rfl guard_eq (.cons (t := 98) rfl (fun h => entW h) .nil) (op_bload_one (m := 3) rfl rfl ag22 rfl) rfl ?_
            first | refine lxs rfl rfl rfl guard_eq (.cons (t := 99) rfl (fun h => entW h) .nil) (op_len rfl el22) rfl ?_ | refine lxs rfl rfl rfl guard_eq (.cons (t := 99) rfl (fun h => entW h) .nil) (op_len_row rfl el22) rfl ?_ | refine lxs rfl rfl rfl guard_eq (.cons (t := 99) rfl (fun h => entW h) .nil) (op_len_mv rfl el22) rfl ?_ | refine lxs rfl rfl rfl guard_eq (.cons (t := 99) rfl (fun h => entW h) .nil) (op_len_nil rfl el22) rfl ?_
            refine lxs rfl rfl rfl guard_eq (.cons (t := 97) rfl (fun h => entW h) (.cons (t := 100) rfl (fun h => entW h) .nil)) (op_geq rfl rfl) rfl ?_
            refine lx (op_pick_or rfl rfl) rfl ?_
            refine lx (op_move rfl) rfl ?_
            refine lxs rfl rfl rfl guard_eq (.cons (t := 9) rfl (fun _ => Ent.refl _) .nil) (op_fieldAddr rfl fl47_1 sz33) rfl ?_
            refine lxs rfl rfl rfl guard_eq (.cons (t := 104) rfl (fun h => entW h) .nil) (op_bload_one (m := 9) rfl rfl ag33 rfl) rfl ?_
            first | refine lxs rfl rfl rfl guard_eq (.cons (t := 105) rfl (fun h => entW h) .nil) (op_len rfl el33) rfl ?_ | refine lxs rfl rfl rfl guard_eq (.cons (t := 105) rfl (fun h => entW h) .nil) (op_len_row rfl el33) rfl ?_ | refine lxs rfl rfl rfl guard_eq (.cons (t := 105) rfl (fun h => entW h) .nil) (op_len_mv rfl el33) rfl ?_ | refine lxs rfl rfl rfl guard_eq (.cons (t := 105) rfl (fun h => entW h) .nil) (op_len_nil rfl el33) rfl ?_
            refine lxs rfl rfl rfl guard_eq (.cons (t := 3) rfl (fun _ => Ent.refl _) .nil) (op_fieldAddr rfl fl26_0 sz22) rfl ?_
            refine lxs rfl rfl rfl guard_eq (.cons (t := 107) rfl (fun h => entW h) .nil) (op_bload_one (m := 3) rfl rfl ag22 rfl) rfl ?_
            refine lxs rfl rfl rfl guard_eq (.cons (t := 9) rfl (fun _ => Ent.refl _) .nil) (op_fieldAddr rfl fl47_0 sz3) rfl ?_
            refine lxs rfl rfl rfl guard_eq (.cons (t := 109) rfl (fun h => entW h) .nil) (op_bload_one (m := 9) rfl rfl ag3 rfl) rfl ?_
            refine lxsc (rd := [(108, slP Fu.ps 4 p.funcs), (110, eqP (.int .i64 f.defers[k].fn))]) (φ := cellsP (pfn p f.defers[k].fn).ps) rfl rfl rfl guard_eq (.cons (t := 108) rfl (fun h => entW h) (.cons (t := 110) rfl (fun h => entW h) .nil)) (fun hgd => ?_) rfl rfl ?_
            · have hq0 : 0 ≤ f.defers[k].fn ∧ f.defers[k].fn < (p.funcs.length : Int) := by
                simp at hgd
                omega
              exact op_index rfl rfl el22 sz66 (by omega : f.defers[k].fn = ((f.defers[k].fn.toNat : Nat) : Int)) (pfn_at (by omega) (by omega))
            first | refine lxs rfl rfl rfl guard_eq (.cons (t := 111) rfl (fun h => entW h) .nil) (op_fieldAddr rfl fl66_1 sz3) rfl ?_ | refine lxs rfl rfl rfl guard_eq (.cons (t := 111) rfl (fun h => entW h) .nil) (op_fieldCells rfl fl66_1 sz3) rfl ?_
            first | refine lxs rfl rfl rfl guard_eq (.cons (t := 112) rfl (fun h => entW h) .nil) (op_load_one rfl ag3 rfl) rfl ?_ | refine lxs rfl rfl rfl guard_eq (.cons (t := 112) rfl (fun h => entW h) .nil) (op_bload_one (m := 3) rfl rfl ag3 rfl) rfl ?_ | refine lxs rfl rfl rfl guard_eq (.cons (t := 112) rfl (fun h => entW h) .nil) (op_bload_one (m := 9) rfl rfl ag3 rfl) rfl ?_
            refine lxs rfl rfl rfl guard_eq (.cons (t := 106) rfl (fun h => entW h) (.cons (t := 113) rfl (fun h => entW h) .nil)) (op_neq rfl rfl) rfl ?_
            refine lx (op_pick_or rfl rfl) rfl ?_
            refine lx (op_move rfl) rfl ?_
            refine lxs rfl rfl rfl guard_eq (.cons (t := 9) rfl (fun _ => Ent.refl _) .nil) (op_fieldAddr rfl fl47_1 sz33) rfl ?_
            refine lxs rfl rfl rfl guard_eq (.cons (t := 117) rfl (fun h => entW h) .nil) (op_bload_one (m := 9) rfl rfl ag33 rfl) rfl ?_
            first | refine lxs rfl rfl rfl guard_eq (.cons (t := 118) rfl (fun h => entW h) .nil) (op_call (l := [(Go.Operand.tmp 118)]) (values_ok f.defers[k].args (by have := hb.args f.defers[k] (List.getElem_mem ..); omega)) (.cons rfl .nil) fn44) rfl ?_ | refine lxs rfl rfl rfl guard_eq (.cons (t := 118) rfl (fun h => entW h) .nil) (op_call (l := [(Go.Operand.tmp 118)]) (values_ok f.defers[k].args (by have := hb.args f.defers[k] (List.getElem_mem ..); omega)) (.ent rfl (by repeat (first | exact Ents.nil | refine Ents.cons ?_ ?_ | refine Ent.tup ?_ | refine Ent.agg ?_ | exact Ent.row _ _ _ _ | exact Ent.nil _ _ | exact Ent.func _ | exact Ent.refl _ | exact Ent.of_eq rfl | refine Ent.cells ?_)) .nil) fn44) rfl ?_
            first | refine lxs rfl rfl rfl guard_eq (.cons (t := 119) rfl (fun h => entW h) .nil) (op_not rfl) rfl ?_ | refine lxs rfl rfl rfl guard_eq (.cons (t := 119) rfl (fun h => entW h) .nil) (op_not_b rfl) rfl ?_
            refine lx (op_pick_or rfl rfl) rfl ?_
            refine lx_end ⟨by kernel_rfl, ?_⟩
            refine pe_then_normal ?_
            refine tr_sub hC (.cons (t := 3) rfl (.cons (t := 86) rfl (.cons (t := 87) rfl (.cons (t := 88) rfl (.cons (t := 121) rfl .nil))))) (.cons (t := 3) rfl .nil) rfl ?_
            refine tr_cond rfl (fun h121 => ?_) (fun h121 => ?_)
            · have hno := frm_no4 (p := p) (b := none) (all_bad (φ := defOK p) (by omega : k < f.defers.length) (def_no h121))
              refine tr_seq ?_
              refine tr_region (fun N12 hN => ?_)
              refine lx (op_assign rfl) rfl ?_
              refine lx_end ⟨by kernel_rfl, ?_⟩
              refine pe_then_normal ?_
              refine tr_sub hC (.cons (t := 6) rfl .nil) .nil rfl ?_
              refine tr_ret ?_
              refine pe_block_ret ?_
              refine pe_then_ret ?_
              refine pe_then_ret ?_
              refine pe_block_ret ?_
              refine pe_then_ret ?_
              refine pe_ret1 rfl hO rfl (.tmp rfl .nil) ?_
              rw [hno]
              repeat (first | exact Ents.nil | refine Ents.cons ?_ ?_ | refine Ent.tup ?_ | refine Ent.agg ?_ | exact Ent.row _ _ _ _ | exact Ent.nil _ _ | exact Ent.func _ | exact Ent.refl _ | exact Ent.of_eq rfl | refine Ent.cells ?_)
            · have hdy := def_yes h121
              refine tr_skip ?_
              refine pe_block_normal ?_
              refine pe_then_normal ?_
              refine tr_sub hC (.cons (t := 3) rfl (.cons (t := 86) rfl (.cons (t := 87) rfl (.cons (t := 88) rfl .nil)))) (.cons (t := 3) rfl .nil) rfl ?_
              refine tr_region (fun N13 hN => ?_)
              refine lx (op_add rfl rfl (by omega)) rfl ?_
              refine lx (op_move rfl) rfl ?_
              refine lx_end ⟨by kernel_rfl, ?_⟩
              refine pe_round (⟨(k + 1), by omega, all_step (φ := defOK p) hk2 (by omega) hdy⟩) (by dsimp only; omega) (pe_st hC ?_ ?_ rfl)
              · try dsimp only [List.cons_append, List.nil_append]
                first | refine SubF.cons rfl ?_ | (refine SubF.ent rfl ?_ ?_; · repeat (first | exact Ents.nil | refine Ents.cons ?_ ?_ | refine Ent.tup ?_ | refine Ent.agg ?_ | exact Ent.row _ _ _ _ | exact Ent.nil _ _ | exact Ent.func _ | exact Ent.refl _ | exact Ent.of_eq rfl | refine Ent.cells ?_))
                first | refine SubF.cons rfl ?_ | (refine SubF.ent rfl ?_ ?_; · repeat (first | exact Ents.nil | refine Ents.cons ?_ ?_ | refine Ent.tup ?_ | refine Ent.agg ?_ | exact Ent.row _ _ _ _ | exact Ent.nil _ _ | exact Ent.func _ | exact Ent.refl _ | exact Ent.of_eq rfl | refine Ent.cells ?_))
                first | refine SubF.cons rfl ?_ | (refine SubF.ent rfl ?_ ?_; · repeat (first | exact Ents.nil | refine Ents.cons ?_ ?_ | refine Ent.tup ?_ | refine Ent.agg ?_ | exact Ent.row _ _ _ _ | exact Ent.nil _ _ | exact Ent.func _ | exact Ent.refl _ | exact Ent.of_eq rfl | refine Ent.cells ?_))
                first | refine SubF.cons rfl ?_ | (refine SubF.ent rfl ?_ ?_; · repeat (first | exact Ents.nil | refine Ents.cons ?_ ?_ | refine Ent.tup ?_ | refine Ent.agg ?_ | exact Ent.row _ _ _ _ | exact Ent.nil _ _ | exact Ent.func _ | exact Ent.refl _ | exact Ent.of_eq rfl | refine Ent.cells ?_))
                exact SubF.nil
              · try dsimp only [List.cons_append, List.nil_append]
                repeat (first | exact SubL.nil | refine SubL.cons rfl ?_)
          · (try simp only [Bool.and_eq_true, Bool.or_eq_true, Bool.and_eq_false_iff, Bool.or_eq_false_iff, decide_eq_true_eq, decide_eq_false_iff_not, Bool.not_eq_true', Bool.not_eq_false', List.length_map, ne_eq, Decidable.not_not, Int.not_lt, Int.not_le] at h89)
            have hfin := frm_yes h1 h2 h3 (all_end hk2 (by omega))
            refine tr_exit ?_
            refine pe_then_exit ?_
            refine pe_then_exit ?_
            refine pe_block_eq ?_
            refine pe_then_normal ?_
            refine tr_sub hC .nil .nil rfl ?_
            refine tr_seq ?_
            refine tr_region (fun N14 hN => ?_)
            refine lx (op_assign rfl) rfl ?_
            refine lx_end ⟨by kernel_rfl, ?_⟩
            refine pe_then_normal ?_
            refine tr_sub hC (.cons (t := 6) rfl .nil) .nil rfl ?_
            refine tr_ret ?_
            refine pe_ret1 rfl hO rfl (.tmp rfl .nil) ?_
            rw [hfin]
            repeat (first | exact Ents.nil | refine Ents.cons ?_ ?_ | refine Ent.tup ?_ | refine Ent.agg ?_ | exact Ent.row _ _ _ _ | exact Ent.nil _ _ | exact Ent.func _ | exact Ent.refl _ | exact Ent.of_eq rfl | refine Ent.cells ?_)
theorem frame_some (p : Pg) (f : Fm) (hb : BdF 9223372036854775807 f) (h : Fm) : FnP Try.prog 37 [aggP p.ps, aggP f.ps, cellsP h.ps] (eqP (.bool (frmOK p (some h) f))) := by
  have hbr := hb.regs
  have hbd := hb.defers
  refine fn_pure' Try.func37 rfl Try.ntmps37 rfl ?_
  intro σ0 M ex Rf R hC hO
  simp only [frameOf, tokOf]
  refine tr_seq ?_
  refine tr_region (fun N0 hN => ?_)
  refine lxn (op_box (m := 3) (k := 3) rfl (.agg rfl) (by first | exact hC.low _ (by decide) | rfl)) rfl ?_
  refine lxn (op_box (m := 4) (k := 4) rfl (.agg rfl) (by first | exact hC.low _ (by decide) | rfl)) rfl ?_
  refine lx (op_assign rfl) rfl ?_
  refine lx_end ⟨by kernel_rfl, ?_⟩
  refine pe_then_normal ?_
  refine tr_sub hC (.cons (t := 2) rfl (.cons (t := 3) rfl (.cons (t := 4) rfl .nil))) (.cons (t := 3) rfl (.cons (t := 4) rfl .nil)) rfl ?_
  refine tr_seq ?_
  refine tr_seq ?_
  refine tr_region (fun N1 hN => ?_)
  refine lx (op_fieldAddr rfl fl60_0 sz3) rfl ?_
  refine lx (op_bload_one (m := 4) rfl rfl ag3 rfl) rfl ?_
  refine lx (op_lss rfl rfl) rfl ?_
  refine lx (op_move rfl) rfl ?_
  refine lxs rfl rfl rfl guard_eq (.cons (t := 4) rfl (fun _ => Ent.refl _) .nil) (op_fieldAddr rfl fl60_0 sz3) rfl ?_
  refine lxs rfl rfl rfl guard_eq (.cons (t := 14) rfl (fun h => entW h) .nil) (op_bload_one (m := 4) rfl rfl ag3 rfl) rfl ?_
  refine lxs rfl rfl rfl guard_eq (.cons (t := 3) rfl (fun _ => Ent.refl _) .nil) (op_fieldAddr rfl fl26_0 sz22) rfl ?_
  refine lxs rfl rfl rfl guard_eq (.cons (t := 16) rfl (fun h => entW h) .nil) (op_bload_one (m := 3) rfl rfl ag22 rfl) rfl ?_
  first | refine lxs rfl rfl rfl guard_eq (.cons (t := 17) rfl (fun h => entW h) .nil) (op_len rfl el22) rfl ?_ | refine lxs rfl rfl rfl guard_eq (.cons (t := 17) rfl (fun h => entW h) .nil) (op_len_row rfl el22) rfl ?_ | refine lxs rfl rfl rfl guard_eq (.cons (t := 17) rfl (fun h => entW h) .nil) (op_len_mv rfl el22) rfl ?_ | refine lxs rfl rfl rfl guard_eq (.cons (t := 17) rfl (fun h => entW h) .nil) (op_len_nil rfl el22) rfl ?_
  refine lxs rfl rfl rfl guard_eq (.cons (t := 15) rfl (fun h => entW h) (.cons (t := 18) rfl (fun h => entW h) .nil)) (op_geq rfl rfl) rfl ?_
  refine lx (op_pick_or rfl rfl) rfl ?_
  refine lx_end ⟨by kernel_rfl, ?_⟩
  refine pe_then_normal ?_
  refine tr_sub hC (.cons (t := 2) rfl (.cons (t := 3) rfl (.cons (t := 4) rfl (.cons (t := 20) rfl .nil)))) (.cons (t := 3) rfl (.cons (t := 4) rfl .nil)) rfl ?_
  refine tr_cond rfl (fun h20 => ?_) (fun h20 => ?_)
  · (try simp only [Bool.and_eq_true, Bool.or_eq_true, Bool.and_eq_false_iff, Bool.or_eq_false_iff, decide_eq_true_eq, decide_eq_false_iff_not, Bool.not_eq_true', Bool.not_eq_false', List.length_map, ne_eq, Decidable.not_not, Int.not_lt, Int.not_le] at h20)
    have hno := frm_no1 (p := p) (b := (some h)) (f := f) (by omega)
    refine tr_seq ?_
    refine tr_region (fun N2 hN => ?_)
    refine lx (op_assign rfl) rfl ?_
    refine lx_end ⟨by kernel_rfl, ?_⟩
    refine pe_then_normal ?_
    refine tr_sub hC (.cons (t := 6) rfl .nil) .nil rfl ?_
    refine tr_ret ?_
    refine pe_then_ret ?_
    refine pe_ret1 rfl hO rfl (.tmp rfl .nil) ?_
    rw [hno]
    repeat (first | exact Ents.nil | refine Ents.cons ?_ ?_ | refine Ent.tup ?_ | refine Ent.agg ?_ | exact Ent.row _ _ _ _ | exact Ent.nil _ _ | exact Ent.func _ | exact Ent.refl _ | exact Ent.of_eq rfl | refine Ent.cells ?_)
  · (try simp only [Bool.and_eq_true, Bool.or_eq_true, Bool.and_eq_false_iff, Bool.or_eq_false_iff, decide_eq_true_eq, decide_eq_false_iff_not, Bool.not_eq_true', Bool.not_eq_false', List.length_map, ne_eq, Decidable.not_not, Int.not_lt, Int.not_le] at h20)
    have h1 : 0 ≤ f.fn ∧ f.fn < (p.funcs.length : Int) := by omega
    refine tr_skip ?_
    refine pe_then_normal ?_
    refine tr_sub hC (.cons (t := 2) rfl (.cons (t := 3) rfl (.cons (t := 4) rfl .nil))) (.cons (t := 3) rfl (.cons (t := 4) rfl .nil)) rfl ?_
    refine tr_seq ?_
    refine tr_region (fun N3 hN => ?_)
    refine lx (op_fieldAddr rfl fl26_0 sz22) rfl ?_
    refine lx (op_bload_one (m := 3) rfl rfl ag22 rfl) rfl ?_
    refine lx (op_fieldAddr rfl fl60_0 sz3) rfl ?_
    refine lx (op_bload_one (m := 4) rfl rfl ag3 rfl) rfl ?_
    refine lx (op_index rfl rfl el22 sz66 (by omega : f.fn = ((f.fn.toNat : Nat) : Int)) (pfn_at (by omega) (by omega))) rfl ?_
    first | refine lx (op_load_all rfl ag66 sz66) rfl ?_ | refine lx (op_load_agg rfl ag66 sz66 rfl) rfl ?_ | refine lx (op_bload (m := 3) rfl rfl ag66 sz66) rfl ?_ | refine lx (op_bload (m := 4) rfl rfl ag66 sz66) rfl ?_ | refine lx (op_bload_part (m := 3) (qs := [_, _, _, _]) rfl rfl ag66 sz66 rfl rfl) rfl ?_ | refine lx (op_bload_part (m := 4) (qs := [_, _, _, _]) rfl rfl ag66 sz66 rfl rfl) rfl ?_
    refine lxn (op_alloc (m := 7) (k := 7) (ps := [eqP (.string ⟨#[]⟩), eqP (.int .i64 0), eqP (.int .i64 0), eqP (.slice none 0 0)]) ze66 rfl rfl (by first | exact hC.low _ (by decide) | rfl)) rfl ?_
    refine lxr (op_store_all (m := 7) rfl rfl rfl (.agg rfl) sz66 rfl) rfl ?_
    refine lx_end ⟨by kernel_rfl, ?_⟩
    refine pe_then_normal ?_
    refine tr_sub hC (.cons (t := 2) rfl (.cons (t := 3) rfl (.cons (t := 4) rfl (.cons (t := 7) rfl .nil)))) (.cons (t := 3) rfl (.cons (t := 4) rfl (.cons (t := 7) rfl .nil))) rfl ?_
    refine tr_seq ?_
    refine tr_seq ?_
    refine tr_region (fun N4 hN => ?_)
    refine lx (op_fieldAddr rfl fl60_2 sz33) rfl ?_
    refine lx (op_bload_one (m := 4) rfl rfl ag33 rfl) rfl ?_
    first | refine lx (op_len rfl el33) rfl ?_ | refine lx (op_len_row rfl el33) rfl ?_ | refine lx (op_len_mv rfl el33) rfl ?_ | refine lx (op_len_nil rfl el33) rfl ?_
    refine lx (op_fieldAddr rfl fl66_2 sz3) rfl ?_
    refine lx (op_bload_one (m := 7) rfl rfl ag3 rfl) rfl ?_
    refine lx (op_neq rfl rfl) rfl ?_
    refine lx (op_move rfl) rfl ?_
    refine lxs rfl rfl rfl guard_eq (.cons (t := 4) rfl (fun _ => Ent.refl _) .nil) (op_fieldAddr rfl fl60_1 sz3) rfl ?_
    refine lxs rfl rfl rfl guard_eq (.cons (t := 34) rfl (fun h => entW h) .nil) (op_bload_one (m := 4) rfl rfl ag3 rfl) rfl ?_
    refine lxs rfl rfl rfl guard_eq (.cons (t := 35) rfl (fun h => entW h) .nil) (op_lss rfl rfl) rfl ?_
    refine lx (op_pick_or rfl rfl) rfl ?_
    refine lx (op_move rfl) rfl ?_
    refine lxs rfl rfl rfl guard_eq (.cons (t := 4) rfl (fun _ => Ent.refl _) .nil) (op_fieldAddr rfl fl60_1 sz3) rfl ?_
    refine lxs rfl rfl rfl guard_eq (.cons (t := 39) rfl (fun h => entW h) .nil) (op_bload_one (m := 4) rfl rfl ag3 rfl) rfl ?_
    refine lxs rfl rfl rfl guard_eq (.cons (t := 7) rfl (fun _ => Ent.refl _) .nil) (op_fieldAddr rfl fl66_3 sz64) rfl ?_
    refine lxs rfl rfl rfl guard_eq (.cons (t := 41) rfl (fun h => entW h) .nil) (op_bload_one (m := 7) rfl rfl ag64 rfl) rfl ?_
    first | refine lxs rfl rfl rfl guard_eq (.cons (t := 42) rfl (fun h => entW h) .nil) (op_len rfl el64) rfl ?_ | refine lxs rfl rfl rfl guard_eq (.cons (t := 42) rfl (fun h => entW h) .nil) (op_len_row rfl el64) rfl ?_ | refine lxs rfl rfl rfl guard_eq (.cons (t := 42) rfl (fun h => entW h) .nil) (op_len_mv rfl el64) rfl ?_ | refine lxs rfl rfl rfl guard_eq (.cons (t := 42) rfl (fun h => entW h) .nil) (op_len_nil rfl el64) rfl ?_
    refine lxs rfl rfl rfl guard_eq (.cons (t := 40) rfl (fun h => entW h) (.cons (t := 43) rfl (fun h => entW h) .nil)) (op_geq rfl rfl) rfl ?_
    refine lx (op_pick_or rfl rfl) rfl ?_
    refine lx (op_move rfl) rfl ?_
    refine lxs rfl rfl rfl guard_eq (.cons (t := 4) rfl (fun _ => Ent.refl _) .nil) (op_fieldAddr rfl fl60_2 sz33) rfl ?_
    refine lxs rfl rfl rfl guard_eq (.cons (t := 47) rfl (fun h => entW h) .nil) (op_bload_one (m := 4) rfl rfl ag33 rfl) rfl ?_
    first | refine lxs rfl rfl rfl guard_eq (.cons (t := 48) rfl (fun h => entW h) .nil) (op_call (l := [(Go.Operand.tmp 48)]) (values_ok f.regs (by omega)) (.cons rfl .nil) fn44) rfl ?_ | refine lxs rfl rfl rfl guard_eq (.cons (t := 48) rfl (fun h => entW h) .nil) (op_call (l := [(Go.Operand.tmp 48)]) (values_ok f.regs (by omega)) (.ent rfl (by repeat (first | exact Ents.nil | refine Ents.cons ?_ ?_ | refine Ent.tup ?_ | refine Ent.agg ?_ | exact Ent.row _ _ _ _ | exact Ent.nil _ _ | exact Ent.func _ | exact Ent.refl _ | exact Ent.of_eq rfl | refine Ent.cells ?_)) .nil) fn44) rfl ?_
    first | refine lxs rfl rfl rfl guard_eq (.cons (t := 49) rfl (fun h => entW h) .nil) (op_not rfl) rfl ?_ | refine lxs rfl rfl rfl guard_eq (.cons (t := 49) rfl (fun h => entW h) .nil) (op_not_b rfl) rfl ?_
    refine lx (op_pick_or rfl rfl) rfl ?_
    refine lx (op_move rfl) rfl ?_
    refine lxs rfl rfl rfl guard_eq (.cons (t := 4) rfl (fun _ => Ent.refl _) .nil) (op_fieldAddr rfl fl60_6 sz43) rfl ?_
    refine lxs rfl rfl rfl guard_eq (.cons (t := 53) rfl (fun h => entW h) .nil) (op_bload_part (m := 4) (qs := [_, _, _]) rfl rfl ag43 sz43 rfl rfl) rfl ?_
    refine lxs rfl rfl rfl guard_eq (.cons (t := 54) rfl (fun h => entW h) .nil) (op_buildSlice (f := vp) (xs := [f.result]) (l := [(0, (Go.Operand.tmp 54))]) ze43 rfl rfl (by decide) el33 sz43 vp_len (.cons rfl (.agg rfl) .nil) rfl (by decide)) rfl ?_
    first | refine lxs rfl rfl rfl guard_eq (.cons (t := 55) rfl (fun h => entW h) .nil) (op_call (l := [(Go.Operand.tmp 55)]) (values_ok [f.result] (by simp)) (.cons rfl .nil) fn44) rfl ?_ | refine lxs rfl rfl rfl guard_eq (.cons (t := 55) rfl (fun h => entW h) .nil) (op_call (l := [(Go.Operand.tmp 55)]) (values_ok [f.result] (by simp)) (.ent rfl (by repeat (first | exact Ents.nil | refine Ents.cons ?_ ?_ | refine Ent.tup ?_ | refine Ent.agg ?_ | exact Ent.row _ _ _ _ | exact Ent.nil _ _ | exact Ent.func _ | exact Ent.refl _ | exact Ent.of_eq rfl | refine Ent.cells ?_)) .nil) fn44) rfl ?_
    first | refine lxs rfl rfl rfl guard_eq (.cons (t := 56) rfl (fun h => entW h) .nil) (op_not rfl) rfl ?_ | refine lxs rfl rfl rfl guard_eq (.cons (t := 56) rfl (fun h => entW h) .nil) (op_not_b rfl) rfl ?_
    refine lx (op_pick_or rfl rfl) rfl ?_
    refine lx (op_move rfl) rfl ?_
    refine lxs rfl rfl rfl guard_eq (.cons (t := 4) rfl (fun _ => Ent.refl _) .nil) (op_fieldAddr rfl fl60_3 sz3) rfl ?_
    refine lxs rfl rfl rfl guard_eq (.cons (t := 60) rfl (fun h => entW h) .nil) (op_bload_one (m := 4) rfl rfl ag3 rfl) rfl ?_
    refine lxs rfl rfl rfl guard_eq (.cons (t := 61) rfl (fun h => entW h) .nil) (op_lss rfl rfl) rfl ?_
    refine lx (op_pick_or rfl rfl) rfl ?_
    refine lx_end ⟨by kernel_rfl, ?_⟩
    refine pe_then_normal ?_
    refine tr_sub hC (.cons (t := 2) rfl (.cons (t := 3) rfl (.cons (t := 4) rfl (.cons (t := 63) rfl .nil)))) (.cons (t := 3) rfl (.cons (t := 4) rfl .nil)) rfl ?_
    refine tr_cond rfl (fun h63 => ?_) (fun h63 => ?_)
    · have hno := frm_no2 (b := (some h)) (mid_no h63)
      refine tr_seq ?_
      refine tr_region (fun N5 hN => ?_)
      refine lx (op_assign rfl) rfl ?_
      refine lx_end ⟨by kernel_rfl, ?_⟩
      refine pe_then_normal ?_
      refine tr_sub hC (.cons (t := 6) rfl .nil) .nil rfl ?_
      refine tr_ret ?_
      refine pe_then_ret ?_
      refine pe_ret1 rfl hO rfl (.tmp rfl .nil) ?_
      rw [hno]
      repeat (first | exact Ents.nil | refine Ents.cons ?_ ?_ | refine Ent.tup ?_ | refine Ent.agg ?_ | exact Ent.row _ _ _ _ | exact Ent.nil _ _ | exact Ent.func _ | exact Ent.refl _ | exact Ent.of_eq rfl | refine Ent.cells ?_)
    · have h2 := mid_yes h63
      refine tr_skip ?_
      refine pe_then_normal ?_
      refine tr_sub hC (.cons (t := 2) rfl (.cons (t := 3) rfl (.cons (t := 4) rfl .nil))) (.cons (t := 3) rfl (.cons (t := 4) rfl .nil)) rfl ?_
      refine tr_seq ?_
      refine tr_seq ?_
      refine tr_drawn mixed (fun N6 hN => ?_)
      refine lx (op_move rfl) rfl ?_
      first | refine lxk (op_eql_ptr pt73 rfl (IsPtr.own _ _)) (rfl) rfl ?_ | refine lxk (op_eql_ptr pt73 rfl (IsPtr.cells _)) (rfl) rfl ?_ | refine lxk (op_eql_ptr pt73 rfl (IsPtr.nil)) (rfl) rfl ?_
      refine lx (op_move rfl) rfl ?_
      refine lx_skip rfl rfl rfl (by first | exact notThe_bool rfl | exact notThe_undef) rfl ?_
      refine lx_skip rfl rfl rfl (by first | exact notThe_bool rfl | exact notThe_undef) rfl ?_
      refine lx_skip rfl rfl rfl (by first | exact notThe_bool rfl | exact notThe_undef) rfl ?_
      refine lx (op_pick_f rfl rfl) rfl ?_
      refine lx (op_move rfl) rfl ?_
      refine lxg rfl rfl rfl (op_move rfl) rfl ?_
      first | refine lxgk rfl rfl rfl (op_neq_ptr pt73 rfl (IsPtr.own _ _)) (rfl) rfl ?_ | refine lxgk rfl rfl rfl (op_neq_ptr pt73 rfl (IsPtr.cells _)) (rfl) rfl ?_ | refine lxgk rfl rfl rfl (op_neq_ptr pt73 rfl (IsPtr.nil)) (rfl) rfl ?_
      refine lxg rfl rfl rfl (op_move rfl) rfl ?_
      refine lxg rfl rfl rfl (op_fieldAddr rfl fl60_3 sz3) rfl ?_
      refine lxg rfl rfl rfl (op_bload_one (m := 4) rfl rfl ag3 rfl) rfl ?_
      refine lxg rfl rfl rfl (op_move rfl) rfl ?_
      first | refine lxg rfl rfl rfl (op_nilCheck rfl) rfl ?_ | refine lxg rfl rfl rfl (op_nilCheckC rfl) rfl ?_
      first | refine lxg rfl rfl rfl (op_fieldAddr rfl fl60_2 sz33) rfl ?_ | refine lxg rfl rfl rfl (op_fieldCells rfl fl60_2 sz33) rfl ?_
      first | refine lxg rfl rfl rfl (op_load_one rfl ag33 rfl) rfl ?_ | refine lxg rfl rfl rfl (op_bload_one (m := 3) rfl rfl ag33 rfl) rfl ?_ | refine lxg rfl rfl rfl (op_bload_one (m := 4) rfl rfl ag33 rfl) rfl ?_
      first | refine lxg rfl rfl rfl (op_len rfl el33) rfl ?_ | refine lxg rfl rfl rfl (op_len_row rfl el33) rfl ?_ | refine lxg rfl rfl rfl (op_len_mv rfl el33) rfl ?_ | refine lxg rfl rfl rfl (op_len_nil rfl el33) rfl ?_
      refine lxg rfl rfl rfl (op_geq rfl rfl) rfl ?_
      refine lxg rfl rfl rfl (op_pick_t rfl rfl) rfl ?_
      refine lx (op_pick_f rfl rfl) rfl ?_
      refine lx_end ⟨by kernel_rfl, ?_⟩
      refine pe_then_normal ?_
      refine tr_sub hC (.cons (t := 3) rfl (.cons (t := 4) rfl (.cons (t := 84) rfl .nil))) (.cons (t := 3) rfl (.cons (t := 4) rfl .nil)) rfl ?_
      refine tr_cond rfl (fun h84 => ?_) (fun h84 => ?_)
      · (try simp only [Bool.and_eq_true, Bool.or_eq_true, Bool.and_eq_false_iff, Bool.or_eq_false_iff, decide_eq_true_eq, decide_eq_false_iff_not, Bool.not_eq_true', Bool.not_eq_false', List.length_map, ne_eq, Decidable.not_not, Int.not_lt, Int.not_le] at h84)
        have hno := frm_no3 (p := p) (b := some h) (f := f) (decide_eq_false (by omega))
        refine tr_seq ?_
        refine tr_region (fun N7 hN => ?_)
        refine lx (op_assign rfl) rfl ?_
        refine lx_end ⟨by kernel_rfl, ?_⟩
        refine pe_then_normal ?_
        refine tr_sub hC (.cons (t := 6) rfl .nil) .nil rfl ?_
        refine tr_ret ?_
        refine pe_then_ret ?_
        refine pe_ret1 rfl hO rfl (.tmp rfl .nil) ?_
        rw [hno]
        repeat (first | exact Ents.nil | refine Ents.cons ?_ ?_ | refine Ent.tup ?_ | refine Ent.agg ?_ | exact Ent.row _ _ _ _ | exact Ent.nil _ _ | exact Ent.func _ | exact Ent.refl _ | exact Ent.of_eq rfl | refine Ent.cells ?_)
      · (try simp only [Bool.and_eq_true, Bool.or_eq_true, Bool.and_eq_false_iff, Bool.or_eq_false_iff, decide_eq_true_eq, decide_eq_false_iff_not, Bool.not_eq_true', Bool.not_eq_false', List.length_map, ne_eq, Decidable.not_not, Int.not_lt, Int.not_le] at h84)
        have h3 : destOK (some h) f = true := decide_eq_true (by omega)
        refine tr_skip ?_
        refine pe_then_normal ?_
        refine tr_sub hC (.cons (t := 3) rfl (.cons (t := 4) rfl .nil)) (.cons (t := 3) rfl (.cons (t := 4) rfl .nil)) rfl ?_
        refine tr_seq ?_
        refine tr_seq ?_
        refine tr_region (fun N8 hN => ?_)
        refine lx (op_fieldAddr rfl fl60_4 sz58) rfl ?_
        refine lx (op_bload_one (m := 4) rfl rfl ag58 rfl) rfl ?_
        first | refine lx (op_len rfl el58) rfl ?_ | refine lx (op_len_row rfl el58) rfl ?_ | refine lx (op_len_mv rfl el58) rfl ?_ | refine lx (op_len_nil rfl el58) rfl ?_
        refine lx (op_move rfl) rfl ?_
        refine lx_end ⟨by kernel_rfl, ?_⟩
        refine pe_then_normal ?_
        refine tr_sub hC (.cons (t := 3) rfl (.cons (t := 86) rfl (.cons (t := 87) rfl (.cons (t := 88) rfl .nil)))) (.cons (t := 3) rfl .nil) rfl ?_
        refine tr_block ?_
        refine tr_loopK (α := {zz : Nat // zz ≤ f.defers.length ∧ (f.defers.take zz).all (defOK p) = true}) (⟨(0), Nat.zero_le _, by simp⟩) (fun zz => [(88, eqP (.int .i64 (zz.1 : Int)))]) (fun zz => []) (fun zz => f.defers.length - zz.1) hC (.cons (t := 3) rfl (.cons (t := 86) rfl (.cons (t := 87) rfl .nil))) (.cons (t := 3) rfl .nil) rfl ?_ ?_ (fun zz => ?_)
        · try dsimp only [List.cons_append, List.nil_append]
          first | refine SubF.cons rfl ?_ | (refine SubF.ent rfl ?_ ?_; · repeat (first | exact Ents.nil | refine Ents.cons ?_ ?_ | refine Ent.tup ?_ | refine Ent.agg ?_ | exact Ent.row _ _ _ _ | exact Ent.nil _ _ | exact Ent.func _ | exact Ent.refl _ | exact Ent.of_eq rfl | refine Ent.cells ?_))
          exact SubF.nil
        · try dsimp only [List.cons_append, List.nil_append]
          repeat (first | exact SubL.nil | refine SubL.cons rfl ?_)
        · obtain ⟨k, hk1, hk2⟩ := zz
          dsimp only [List.cons_append, List.nil_append]
          refine tr_seq ?_
          refine tr_region (fun N9 hN => ?_)
          refine lx (op_lss rfl rfl) rfl ?_
          refine lx_end ⟨by kernel_rfl, ?_⟩
          refine pe_then_normal ?_
          refine tr_sub hC (.cons (t := 3) rfl (.cons (t := 86) rfl (.cons (t := 87) rfl (.cons (t := 88) rfl (.cons (t := 89) rfl .nil))))) (.cons (t := 3) rfl .nil) rfl ?_
          refine tr_seq ?_
          refine tr_cond rfl (fun h89 => ?_) (fun h89 => ?_)
          · (try simp only [Bool.and_eq_true, Bool.or_eq_true, Bool.and_eq_false_iff, Bool.or_eq_false_iff, decide_eq_true_eq, decide_eq_false_iff_not, Bool.not_eq_true', Bool.not_eq_false', List.length_map, ne_eq, Decidable.not_not, Int.not_lt, Int.not_le] at h89)
            refine tr_skip ?_
            refine pe_then_normal ?_
            refine tr_sub hC (.cons (t := 3) rfl (.cons (t := 86) rfl (.cons (t := 87) rfl (.cons (t := 88) rfl .nil)))) (.cons (t := 3) rfl .nil) rfl ?_
            refine tr_seq ?_
            refine tr_block ?_
            refine tr_seq ?_
            refine tr_region (fun N10 hN => ?_)
            refine lx (op_index rfl rfl el58 sz47 rfl (List.getElem?_eq_getElem (by omega : k < f.defers.length))) rfl ?_
            first | refine lx (op_load_all rfl ag47 sz47) rfl ?_ | refine lx (op_load_agg rfl ag47 sz47 rfl) rfl ?_ | refine lx (op_bload (m := 3) rfl rfl ag47 sz47) rfl ?_ | refine lx (op_bload_part (m := 3) (qs := [_, _]) rfl rfl ag47 sz47 rfl rfl) rfl ?_
            refine lxn (op_alloc (m := 9) (k := 9) (ps := [eqP (.int .i64 0), eqP (.slice none 0 0)]) ze47 rfl rfl (by first | exact hC.low _ (by decide) | rfl)) rfl ?_
            refine lxr (op_store_all (m := 9) rfl rfl rfl (.agg rfl) sz47 rfl) rfl ?_
            refine lx_end ⟨by kernel_rfl, ?_⟩
            refine pe_then_normal ?_
            refine tr_sub hC (.cons (t := 3) rfl (.cons (t := 9) rfl (.cons (t := 86) rfl (.cons (t := 87) rfl (.cons (t := 88) rfl .nil))))) (.cons (t := 3) rfl (.cons (t := 9) rfl .nil)) rfl ?_
            refine tr_seq ?_
            refine tr_drawn mixed (fun N11 hN => ?_)
            refine lx (op_fieldAddr rfl fl47_0 sz3) rfl ?_
            refine lx (op_bload_one (m := 9) rfl rfl ag3 rfl) rfl ?_
            refine lx (op_lss rfl rfl) rfl ?_
            refine lx (op_move rfl) rfl ?_
            refine lxs rfl rfl rfl guard_eq (.cons (t := 9) rfl (fun _ => Ent.refl _) .nil) (op_fieldAddr rfl fl47_0 sz3) rfl ?_
            refine lxs rfl rfl rfl guard_eq (.cons (t := 96) rfl (fun h => entW h) .nil) (op_bload_one (m := 9) rfl rfl ag3 rfl) rfl ?_
            refine lxs rfl rfl rfl guard_eq (.cons (t := 3) rfl (fun _ => Ent.refl _) .nil) (op_fieldAddr rfl fl26_0 sz22) rfl ?_
            refine lxs rfl rfl rfl guard_eq (.cons (t := 98) rfl (fun h => entW h) .nil) (op_bload_one (m := 3) rfl rfl ag22 rfl) rfl ?_
            first | refine lxs rfl rfl rfl guard_eq (.cons (t := 99) rfl (fun h => entW h) .nil) (op_len rfl el22) rfl ?_ | refine lxs rfl rfl rfl guard_eq (.cons (t := 99) rfl (fun h => entW h) .nil) (op_len_row rfl el22) rfl ?_ | refine lxs rfl rfl rfl guard_eq (.cons (t := 99) rfl (fun h => entW h) .nil) (op_len_mv rfl el22) rfl ?_ | refine lxs rfl rfl rfl guard_eq (.cons (t := 99) rfl (fun h => entW h) .nil) (op_len_nil rfl el22) rfl ?_
            refine lxs rfl rfl rfl guard_eq (.cons (t := 97) rfl (fun h => entW h) (.cons (t := 100) rfl (fun h => entW h) .nil)) (op_geq rfl rfl) rfl ?_
            refine lx (op_pick_or rfl rfl) rfl ?_
            refine lx (op_move rfl) rfl ?_
            refine lxs rfl rfl rfl guard_eq (.cons (t := 9) rfl (fun _ => Ent.refl _) .nil) (op_fieldAddr rfl fl47_1 sz33) rfl ?_
            refine lxs rfl rfl rfl guard_eq (.cons (t := 104) rfl (fun h => entW h) .nil) (op_bload_one (m := 9) rfl rfl ag33 rfl) rfl ?_
            first | refine lxs rfl rfl rfl guard_eq (.cons (t := 105) rfl (fun h => entW h) .nil) (op_len rfl el33) rfl ?_ | refine lxs rfl rfl rfl guard_eq (.cons (t := 105) rfl (fun h => entW h) .nil) (op_len_row rfl el33) rfl ?_ | refine lxs rfl rfl rfl guard_eq (.cons (t := 105) rfl (fun h => entW h) .nil) (op_len_mv rfl el33) rfl ?_ | refine lxs rfl rfl rfl guard_eq (.cons (t := 105) rfl (fun h => entW h) .nil) (op_len_nil rfl el33) rfl ?_
            refine lxs rfl rfl rfl guard_eq (.cons (t := 3) rfl (fun _ => Ent.refl _) .nil) (op_fieldAddr rfl fl26_0 sz22) rfl ?_
            refine lxs rfl rfl rfl guard_eq (.cons (t := 107) rfl (fun h => entW h) .nil) (op_bload_one (m := 3) rfl rfl ag22 rfl) rfl ?_
            refine lxs rfl rfl rfl guard_eq (.cons (t := 9) rfl (fun _ => Ent.refl _) .nil) (op_fieldAddr rfl fl47_0 sz3) rfl ?_
            refine lxs rfl rfl rfl guard_eq (.cons (t := 109) rfl (fun h => entW h) .nil) (op_bload_one (m := 9) rfl rfl ag3 rfl) rfl ?_
            refine lxsc (rd := [(108, slP Fu.ps 4 p.funcs), (110, eqP (.int .i64 f.defers[k].fn))]) (φ := cellsP (pfn p f.defers[k].fn).ps) rfl rfl rfl guard_eq (.cons (t := 108) rfl (fun h => entW h) (.cons (t := 110) rfl (fun h => entW h) .nil)) (fun hgd => ?_) rfl rfl ?_
            · have hq0 : 0 ≤ f.defers[k].fn ∧ f.defers[k].fn < (p.funcs.length : Int) := by
                simp at hgd
                omega
              exact op_index rfl rfl el22 sz66 (by omega : f.defers[k].fn = ((f.defers[k].fn.toNat : Nat) : Int)) (pfn_at (by omega) (by omega))
            first | refine lxs rfl rfl rfl guard_eq (.cons (t := 111) rfl (fun h => entW h) .nil) (op_fieldAddr rfl fl66_1 sz3) rfl ?_ | refine lxs rfl rfl rfl guard_eq (.cons (t := 111) rfl (fun h => entW h) .nil) (op_fieldCells rfl fl66_1 sz3) rfl ?_
            first | refine lxs rfl rfl rfl guard_eq (.cons (t := 112) rfl (fun h => entW h) .nil) (op_load_one rfl ag3 rfl) rfl ?_ | refine lxs rfl rfl rfl guard_eq (.cons (t := 112) rfl (fun h => entW h) .nil) (op_bload_one (m := 3) rfl rfl ag3 rfl) rfl ?_ | refine lxs rfl rfl rfl guard_eq (.cons (t := 112) rfl (fun h => entW h) .nil) (op_bload_one (m := 9) rfl rfl ag3 rfl) rfl ?_
            refine lxs rfl rfl rfl guard_eq (.cons (t := 106) rfl (fun h => entW h) (.cons (t := 113) rfl (fun h => entW h) .nil)) (op_neq rfl rfl) rfl ?_
            refine lx (op_pick_or rfl rfl) rfl ?_
            refine lx (op_move rfl) rfl ?_
            refine lxs rfl rfl rfl guard_eq (.cons (t := 9) rfl (fun _ => Ent.refl _) .nil) (op_fieldAddr rfl fl47_1 sz33) rfl ?_
            refine lxs rfl rfl rfl guard_eq (.cons (t := 117) rfl (fun h => entW h) .nil) (op_bload_one (m := 9) rfl rfl ag33 rfl) rfl ?_
            first | refine lxs rfl rfl rfl guard_eq (.cons (t := 118) rfl (fun h => entW h) .nil) (op_call (l := [(Go.Operand.tmp 118)]) (values_ok f.defers[k].args (by have := hb.args f.defers[k] (List.getElem_mem ..); omega)) (.cons rfl .nil) fn44) rfl ?_ | refine lxs rfl rfl rfl guard_eq (.cons (t := 118) rfl (fun h => entW h) .nil) (op_call (l := [(Go.Operand.tmp 118)]) (values_ok f.defers[k].args (by have := hb.args f.defers[k] (List.getElem_mem ..); omega)) (.ent rfl (by repeat (first | exact Ents.nil | refine Ents.cons ?_ ?_ | refine Ent.tup ?_ | refine Ent.agg ?_ | exact Ent.row _ _ _ _ | exact Ent.nil _ _ | exact Ent.func _ | exact Ent.refl _ | exact Ent.of_eq rfl | refine Ent.cells ?_)) .nil) fn44) rfl ?_
            first | refine lxs rfl rfl rfl guard_eq (.cons (t := 119) rfl (fun h => entW h) .nil) (op_not rfl) rfl ?_ | refine lxs rfl rfl rfl guard_eq (.cons (t := 119) rfl (fun h => entW h) .nil) (op_not_b rfl) rfl ?_
            refine lx (op_pick_or rfl rfl) rfl ?_
            refine lx_end ⟨by kernel_rfl, ?_⟩
            refine pe_then_normal ?_
            refine tr_sub hC (.cons (t := 3) rfl (.cons (t := 86) rfl (.cons (t := 87) rfl (.cons (t := 88) rfl (.cons (t := 121) rfl .nil))))) (.cons (t := 3) rfl .nil) rfl ?_
            refine tr_cond rfl (fun h121 => ?_) (fun h121 => ?_)
            · have hno := frm_no4 (p := p) (b := (some h)) (all_bad (φ := defOK p) (by omega : k < f.defers.length) (def_no h121))
              refine tr_seq ?_
              refine tr_region (fun N12 hN => ?_)
              refine lx (op_assign rfl) rfl ?_
              refine lx_end ⟨by kernel_rfl, ?_⟩
              refine pe_then_normal ?_
              refine tr_sub hC (.cons (t := 6) rfl .nil) .nil rfl ?_
              refine tr_ret ?_
              refine pe_block_ret ?_
              refine pe_then_ret ?_
              refine pe_then_ret ?_
              refine pe_block_ret ?_
              refine pe_then_ret ?_
              refine pe_ret1 rfl hO rfl (.tmp rfl .nil) ?_
              rw [hno]
              repeat (first | exact Ents.nil | refine Ents.cons ?_ ?_ | refine Ent.tup ?_ | refine Ent.agg ?_ | exact Ent.row _ _ _ _ | exact Ent.nil _ _ | exact Ent.func _ | exact Ent.refl _ | exact Ent.of_eq rfl | refine Ent.cells ?_)
            · have hdy := def_yes h121
              refine tr_skip ?_
              refine pe_block_normal ?_
              refine pe_then_normal ?_
              refine tr_sub hC (.cons (t := 3) rfl (.cons (t := 86) rfl (.cons (t := 87) rfl (.cons (t := 88) rfl .nil)))) (.cons (t := 3) rfl .nil) rfl ?_
              refine tr_region (fun N13 hN => ?_)
              refine lx (op_add rfl rfl (by omega)) rfl ?_
              refine lx (op_move rfl) rfl ?_
              refine lx_end ⟨by kernel_rfl, ?_⟩
              refine pe_round (⟨(k + 1), by omega, all_step (φ := defOK p) hk2 (by omega) hdy⟩) (by dsimp only; omega) (pe_st hC ?_ ?_ rfl)
              · try dsimp only [List.cons_append, List.nil_append]
                first | refine SubF.cons rfl ?_ | (refine SubF.ent rfl ?_ ?_; · repeat (first | exact Ents.nil | refine Ents.cons ?_ ?_ | refine Ent.tup ?_ | refine Ent.agg ?_ | exact Ent.row _ _ _ _ | exact Ent.nil _ _ | exact Ent.func _ | exact Ent.refl _ | exact Ent.of_eq rfl | refine Ent.cells ?_))
                first | refine SubF.cons rfl ?_ | (refine SubF.ent rfl ?_ ?_; · repeat (first | exact Ents.nil | refine Ents.cons ?_ ?_ | refine Ent.tup ?_ | refine Ent.agg ?_ | exact Ent.row _ _ _ _ | exact Ent.nil _ _ | exact Ent.func _ | exact Ent.refl _ | exact Ent.of_eq rfl | refine Ent.cells ?_))
                first | refine SubF.cons rfl ?_ | (refine SubF.ent rfl ?_ ?_; · repeat (first | exact Ents.nil | refine Ents.cons ?_ ?_ | refine Ent.tup ?_ | refine Ent.agg ?_ | exact Ent.row _ _ _ _ | exact Ent.nil _ _ | exact Ent.func _ | exact Ent.refl _ | exact Ent.of_eq rfl | refine Ent.cells ?_))
                first | refine SubF.cons rfl ?_ | (refine SubF.ent rfl ?_ ?_; · repeat (first | exact Ents.nil | refine Ents.cons ?_ ?_ | refine Ent.tup ?_ | refine Ent.agg ?_ | exact Ent.row _ _ _ _ | exact Ent.nil _ _ | exact Ent.func _ | exact Ent.refl _ | exact Ent.of_eq rfl | refine Ent.cells ?_))
                exact SubF.nil
              · try dsimp only [List.cons_append, List.nil_append]
                repeat (first | exact SubL.nil | refine SubL.cons rfl ?_)
          · (try simp only [Bool.and_eq_true, Bool.or_eq_true, Bool.and_eq_false_iff, Bool.or_eq_false_iff, decide_eq_true_eq, decide_eq_false_iff_not, Bool.not_eq_true', Bool.not_eq_false', List.length_map, ne_eq, Decidable.not_not, Int.not_lt, Int.not_le] at h89)
            have hfin := frm_yes h1 h2 h3 (all_end hk2 (by omega))
            refine tr_exit ?_
            refine pe_then_exit ?_
            refine pe_then_exit ?_
            refine pe_block_eq ?_
            refine pe_then_normal ?_
            refine tr_sub hC .nil .nil rfl ?_
            refine tr_seq ?_
            refine tr_region (fun N14 hN => ?_)
            refine lx (op_assign rfl) rfl ?_
            refine lx_end ⟨by kernel_rfl, ?_⟩
            refine pe_then_normal ?_
            refine tr_sub hC (.cons (t := 6) rfl .nil) .nil rfl ?_
            refine tr_ret ?_
            refine pe_ret1 rfl hO rfl (.tmp rfl .nil) ?_
            rw [hfin]
            repeat (first | exact Ents.nil | refine Ents.cons ?_ ?_ | refine Ent.tup ?_ | refine Ent.agg ?_ | exact Ent.row _ _ _ _ | exact Ent.nil _ _ | exact Ent.func _ | exact Ent.refl _ | exact Ent.of_eq rfl | refine Ent.cells ?_)
theorem frame_ok (p : Pg) (f : Fm) (hb : BdF 9223372036854775807 f) (b : Option Fm) : FnP Try.prog 37 [aggP p.ps, aggP f.ps, belP b] (eqP (.bool (frmOK p b f))) := by
  cases b with
  | none => exact frame_nil p f hb
  | some h => exact frame_some p f hb h
theorem Valid_ok (p : Pg) (g : Gr) (hb : BdG 9223372036854775807 g) : FnP Try.prog 14 [aggP p.ps, aggP g.ps] (eqP (.bool (validG p g))) := by
  refine fn_pure' Try.func14 rfl Try.ntmps14 rfl ?_
  intro σ0 M ex Rf R hC hO
  simp only [frameOf, tokOf]
  refine tr_seq ?_
  refine tr_region (fun N0 hN => ?_)
  refine lxn (op_box (m := 2) (k := 2) rfl (.agg rfl) (by first | exact hC.low _ (by decide) | rfl)) rfl ?_
  refine lxn (op_box (m := 3) (k := 3) rfl (.agg rfl) (by first | exact hC.low _ (by decide) | rfl)) rfl ?_
  refine lx (op_assign rfl) rfl ?_
  refine lx_end ⟨by kernel_rfl, ?_⟩
  refine pe_then_normal ?_
  refine tr_sub hC (.cons (t := 2) rfl (.cons (t := 3) rfl .nil)) (.cons (t := 2) rfl (.cons (t := 3) rfl .nil)) rfl ?_
  refine tr_seq ?_
  refine tr_block ?_
  refine tr_seq ?_
  refine tr_region (fun N1 hN => ?_)
  refine lx (op_fieldAddr rfl fl29_0 sz3) rfl ?_
  refine lx (op_bload_one (m := 3) rfl rfl ag3 rfl) rfl ?_
  refine lx (op_lss rfl rfl) rfl ?_
  refine lx (op_move rfl) rfl ?_
  refine lxs rfl rfl rfl guard_eq (.cons (t := 3) rfl (fun _ => Ent.refl _) .nil) (op_fieldAddr rfl fl29_0 sz3) rfl ?_
  refine lxs rfl rfl rfl guard_eq (.cons (t := 12) rfl (fun h => entW h) .nil) (op_bload_one (m := 3) rfl rfl ag3 rfl) rfl ?_
  refine lxs rfl rfl rfl guard_eq (.cons (t := 13) rfl (fun h => entW h) .nil) (op_gtr rfl rfl) rfl ?_
  refine lx (op_pick_or rfl rfl) rfl ?_
  refine lx (op_move rfl) rfl ?_
  refine lxs rfl rfl rfl guard_eq (.cons (t := 3) rfl (fun _ => Ent.refl _) .nil) (op_fieldAddr rfl fl29_1 sz3) rfl ?_
  refine lxs rfl rfl rfl guard_eq (.cons (t := 17) rfl (fun h => entW h) .nil) (op_bload_one (m := 3) rfl rfl ag3 rfl) rfl ?_
  refine lxs rfl rfl rfl guard_eq (.cons (t := 18) rfl (fun h => entW h) .nil) (op_lss rfl rfl) rfl ?_
  refine lx (op_pick_or rfl rfl) rfl ?_
  refine lx (op_move rfl) rfl ?_
  refine lxs rfl rfl rfl guard_eq (.cons (t := 3) rfl (fun _ => Ent.refl _) .nil) (op_fieldAddr rfl fl29_1 sz3) rfl ?_
  refine lxs rfl rfl rfl guard_eq (.cons (t := 22) rfl (fun h => entW h) .nil) (op_bload_one (m := 3) rfl rfl ag3 rfl) rfl ?_
  refine lxs rfl rfl rfl guard_eq (.cons (t := 23) rfl (fun h => entW h) .nil) (op_gtr rfl rfl) rfl ?_
  refine lx (op_pick_or rfl rfl) rfl ?_
  refine lx (op_assign rfl) rfl ?_
  refine lx_end ⟨by kernel_rfl, ?_⟩
  refine pe_then_normal ?_
  refine tr_sub hC (.cons (t := 2) rfl (.cons (t := 3) rfl (.cons (t := 7) rfl .nil))) (.cons (t := 2) rfl (.cons (t := 3) rfl .nil)) rfl ?_
  refine tr_cond rfl (fun h7 => ?_) (fun h7 => ?_)
  · (try simp only [Bool.and_eq_true, Bool.or_eq_true, Bool.and_eq_false_iff, Bool.or_eq_false_iff, decide_eq_true_eq, decide_eq_false_iff_not, Bool.not_eq_true', Bool.not_eq_false', List.length_map, ne_eq, Decidable.not_not, Int.not_lt, Int.not_le] at h7)
    have hbad := valid_hdr (p := p) (hdr_no (g := g) (by omega))
    refine tr_seq ?_
    refine tr_region (fun N2 hN => ?_)
    refine lx (op_assign rfl) rfl ?_
    refine lx_end ⟨by kernel_rfl, ?_⟩
    refine pe_then_normal ?_
    refine tr_sub hC (.cons (t := 4) rfl .nil) .nil rfl ?_
    refine tr_ret ?_
    refine pe_block_ret ?_
    refine pe_then_ret ?_
    refine pe_ret1 rfl hO rfl (.tmp rfl .nil) ?_
    rw [hbad]
    repeat (first | exact Ents.nil | refine Ents.cons ?_ ?_ | refine Ent.tup ?_ | refine Ent.agg ?_ | exact Ent.row _ _ _ _ | exact Ent.nil _ _ | exact Ent.func _ | exact Ent.refl _ | exact Ent.of_eq rfl | refine Ent.cells ?_)
  · (try simp only [Bool.and_eq_true, Bool.or_eq_true, Bool.and_eq_false_iff, Bool.or_eq_false_iff, decide_eq_true_eq, decide_eq_false_iff_not, Bool.not_eq_true', Bool.not_eq_false', List.length_map, ne_eq, Decidable.not_not, Int.not_lt, Int.not_le] at h7)
    refine tr_seq ?_
    refine tr_region (fun N3 hN => ?_)
    refine lx (op_fieldAddr rfl fl29_0 sz3) rfl ?_
    refine lx (op_bload_one (m := 3) rfl rfl ag3 rfl) rfl ?_
    refine lx (op_eql rfl rfl) rfl ?_
    refine lx (op_fieldAddr rfl fl29_1 sz3) rfl ?_
    refine lx (op_bload_one (m := 3) rfl rfl ag3 rfl) rfl ?_
    refine lx (op_neq rfl rfl) rfl ?_
    refine lx (op_neq_bool bo4 rfl rfl) rfl ?_
    refine lx (op_move rfl) rfl ?_
    refine lxs rfl rfl rfl guard_eq (.cons (t := 3) rfl (fun _ => Ent.refl _) .nil) (op_fieldAddr rfl fl29_0 sz3) rfl ?_
    refine lxs rfl rfl rfl guard_eq (.cons (t := 35) rfl (fun h => entW h) .nil) (op_bload_one (m := 3) rfl rfl ag3 rfl) rfl ?_
    refine lxs rfl rfl rfl guard_eq (.cons (t := 36) rfl (fun h => entW h) .nil) (op_eql rfl rfl) rfl ?_
    refine lxs rfl rfl rfl guard_eq (.cons (t := 3) rfl (fun _ => Ent.refl _) .nil) (op_fieldAddr rfl fl29_3 sz27) rfl ?_
    refine lxs rfl rfl rfl guard_eq (.cons (t := 38) rfl (fun h => entW h) .nil) (op_bload_one (m := 3) rfl rfl ag27 rfl) rfl ?_
    first | refine lxs rfl rfl rfl guard_eq (.cons (t := 39) rfl (fun h => entW h) .nil) (op_len rfl el27) rfl ?_ | refine lxs rfl rfl rfl guard_eq (.cons (t := 39) rfl (fun h => entW h) .nil) (op_len_row rfl el27) rfl ?_ | refine lxs rfl rfl rfl guard_eq (.cons (t := 39) rfl (fun h => entW h) .nil) (op_len_mv rfl el27) rfl ?_ | refine lxs rfl rfl rfl guard_eq (.cons (t := 39) rfl (fun h => entW h) .nil) (op_len_nil rfl el27) rfl ?_
    refine lxs rfl rfl rfl guard_eq (.cons (t := 40) rfl (fun h => entW h) .nil) (op_eql rfl rfl) rfl ?_
    refine lxs rfl rfl rfl guard_eq (.cons (t := 37) rfl (fun h => entW h) (.cons (t := 41) rfl (fun h => entW h) .nil)) (op_neq_bool bo4 rfl rfl) rfl ?_
    refine lx (op_pick_or rfl rfl) rfl ?_
    refine lx (op_assign rfl) rfl ?_
    refine lx_end ⟨by kernel_rfl, ?_⟩
    refine pe_then_normal ?_
    refine tr_sub hC (.cons (t := 2) rfl (.cons (t := 3) rfl (.cons (t := 26) rfl .nil))) (.cons (t := 2) rfl (.cons (t := 3) rfl .nil)) rfl ?_
    refine tr_cond rfl (fun h26 => ?_) (fun h26 => ?_)
    · have hbad := valid_hdr (p := p) (hdr_no (g := g) (fun hh => two_no h26 ⟨hh.2.2.2.2.1, hh.2.2.2.2.2.1⟩))
      refine tr_seq ?_
      refine tr_region (fun N4 hN => ?_)
      refine lx (op_assign rfl) rfl ?_
      refine lx_end ⟨by kernel_rfl, ?_⟩
      refine pe_then_normal ?_
      refine tr_sub hC (.cons (t := 4) rfl .nil) .nil rfl ?_
      refine tr_ret ?_
      refine pe_block_ret ?_
      refine pe_then_ret ?_
      refine pe_ret1 rfl hO rfl (.tmp rfl .nil) ?_
      rw [hbad]
      repeat (first | exact Ents.nil | refine Ents.cons ?_ ?_ | refine Ent.tup ?_ | refine Ent.agg ?_ | exact Ent.row _ _ _ _ | exact Ent.nil _ _ | exact Ent.func _ | exact Ent.refl _ | exact Ent.of_eq rfl | refine Ent.cells ?_)
    · have htw := two_iff h26
      refine tr_seq ?_
      refine tr_region (fun N5 hN => ?_)
      refine lx (op_fieldAddr rfl fl29_2 sz3) rfl ?_
      refine lx (op_bload_one (m := 3) rfl rfl ag3 rfl) rfl ?_
      refine lx (op_lss rfl rfl) rfl ?_
      refine lx (op_move rfl) rfl ?_
      refine lxs rfl rfl rfl guard_eq (.cons (t := 3) rfl (fun _ => Ent.refl _) .nil) (op_fieldAddr rfl fl29_2 sz3) rfl ?_
      refine lxs rfl rfl rfl guard_eq (.cons (t := 49) rfl (fun h => entW h) .nil) (op_bload_one (m := 3) rfl rfl ag3 rfl) rfl ?_
      refine lxs rfl rfl rfl guard_eq (.cons (t := 50) rfl (fun h => entW h) .nil) (op_gtr rfl rfl) rfl ?_
      refine lx (op_pick_or rfl rfl) rfl ?_
      refine lx (op_move rfl) rfl ?_
      refine lxs rfl rfl rfl guard_eq (.cons (t := 3) rfl (fun _ => Ent.refl _) .nil) (op_fieldAddr rfl fl29_3 sz27) rfl ?_
      refine lxs rfl rfl rfl guard_eq (.cons (t := 54) rfl (fun h => entW h) .nil) (op_bload_one (m := 3) rfl rfl ag27 rfl) rfl ?_
      first | refine lxs rfl rfl rfl guard_eq (.cons (t := 55) rfl (fun h => entW h) .nil) (op_len rfl el27) rfl ?_ | refine lxs rfl rfl rfl guard_eq (.cons (t := 55) rfl (fun h => entW h) .nil) (op_len_row rfl el27) rfl ?_ | refine lxs rfl rfl rfl guard_eq (.cons (t := 55) rfl (fun h => entW h) .nil) (op_len_mv rfl el27) rfl ?_ | refine lxs rfl rfl rfl guard_eq (.cons (t := 55) rfl (fun h => entW h) .nil) (op_len_nil rfl el27) rfl ?_
      refine lxs rfl rfl rfl guard_eq (.cons (t := 56) rfl (fun h => entW h) .nil) (op_gtr rfl rfl) rfl ?_
      refine lx (op_pick_or rfl rfl) rfl ?_
      refine lx (op_assign rfl) rfl ?_
      refine lx_end ⟨by kernel_rfl, ?_⟩
      refine pe_then_normal ?_
      refine tr_sub hC (.cons (t := 2) rfl (.cons (t := 3) rfl (.cons (t := 44) rfl .nil))) (.cons (t := 2) rfl (.cons (t := 3) rfl .nil)) rfl ?_
      refine tr_cond rfl (fun h44 => ?_) (fun h44 => ?_)
      · (try simp only [Bool.and_eq_true, Bool.or_eq_true, Bool.and_eq_false_iff, Bool.or_eq_false_iff, decide_eq_true_eq, decide_eq_false_iff_not, Bool.not_eq_true', Bool.not_eq_false', List.length_map, ne_eq, Decidable.not_not, Int.not_lt, Int.not_le] at h44)
        have hbad := valid_hdr (p := p) (hdr_no (g := g) (by omega))
        refine tr_seq ?_
        refine tr_region (fun N6 hN => ?_)
        refine lx (op_assign rfl) rfl ?_
        refine lx_end ⟨by kernel_rfl, ?_⟩
        refine pe_then_normal ?_
        refine tr_sub hC (.cons (t := 4) rfl .nil) .nil rfl ?_
        refine tr_ret ?_
        refine pe_block_ret ?_
        refine pe_then_ret ?_
        refine pe_ret1 rfl hO rfl (.tmp rfl .nil) ?_
        rw [hbad]
        repeat (first | exact Ents.nil | refine Ents.cons ?_ ?_ | refine Ent.tup ?_ | refine Ent.agg ?_ | exact Ent.row _ _ _ _ | exact Ent.nil _ _ | exact Ent.func _ | exact Ent.refl _ | exact Ent.of_eq rfl | refine Ent.cells ?_)
      · (try simp only [Bool.and_eq_true, Bool.or_eq_true, Bool.and_eq_false_iff, Bool.or_eq_false_iff, decide_eq_true_eq, decide_eq_false_iff_not, Bool.not_eq_true', Bool.not_eq_false', List.length_map, ne_eq, Decidable.not_not, Int.not_lt, Int.not_le] at h44)
        have hyes : hdrOK g = true := hdr_yes ⟨by omega, by omega, by omega, by omega, htw.1, htw.2, by omega, by omega, by omega⟩
        have hvg := valid_frs (p := p) hyes
        refine tr_skip ?_
        refine pe_block_normal ?_
        refine pe_then_normal ?_
        refine tr_sub hC (.cons (t := 2) rfl (.cons (t := 3) rfl .nil)) (.cons (t := 2) rfl (.cons (t := 3) rfl .nil)) rfl ?_
        refine tr_seq ?_
        refine tr_region (fun N7 hN => ?_)
        refine lx (op_assign rfl) rfl ?_
        refine lx_end ⟨by kernel_rfl, ?_⟩
        refine pe_then_normal ?_
        refine tr_sub hC (.cons (t := 2) rfl (.cons (t := 3) rfl (.cons (t := 5) rfl .nil))) (.cons (t := 2) rfl (.cons (t := 3) rfl .nil)) rfl ?_
        refine tr_seq ?_
        refine tr_seq ?_
        refine tr_region (fun N8 hN => ?_)
        refine lx (op_fieldAddr rfl fl29_3 sz27) rfl ?_
        refine lx (op_bload_one (m := 3) rfl rfl ag27 rfl) rfl ?_
        first | refine lx (op_len rfl el27) rfl ?_ | refine lx (op_len_row rfl el27) rfl ?_ | refine lx (op_len_mv rfl el27) rfl ?_ | refine lx (op_len_nil rfl el27) rfl ?_
        refine lx (op_move rfl) rfl ?_
        refine lx_end ⟨by kernel_rfl, ?_⟩
        refine pe_then_normal ?_
        refine tr_sub hC (.cons (t := 2) rfl (.cons (t := 3) rfl (.cons (t := 5) rfl (.cons (t := 61) rfl (.cons (t := 62) rfl .nil))))) (.cons (t := 2) rfl (.cons (t := 3) rfl .nil)) rfl ?_
        refine tr_block ?_
        refine tr_sub hC (.cons (t := 2) rfl (.cons (t := 3) rfl (.ent (t := 5) rfl ((show Ent (eqP (.pointer none)) (belP (prvF g.frames 0)) from Ent.refl _)) (.cons (t := 61) rfl (.cons (t := 62) rfl .nil))))) (.cons (t := 2) rfl (.cons (t := 3) rfl .nil)) rfl ?_
        refine tr_loopK (α := {zz : Nat // zz ≤ g.frames.length ∧ frsOK p (prvF g.frames zz) (g.frames.drop zz) = frsOK p none g.frames}) (⟨(0), Nat.zero_le _, rfl⟩) (fun zz => [(5, belP (prvF g.frames zz.1)), (62, eqP (.int .i64 (zz.1 : Int)))]) (fun zz => []) (fun zz => g.frames.length - zz.1) hC (.cons (t := 2) rfl (.cons (t := 3) rfl (.cons (t := 61) rfl .nil))) (.cons (t := 2) rfl (.cons (t := 3) rfl .nil)) rfl ?_ ?_ (fun zz => ?_)
        · try dsimp only [List.cons_append, List.nil_append]
          first | refine SubF.cons rfl ?_ | (refine SubF.ent rfl ?_ ?_; · repeat (first | exact Ents.nil | refine Ents.cons ?_ ?_ | refine Ent.tup ?_ | refine Ent.agg ?_ | exact Ent.row _ _ _ _ | exact Ent.nil _ _ | exact Ent.func _ | exact Ent.refl _ | exact Ent.of_eq rfl | refine Ent.cells ?_))
          first | refine SubF.cons rfl ?_ | (refine SubF.ent rfl ?_ ?_; · repeat (first | exact Ents.nil | refine Ents.cons ?_ ?_ | refine Ent.tup ?_ | refine Ent.agg ?_ | exact Ent.row _ _ _ _ | exact Ent.nil _ _ | exact Ent.func _ | exact Ent.refl _ | exact Ent.of_eq rfl | refine Ent.cells ?_))
          exact SubF.nil
        · try dsimp only [List.cons_append, List.nil_append]
          repeat (first | exact SubL.nil | refine SubL.cons rfl ?_)
        · obtain ⟨k, hk1, hk2⟩ := zz
          dsimp only [List.cons_append, List.nil_append]
          refine tr_seq ?_
          refine tr_region (fun N9 hN => ?_)
          refine lx (op_lss rfl rfl) rfl ?_
          refine lx_end ⟨by kernel_rfl, ?_⟩
          refine pe_then_normal ?_
          refine tr_sub hC (.cons (t := 2) rfl (.cons (t := 3) rfl (.cons (t := 5) rfl (.cons (t := 61) rfl (.cons (t := 62) rfl (.cons (t := 63) rfl .nil)))))) (.cons (t := 2) rfl (.cons (t := 3) rfl .nil)) rfl ?_
          refine tr_seq ?_
          refine tr_cond rfl (fun h63 => ?_) (fun h63 => ?_)
          · (try simp only [Bool.and_eq_true, Bool.or_eq_true, Bool.and_eq_false_iff, Bool.or_eq_false_iff, decide_eq_true_eq, decide_eq_false_iff_not, Bool.not_eq_true', Bool.not_eq_false', List.length_map, ne_eq, Decidable.not_not, Int.not_lt, Int.not_le] at h63)
            refine tr_skip ?_
            refine pe_then_normal ?_
            refine tr_sub hC (.cons (t := 2) rfl (.cons (t := 3) rfl (.cons (t := 5) rfl (.cons (t := 61) rfl (.cons (t := 62) rfl .nil))))) (.cons (t := 2) rfl (.cons (t := 3) rfl .nil)) rfl ?_
            refine tr_seq ?_
            refine tr_block ?_
            refine tr_seq ?_
            refine tr_region (fun N10 hN => ?_)
            refine lx (op_move rfl) rfl ?_
            refine lx (op_assign rfl) rfl ?_
            refine lx_end ⟨by kernel_rfl, ?_⟩
            refine pe_then_normal ?_
            refine tr_sub hC (.cons (t := 2) rfl (.cons (t := 3) rfl (.cons (t := 5) rfl (.cons (t := 6) rfl (.cons (t := 61) rfl (.cons (t := 62) rfl .nil)))))) (.cons (t := 2) rfl (.cons (t := 3) rfl .nil)) rfl ?_
            refine tr_seq ?_
            refine tr_seq ?_
            refine tr_drawn mixed (fun N11 hN => ?_)
            refine lx (op_bload (m := 2) rfl rfl ag26 sz26) rfl ?_
            refine lx (op_fieldAddr rfl fl29_3 sz27) rfl ?_
            refine lx (op_bload_one (m := 3) rfl rfl ag27 rfl) rfl ?_
            refine lx (op_move rfl) rfl ?_
            refine lx (op_index rfl rfl el27 sz60 rfl (List.getElem?_eq_getElem (by omega : k < g.frames.length))) rfl ?_
            first | refine lx (op_load_all rfl ag60 sz60) rfl ?_ | refine lx (op_load_agg rfl ag60 sz60 rfl) rfl ?_ | refine lx (op_bload (m := 2) rfl rfl ag60 sz60) rfl ?_ | refine lx (op_bload (m := 3) rfl rfl ag60 sz60) rfl ?_ | refine lx (op_bload_part (m := 2) (qs := [_, _, _, _, _, _, _, _, _]) rfl rfl ag60 sz60 rfl rfl) rfl ?_ | refine lx (op_bload_part (m := 3) (qs := [_, _, _, _, _, _, _, _, _]) rfl rfl ag60 sz60 rfl rfl) rfl ?_
            refine lx (op_move rfl) rfl ?_
            first | refine lx (op_call (l := [(Go.Operand.tmp 65), (Go.Operand.tmp 70), (Go.Operand.tmp 71)]) (frame_ok p g.frames[k] (hb.each _ (List.getElem_mem ..)) (prvF g.frames k)) (.cons rfl (.cons rfl (.cons rfl .nil))) fn37) rfl ?_ | refine lx (op_call (l := [(Go.Operand.tmp 65), (Go.Operand.tmp 70), (Go.Operand.tmp 71)]) (frame_ok p g.frames[k] (hb.each _ (List.getElem_mem ..)) (prvF g.frames k)) (.ent rfl (by repeat (first | exact Ents.nil | refine Ents.cons ?_ ?_ | refine Ent.tup ?_ | refine Ent.agg ?_ | exact Ent.row _ _ _ _ | exact Ent.nil _ _ | exact Ent.func _ | exact Ent.refl _ | exact Ent.of_eq rfl | refine Ent.cells ?_)) (.ent rfl (by repeat (first | exact Ents.nil | refine Ents.cons ?_ ?_ | refine Ent.tup ?_ | refine Ent.agg ?_ | exact Ent.row _ _ _ _ | exact Ent.nil _ _ | exact Ent.func _ | exact Ent.refl _ | exact Ent.of_eq rfl | refine Ent.cells ?_)) (.ent rfl (by repeat (first | exact Ents.nil | refine Ents.cons ?_ ?_ | refine Ent.tup ?_ | refine Ent.agg ?_ | exact Ent.row _ _ _ _ | exact Ent.nil _ _ | exact Ent.func _ | exact Ent.refl _ | exact Ent.of_eq rfl | refine Ent.cells ?_)) .nil))) fn37) rfl ?_
            first | refine lx (op_not rfl) rfl ?_ | refine lx (op_not_b rfl) rfl ?_
            refine lx_end ⟨by kernel_rfl, ?_⟩
            refine pe_then_normal ?_
            refine tr_sub hC (.cons (t := 2) rfl (.cons (t := 3) rfl (.cons (t := 6) rfl (.cons (t := 61) rfl (.cons (t := 62) rfl (.cons (t := 73) rfl .nil)))))) (.cons (t := 2) rfl (.cons (t := 3) rfl .nil)) rfl ?_
            refine tr_cond rfl (fun h73 => ?_) (fun h73 => ?_)
            · (try simp only [Bool.and_eq_true, Bool.or_eq_true, Bool.and_eq_false_iff, Bool.or_eq_false_iff, decide_eq_true_eq, decide_eq_false_iff_not, Bool.not_eq_true', Bool.not_eq_false', List.length_map, ne_eq, Decidable.not_not, Int.not_lt, Int.not_le] at h73)
              have hbad := hvg.trans (frs_bad (by omega) hk2 h73)
              refine tr_seq ?_
              refine tr_region (fun N12 hN => ?_)
              refine lx (op_assign rfl) rfl ?_
              refine lx_end ⟨by kernel_rfl, ?_⟩
              refine pe_then_normal ?_
              refine tr_sub hC (.cons (t := 4) rfl .nil) .nil rfl ?_
              refine tr_ret ?_
              refine pe_then_ret ?_
              refine pe_block_ret ?_
              refine pe_then_ret ?_
              refine pe_then_ret ?_
              refine pe_block_ret ?_
              refine pe_then_ret ?_
              refine pe_ret1 rfl hO rfl (.tmp rfl .nil) ?_
              rw [hbad]
              repeat (first | exact Ents.nil | refine Ents.cons ?_ ?_ | refine Ent.tup ?_ | refine Ent.agg ?_ | exact Ent.row _ _ _ _ | exact Ent.nil _ _ | exact Ent.func _ | exact Ent.refl _ | exact Ent.of_eq rfl | refine Ent.cells ?_)
            · (try simp only [Bool.and_eq_true, Bool.or_eq_true, Bool.and_eq_false_iff, Bool.or_eq_false_iff, decide_eq_true_eq, decide_eq_false_iff_not, Bool.not_eq_true', Bool.not_eq_false', List.length_map, ne_eq, Decidable.not_not, Int.not_lt, Int.not_le] at h73)
              have hgo := frs_next (by omega) hk2 h73
              refine tr_skip ?_
              refine pe_then_normal ?_
              refine tr_sub hC (.cons (t := 2) rfl (.cons (t := 3) rfl (.cons (t := 6) rfl (.cons (t := 61) rfl (.cons (t := 62) rfl .nil))))) (.cons (t := 2) rfl (.cons (t := 3) rfl .nil)) rfl ?_
              refine tr_region (fun N13 hN => ?_)
              refine lx (op_fieldAddr rfl fl29_3 sz27) rfl ?_
              refine lx (op_bload_one (m := 3) rfl rfl ag27 rfl) rfl ?_
              refine lx (op_move rfl) rfl ?_
              refine lx (op_index rfl rfl el27 sz60 rfl (List.getElem?_eq_getElem (by omega : k < g.frames.length))) rfl ?_
              refine lx (op_assign rfl) rfl ?_
              refine lx_end ⟨by kernel_rfl, ?_⟩
              refine pe_block_normal ?_
              refine pe_then_normal ?_
              refine tr_sub hC (.cons (t := 2) rfl (.cons (t := 3) rfl (.cons (t := 5) rfl (.cons (t := 61) rfl (.cons (t := 62) rfl .nil))))) (.cons (t := 2) rfl (.cons (t := 3) rfl .nil)) rfl ?_
              have hbel : Ent (cellsP g.frames[k].ps) (belP (prvF g.frames (k + 1))) := by rw [prvF_succ (by omega)]; exact Ent.refl _
              refine tr_sub hC (.cons (t := 2) rfl (.cons (t := 3) rfl (.ent (t := 5) rfl (hbel) (.cons (t := 61) rfl (.cons (t := 62) rfl .nil))))) (.cons (t := 2) rfl (.cons (t := 3) rfl .nil)) rfl ?_
              refine tr_region (fun N14 hN => ?_)
              refine lx (op_add rfl rfl (by omega)) rfl ?_
              refine lx (op_move rfl) rfl ?_
              refine lx_end ⟨by kernel_rfl, ?_⟩
              refine pe_round (⟨(k + 1), by omega, hgo⟩) (by dsimp only; omega) (pe_st hC ?_ ?_ rfl)
              · try dsimp only [List.cons_append, List.nil_append]
                first | refine SubF.cons rfl ?_ | (refine SubF.ent rfl ?_ ?_; · repeat (first | exact Ents.nil | refine Ents.cons ?_ ?_ | refine Ent.tup ?_ | refine Ent.agg ?_ | exact Ent.row _ _ _ _ | exact Ent.nil _ _ | exact Ent.func _ | exact Ent.refl _ | exact Ent.of_eq rfl | refine Ent.cells ?_))
                first | refine SubF.cons rfl ?_ | (refine SubF.ent rfl ?_ ?_; · repeat (first | exact Ents.nil | refine Ents.cons ?_ ?_ | refine Ent.tup ?_ | refine Ent.agg ?_ | exact Ent.row _ _ _ _ | exact Ent.nil _ _ | exact Ent.func _ | exact Ent.refl _ | exact Ent.of_eq rfl | refine Ent.cells ?_))
                first | refine SubF.cons rfl ?_ | (refine SubF.ent rfl ?_ ?_; · repeat (first | exact Ents.nil | refine Ents.cons ?_ ?_ | refine Ent.tup ?_ | refine Ent.agg ?_ | exact Ent.row _ _ _ _ | exact Ent.nil _ _ | exact Ent.func _ | exact Ent.refl _ | exact Ent.of_eq rfl | refine Ent.cells ?_))
                first | refine SubF.cons rfl ?_ | (refine SubF.ent rfl ?_ ?_; · repeat (first | exact Ents.nil | refine Ents.cons ?_ ?_ | refine Ent.tup ?_ | refine Ent.agg ?_ | exact Ent.row _ _ _ _ | exact Ent.nil _ _ | exact Ent.func _ | exact Ent.refl _ | exact Ent.of_eq rfl | refine Ent.cells ?_))
                first | refine SubF.cons rfl ?_ | (refine SubF.ent rfl ?_ ?_; · repeat (first | exact Ents.nil | refine Ents.cons ?_ ?_ | refine Ent.tup ?_ | refine Ent.agg ?_ | exact Ent.row _ _ _ _ | exact Ent.nil _ _ | exact Ent.func _ | exact Ent.refl _ | exact Ent.of_eq rfl | refine Ent.cells ?_))
                exact SubF.nil
              · try dsimp only [List.cons_append, List.nil_append]
                repeat (first | exact SubL.nil | refine SubL.cons rfl ?_)
          · (try simp only [Bool.and_eq_true, Bool.or_eq_true, Bool.and_eq_false_iff, Bool.or_eq_false_iff, decide_eq_true_eq, decide_eq_false_iff_not, Bool.not_eq_true', Bool.not_eq_false', List.length_map, ne_eq, Decidable.not_not, Int.not_lt, Int.not_le] at h63)
            have hfin := hvg.trans (frs_end (by omega) hk2)
            refine tr_exit ?_
            refine pe_then_exit ?_
            refine pe_then_exit ?_
            refine pe_block_eq ?_
            refine pe_then_normal ?_
            refine tr_sub hC .nil .nil rfl ?_
            refine tr_seq ?_
            refine tr_region (fun N15 hN => ?_)
            refine lx (op_assign rfl) rfl ?_
            refine lx_end ⟨by kernel_rfl, ?_⟩
            refine pe_then_normal ?_
            refine tr_sub hC (.cons (t := 4) rfl .nil) .nil rfl ?_
            refine tr_ret ?_
            refine pe_ret1 rfl hO rfl (.tmp rfl .nil) ?_
            rw [hfin]
            repeat (first | exact Ents.nil | refine Ents.cons ?_ ?_ | refine Ent.tup ?_ | refine Ent.agg ?_ | exact Ent.row _ _ _ _ | exact Ent.nil _ _ | exact Ent.func _ | exact Ent.refl _ | exact Ent.of_eq rfl | refine Ent.cells ?_)
end Go.Proofs.Ythiknhmoefbanaa


set_option linter.unusedVariables false
set_option linter.unusedSimpArgs false
namespace Go.Proofs.Ythiknhmoefbanaa
open Go.AL Go.Ch Go.Hp Go.RowKit
end Go.Proofs.Ythiknhmoefbanaa


set_option linter.unusedVariables false
set_option linter.unusedSimpArgs false
namespace Go.Proofs.Ythiknhmoefbanaa
open Go.AL Go.Ch Go.Hp Go.RowKit
theorem fl80_0 : fldB Try.prog 80 0 = some (0, 3) := by kernel_rfl
theorem fl80_1 : fldB Try.prog 80 1 = some (1, 3) := by kernel_rfl
theorem sz80 : sizeB Try.prog 80 = some 5 := by kernel_rfl
def rolesF (x : Int) : ByteArray :=
  if x = 1 then ⟨#[100, 105, 45]⟩
  else if x = 2 then ⟨#[100, 45, 45]⟩
  else if x = 3 then ⟨#[100, 114, 45]⟩
  else if x = 9 then ⟨#[100, 114, 45]⟩
  else if x = 10 then ⟨#[100, 114, 45]⟩
  else if x = 15 then ⟨#[100, 114, 45]⟩
  else if x = 22 then ⟨#[100, 114, 45]⟩
  else if x = 23 then ⟨#[100, 114, 45]⟩
  else if x = 33 then ⟨#[100, 114, 45]⟩
  else if x = 35 then ⟨#[100, 114, 45]⟩
  else if x = 4 then ⟨#[100, 114, 114]⟩
  else if x = 5 then ⟨#[100, 114, 114]⟩
  else if x = 6 then ⟨#[100, 114, 114]⟩
  else if x = 7 then ⟨#[100, 114, 114]⟩
  else if x = 8 then ⟨#[100, 114, 114]⟩
  else if x = 11 then ⟨#[100, 114, 114]⟩
  else if x = 12 then ⟨#[100, 114, 114]⟩
  else if x = 13 then ⟨#[100, 114, 114]⟩
  else if x = 14 then ⟨#[100, 114, 114]⟩
  else if x = 20 then ⟨#[100, 114, 114]⟩
  else if x = 37 then ⟨#[100, 114, 114]⟩
  else if x = 38 then ⟨#[100, 114, 114]⟩
  else if x = 16 then ⟨#[45, 45, 106]⟩
  else if x = 17 then ⟨#[114, 45, 106]⟩
  else if x = 45 then ⟨#[114, 45, 106]⟩
  else if x = 18 then ⟨#[100, 103, 45]⟩
  else if x = 19 then ⟨#[100, 114, 110]⟩
  else if x = 21 then ⟨#[100, 108, 45]⟩
  else if x = 24 then ⟨#[100, 49, 110]⟩
  else if x = 25 then ⟨#[100, 110, 45]⟩
  else if x = 26 then ⟨#[68, 102, 97]⟩
  else if x = 28 then ⟨#[45, 102, 97]⟩
  else if x = 31 then ⟨#[45, 102, 97]⟩
  else if x = 30 then ⟨#[82, 45, 45]⟩
  else if x = 34 then ⟨#[114, 114, 45]⟩
  else if x = 36 then ⟨#[114, 114, 45]⟩
  else if x = 43 then ⟨#[114, 114, 45]⟩
  else if x = 47 then ⟨#[114, 114, 45]⟩
  else if x = 27 then ⟨#[114, 45, 45]⟩
  else if x = 29 then ⟨#[114, 45, 45]⟩
  else if x = 32 then ⟨#[114, 45, 45]⟩
  else if x = 39 then ⟨#[114, 45, 45]⟩
  else if x = 40 then ⟨#[114, 45, 45]⟩
  else if x = 41 then ⟨#[114, 45, 45]⟩
  else if x = 42 then ⟨#[114, 45, 45]⟩
  else if x = 44 then ⟨#[114, 45, 45]⟩
  else if x = 46 then ⟨#[114, 45, 45]⟩
  else if x = 49 then ⟨#[114, 45, 45]⟩
  else if x = 52 then ⟨#[114, 45, 45]⟩
  else if x = 48 then ⟨#[68, 114, 68]⟩
  else if x = 50 then ⟨#[100, 115, 98]⟩
  else if x = 51 then ⟨#[114, 98, 99]⟩
  else es
def instrF (p : Pg) (f : Fu) (i : In) : Bool := instrG (rolesF i.op) p f i
end Go.Proofs.Ythiknhmoefbanaa


set_option linter.unusedVariables false
set_option linter.unusedSimpArgs false
namespace Go.Proofs.Ythiknhmoefbanaa
open Go.AL Go.Ch Go.Hp Go.RowKit
theorem fl66_0 : fldB Try.prog 66 0 = some (0, 9) := by kernel_rfl
theorem sz9 : sizeB Try.prog 9 = some 1 := by kernel_rfl
theorem ze80 : zeroB Try.prog 80 = some (some (.agg #[.int .i64 0, .int .i64 0, .int .i64 0, .int .i64 0, .int .i64 0])) := by kernel_rfl
end Go.Proofs.Ythiknhmoefbanaa


set_option linter.unusedVariables false
set_option linter.unusedSimpArgs false
namespace Go.Proofs.Ythiknhmoefbanaa
open Go.AL Go.Ch Go.Hp Go.RowKit
end Go.Proofs.Ythiknhmoefbanaa


set_option linter.unusedVariables false
set_option linter.unusedSimpArgs false
namespace Go.Proofs.Ythiknhmoefbanaa
open Go.AL Go.Ch Go.Hp Go.RowKit
theorem fn14 : fnB Try.prog 14 = true := by kernel_rfl
theorem fn21 : fnB Try.prog 21 = true := by kernel_rfl
theorem fn23 : fnB Try.prog 23 = true := by kernel_rfl
theorem fn25 : fnB Try.prog 25 = true := by kernel_rfl
theorem fn27 : fnB Try.prog 27 = true := by kernel_rfl
theorem fn29 : fnB Try.prog 29 = true := by kernel_rfl
theorem fn34 : fnB Try.prog 34 = true := by kernel_rfl
theorem fs26 : sizesB Try.prog 26 = true := by kernel_rfl
theorem fs66 : sizesB Try.prog 66 = true := by kernel_rfl
theorem fs80 : sizesB Try.prog 80 = true := by kernel_rfl
theorem ze26 : zeroB Try.prog 26 = some (some (.agg #[.slice none 0 0, .slice none 0 0, .slice none 0 0, .int .i64 0])) := by kernel_rfl
theorem copyG_ok (g : Gr) (hb : BdG 4000000 g) : FnP Try.prog 16 [aggP g.ps] (aggP g.ps) := by
  refine fn_pure' Try.func16 rfl Try.ntmps16 rfl ?_
  intro σ0 M ex Rf R hC hO
  simp only [frameOf, tokOf]
  refine tr_seq ?_
  refine tr_region (fun N0 hN => ?_)
  refine lxn (op_box (m := 1) (k := 1) rfl (.agg rfl) (by first | exact hC.low _ (by decide) | rfl)) rfl ?_
  refine lxn (op_alloc (m := 2) (k := 2) (ps := [eqP (.int .i64 0), eqP (.int .i64 0), eqP (.int .i64 0), eqP (.slice none 0 0)]) ze29 rfl rfl (by first | exact hC.low _ (by decide) | rfl)) rfl ?_
  refine lx_end ⟨by kernel_rfl, ?_⟩
  refine pe_then_normal ?_
  refine tr_sub hC (.cons (t := 1) rfl (.cons (t := 2) rfl .nil)) (.cons (t := 1) rfl (.cons (t := 2) rfl .nil)) rfl ?_
  refine tr_seq ?_
  refine tr_region (fun N1 hN => ?_)
  refine lx (op_assign rfl) rfl ?_
  refine lx_end ⟨by kernel_rfl, ?_⟩
  refine pe_then_normal ?_
  refine tr_sub hC (.cons (t := 1) rfl (.cons (t := 2) rfl (.cons (t := 3) rfl .nil))) (.cons (t := 1) rfl (.cons (t := 2) rfl .nil)) rfl ?_
  refine tr_seq ?_
  refine tr_seq ?_
  refine tr_region (fun N2 hN => ?_)
  refine lx (op_assign rfl) rfl ?_
  refine lx_end ⟨by kernel_rfl, ?_⟩
  refine pe_then_normal ?_
  refine tr_sub hC (.cons (t := 1) rfl (.cons (t := 2) rfl (.cons (t := 3) rfl (.cons (t := 4) rfl .nil)))) (.cons (t := 1) rfl (.cons (t := 2) rfl .nil)) rfl ?_
  refine tr_block ?_
  refine tr_nilrow Fm.ps 9 60 3 600 rfl (by first | exact hC.low _ (by decide) | rfl) (fun idN => ?_)
  refine tr_loopK (α := {zz : Nat × (List Fm) × AL.Id // zz.1 ≤ g.frames.length ∧ zz.2.1 = g.frames.take zz.1}) (⟨(0, [], idN), Nat.zero_le _, rfl⟩) (fun zz => [(3, rowP zz.1.2.2 Fm.ps 9 zz.1.2.1), (4, eqP (.int .i64 (zz.1.1 : Int)))]) (fun zz => [(600, some (zz.1.2.2, tail 60 9 (zz.1.2.1.length * 9)))]) (fun zz => g.frames.length - zz.1.1) hC (.cons (t := 1) rfl (.cons (t := 2) rfl .nil)) (.cons (t := 1) rfl (.cons (t := 2) rfl .nil)) rfl ?_ ?_ (fun zz => ?_)
  · try dsimp only [List.cons_append, List.nil_append]
    first | refine SubF.cons rfl ?_ | (refine SubF.ent rfl ?_ ?_; · repeat (first | exact Ents.nil | refine Ents.cons ?_ ?_ | refine Ent.tup ?_ | refine Ent.agg ?_ | exact Ent.row _ _ _ _ | exact Ent.nil _ _ | exact Ent.func _ | exact Ent.refl _ | exact Ent.of_eq rfl | refine Ent.cells ?_))
    first | refine SubF.cons rfl ?_ | (refine SubF.ent rfl ?_ ?_; · repeat (first | exact Ents.nil | refine Ents.cons ?_ ?_ | refine Ent.tup ?_ | refine Ent.agg ?_ | exact Ent.row _ _ _ _ | exact Ent.nil _ _ | exact Ent.func _ | exact Ent.refl _ | exact Ent.of_eq rfl | refine Ent.cells ?_))
    exact SubF.nil
  · try dsimp only [List.cons_append, List.nil_append]
    repeat (first | exact SubL.nil | refine SubL.cons rfl ?_)
  · obtain ⟨⟨k, fs, i⟩, hk1, hfs⟩ := zz
    try dsimp only at hk1
    try dsimp only at hfs
    dsimp only [List.cons_append, List.nil_append]
    refine tr_seq ?_
    refine tr_seq ?_
    refine tr_region (fun N3 hN => ?_)
    refine lx (op_move rfl) rfl ?_
    refine lx (op_fieldAddr rfl fl29_3 sz27) rfl ?_
    refine lx (op_bload_one (m := 1) rfl rfl ag27 rfl) rfl ?_
    first | refine lx (op_len rfl el27) rfl ?_ | refine lx (op_len_row rfl el27) rfl ?_ | refine lx (op_len_mv rfl el27) rfl ?_ | refine lx (op_len_nil rfl el27) rfl ?_
    refine lx (op_lss rfl rfl) rfl ?_
    refine lx_end ⟨by kernel_rfl, ?_⟩
    refine pe_then_normal ?_
    refine tr_sub hC (.cons (t := 1) rfl (.cons (t := 2) rfl (.cons (t := 3) rfl (.cons (t := 4) rfl (.cons (t := 12) rfl .nil))))) (.cons (t := 600) rfl (.cons (t := 1) rfl (.cons (t := 2) rfl .nil))) rfl ?_
    refine tr_cond rfl (fun h12 => ?_) (fun h12 => ?_)
    · (try simp only [Bool.and_eq_true, Bool.or_eq_true, Bool.and_eq_false_iff, Bool.or_eq_false_iff, decide_eq_true_eq, decide_eq_false_iff_not, Bool.not_eq_true', Bool.not_eq_false', List.length_map, ne_eq, Decidable.not_not, Int.not_lt, Int.not_le] at h12)
      have hbk := hb.each _ (List.getElem_mem (by omega : k < g.frames.length))
      have hbr := hbk.regs
      have hbd := hbk.defers
      have hfl : fs.length ≤ k := by rw [hfs, List.length_take]; omega
      have hbf := hb.frames
      refine tr_skip ?_
      refine pe_then_normal ?_
      refine tr_sub hC (.cons (t := 1) rfl (.cons (t := 2) rfl (.cons (t := 3) rfl (.cons (t := 4) rfl .nil)))) (.cons (t := 600) rfl (.cons (t := 1) rfl (.cons (t := 2) rfl .nil))) rfl ?_
      refine tr_seq ?_
      refine tr_block ?_
      refine tr_seq ?_
      refine tr_region (fun N5 hN => ?_)
      refine lx (op_fieldAddr rfl fl29_3 sz27) rfl ?_
      refine lx (op_bload_one (m := 1) rfl rfl ag27 rfl) rfl ?_
      refine lx (op_move rfl) rfl ?_
      refine lx (op_index rfl rfl el27 sz60 rfl (List.getElem?_eq_getElem (by omega : k < g.frames.length))) rfl ?_
      first | refine lx (op_load_all rfl ag60 sz60) rfl ?_ | refine lx (op_load_agg rfl ag60 sz60 rfl) rfl ?_ | refine lx (op_bload (m := 600) rfl rfl ag60 sz60) rfl ?_ | refine lx (op_bload (m := 1) rfl rfl ag60 sz60) rfl ?_ | refine lx (op_bload (m := 2) rfl rfl ag60 sz60) rfl ?_ | refine lx (op_bload_part (m := 600) (qs := [_, _, _, _, _, _, _, _, _]) rfl rfl ag60 sz60 rfl rfl) rfl ?_ | refine lx (op_bload_part (m := 1) (qs := [_, _, _, _, _, _, _, _, _]) rfl rfl ag60 sz60 rfl rfl) rfl ?_ | refine lx (op_bload_part (m := 2) (qs := [_, _, _, _, _, _, _, _, _]) rfl rfl ag60 sz60 rfl rfl) rfl ?_
      refine lxn (op_alloc (m := 5) (k := 5) (ps := [eqP (.int .i64 0), eqP (.int .i64 0), eqP (.slice none 0 0), eqP (.int .i64 0), eqP (.slice none 0 0), eqP (.bool false), eqP (.int .i64 0), eqP (.int .i64 0), eqP (.int .i64 0)]) ze60 rfl rfl (by first | exact hC.low _ (by decide) | rfl)) rfl ?_
      refine lxr (op_store_all (m := 5) rfl rfl rfl (.agg rfl) sz60 rfl) rfl ?_
      refine lx_end ⟨by kernel_rfl, ?_⟩
      refine pe_then_normal ?_
      refine tr_sub hC (.cons (t := 1) rfl (.cons (t := 2) rfl (.cons (t := 3) rfl (.cons (t := 4) rfl (.cons (t := 5) rfl .nil))))) (.cons (t := 600) rfl (.cons (t := 1) rfl (.cons (t := 2) rfl (.cons (t := 5) rfl .nil)))) rfl ?_
      refine tr_seq ?_
      refine tr_region (fun N6 hN => ?_)
      refine lxn (op_buildEmpty (m' := 20) (kk := 20) (f := vp) el33 sz43 (by first | exact hC.low _ (by decide) | rfl)) rfl ?_
      refine lx (op_fieldAddr rfl fl60_2 sz33) rfl ?_
      refine lx (op_bload_one (m := 5) rfl rfl ag33 rfl) rfl ?_
      refine lxr (OpJ.ent (op_append (m := 20) (m' := 23) (kk := 23) rfl rfl rfl (.inr (by first | exact hC.low _ (by decide) | rfl)) el33 ze43 sz43 by43 rfl vp_len (by simp; omega) (by simp; omega)) (Ent.row _ _ _ _)) rfl ?_
      refine lx (op_fieldAddr rfl fl60_2 sz33) rfl ?_
      refine lxr (op_store (m := 5) (rs := [_, _, _, _, _, _, _, _, _]) rfl rfl rfl (.one (by (first | exact One.eq rfl | exact One.mv _ _ _ _ _ | exact One.cl _ _ _ | exact One.map _ | exact One.sl _ _ _ | exact One.row _ _ _ _ | exact One.msl _ _ _ _ | exact One.ptr _ _ | exact One.b _ | exact One.cells _))) sz33 rfl rfl rfl) rfl ?_
      refine lx_end ⟨by kernel_rfl, ?_⟩
      refine pe_then_normal ?_
      refine tr_sub hC (.cons (t := 1) rfl (.cons (t := 2) rfl (.cons (t := 3) rfl (.cons (t := 4) rfl (.cons (t := 5) rfl .nil))))) (.cons (t := 600) rfl (.cons (t := 1) rfl (.cons (t := 2) rfl (.cons (t := 5) rfl .nil)))) rfl ?_
      refine tr_seq ?_
      refine tr_region (fun N7 hN => ?_)
      refine lx (op_assign rfl) rfl ?_
      refine lx_end ⟨by kernel_rfl, ?_⟩
      refine pe_then_normal ?_
      refine tr_sub hC (.cons (t := 1) rfl (.cons (t := 2) rfl (.cons (t := 3) rfl (.cons (t := 4) rfl (.cons (t := 5) rfl (.cons (t := 6) rfl .nil)))))) (.cons (t := 600) rfl (.cons (t := 1) rfl (.cons (t := 2) rfl (.cons (t := 5) rfl .nil)))) rfl ?_
      refine tr_seq ?_
      refine tr_seq ?_
      refine tr_region (fun N8 hN => ?_)
      refine lx (op_assign rfl) rfl ?_
      refine lx_end ⟨by kernel_rfl, ?_⟩
      refine pe_then_normal ?_
      refine tr_sub hC (.cons (t := 1) rfl (.cons (t := 2) rfl (.cons (t := 3) rfl (.cons (t := 4) rfl (.cons (t := 5) rfl (.cons (t := 6) rfl (.cons (t := 7) rfl .nil))))))) (.cons (t := 600) rfl (.cons (t := 1) rfl (.cons (t := 2) rfl (.cons (t := 5) rfl .nil)))) rfl ?_
      refine tr_block ?_
      refine tr_nilrow Df.ps 2 47 6 601 rfl (by first | exact hC.low _ (by decide) | rfl) (fun idN => ?_)
      refine tr_loopK (α := {zz : Nat × (List Df) × AL.Id // zz.1 ≤ g.frames[k].defers.length ∧ zz.2.1 = g.frames[k].defers.take zz.1}) (⟨(0, [], idN), Nat.zero_le _, rfl⟩) (fun zz => [(6, rowP zz.1.2.2 Df.ps 2 zz.1.2.1), (7, eqP (.int .i64 (zz.1.1 : Int)))]) (fun zz => [(601, some (zz.1.2.2, tail 47 2 (zz.1.2.1.length * 2)))]) (fun zz => g.frames[k].defers.length - zz.1.1) hC (.cons (t := 1) rfl (.cons (t := 2) rfl (.cons (t := 3) rfl (.cons (t := 4) rfl (.cons (t := 5) rfl .nil))))) (.cons (t := 600) rfl (.cons (t := 1) rfl (.cons (t := 2) rfl (.cons (t := 5) rfl .nil)))) rfl ?_ ?_ (fun zz => ?_)
      · try dsimp only [List.cons_append, List.nil_append]
        first | refine SubF.cons rfl ?_ | (refine SubF.ent rfl ?_ ?_; · repeat (first | exact Ents.nil | refine Ents.cons ?_ ?_ | refine Ent.tup ?_ | refine Ent.agg ?_ | exact Ent.row _ _ _ _ | exact Ent.nil _ _ | exact Ent.func _ | exact Ent.refl _ | exact Ent.of_eq rfl | refine Ent.cells ?_))
        first | refine SubF.cons rfl ?_ | (refine SubF.ent rfl ?_ ?_; · repeat (first | exact Ents.nil | refine Ents.cons ?_ ?_ | refine Ent.tup ?_ | refine Ent.agg ?_ | exact Ent.row _ _ _ _ | exact Ent.nil _ _ | exact Ent.func _ | exact Ent.refl _ | exact Ent.of_eq rfl | refine Ent.cells ?_))
        exact SubF.nil
      · try dsimp only [List.cons_append, List.nil_append]
        repeat (first | exact SubL.nil | refine SubL.cons rfl ?_)
      · obtain ⟨⟨j, ds, i2⟩, hj1, hds⟩ := zz
        try dsimp only at hj1
        try dsimp only at hds
        dsimp only [List.cons_append, List.nil_append]
        refine tr_seq ?_
        refine tr_seq ?_
        refine tr_region (fun N9 hN => ?_)
        refine lx (op_move rfl) rfl ?_
        refine lx (op_fieldAddr rfl fl60_4 sz58) rfl ?_
        refine lx (op_bload_one (m := 5) rfl rfl ag58 rfl) rfl ?_
        first | refine lx (op_len rfl el58) rfl ?_ | refine lx (op_len_row rfl el58) rfl ?_ | refine lx (op_len_mv rfl el58) rfl ?_ | refine lx (op_len_nil rfl el58) rfl ?_
        refine lx (op_lss rfl rfl) rfl ?_
        refine lx_end ⟨by kernel_rfl, ?_⟩
        refine pe_then_normal ?_
        refine tr_sub hC (.cons (t := 1) rfl (.cons (t := 2) rfl (.cons (t := 3) rfl (.cons (t := 4) rfl (.cons (t := 5) rfl (.cons (t := 6) rfl (.cons (t := 7) rfl (.cons (t := 29) rfl .nil)))))))) (.cons (t := 601) rfl (.cons (t := 600) rfl (.cons (t := 1) rfl (.cons (t := 2) rfl (.cons (t := 5) rfl .nil))))) rfl ?_
        refine tr_cond rfl (fun h29 => ?_) (fun h29 => ?_)
        · (try simp only [Bool.and_eq_true, Bool.or_eq_true, Bool.and_eq_false_iff, Bool.or_eq_false_iff, decide_eq_true_eq, decide_eq_false_iff_not, Bool.not_eq_true', Bool.not_eq_false', List.length_map, ne_eq, Decidable.not_not, Int.not_lt, Int.not_le] at h29)
          have hba := hbk.args _ (List.getElem_mem (by omega : j < g.frames[k].defers.length))
          have hdl : ds.length ≤ j := by rw [hds, List.length_take]; omega
          refine tr_skip ?_
          refine pe_then_normal ?_
          refine tr_sub hC (.cons (t := 1) rfl (.cons (t := 2) rfl (.cons (t := 3) rfl (.cons (t := 4) rfl (.cons (t := 5) rfl (.cons (t := 6) rfl (.cons (t := 7) rfl .nil))))))) (.cons (t := 601) rfl (.cons (t := 600) rfl (.cons (t := 1) rfl (.cons (t := 2) rfl (.cons (t := 5) rfl .nil))))) rfl ?_
          refine tr_seq ?_
          refine tr_block ?_
          refine tr_drawn mixed (fun N11 hN => ?_)
          refine lx (op_move rfl) rfl ?_
          refine lx (op_fieldAddr rfl fl60_4 sz58) rfl ?_
          refine lx (op_bload_one (m := 5) rfl rfl ag58 rfl) rfl ?_
          refine lx (op_move rfl) rfl ?_
          refine lx (op_index rfl rfl el58 sz47 rfl (List.getElem?_eq_getElem (by omega : j < g.frames[k].defers.length))) rfl ?_
          first | refine lx (op_fieldAddr rfl fl47_0 sz3) rfl ?_ | refine lx (op_fieldCells rfl fl47_0 sz3) rfl ?_
          first | refine lx (op_load_one rfl ag3 rfl) rfl ?_ | refine lx (op_bload_one (m := 601) rfl rfl ag3 rfl) rfl ?_ | refine lx (op_bload_one (m := 600) rfl rfl ag3 rfl) rfl ?_ | refine lx (op_bload_one (m := 1) rfl rfl ag3 rfl) rfl ?_ | refine lx (op_bload_one (m := 2) rfl rfl ag3 rfl) rfl ?_ | refine lx (op_bload_one (m := 5) rfl rfl ag3 rfl) rfl ?_
          refine lxn (op_buildEmpty (m' := 39) (kk := 39) (f := vp) el33 sz43 (by first | exact hC.low _ (by decide) | rfl)) rfl ?_
          refine lx (op_fieldAddr rfl fl60_4 sz58) rfl ?_
          refine lx (op_bload_one (m := 5) rfl rfl ag58 rfl) rfl ?_
          refine lx (op_move rfl) rfl ?_
          refine lx (op_index rfl rfl el58 sz47 rfl (List.getElem?_eq_getElem (by omega : j < g.frames[k].defers.length))) rfl ?_
          first | refine lx (op_fieldAddr rfl fl47_1 sz33) rfl ?_ | refine lx (op_fieldCells rfl fl47_1 sz33) rfl ?_
          first | refine lx (op_load_one rfl ag33 rfl) rfl ?_ | refine lx (op_bload_one (m := 601) rfl rfl ag33 rfl) rfl ?_ | refine lx (op_bload_one (m := 600) rfl rfl ag33 rfl) rfl ?_ | refine lx (op_bload_one (m := 1) rfl rfl ag33 rfl) rfl ?_ | refine lx (op_bload_one (m := 2) rfl rfl ag33 rfl) rfl ?_ | refine lx (op_bload_one (m := 5) rfl rfl ag33 rfl) rfl ?_ | refine lx (op_bload_one (m := 39) rfl rfl ag33 rfl) rfl ?_
          refine lxr (OpJ.ent (op_append (m := 39) (m' := 46) (kk := 46) rfl rfl rfl (.inr (by first | exact hC.low _ (by decide) | rfl)) el33 ze43 sz43 by43 rfl vp_len (by simp; omega) (by simp; omega)) (Ent.row _ _ _ _)) rfl ?_
          refine lx (op_build (qs := [_, _]) (parts := [(0, (Go.Operand.tmp 38)), (1, (Go.Operand.tmp 46))]) ze47 rfl rfl fs47 (.cons rfl (.one (by (first | exact One.eq rfl | exact One.mv _ _ _ _ _ | exact One.cl _ _ _ | exact One.map _ | exact One.sl _ _ _ | exact One.row _ _ _ _ | exact One.msl _ _ _ _ | exact One.ptr _ _ | exact One.b _ | exact One.cells _))) fl47_0 sz3 rfl (.cons rfl (.one (by (first | exact One.eq rfl | exact One.mv _ _ _ _ _ | exact One.cl _ _ _ | exact One.map _ | exact One.sl _ _ _ | exact One.row _ _ _ _ | exact One.msl _ _ _ _ | exact One.ptr _ _ | exact One.b _ | exact One.cells _))) fl47_1 sz33 rfl .nil)) rfl rfl) rfl ?_
          refine lx (op_buildSlice (f := Df.ps) (xs := [g.frames[k].defers[j]]) (l := [(0, (Go.Operand.tmp 47))]) ze47 rfl rfl (by decide) el58 sz47 Df.len (.cons rfl (.agg rfl) .nil) rfl (by decide)) rfl ?_
          refine lxr (op_append (m := 601) (m' := 601) (kk := 49) rfl rfl rfl (.inl rfl) el58 ze47 sz47 by47 rfl Df.len (by rw [List.length_singleton]; omega) (by rw [List.length_singleton]; omega)) rfl ?_
          refine lx (op_assign rfl) rfl ?_
          refine lx_end ⟨by kernel_rfl, ?_⟩
          refine pe_block_normal ?_
          refine pe_then_normal ?_
          refine tr_sub hC (.cons (t := 1) rfl (.cons (t := 2) rfl (.cons (t := 3) rfl (.cons (t := 4) rfl (.cons (t := 5) rfl (.cons (t := 6) rfl (.cons (t := 7) rfl .nil))))))) (.cons (t := 600) rfl (.cons (t := 1) rfl (.cons (t := 2) rfl (.cons (t := 5) rfl (.cons (t := 601) rfl .nil))))) rfl ?_
          refine tr_region (fun N10 hN => ?_)
          refine lx (op_move rfl) rfl ?_
          refine lx (op_add rfl rfl (by omega)) rfl ?_
          refine lx (op_assign rfl) rfl ?_
          refine lx_end ⟨by kernel_rfl, ?_⟩
          refine pe_round (⟨(j + 1, ds ++ [g.frames[k].defers[j]], (N11, 49)), by dsimp only; omega, by dsimp only; rw [hds, take_at (by omega : j < g.frames[k].defers.length)]⟩) (by dsimp only; omega) (pe_st hC ?_ ?_ rfl)
          · try dsimp only [List.cons_append, List.nil_append]
            first | refine SubF.cons rfl ?_ | (refine SubF.ent rfl ?_ ?_; · repeat (first | exact Ents.nil | refine Ents.cons ?_ ?_ | refine Ent.tup ?_ | refine Ent.agg ?_ | exact Ent.row _ _ _ _ | exact Ent.nil _ _ | exact Ent.func _ | exact Ent.refl _ | exact Ent.of_eq rfl | refine Ent.cells ?_))
            first | refine SubF.cons rfl ?_ | (refine SubF.ent rfl ?_ ?_; · repeat (first | exact Ents.nil | refine Ents.cons ?_ ?_ | refine Ent.tup ?_ | refine Ent.agg ?_ | exact Ent.row _ _ _ _ | exact Ent.nil _ _ | exact Ent.func _ | exact Ent.refl _ | exact Ent.of_eq rfl | refine Ent.cells ?_))
            first | refine SubF.cons rfl ?_ | (refine SubF.ent rfl ?_ ?_; · repeat (first | exact Ents.nil | refine Ents.cons ?_ ?_ | refine Ent.tup ?_ | refine Ent.agg ?_ | exact Ent.row _ _ _ _ | exact Ent.nil _ _ | exact Ent.func _ | exact Ent.refl _ | exact Ent.of_eq rfl | refine Ent.cells ?_))
            first | refine SubF.cons rfl ?_ | (refine SubF.ent rfl ?_ ?_; · repeat (first | exact Ents.nil | refine Ents.cons ?_ ?_ | refine Ent.tup ?_ | refine Ent.agg ?_ | exact Ent.row _ _ _ _ | exact Ent.nil _ _ | exact Ent.func _ | exact Ent.refl _ | exact Ent.of_eq rfl | refine Ent.cells ?_))
            first | refine SubF.cons rfl ?_ | (refine SubF.ent rfl ?_ ?_; · repeat (first | exact Ents.nil | refine Ents.cons ?_ ?_ | refine Ent.tup ?_ | refine Ent.agg ?_ | exact Ent.row _ _ _ _ | exact Ent.nil _ _ | exact Ent.func _ | exact Ent.refl _ | exact Ent.of_eq rfl | refine Ent.cells ?_))
            first | refine SubF.cons rfl ?_ | (refine SubF.ent rfl ?_ ?_; · repeat (first | exact Ents.nil | refine Ents.cons ?_ ?_ | refine Ent.tup ?_ | refine Ent.agg ?_ | exact Ent.row _ _ _ _ | exact Ent.nil _ _ | exact Ent.func _ | exact Ent.refl _ | exact Ent.of_eq rfl | refine Ent.cells ?_))
            first | refine SubF.cons rfl ?_ | (refine SubF.ent rfl ?_ ?_; · repeat (first | exact Ents.nil | refine Ents.cons ?_ ?_ | refine Ent.tup ?_ | refine Ent.agg ?_ | exact Ent.row _ _ _ _ | exact Ent.nil _ _ | exact Ent.func _ | exact Ent.refl _ | exact Ent.of_eq rfl | refine Ent.cells ?_))
            exact SubF.nil
          · try dsimp only [List.cons_append, List.nil_append]
            repeat (first | exact SubL.nil | refine SubL.cons rfl ?_)
        · (try simp only [Bool.and_eq_true, Bool.or_eq_true, Bool.and_eq_false_iff, Bool.or_eq_false_iff, decide_eq_true_eq, decide_eq_false_iff_not, Bool.not_eq_true', Bool.not_eq_false', List.length_map, ne_eq, Decidable.not_not, Int.not_lt, Int.not_le] at h29)
          have hdf : ds = g.frames[k].defers := by rw [hds, List.take_of_length_le (by omega)]
          refine tr_exit ?_
          refine pe_then_exit ?_
          refine pe_then_exit ?_
          refine pe_block_eq ?_
          refine pe_then_normal ?_
          refine tr_sub hC (.cons (t := 1) rfl (.cons (t := 2) rfl (.cons (t := 3) rfl (.cons (t := 4) rfl (.cons (t := 5) rfl (.cons (t := 6) rfl .nil)))))) (.cons (t := 601) rfl (.cons (t := 600) rfl (.cons (t := 1) rfl (.cons (t := 2) rfl (.cons (t := 5) rfl .nil))))) rfl ?_
          refine tr_sub hC (.cons (t := 1) rfl (.cons (t := 2) rfl (.cons (t := 3) rfl (.cons (t := 4) rfl (.cons (t := 5) rfl (.ent (t := 6) rfl ((show Ent _ (slP Df.ps 2 g.frames[k].defers) from Ent.trans (Ent.row _ _ _ _) (Ent.of_eq (by rw [hdf])))) .nil)))))) (.cons (t := 601) rfl (.cons (t := 600) rfl (.cons (t := 1) rfl (.cons (t := 2) rfl (.cons (t := 5) rfl .nil))))) rfl ?_
          refine tr_seq ?_
          refine tr_region (fun N12 hN => ?_)
          refine lx (op_move rfl) rfl ?_
          refine lx (op_fieldAddr rfl fl60_4 sz58) rfl ?_
          refine lxr (op_store (m := 5) (rs := [_, _, _, _, _, _, _, _, _]) rfl rfl rfl (.one (by (first | exact One.eq rfl | exact One.mv _ _ _ _ _ | exact One.cl _ _ _ | exact One.map _ | exact One.sl _ _ _ | exact One.row _ _ _ _ | exact One.msl _ _ _ _ | exact One.ptr _ _ | exact One.b _ | exact One.cells _))) sz58 rfl rfl rfl) rfl ?_
          refine lx_end ⟨by kernel_rfl, ?_⟩
          refine pe_then_normal ?_
          refine tr_sub hC (.cons (t := 1) rfl (.cons (t := 2) rfl (.cons (t := 3) rfl (.cons (t := 4) rfl (.cons (t := 5) rfl .nil))))) (.cons (t := 601) rfl (.cons (t := 600) rfl (.cons (t := 1) rfl (.cons (t := 2) rfl (.cons (t := 5) rfl .nil))))) rfl ?_
          refine tr_region (fun N13 hN => ?_)
          refine lx (op_move rfl) rfl ?_
          refine lx (op_bload (m := 5) rfl rfl ag60 sz60) rfl ?_
          refine lx (op_buildSlice (f := Fm.ps) (xs := [g.frames[k]]) (l := [(0, (Go.Operand.tmp 53))]) ze60 rfl rfl (by decide) el27 sz60 Fm.len (.cons rfl (.agg rfl) .nil) rfl (by decide)) rfl ?_
          refine lxr (op_append (m := 600) (m' := 600) (kk := 55) rfl rfl rfl (.inl rfl) el27 ze60 sz60 by60 rfl Fm.len (by rw [List.length_singleton]; omega) (by rw [List.length_singleton]; omega)) rfl ?_
          refine lx (op_assign rfl) rfl ?_
          refine lx_end ⟨by kernel_rfl, ?_⟩
          refine pe_block_normal ?_
          refine pe_then_normal ?_
          refine tr_sub hC (.cons (t := 1) rfl (.cons (t := 2) rfl (.cons (t := 3) rfl (.cons (t := 4) rfl .nil)))) (.cons (t := 601) rfl (.cons (t := 1) rfl (.cons (t := 2) rfl (.cons (t := 600) rfl .nil)))) rfl ?_
          refine tr_region (fun N4 hN => ?_)
          refine lx (op_move rfl) rfl ?_
          refine lx (op_add rfl rfl (by omega)) rfl ?_
          refine lx (op_assign rfl) rfl ?_
          refine lx_end ⟨by kernel_rfl, ?_⟩
          refine pe_round (⟨(k + 1, fs ++ [g.frames[k]], (N13, 55)), by dsimp only; omega, by dsimp only; rw [hfs, take_at (by omega : k < g.frames.length)]⟩) (by dsimp only; omega) (pe_st hC ?_ ?_ rfl)
          · try dsimp only [List.cons_append, List.nil_append]
            first | refine SubF.cons rfl ?_ | (refine SubF.ent rfl ?_ ?_; · repeat (first | exact Ents.nil | refine Ents.cons ?_ ?_ | refine Ent.tup ?_ | refine Ent.agg ?_ | exact Ent.row _ _ _ _ | exact Ent.nil _ _ | exact Ent.func _ | exact Ent.refl _ | exact Ent.of_eq rfl | refine Ent.cells ?_))
            first | refine SubF.cons rfl ?_ | (refine SubF.ent rfl ?_ ?_; · repeat (first | exact Ents.nil | refine Ents.cons ?_ ?_ | refine Ent.tup ?_ | refine Ent.agg ?_ | exact Ent.row _ _ _ _ | exact Ent.nil _ _ | exact Ent.func _ | exact Ent.refl _ | exact Ent.of_eq rfl | refine Ent.cells ?_))
            first | refine SubF.cons rfl ?_ | (refine SubF.ent rfl ?_ ?_; · repeat (first | exact Ents.nil | refine Ents.cons ?_ ?_ | refine Ent.tup ?_ | refine Ent.agg ?_ | exact Ent.row _ _ _ _ | exact Ent.nil _ _ | exact Ent.func _ | exact Ent.refl _ | exact Ent.of_eq rfl | refine Ent.cells ?_))
            first | refine SubF.cons rfl ?_ | (refine SubF.ent rfl ?_ ?_; · repeat (first | exact Ents.nil | refine Ents.cons ?_ ?_ | refine Ent.tup ?_ | refine Ent.agg ?_ | exact Ent.row _ _ _ _ | exact Ent.nil _ _ | exact Ent.func _ | exact Ent.refl _ | exact Ent.of_eq rfl | refine Ent.cells ?_))
            exact SubF.nil
          · try dsimp only [List.cons_append, List.nil_append]
            repeat (first | exact SubL.nil | refine SubL.cons rfl ?_)
    · (try simp only [Bool.and_eq_true, Bool.or_eq_true, Bool.and_eq_false_iff, Bool.or_eq_false_iff, decide_eq_true_eq, decide_eq_false_iff_not, Bool.not_eq_true', Bool.not_eq_false', List.length_map, ne_eq, Decidable.not_not, Int.not_lt, Int.not_le] at h12)
      have hfin : fs = g.frames := by rw [hfs, List.take_of_length_le (by omega)]
      refine tr_exit ?_
      refine pe_then_exit ?_
      refine pe_then_exit ?_
      refine pe_block_eq ?_
      refine pe_then_normal ?_
      refine tr_sub hC (.cons (t := 1) rfl (.cons (t := 2) rfl (.cons (t := 3) rfl .nil))) (.cons (t := 600) rfl (.cons (t := 1) rfl (.cons (t := 2) rfl .nil))) rfl ?_
      refine tr_sub hC (.cons (t := 1) rfl (.cons (t := 2) rfl (.ent (t := 3) rfl ((show Ent _ (slP Fm.ps 9 g.frames) from Ent.trans (Ent.row _ _ _ _) (Ent.of_eq (by rw [hfin])))) .nil))) (.cons (t := 600) rfl (.cons (t := 1) rfl (.cons (t := 2) rfl .nil))) rfl ?_
      refine tr_seq ?_
      refine tr_region (fun N14 hN => ?_)
      refine lx (op_move rfl) rfl ?_
      refine lx (op_fieldAddr rfl fl29_3 sz27) rfl ?_
      refine lxr (op_store (m := 1) (rs := [_, _, _, _]) rfl rfl rfl (.one (by (first | exact One.eq rfl | exact One.mv _ _ _ _ _ | exact One.cl _ _ _ | exact One.map _ | exact One.sl _ _ _ | exact One.row _ _ _ _ | exact One.msl _ _ _ _ | exact One.ptr _ _ | exact One.b _ | exact One.cells _))) sz27 rfl rfl rfl) rfl ?_
      refine lx_end ⟨by kernel_rfl, ?_⟩
      refine pe_then_normal ?_
      refine tr_sub hC (.cons (t := 1) rfl (.cons (t := 2) rfl .nil)) (.cons (t := 600) rfl (.cons (t := 1) rfl (.cons (t := 2) rfl .nil))) rfl ?_
      refine tr_seq ?_
      refine tr_region (fun N15 hN => ?_)
      refine lx (op_bload (m := 1) rfl rfl ag29 sz29) rfl ?_
      refine lxr (op_store_all (m := 2) rfl rfl rfl (.agg rfl) sz29 rfl) rfl ?_
      refine lx_end ⟨by kernel_rfl, ?_⟩
      refine pe_then_normal ?_
      refine tr_sub hC (.cons (t := 2) rfl .nil) (.cons (t := 600) rfl (.cons (t := 2) rfl .nil)) rfl ?_
      refine tr_ret ?_
      refine pe_ret1 rfl hO rfl (.cell (m := 2) rfl rfl ag29 sz29 .nil) ?_
      repeat (first | exact Ents.nil | refine Ents.cons ?_ ?_ | refine Ent.tup ?_ | refine Ent.agg ?_ | exact Ent.row _ _ _ _ | exact Ent.nil _ _ | exact Ent.func _ | exact Ent.refl _ | exact Ent.of_eq rfl | refine Ent.cells ?_)
abbrev exI : In := ⟨30, -1, 0, 0, 0⟩
abbrev exM : Fu := ⟨⟨#[109, 97, 105, 110]⟩, 0, 1, [exI]⟩
abbrev exF : Fu := ⟨⟨#[102]⟩, 2, 3, [exI]⟩
abbrev exP : Pg := ⟨[exM, exF], [], [], 0⟩
abbrev aF (l : Bool) (r : V) (ds : List Df) (z : V) : Fm := ⟨1, 0, [⟨0, 5, 0⟩, ⟨0, 6, 0⟩, z], -1, ds, l, r⟩
abbrev aG1 : Gr := ⟨0, 0, 0, [aF false v0 [] v0]⟩
abbrev aG2 : Gr := ⟨0, 0, 0, [aF false v0 [⟨0, []⟩] v0]⟩
abbrev aG3 : Gr := ⟨0, 0, 0, [aF true ⟨0, 1, 0⟩ [] v0, ⟨0, 0, [v0], -1, [], false, v0⟩]⟩
abbrev aG4 : Gr := ⟨2, 0, 0, []⟩
abbrev aG5 : Gr := ⟨0, 0, 0, [aF false v0 [] ⟨0, 9, 0⟩]⟩
theorem bdG_ble {n : Nat} {g : Gr} (h : (Nat.ble g.frames.length n && g.frames.all (fun f => Nat.ble f.regs.length n && Nat.ble f.defers.length n && f.defers.all fun d => Nat.ble d.args.length n)) = true) : BdG n g := by
  simp only [Bool.and_eq_true, Nat.ble_eq, List.all_eq_true] at h
  exact ⟨h.1, fun f hf => ⟨(h.2 f hf).1.1, (h.2 f hf).1.2, (h.2 f hf).2⟩⟩
theorem exPOK : POK exP := by
  intro f hf
  simp only [exP, List.mem_cons, List.not_mem_nil, or_false] at hf
  rcases hf with rfl | rfl <;> decide
theorem Enter_a : FnP Try.prog 17 [aggP exP.ps, aggP gr0.ps, eqP (.int .i64 1), slP vp 3 [⟨0, 5, 0⟩, ⟨0, 6, 0⟩], eqP (.int .i64 (-1))] (tupP [aggP aG1.ps, eqP (.int .i64 0)]) := by
  have := Enter_ok exP exPOK gr0 (bdG_ble rfl) (by decide) 1 [⟨0, 5, 0⟩, ⟨0, 6, 0⟩] (-1)
  rwa [show enterF exP gr0 1 [⟨0, 5, 0⟩, ⟨0, 6, 0⟩] (-1) = (aG1, 0) by decide] at this
theorem Reg_a (g : Gr) (r : Int) (v : V) (hb : BdG 1048576 g) (hn : g.frames.length ≤ 100000) (h : regF g r = v) : FnP Try.prog 27 [aggP g.ps, eqP (.int .i64 r)] (aggP (vp v)) := by
  have := Reg_ok g hb hn r
  rwa [h] at this
theorem Defer_a : FnP Try.prog 23 [aggP aG1.ps, aggP (Df.ps ⟨0, []⟩)] (aggP aG2.ps) := by
  have := Defer_ok aG1 (bdG_ble rfl) (by decide) ⟨0, []⟩ (by decide)
  rwa [show deferF aG1 ⟨0, []⟩ = aG2 by decide] at this
theorem Leave_a (g g' : Gr) (v : V) (hb : BdG 1048576 g) (hn : g.frames.length ≤ 100000) (h : leaveF exP g v = g') : FnP Try.prog 21 [aggP exP.ps, aggP g.ps, aggP (vp v)] (aggP g'.ps) := by
  have := Leave_ok exP exPOK g hb hn v
  rwa [h] at this
theorem Set_a : FnP Try.prog 25 [aggP aG1.ps, eqP (.int .i64 2), aggP (vp ⟨0, 9, 0⟩)] (aggP aG5.ps) := by
  have := Set_ok aG1 (bdG_ble rfl) (by decide) 2 ⟨0, 9, 0⟩
  rwa [show setF aG1 2 ⟨0, 9, 0⟩ = aG5 by decide] at this
theorem example_ok  : FnP Try.prog 34 [] (aggP exP.ps) := by
  refine fn_pure' Try.func34 rfl Try.ntmps34 rfl ?_
  intro σ0 M ex Rf R hC hO
  simp only [frameOf, tokOf]
  refine tr_seq ?_
  refine tr_region (fun N0 hN => ?_)
  refine lxn (op_alloc (m := 0) (k := 0) (ps := [eqP (.slice none 0 0), eqP (.slice none 0 0), eqP (.slice none 0 0), eqP (.int .i64 0)]) ze26 rfl rfl (by first | exact hC.low _ (by decide) | rfl)) rfl ?_
  refine lx_end ⟨by kernel_rfl, ?_⟩
  refine pe_then_normal ?_
  refine tr_sub hC (.cons (t := 0) rfl .nil) (.cons (t := 0) rfl .nil) rfl ?_
  refine tr_seq ?_
  refine tr_region (fun N1 hN => ?_)
  refine lx (OpJ.ent (op_build (qs := [_, _, _, _, _]) (parts := [(0, (Go.Operand.const (Go.Value.int Go.IntKind.i64 30))), (1, (Go.Operand.const (Go.Value.int Go.IntKind.i64 (-1))))]) ze80 rfl rfl fs80 (.cons rfl (.one (by (first | exact One.eq rfl | exact One.mv _ _ _ _ _ | exact One.cl _ _ _ | exact One.map _ | exact One.sl _ _ _ | exact One.row _ _ _ _ | exact One.msl _ _ _ _ | exact One.ptr _ _ | exact One.b _ | exact One.cells _))) fl80_0 sz3 rfl (.cons rfl (.one (by (first | exact One.eq rfl | exact One.mv _ _ _ _ _ | exact One.cl _ _ _ | exact One.map _ | exact One.sl _ _ _ | exact One.row _ _ _ _ | exact One.msl _ _ _ _ | exact One.ptr _ _ | exact One.b _ | exact One.cells _))) fl80_1 sz3 rfl .nil)) rfl rfl) (show Ent _ (aggP (In.ps exI)) from (by repeat (first | exact Ents.nil | refine Ents.cons ?_ ?_ | refine Ent.tup ?_ | refine Ent.agg ?_ | exact Ent.row _ _ _ _ | exact Ent.nil _ _ | exact Ent.func _ | exact Ent.refl _ | exact Ent.of_eq rfl | refine Ent.cells ?_)))) rfl ?_
  refine lx (op_buildSlice (f := In.ps) (xs := [exI]) (l := [(0, (Go.Operand.tmp 2))]) ze80 rfl rfl (by decide) el64 sz80 In.len (.cons rfl (.agg rfl) .nil) rfl (by decide)) rfl ?_
  refine lx (op_assign rfl) rfl ?_
  refine lx_end ⟨by kernel_rfl, ?_⟩
  refine pe_then_normal ?_
  refine tr_sub hC (.cons (t := 0) rfl (.cons (t := 1) rfl .nil)) (.cons (t := 0) rfl .nil) rfl ?_
  refine tr_seq ?_
  refine tr_region (fun N2 hN => ?_)
  refine lx (op_move rfl) rfl ?_
  refine lx (OpJ.ent (op_build (qs := [_, _, _, _]) (parts := [(0, (Go.Operand.const (Go.Value.string (ByteArray.mk #[109, 97, 105, 110])))), (2, (Go.Operand.const (Go.Value.int Go.IntKind.i64 1))), (3, (Go.Operand.tmp 4))]) ze66 rfl rfl fs66 (.cons rfl (.one (by (first | exact One.eq rfl | exact One.mv _ _ _ _ _ | exact One.cl _ _ _ | exact One.map _ | exact One.sl _ _ _ | exact One.row _ _ _ _ | exact One.msl _ _ _ _ | exact One.ptr _ _ | exact One.b _ | exact One.cells _))) fl66_0 sz9 rfl (.cons rfl (.one (by (first | exact One.eq rfl | exact One.mv _ _ _ _ _ | exact One.cl _ _ _ | exact One.map _ | exact One.sl _ _ _ | exact One.row _ _ _ _ | exact One.msl _ _ _ _ | exact One.ptr _ _ | exact One.b _ | exact One.cells _))) fl66_2 sz3 rfl (.cons rfl (.one (by (first | exact One.eq rfl | exact One.mv _ _ _ _ _ | exact One.cl _ _ _ | exact One.map _ | exact One.sl _ _ _ | exact One.row _ _ _ _ | exact One.msl _ _ _ _ | exact One.ptr _ _ | exact One.b _ | exact One.cells _))) fl66_3 sz64 rfl .nil))) rfl rfl) (show Ent _ (aggP (Fu.ps exM)) from (by repeat (first | exact Ents.nil | refine Ents.cons ?_ ?_ | refine Ent.tup ?_ | refine Ent.agg ?_ | exact Ent.row _ _ _ _ | exact Ent.nil _ _ | exact Ent.func _ | exact Ent.refl _ | exact Ent.of_eq rfl | refine Ent.cells ?_)))) rfl ?_
  refine lx (op_move rfl) rfl ?_
  refine lx (OpJ.ent (op_build (qs := [_, _, _, _]) (parts := [(0, (Go.Operand.const (Go.Value.string (ByteArray.mk #[102])))), (1, (Go.Operand.const (Go.Value.int Go.IntKind.i64 2))), (2, (Go.Operand.const (Go.Value.int Go.IntKind.i64 3))), (3, (Go.Operand.tmp 6))]) ze66 rfl rfl fs66 (.cons rfl (.one (by (first | exact One.eq rfl | exact One.mv _ _ _ _ _ | exact One.cl _ _ _ | exact One.map _ | exact One.sl _ _ _ | exact One.row _ _ _ _ | exact One.msl _ _ _ _ | exact One.ptr _ _ | exact One.b _ | exact One.cells _))) fl66_0 sz9 rfl (.cons rfl (.one (by (first | exact One.eq rfl | exact One.mv _ _ _ _ _ | exact One.cl _ _ _ | exact One.map _ | exact One.sl _ _ _ | exact One.row _ _ _ _ | exact One.msl _ _ _ _ | exact One.ptr _ _ | exact One.b _ | exact One.cells _))) fl66_1 sz3 rfl (.cons rfl (.one (by (first | exact One.eq rfl | exact One.mv _ _ _ _ _ | exact One.cl _ _ _ | exact One.map _ | exact One.sl _ _ _ | exact One.row _ _ _ _ | exact One.msl _ _ _ _ | exact One.ptr _ _ | exact One.b _ | exact One.cells _))) fl66_2 sz3 rfl (.cons rfl (.one (by (first | exact One.eq rfl | exact One.mv _ _ _ _ _ | exact One.cl _ _ _ | exact One.map _ | exact One.sl _ _ _ | exact One.row _ _ _ _ | exact One.msl _ _ _ _ | exact One.ptr _ _ | exact One.b _ | exact One.cells _))) fl66_3 sz64 rfl .nil)))) rfl rfl) (show Ent _ (aggP (Fu.ps exF)) from (by repeat (first | exact Ents.nil | refine Ents.cons ?_ ?_ | refine Ent.tup ?_ | refine Ent.agg ?_ | exact Ent.row _ _ _ _ | exact Ent.nil _ _ | exact Ent.func _ | exact Ent.refl _ | exact Ent.of_eq rfl | refine Ent.cells ?_)))) rfl ?_
  refine lx (op_buildSlice (f := Fu.ps) (xs := [exM, exF]) (l := [(0, (Go.Operand.tmp 5)), (1, (Go.Operand.tmp 7))]) ze66 rfl rfl (by decide) el22 sz66 Fu.len (.cons rfl (.agg rfl) (.cons rfl (.agg rfl) .nil)) rfl (by decide)) rfl ?_
  refine lx (OpJ.ent (op_build (qs := [_, _, _, _]) (parts := [(0, (Go.Operand.tmp 8))]) ze26 rfl rfl fs26 (.cons rfl (.one (by (first | exact One.eq rfl | exact One.mv _ _ _ _ _ | exact One.cl _ _ _ | exact One.map _ | exact One.sl _ _ _ | exact One.row _ _ _ _ | exact One.msl _ _ _ _ | exact One.ptr _ _ | exact One.b _ | exact One.cells _))) fl26_0 sz22 rfl .nil) rfl rfl) (show Ent _ (aggP exP.ps) from (by repeat (first | exact Ents.nil | refine Ents.cons ?_ ?_ | refine Ent.tup ?_ | refine Ent.agg ?_ | exact Ent.row _ _ _ _ | exact Ent.nil _ _ | exact Ent.func _ | exact Ent.refl _ | exact Ent.of_eq rfl | refine Ent.cells ?_)))) rfl ?_
  refine lxr (op_store_all (m := 0) rfl rfl rfl (.agg rfl) sz26 rfl) rfl ?_
  refine lx_end ⟨by kernel_rfl, ?_⟩
  refine pe_then_normal ?_
  refine tr_sub hC (.cons (t := 0) rfl .nil) (.cons (t := 0) rfl .nil) rfl ?_
  refine tr_ret ?_
  refine pe_ret1 rfl hO rfl (.cell (m := 0) rfl rfl ag26 sz26 .nil) ?_
  repeat (first | exact Ents.nil | refine Ents.cons ?_ ?_ | refine Ent.tup ?_ | refine Ent.agg ?_ | exact Ent.row _ _ _ _ | exact Ent.nil _ _ | exact Ent.func _ | exact Ent.refl _ | exact Ent.of_eq rfl | refine Ent.cells ?_)
theorem awake_ok  : FnP Try.prog 12 [] (eqP (.bool true)) := by
  refine fn_pure' Try.func12 rfl Try.ntmps12 rfl ?_
  intro σ0 M ex Rf R hC hO
  simp only [frameOf, tokOf]
  refine tr_seq ?_
  refine tr_region (fun N0 hN => ?_)
  refine lx (op_assign rfl) rfl ?_
  refine lx_end ⟨by kernel_rfl, ?_⟩
  refine pe_then_normal ?_
  refine tr_sub hC .nil .nil rfl ?_
  refine tr_seq ?_
  refine tr_region (fun N1 hN => ?_)
  first | refine lx (op_call (l := []) (example_ok) .nil fn34) rfl ?_ | refine lx (op_call (l := []) (example_ok) .nil fn34) rfl ?_
  refine lxn (op_alloc (m := 1) (k := 1) (ps := [eqP (.slice none 0 0), eqP (.slice none 0 0), eqP (.slice none 0 0), eqP (.int .i64 0)]) ze26 rfl rfl (by first | exact hC.low _ (by decide) | rfl)) rfl ?_
  refine lxr (op_store_all (m := 1) rfl rfl rfl (.agg rfl) sz26 rfl) rfl ?_
  refine lx_end ⟨by kernel_rfl, ?_⟩
  refine pe_then_normal ?_
  refine tr_sub hC (.cons (t := 1) rfl .nil) (.cons (t := 1) rfl .nil) rfl ?_
  refine tr_seq ?_
  refine tr_region (fun N2 hN => ?_)
  refine lx (op_bload (m := 1) rfl rfl ag26 sz26) rfl ?_
  refine lx (OpJ.ent (op_build (qs := [_, _, _, _]) (parts := []) ze29 rfl rfl fs29 .nil rfl rfl) (show Ent _ (aggP gr0.ps) from (by repeat (first | exact Ents.nil | refine Ents.cons ?_ ?_ | refine Ent.tup ?_ | refine Ent.agg ?_ | exact Ent.row _ _ _ _ | exact Ent.nil _ _ | exact Ent.func _ | exact Ent.refl _ | exact Ent.of_eq rfl | refine Ent.cells ?_)))) rfl ?_
  refine lx (OpJ.ent (op_build (qs := [_, _, _]) (parts := [(1, (Go.Operand.const (Go.Value.int Go.IntKind.i64 5)))]) ze43 rfl rfl fs43 (.cons rfl (.one (by (first | exact One.eq rfl | exact One.mv _ _ _ _ _ | exact One.cl _ _ _ | exact One.map _ | exact One.sl _ _ _ | exact One.row _ _ _ _ | exact One.msl _ _ _ _ | exact One.ptr _ _ | exact One.b _ | exact One.cells _))) fl43_1 sz3 rfl .nil) rfl rfl) (show Ent _ (aggP (vp ⟨0, 5, 0⟩)) from (by repeat (first | exact Ents.nil | refine Ents.cons ?_ ?_ | refine Ent.tup ?_ | refine Ent.agg ?_ | exact Ent.row _ _ _ _ | exact Ent.nil _ _ | exact Ent.func _ | exact Ent.refl _ | exact Ent.of_eq rfl | refine Ent.cells ?_)))) rfl ?_
  refine lx (OpJ.ent (op_build (qs := [_, _, _]) (parts := [(1, (Go.Operand.const (Go.Value.int Go.IntKind.i64 6)))]) ze43 rfl rfl fs43 (.cons rfl (.one (by (first | exact One.eq rfl | exact One.mv _ _ _ _ _ | exact One.cl _ _ _ | exact One.map _ | exact One.sl _ _ _ | exact One.row _ _ _ _ | exact One.msl _ _ _ _ | exact One.ptr _ _ | exact One.b _ | exact One.cells _))) fl43_1 sz3 rfl .nil) rfl rfl) (show Ent _ (aggP (vp ⟨0, 6, 0⟩)) from (by repeat (first | exact Ents.nil | refine Ents.cons ?_ ?_ | refine Ent.tup ?_ | refine Ent.agg ?_ | exact Ent.row _ _ _ _ | exact Ent.nil _ _ | exact Ent.func _ | exact Ent.refl _ | exact Ent.of_eq rfl | refine Ent.cells ?_)))) rfl ?_
  refine lx (op_buildSlice (f := vp) (xs := [⟨0, 5, 0⟩, ⟨0, 6, 0⟩]) (l := [(0, (Go.Operand.tmp 10)), (1, (Go.Operand.tmp 11))]) ze43 rfl rfl (by decide) el33 sz43 vp_len (.cons rfl (.agg rfl) (.cons rfl (.agg rfl) .nil)) rfl (by decide)) rfl ?_
  first | refine lx (op_call (l := [(Go.Operand.tmp 8), (Go.Operand.tmp 9), (Go.Operand.const (Go.Value.int Go.IntKind.i64 1)), (Go.Operand.tmp 12), (Go.Operand.const (Go.Value.int Go.IntKind.i64 (-1)))]) (Enter_a) (.cons rfl (.cons rfl (.cons rfl (.cons rfl (.cons rfl .nil))))) fn17) rfl ?_ | refine lx (op_call (l := [(Go.Operand.tmp 8), (Go.Operand.tmp 9), (Go.Operand.const (Go.Value.int Go.IntKind.i64 1)), (Go.Operand.tmp 12), (Go.Operand.const (Go.Value.int Go.IntKind.i64 (-1)))]) (Enter_a) (.ent rfl (by repeat (first | exact Ents.nil | refine Ents.cons ?_ ?_ | refine Ent.tup ?_ | refine Ent.agg ?_ | exact Ent.row _ _ _ _ | exact Ent.nil _ _ | exact Ent.func _ | exact Ent.refl _ | exact Ent.of_eq rfl | refine Ent.cells ?_)) (.ent rfl (by repeat (first | exact Ents.nil | refine Ents.cons ?_ ?_ | refine Ent.tup ?_ | refine Ent.agg ?_ | exact Ent.row _ _ _ _ | exact Ent.nil _ _ | exact Ent.func _ | exact Ent.refl _ | exact Ent.of_eq rfl | refine Ent.cells ?_)) (.ent rfl (by repeat (first | exact Ents.nil | refine Ents.cons ?_ ?_ | refine Ent.tup ?_ | refine Ent.agg ?_ | exact Ent.row _ _ _ _ | exact Ent.nil _ _ | exact Ent.func _ | exact Ent.refl _ | exact Ent.of_eq rfl | refine Ent.cells ?_)) (.ent rfl (by repeat (first | exact Ents.nil | refine Ents.cons ?_ ?_ | refine Ent.tup ?_ | refine Ent.agg ?_ | exact Ent.row _ _ _ _ | exact Ent.nil _ _ | exact Ent.func _ | exact Ent.refl _ | exact Ent.of_eq rfl | refine Ent.cells ?_)) (.ent rfl (by repeat (first | exact Ents.nil | refine Ents.cons ?_ ?_ | refine Ent.tup ?_ | refine Ent.agg ?_ | exact Ent.row _ _ _ _ | exact Ent.nil _ _ | exact Ent.func _ | exact Ent.refl _ | exact Ent.of_eq rfl | refine Ent.cells ?_)) .nil))))) fn17) rfl ?_
  refine lx (op_move rfl) rfl ?_
  refine lx (op_extract rfl rfl) rfl ?_
  refine lx (op_extract rfl rfl) rfl ?_
  refine lxn (op_alloc (m := 2) (k := 2) (ps := [eqP (.int .i64 0), eqP (.int .i64 0), eqP (.int .i64 0), eqP (.slice none 0 0)]) ze29 rfl rfl (by first | exact hC.low _ (by decide) | rfl)) rfl ?_
  refine lxr (op_store_all (m := 2) rfl rfl rfl (.agg rfl) sz29 rfl) rfl ?_
  refine lx (op_assign rfl) rfl ?_
  refine lx_end ⟨by kernel_rfl, ?_⟩
  refine pe_then_normal ?_
  refine tr_sub hC (.cons (t := 1) rfl (.cons (t := 2) rfl (.cons (t := 3) rfl .nil))) (.cons (t := 1) rfl (.cons (t := 2) rfl .nil)) rfl ?_
  refine tr_seq ?_
  refine tr_seq ?_
  refine tr_region (fun N3 hN => ?_)
  refine lx (op_move rfl) rfl ?_
  refine lx (op_neq rfl rfl) rfl ?_
  refine lx (op_move rfl) rfl ?_
  refine lxs rfl rfl rfl guard_eq (.cons (t := 2) rfl (fun _ => Ent.refl _) .nil) (op_fieldAddr rfl fl29_3 sz27) rfl ?_
  refine lxs rfl rfl rfl guard_eq (.cons (t := 19) rfl (fun h => entW h) .nil) (op_bload_one (m := 2) rfl rfl ag27 rfl) rfl ?_
  first | refine lxs rfl rfl rfl guard_eq (.cons (t := 20) rfl (fun h => entW h) .nil) (op_len rfl el27) rfl ?_ | refine lxs rfl rfl rfl guard_eq (.cons (t := 20) rfl (fun h => entW h) .nil) (op_len_row rfl el27) rfl ?_ | refine lxs rfl rfl rfl guard_eq (.cons (t := 20) rfl (fun h => entW h) .nil) (op_len_mv rfl el27) rfl ?_ | refine lxs rfl rfl rfl guard_eq (.cons (t := 20) rfl (fun h => entW h) .nil) (op_len_nil rfl el27) rfl ?_
  refine lxs rfl rfl rfl guard_eq (.cons (t := 21) rfl (fun h => entW h) .nil) (op_neq rfl rfl) rfl ?_
  refine lx (op_pick_or rfl rfl) rfl ?_
  refine lx (op_move rfl) rfl ?_
  refine lxs rfl rfl rfl guard_eq (.cons (t := 2) rfl (fun _ => Ent.refl _) .nil) (op_bload (m := 2) rfl rfl ag29 sz29) rfl ?_
  first | refine lxs rfl rfl rfl guard_eq (.cons (t := 25) rfl (fun h => entW h) .nil) (op_call (l := [(Go.Operand.tmp 25), (Go.Operand.const (Go.Value.int Go.IntKind.i64 0))]) (Reg_a aG1 0 ⟨0, 5, 0⟩ (bdG_ble rfl) (by decide) (by decide)) (.cons rfl (.cons rfl .nil)) fn27) rfl ?_ | refine lxs rfl rfl rfl guard_eq (.cons (t := 25) rfl (fun h => entW h) .nil) (op_call (l := [(Go.Operand.tmp 25), (Go.Operand.const (Go.Value.int Go.IntKind.i64 0))]) (Reg_a aG1 0 ⟨0, 5, 0⟩ (bdG_ble rfl) (by decide) (by decide)) (.ent rfl (by repeat (first | exact Ents.nil | refine Ents.cons ?_ ?_ | refine Ent.tup ?_ | refine Ent.agg ?_ | exact Ent.row _ _ _ _ | exact Ent.nil _ _ | exact Ent.func _ | exact Ent.refl _ | exact Ent.of_eq rfl | refine Ent.cells ?_)) (.ent rfl (by repeat (first | exact Ents.nil | refine Ents.cons ?_ ?_ | refine Ent.tup ?_ | refine Ent.agg ?_ | exact Ent.row _ _ _ _ | exact Ent.nil _ _ | exact Ent.func _ | exact Ent.refl _ | exact Ent.of_eq rfl | refine Ent.cells ?_)) .nil)) fn27) rfl ?_
  refine lxs rfl rfl rfl guard_eq (.cons (t := 26) rfl (fun h => entW h) .nil) (op_field_one rfl fl43_1 ag3 rfl) rfl ?_
  refine lxs rfl rfl rfl guard_eq (.cons (t := 27) rfl (fun h => entW h) .nil) (op_neq rfl rfl) rfl ?_
  refine lx (op_pick_or rfl rfl) rfl ?_
  refine lx (op_move rfl) rfl ?_
  refine lxs rfl rfl rfl guard_eq (.cons (t := 2) rfl (fun _ => Ent.refl _) .nil) (op_bload (m := 2) rfl rfl ag29 sz29) rfl ?_
  first | refine lxs rfl rfl rfl guard_eq (.cons (t := 31) rfl (fun h => entW h) .nil) (op_call (l := [(Go.Operand.tmp 31), (Go.Operand.const (Go.Value.int Go.IntKind.i64 1))]) (Reg_a aG1 1 ⟨0, 6, 0⟩ (bdG_ble rfl) (by decide) (by decide)) (.cons rfl (.cons rfl .nil)) fn27) rfl ?_ | refine lxs rfl rfl rfl guard_eq (.cons (t := 31) rfl (fun h => entW h) .nil) (op_call (l := [(Go.Operand.tmp 31), (Go.Operand.const (Go.Value.int Go.IntKind.i64 1))]) (Reg_a aG1 1 ⟨0, 6, 0⟩ (bdG_ble rfl) (by decide) (by decide)) (.ent rfl (by repeat (first | exact Ents.nil | refine Ents.cons ?_ ?_ | refine Ent.tup ?_ | refine Ent.agg ?_ | exact Ent.row _ _ _ _ | exact Ent.nil _ _ | exact Ent.func _ | exact Ent.refl _ | exact Ent.of_eq rfl | refine Ent.cells ?_)) (.ent rfl (by repeat (first | exact Ents.nil | refine Ents.cons ?_ ?_ | refine Ent.tup ?_ | refine Ent.agg ?_ | exact Ent.row _ _ _ _ | exact Ent.nil _ _ | exact Ent.func _ | exact Ent.refl _ | exact Ent.of_eq rfl | refine Ent.cells ?_)) .nil)) fn27) rfl ?_
  refine lxs rfl rfl rfl guard_eq (.cons (t := 32) rfl (fun h => entW h) .nil) (op_field_one rfl fl43_1 ag3 rfl) rfl ?_
  refine lxs rfl rfl rfl guard_eq (.cons (t := 33) rfl (fun h => entW h) .nil) (op_neq rfl rfl) rfl ?_
  refine lx (op_pick_or rfl rfl) rfl ?_
  refine lx (op_move rfl) rfl ?_
  refine lxs rfl rfl rfl guard_eq (.cons (t := 2) rfl (fun _ => Ent.refl _) .nil) (op_bload (m := 2) rfl rfl ag29 sz29) rfl ?_
  first | refine lxs rfl rfl rfl guard_eq (.cons (t := 37) rfl (fun h => entW h) .nil) (op_call (l := [(Go.Operand.tmp 37), (Go.Operand.const (Go.Value.int Go.IntKind.i64 2))]) (Reg_a aG1 2 v0 (bdG_ble rfl) (by decide) (by decide)) (.cons rfl (.cons rfl .nil)) fn27) rfl ?_ | refine lxs rfl rfl rfl guard_eq (.cons (t := 37) rfl (fun h => entW h) .nil) (op_call (l := [(Go.Operand.tmp 37), (Go.Operand.const (Go.Value.int Go.IntKind.i64 2))]) (Reg_a aG1 2 v0 (bdG_ble rfl) (by decide) (by decide)) (.ent rfl (by repeat (first | exact Ents.nil | refine Ents.cons ?_ ?_ | refine Ent.tup ?_ | refine Ent.agg ?_ | exact Ent.row _ _ _ _ | exact Ent.nil _ _ | exact Ent.func _ | exact Ent.refl _ | exact Ent.of_eq rfl | refine Ent.cells ?_)) (.ent rfl (by repeat (first | exact Ents.nil | refine Ents.cons ?_ ?_ | refine Ent.tup ?_ | refine Ent.agg ?_ | exact Ent.row _ _ _ _ | exact Ent.nil _ _ | exact Ent.func _ | exact Ent.refl _ | exact Ent.of_eq rfl | refine Ent.cells ?_)) .nil)) fn27) rfl ?_
  refine lxs rfl rfl rfl guard_eq (.cons (t := 38) rfl (fun h => entW h) .nil) (op_field_one rfl fl43_1 ag3 rfl) rfl ?_
  refine lxs rfl rfl rfl guard_eq (.cons (t := 39) rfl (fun h => entW h) .nil) (op_neq rfl rfl) rfl ?_
  refine lx (op_pick_or rfl rfl) rfl ?_
  refine lx (op_move rfl) rfl ?_
  refine lxs rfl rfl rfl guard_eq (.cons (t := 1) rfl (fun _ => Ent.refl _) .nil) (op_bload (m := 1) rfl rfl ag26 sz26) rfl ?_
  refine lxs rfl rfl rfl guard_eq (.cons (t := 2) rfl (fun _ => Ent.refl _) .nil) (op_bload (m := 2) rfl rfl ag29 sz29) rfl ?_
  first | refine lxs rfl rfl rfl guard_eq (.cons (t := 43) rfl (fun h => entW h) (.cons (t := 44) rfl (fun h => entW h) .nil)) (op_call (l := [(Go.Operand.tmp 43), (Go.Operand.tmp 44)]) (Valid_ok exP aG1 (bdG_ble rfl)) (.cons rfl (.cons rfl .nil)) fn14) rfl ?_ | refine lxs rfl rfl rfl guard_eq (.cons (t := 43) rfl (fun h => entW h) (.cons (t := 44) rfl (fun h => entW h) .nil)) (op_call (l := [(Go.Operand.tmp 43), (Go.Operand.tmp 44)]) (Valid_ok exP aG1 (bdG_ble rfl)) (.ent rfl (by repeat (first | exact Ents.nil | refine Ents.cons ?_ ?_ | refine Ent.tup ?_ | refine Ent.agg ?_ | exact Ent.row _ _ _ _ | exact Ent.nil _ _ | exact Ent.func _ | exact Ent.refl _ | exact Ent.of_eq rfl | refine Ent.cells ?_)) (.ent rfl (by repeat (first | exact Ents.nil | refine Ents.cons ?_ ?_ | refine Ent.tup ?_ | refine Ent.agg ?_ | exact Ent.row _ _ _ _ | exact Ent.nil _ _ | exact Ent.func _ | exact Ent.refl _ | exact Ent.of_eq rfl | refine Ent.cells ?_)) .nil)) fn14) rfl ?_
  first | refine lxs rfl rfl rfl guard_eq (.cons (t := 45) rfl (fun h => entW h) .nil) (op_not rfl) rfl ?_ | refine lxs rfl rfl rfl guard_eq (.cons (t := 45) rfl (fun h => entW h) .nil) (op_not_b rfl) rfl ?_
  refine lx (op_pick_or rfl rfl) rfl ?_
  refine lx_end ⟨by kernel_rfl, ?_⟩
  refine pe_then_normal ?_
  refine tr_sub hC (.cons (t := 1) rfl (.cons (t := 2) rfl (.cons (t := 47) rfl .nil))) (.cons (t := 1) rfl (.cons (t := 2) rfl .nil)) rfl ?_
  refine tr_cond rfl (fun h47 => ?_) (fun h47 => ?_)
  · exact absurd h47 (by decide)
  · (try simp only [Bool.and_eq_true, Bool.or_eq_true, Bool.and_eq_false_iff, Bool.or_eq_false_iff, decide_eq_true_eq, decide_eq_false_iff_not, Bool.not_eq_true', Bool.not_eq_false', List.length_map, ne_eq, Decidable.not_not, Int.not_lt, Int.not_le] at h47)
    refine tr_skip ?_
    refine pe_then_normal ?_
    refine tr_sub hC (.cons (t := 1) rfl (.cons (t := 2) rfl .nil)) (.cons (t := 1) rfl (.cons (t := 2) rfl .nil)) rfl ?_
    refine tr_seq ?_
    refine tr_drawn mixed (fun N5 hN => ?_)
    refine lx (op_bload (m := 1) rfl rfl ag26 sz26) rfl ?_
    refine lx (op_bload (m := 2) rfl rfl ag29 sz29) rfl ?_
    refine lx (OpJ.ent (op_build (qs := [_, _]) (parts := []) ze47 rfl rfl fs47 .nil rfl rfl) (show Ent _ (aggP (Df.ps ⟨0, []⟩)) from (by repeat (first | exact Ents.nil | refine Ents.cons ?_ ?_ | refine Ent.tup ?_ | refine Ent.agg ?_ | exact Ent.row _ _ _ _ | exact Ent.nil _ _ | exact Ent.func _ | exact Ent.refl _ | exact Ent.of_eq rfl | refine Ent.cells ?_)))) rfl ?_
    first | refine lx (op_call (l := [(Go.Operand.tmp 49), (Go.Operand.tmp 50)]) (Defer_a) (.cons rfl (.cons rfl .nil)) fn23) rfl ?_ | refine lx (op_call (l := [(Go.Operand.tmp 49), (Go.Operand.tmp 50)]) (Defer_a) (.ent rfl (by repeat (first | exact Ents.nil | refine Ents.cons ?_ ?_ | refine Ent.tup ?_ | refine Ent.agg ?_ | exact Ent.row _ _ _ _ | exact Ent.nil _ _ | exact Ent.func _ | exact Ent.refl _ | exact Ent.of_eq rfl | refine Ent.cells ?_)) (.ent rfl (by repeat (first | exact Ents.nil | refine Ents.cons ?_ ?_ | refine Ent.tup ?_ | refine Ent.agg ?_ | exact Ent.row _ _ _ _ | exact Ent.nil _ _ | exact Ent.func _ | exact Ent.refl _ | exact Ent.of_eq rfl | refine Ent.cells ?_)) .nil)) fn23) rfl ?_
    refine lx (OpJ.ent (op_build (qs := [_, _, _]) (parts := [(1, (Go.Operand.const (Go.Value.int Go.IntKind.i64 1)))]) ze43 rfl rfl fs43 (.cons rfl (.one (by (first | exact One.eq rfl | exact One.mv _ _ _ _ _ | exact One.cl _ _ _ | exact One.map _ | exact One.sl _ _ _ | exact One.row _ _ _ _ | exact One.msl _ _ _ _ | exact One.ptr _ _ | exact One.b _ | exact One.cells _))) fl43_1 sz3 rfl .nil) rfl rfl) (show Ent _ (aggP (vp ⟨0, 1, 0⟩)) from (by repeat (first | exact Ents.nil | refine Ents.cons ?_ ?_ | refine Ent.tup ?_ | refine Ent.agg ?_ | exact Ent.row _ _ _ _ | exact Ent.nil _ _ | exact Ent.func _ | exact Ent.refl _ | exact Ent.of_eq rfl | refine Ent.cells ?_)))) rfl ?_
    first | refine lx (op_call (l := [(Go.Operand.tmp 48), (Go.Operand.tmp 51), (Go.Operand.tmp 52)]) (Leave_a aG2 aG3 ⟨0, 1, 0⟩ (bdG_ble rfl) (by decide) (by decide)) (.cons rfl (.cons rfl (.cons rfl .nil))) fn21) rfl ?_ | refine lx (op_call (l := [(Go.Operand.tmp 48), (Go.Operand.tmp 51), (Go.Operand.tmp 52)]) (Leave_a aG2 aG3 ⟨0, 1, 0⟩ (bdG_ble rfl) (by decide) (by decide)) (.ent rfl (by repeat (first | exact Ents.nil | refine Ents.cons ?_ ?_ | refine Ent.tup ?_ | refine Ent.agg ?_ | exact Ent.row _ _ _ _ | exact Ent.nil _ _ | exact Ent.func _ | exact Ent.refl _ | exact Ent.of_eq rfl | refine Ent.cells ?_)) (.ent rfl (by repeat (first | exact Ents.nil | refine Ents.cons ?_ ?_ | refine Ent.tup ?_ | refine Ent.agg ?_ | exact Ent.row _ _ _ _ | exact Ent.nil _ _ | exact Ent.func _ | exact Ent.refl _ | exact Ent.of_eq rfl | refine Ent.cells ?_)) (.ent rfl (by repeat (first | exact Ents.nil | refine Ents.cons ?_ ?_ | refine Ent.tup ?_ | refine Ent.agg ?_ | exact Ent.row _ _ _ _ | exact Ent.nil _ _ | exact Ent.func _ | exact Ent.refl _ | exact Ent.of_eq rfl | refine Ent.cells ?_)) .nil))) fn21) rfl ?_
    refine lxn (op_alloc (m := 4) (k := 4) (ps := [eqP (.int .i64 0), eqP (.int .i64 0), eqP (.int .i64 0), eqP (.slice none 0 0)]) ze29 rfl rfl (by first | exact hC.low _ (by decide) | rfl)) rfl ?_
    refine lxr (op_store_all (m := 4) rfl rfl rfl (.agg rfl) sz29 rfl) rfl ?_
    refine lx_end ⟨by kernel_rfl, ?_⟩
    refine pe_then_normal ?_
    refine tr_sub hC (.cons (t := 1) rfl (.cons (t := 2) rfl (.cons (t := 4) rfl .nil))) (.cons (t := 1) rfl (.cons (t := 2) rfl (.cons (t := 4) rfl .nil))) rfl ?_
    refine tr_seq ?_
    refine tr_region (fun N6 hN => ?_)
    refine lx (op_bload (m := 1) rfl rfl ag26 sz26) rfl ?_
    refine lx (op_bload (m := 4) rfl rfl ag29 sz29) rfl ?_
    refine lx (OpJ.ent (op_build (qs := [_, _, _]) (parts := []) ze43 rfl rfl fs43 .nil rfl rfl) (show Ent _ (aggP (vp v0)) from (by repeat (first | exact Ents.nil | refine Ents.cons ?_ ?_ | refine Ent.tup ?_ | refine Ent.agg ?_ | exact Ent.row _ _ _ _ | exact Ent.nil _ _ | exact Ent.func _ | exact Ent.refl _ | exact Ent.of_eq rfl | refine Ent.cells ?_)))) rfl ?_
    first | refine lx (op_call (l := [(Go.Operand.tmp 54), (Go.Operand.tmp 55), (Go.Operand.tmp 56)]) (Leave_a aG3 aG4 v0 (bdG_ble rfl) (by decide) (by decide)) (.cons rfl (.cons rfl (.cons rfl .nil))) fn21) rfl ?_ | refine lx (op_call (l := [(Go.Operand.tmp 54), (Go.Operand.tmp 55), (Go.Operand.tmp 56)]) (Leave_a aG3 aG4 v0 (bdG_ble rfl) (by decide) (by decide)) (.ent rfl (by repeat (first | exact Ents.nil | refine Ents.cons ?_ ?_ | refine Ent.tup ?_ | refine Ent.agg ?_ | exact Ent.row _ _ _ _ | exact Ent.nil _ _ | exact Ent.func _ | exact Ent.refl _ | exact Ent.of_eq rfl | refine Ent.cells ?_)) (.ent rfl (by repeat (first | exact Ents.nil | refine Ents.cons ?_ ?_ | refine Ent.tup ?_ | refine Ent.agg ?_ | exact Ent.row _ _ _ _ | exact Ent.nil _ _ | exact Ent.func _ | exact Ent.refl _ | exact Ent.of_eq rfl | refine Ent.cells ?_)) (.ent rfl (by repeat (first | exact Ents.nil | refine Ents.cons ?_ ?_ | refine Ent.tup ?_ | refine Ent.agg ?_ | exact Ent.row _ _ _ _ | exact Ent.nil _ _ | exact Ent.func _ | exact Ent.refl _ | exact Ent.of_eq rfl | refine Ent.cells ?_)) .nil))) fn21) rfl ?_
    refine lxn (op_alloc (m := 5) (k := 5) (ps := [eqP (.int .i64 0), eqP (.int .i64 0), eqP (.int .i64 0), eqP (.slice none 0 0)]) ze29 rfl rfl (by first | exact hC.low _ (by decide) | rfl)) rfl ?_
    refine lxr (op_store_all (m := 5) rfl rfl rfl (.agg rfl) sz29 rfl) rfl ?_
    refine lx_end ⟨by kernel_rfl, ?_⟩
    refine pe_then_normal ?_
    refine tr_sub hC (.cons (t := 2) rfl (.cons (t := 4) rfl (.cons (t := 5) rfl .nil))) (.cons (t := 2) rfl (.cons (t := 4) rfl (.cons (t := 5) rfl .nil))) rfl ?_
    refine tr_seq ?_
    refine tr_region (fun N7 hN => ?_)
    refine lx (op_fieldAddr rfl fl29_3 sz27) rfl ?_
    refine lx (op_bload_one (m := 4) rfl rfl ag27 rfl) rfl ?_
    first | refine lx (op_len rfl el27) rfl ?_ | refine lx (op_len_row rfl el27) rfl ?_ | refine lx (op_len_mv rfl el27) rfl ?_ | refine lx (op_len_nil rfl el27) rfl ?_
    refine lx (op_eql rfl rfl) rfl ?_
    refine lx (op_move rfl) rfl ?_
    refine lxs rfl rfl rfl guard_eq (.cons (t := 4) rfl (fun _ => Ent.refl _) .nil) (op_fieldAddr rfl fl29_3 sz27) rfl ?_
    refine lxs rfl rfl rfl guard_eq (.cons (t := 63) rfl (fun h => entW h) .nil) (op_bload_one (m := 4) rfl rfl ag27 rfl) rfl ?_
    refine lxs rfl rfl rfl guard_eq (.cons (t := 64) rfl (fun h => entW h) .nil) (op_index rfl rfl el27 sz60 (show (1 : Int) = ((1 : Nat) : Int) from rfl) (rfl : aG3.frames[1]? = some _)) rfl ?_
    first | refine lxs rfl rfl rfl guard_eq (.cons (t := 65) rfl (fun h => entW h) .nil) (op_fieldAddr rfl fl60_0 sz3) rfl ?_ | refine lxs rfl rfl rfl guard_eq (.cons (t := 65) rfl (fun h => entW h) .nil) (op_fieldCells rfl fl60_0 sz3) rfl ?_
    first | refine lxs rfl rfl rfl guard_eq (.cons (t := 66) rfl (fun h => entW h) .nil) (op_load_one rfl ag3 rfl) rfl ?_ | refine lxs rfl rfl rfl guard_eq (.cons (t := 66) rfl (fun h => entW h) .nil) (op_bload_one (m := 2) rfl rfl ag3 rfl) rfl ?_ | refine lxs rfl rfl rfl guard_eq (.cons (t := 66) rfl (fun h => entW h) .nil) (op_bload_one (m := 4) rfl rfl ag3 rfl) rfl ?_ | refine lxs rfl rfl rfl guard_eq (.cons (t := 66) rfl (fun h => entW h) .nil) (op_bload_one (m := 5) rfl rfl ag3 rfl) rfl ?_
    refine lxs rfl rfl rfl guard_eq (.cons (t := 67) rfl (fun h => entW h) .nil) (op_eql rfl rfl) rfl ?_
    refine lx (op_pick_and rfl rfl) rfl ?_
    refine lx (op_move rfl) rfl ?_
    refine lxs rfl rfl rfl guard_eq (.cons (t := 5) rfl (fun _ => Ent.refl _) .nil) (op_fieldAddr rfl fl29_0 sz3) rfl ?_
    refine lxs rfl rfl rfl guard_eq (.cons (t := 71) rfl (fun h => entW h) .nil) (op_bload_one (m := 5) rfl rfl ag3 rfl) rfl ?_
    refine lxs rfl rfl rfl guard_eq (.cons (t := 72) rfl (fun h => entW h) .nil) (op_eql rfl rfl) rfl ?_
    refine lx (op_pick_and rfl rfl) rfl ?_
    refine lx (op_move rfl) rfl ?_
    refine lxs rfl rfl rfl guard_eq (.cons (t := 4) rfl (fun _ => Ent.refl _) .nil) (op_bload (m := 4) rfl rfl ag29 sz29) rfl ?_
    first | refine lxs rfl rfl rfl guard_eq (.cons (t := 76) rfl (fun h => entW h) .nil) (op_call (l := [(Go.Operand.tmp 76)]) (Sites_ok aG3 (by decide)) (.cons rfl .nil) fn29) rfl ?_ | refine lxs rfl rfl rfl guard_eq (.cons (t := 76) rfl (fun h => entW h) .nil) (op_call (l := [(Go.Operand.tmp 76)]) (Sites_ok aG3 (by decide)) (.ent rfl (by repeat (first | exact Ents.nil | refine Ents.cons ?_ ?_ | refine Ent.tup ?_ | refine Ent.agg ?_ | exact Ent.row _ _ _ _ | exact Ent.nil _ _ | exact Ent.func _ | exact Ent.refl _ | exact Ent.of_eq rfl | refine Ent.cells ?_)) .nil) fn29) rfl ?_
    first | refine lxs rfl rfl rfl guard_eq (.cons (t := 77) rfl (fun h => entW h) .nil) (op_len rfl el53) rfl ?_ | refine lxs rfl rfl rfl guard_eq (.cons (t := 77) rfl (fun h => entW h) .nil) (op_len_row rfl el53) rfl ?_ | refine lxs rfl rfl rfl guard_eq (.cons (t := 77) rfl (fun h => entW h) .nil) (op_len_mv rfl el53) rfl ?_ | refine lxs rfl rfl rfl guard_eq (.cons (t := 77) rfl (fun h => entW h) .nil) (op_len_nil rfl el53) rfl ?_
    refine lxs rfl rfl rfl guard_eq (.cons (t := 78) rfl (fun h => entW h) .nil) (op_eql rfl rfl) rfl ?_
    refine lx (op_pick_and rfl rfl) rfl ?_
    refine lx (op_move rfl) rfl ?_
    refine lxs rfl rfl rfl guard_eq (.cons (t := 2) rfl (fun _ => Ent.refl _) .nil) (op_bload (m := 2) rfl rfl ag29 sz29) rfl ?_
    refine lxs rfl rfl rfl guard_eq .nil (op_build (qs := [_, _, _]) (parts := [(1, (Go.Operand.const (Go.Value.int Go.IntKind.i64 9)))]) ze43 rfl rfl fs43 (.cons rfl (.one (by (first | exact One.eq rfl | exact One.mv _ _ _ _ _ | exact One.cl _ _ _ | exact One.map _ | exact One.sl _ _ _ | exact One.row _ _ _ _ | exact One.msl _ _ _ _ | exact One.ptr _ _ | exact One.b _ | exact One.cells _))) fl43_1 sz3 rfl .nil) rfl rfl) rfl ?_
    first | refine lxs rfl rfl rfl guard_eq (.cons (t := 82) rfl (fun h => entW h) (.cons (t := 83) rfl (fun h => entW h) .nil)) (op_call (l := [(Go.Operand.tmp 82), (Go.Operand.const (Go.Value.int Go.IntKind.i64 2)), (Go.Operand.tmp 83)]) (Set_a) (.cons rfl (.cons rfl (.cons rfl .nil))) fn25) rfl ?_ | refine lxs rfl rfl rfl guard_eq (.cons (t := 82) rfl (fun h => entW h) (.cons (t := 83) rfl (fun h => entW h) .nil)) (op_call (l := [(Go.Operand.tmp 82), (Go.Operand.const (Go.Value.int Go.IntKind.i64 2)), (Go.Operand.tmp 83)]) (Set_a) (.ent rfl (by repeat (first | exact Ents.nil | refine Ents.cons ?_ ?_ | refine Ent.tup ?_ | refine Ent.agg ?_ | exact Ent.row _ _ _ _ | exact Ent.nil _ _ | exact Ent.func _ | exact Ent.refl _ | exact Ent.of_eq rfl | refine Ent.cells ?_)) (.ent rfl (by repeat (first | exact Ents.nil | refine Ents.cons ?_ ?_ | refine Ent.tup ?_ | refine Ent.agg ?_ | exact Ent.row _ _ _ _ | exact Ent.nil _ _ | exact Ent.func _ | exact Ent.refl _ | exact Ent.of_eq rfl | refine Ent.cells ?_)) (.ent rfl (by repeat (first | exact Ents.nil | refine Ents.cons ?_ ?_ | refine Ent.tup ?_ | refine Ent.agg ?_ | exact Ent.row _ _ _ _ | exact Ent.nil _ _ | exact Ent.func _ | exact Ent.refl _ | exact Ent.of_eq rfl | refine Ent.cells ?_)) .nil))) fn25) rfl ?_
    first | refine lxs rfl rfl rfl guard_eq (.cons (t := 84) rfl (fun h => entW h) .nil) (op_call (l := [(Go.Operand.tmp 84), (Go.Operand.const (Go.Value.int Go.IntKind.i64 2))]) (Reg_a aG5 2 ⟨0, 9, 0⟩ (bdG_ble rfl) (by decide) (by decide)) (.cons rfl (.cons rfl .nil)) fn27) rfl ?_ | refine lxs rfl rfl rfl guard_eq (.cons (t := 84) rfl (fun h => entW h) .nil) (op_call (l := [(Go.Operand.tmp 84), (Go.Operand.const (Go.Value.int Go.IntKind.i64 2))]) (Reg_a aG5 2 ⟨0, 9, 0⟩ (bdG_ble rfl) (by decide) (by decide)) (.ent rfl (by repeat (first | exact Ents.nil | refine Ents.cons ?_ ?_ | refine Ent.tup ?_ | refine Ent.agg ?_ | exact Ent.row _ _ _ _ | exact Ent.nil _ _ | exact Ent.func _ | exact Ent.refl _ | exact Ent.of_eq rfl | refine Ent.cells ?_)) (.ent rfl (by repeat (first | exact Ents.nil | refine Ents.cons ?_ ?_ | refine Ent.tup ?_ | refine Ent.agg ?_ | exact Ent.row _ _ _ _ | exact Ent.nil _ _ | exact Ent.func _ | exact Ent.refl _ | exact Ent.of_eq rfl | refine Ent.cells ?_)) .nil)) fn27) rfl ?_
    refine lxs rfl rfl rfl guard_eq (.cons (t := 85) rfl (fun h => entW h) .nil) (op_field_one rfl fl43_1 ag3 rfl) rfl ?_
    refine lxs rfl rfl rfl guard_eq (.cons (t := 86) rfl (fun h => entW h) .nil) (op_eql rfl rfl) rfl ?_
    refine lx (op_pick_and rfl rfl) rfl ?_
    refine lx (op_assign rfl) rfl ?_
    refine lx_end ⟨by kernel_rfl, ?_⟩
    refine pe_then_normal ?_
    refine tr_sub hC (.cons (t := 0) rfl .nil) .nil rfl ?_
    refine tr_ret ?_
    refine pe_ret1 rfl hO rfl (.tmp rfl .nil) ?_
    repeat (first | exact Ents.nil | refine Ents.cons ?_ ?_ | refine Ent.tup ?_ | refine Ent.agg ?_ | exact Ent.row _ _ _ _ | exact Ent.nil _ _ | exact Ent.func _ | exact Ent.refl _ | exact Ent.of_eq rfl | refine Ent.cells ?_)
end Go.Proofs.Ythiknhmoefbanaa
