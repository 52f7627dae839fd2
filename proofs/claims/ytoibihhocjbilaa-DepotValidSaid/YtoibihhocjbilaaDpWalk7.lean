/- Walks of the functions of layer 21: Stack -/
import Derived.Test.YtoibihhocjbilaaDpWalk6
set_option linter.unusedVariables false
set_option linter.unusedSimpArgs false
namespace Go.Proofs.Ytoibihhocjbilaa
open Go.AL Go.Dp Go.RowKit
theorem fn12 : fnB Try.prog 12 = true := by kernel_rfl
theorem fn31 : fnB Try.prog 31 = true := by kernel_rfl
theorem Stack_ok (d : Dep) (hx : d.sites.length ≤ 1000000) (n : Int) : FnP Try.prog 19 [aggP d.ps, eqP (.int .i64 n)] (tupP [slP sp 2 (stackF d n).1, eqP (.bool (stackF d n).2)]) := by
  refine fn_pure' Try.func19 rfl Try.ntmps19 rfl ?_
  intro σ0 M ex Rf R hC hO
  simp only [frameOf, tokOf]
  refine tr_seq ?_
  refine tr_region (fun N0 hN => ?_)
  refine lxn (op_box (m := 2) (k := 2) rfl (.agg rfl) (by first | exact hC.low _ (by decide) | rfl)) rfl ?_
  refine lx (op_assign rfl) rfl ?_
  refine lx (op_assign rfl) rfl ?_
  refine lx_end ⟨by kernel_rfl, ?_⟩
  refine pe_then_normal ?_
  refine tr_sub hC (.cons (t := 1) rfl (.cons (t := 2) rfl .nil)) (.cons (t := 2) rfl .nil) rfl ?_
  refine tr_seq ?_
  refine tr_seq ?_
  refine tr_region (fun N1 hN => ?_)
  refine lx (op_move rfl) rfl ?_
  refine lx (op_lss rfl rfl) rfl ?_
  refine lx (op_move rfl) rfl ?_
  refine lxs rfl rfl rfl guard_eq (.cons (t := 1) rfl (fun _ => Ent.refl _) .nil) (op_move rfl) rfl ?_
  refine lxs rfl rfl rfl guard_eq (.cons (t := 2) rfl (fun _ => Ent.refl _) .nil) (op_fieldAddr rfl fl25_0 sz22) rfl ?_
  refine lxs rfl rfl rfl guard_eq (.cons (t := 11) rfl (fun h => entW h) .nil) (op_bload_one (m := 2) rfl rfl ag22 rfl) rfl ?_
  first | refine lxs rfl rfl rfl guard_eq (.cons (t := 12) rfl (fun h => entW h) .nil) (op_len rfl el22) rfl ?_ | refine lxs rfl rfl rfl guard_eq (.cons (t := 12) rfl (fun h => entW h) .nil) (op_len_row rfl el22) rfl ?_ | refine lxs rfl rfl rfl guard_eq (.cons (t := 12) rfl (fun h => entW h) .nil) (op_len_mv rfl el22) rfl ?_
  refine lxs rfl rfl rfl guard_eq (.cons (t := 10) rfl (fun h => entW h) (.cons (t := 13) rfl (fun h => entW h) .nil)) (op_geq rfl rfl) rfl ?_
  refine lx (op_pick_or rfl rfl) rfl ?_
  refine lx (op_move rfl) rfl ?_
  first | refine lxs rfl rfl rfl guard_eq (.cons (t := 2) rfl (fun _ => Ent.refl _) .nil) (op_bload (m := 2) rfl rfl ag25 sz25) rfl ?_ | refine lxs rfl rfl rfl guard_eq (.cons (t := 2) rfl (fun _ => Ent.refl _) .nil) (op_bload_part (m := 2) rfl rfl ag25 sz25 rfl rfl) rfl ?_
  first | refine lxs rfl rfl rfl guard_eq (.cons (t := 17) rfl (fun h => entW h) .nil) (op_call (l := [(Go.Operand.tmp 17)]) (valid_ok _ (by omega)) (.cons rfl .nil) fn12) rfl ?_ | refine lxs rfl rfl rfl guard_eq (.cons (t := 17) rfl (fun h => entW h) .nil) (op_call (l := [(Go.Operand.tmp 17)]) (valid_ok _ (by omega)) (.ent rfl (by repeat (first | exact Ent.refl _ | exact Ents.nil | exact Ent.nil _ _ | exact Ent.row _ _ _ _ | exact Ent.func _ | refine Ents.cons ?_ ?_ | refine Ent.tup ?_ | refine Ent.agg ?_ | refine Ent.cells ?_ | exact Ent.of_eq rfl)) .nil) fn12) rfl ?_
  first | refine lxs rfl rfl rfl guard_eq (.cons (t := 18) rfl (fun h => entW h) .nil) (op_not rfl) rfl ?_ | refine lxs rfl rfl rfl guard_eq (.cons (t := 18) rfl (fun h => entW h) .nil) (op_not_b rfl) rfl ?_
  refine lx (op_pick_or rfl rfl) rfl ?_
  refine lx_end ⟨by kernel_rfl, ?_⟩
  refine pe_then_normal ?_
  refine tr_sub hC (.cons (t := 1) rfl (.cons (t := 2) rfl (.cons (t := 20) rfl .nil))) (.cons (t := 2) rfl .nil) rfl ?_
  refine tr_cond rfl (fun h20 => ?_) (fun h20 => ?_)
  · have hno := stackF_no h20
    refine tr_seq ?_
    refine tr_region (fun N2 hN => ?_)
    refine lx (op_assign rfl) rfl ?_
    refine lx (op_assign rfl) rfl ?_
    refine lx_end ⟨by kernel_rfl, ?_⟩
    refine pe_then_normal ?_
    refine tr_sub hC (.cons (t := 4) rfl (.cons (t := 5) rfl .nil)) .nil rfl ?_
    refine tr_ret ?_
    refine pe_then_ret ?_
    refine pe_retN (rs := [.tmp 4, .tmp 5]) rfl rfl hO rfl (.tmp rfl (.tmp rfl .nil)) ?_
    rw [hno]
    repeat (first | exact Ent.refl _ | exact Ents.nil | exact Ent.nil _ _ | exact Ent.row _ _ _ _ | exact Ent.func _ | refine Ents.cons ?_ ?_ | refine Ent.tup ?_ | refine Ent.agg ?_ | refine Ent.cells ?_ | exact Ent.of_eq rfl)
  · have hyes := stack_good h20
    obtain ⟨hl, hv⟩ := (validF_iff d).1 hyes.1
    obtain ⟨l, rfl⟩ : ∃ l, d = ofE l := ⟨d.es, (ofE_es hl).symm⟩
    rw [es_ofE] at hv
    have hS := lenS l
    refine tr_skip ?_
    refine pe_then_normal ?_
    refine tr_sub hC (.cons (t := 1) rfl (.cons (t := 2) rfl .nil)) (.cons (t := 2) rfl .nil) rfl ?_
    refine tr_seq ?_
    refine tr_region (fun N3 hN => ?_)
    refine lx (op_assign rfl) rfl ?_
    refine lx_end ⟨by kernel_rfl, ?_⟩
    refine pe_then_normal ?_
    refine tr_sub hC (.cons (t := 1) rfl (.cons (t := 2) rfl (.cons (t := 6) rfl .nil))) (.cons (t := 2) rfl .nil) rfl ?_
    refine tr_seq ?_
    refine tr_block ?_
    refine tr_nilmv 2 29 6 600 rfl (by first | exact hC.low _ (by decide) | rfl) (fun idN => ?_)
    refine tr_loopK (α := {zz : Int × (List Site) × AL.Id // -1 ≤ zz.1 ∧ zz.1 < (l.length : Int) ∧ zz.2.1 ++ climb l (zz.1 + 1).toNat zz.1 = climb l (n + 1).toNat n ∧ zz.2.1.length + (zz.1 + 1).toNat ≤ (n + 1).toNat}) (⟨(n, [], idN), by omega, by omega, rfl, by simp⟩) (fun zz => [(1, eqP (.int .i64 zz.1.1)), (6, mvP zz.1.2.2 2 0 zz.1.2.1.length zz.1.2.1.length)]) (fun zz => [(600, some (zz.1.2.2, blkX 2 29 (zz.1.2.1.flatMap sp)))]) (fun zz => (zz.1.1 + 1).toNat) hC (.cons (t := 2) rfl .nil) (.cons (t := 2) rfl .nil) rfl ?_ ?_ (fun zz => ?_)
    · try dsimp only [List.cons_append, List.nil_append]
      first | refine SubF.cons rfl ?_ | (refine SubF.ent rfl ?_ ?_; · repeat (first | exact Ent.refl _ | exact Ents.nil | exact Ent.nil _ _ | exact Ent.row _ _ _ _ | exact Ent.func _ | refine Ents.cons ?_ ?_ | refine Ent.tup ?_ | refine Ent.agg ?_ | refine Ent.cells ?_ | exact Ent.of_eq rfl))
      first | refine SubF.cons rfl ?_ | (refine SubF.ent rfl ?_ ?_; · repeat (first | exact Ent.refl _ | exact Ents.nil | exact Ent.nil _ _ | exact Ent.row _ _ _ _ | exact Ent.func _ | refine Ents.cons ?_ ?_ | refine Ent.tup ?_ | refine Ent.agg ?_ | refine Ent.cells ?_ | exact Ent.of_eq rfl))
      exact SubF.nil
    · try dsimp only [List.cons_append, List.nil_append]
      repeat (first | exact SubL.nil | refine SubL.cons rfl ?_)
    · obtain ⟨⟨m, acc, id⟩, h1, h2, h3, h4⟩ := zz
      try dsimp only at h1
      try dsimp only at h2
      try dsimp only at h3
      try dsimp only at h4
      dsimp only [List.cons_append, List.nil_append]
      refine tr_seq ?_
      refine tr_seq ?_
      refine tr_region (fun N4 hN => ?_)
      refine lx (op_move rfl) rfl ?_
      refine lx (op_geq rfl rfl) rfl ?_
      refine lx_end ⟨by kernel_rfl, ?_⟩
      refine pe_then_normal ?_
      refine tr_sub hC (.cons (t := 1) rfl (.cons (t := 2) rfl (.cons (t := 6) rfl (.cons (t := 22) rfl .nil)))) (.cons (t := 600) rfl (.cons (t := 2) rfl .nil)) rfl ?_
      refine tr_cond rfl (fun h22 => ?_) (fun h22 => ?_)
      · (try simp only [Bool.and_eq_true, Bool.or_eq_true, Bool.and_eq_false_iff, Bool.or_eq_false_iff, decide_eq_true_eq, decide_eq_false_iff_not, Bool.not_eq_true', Bool.not_eq_false', List.length_map, ne_eq, Decidable.not_not, Int.not_lt, Int.not_le] at h22)
        have hva := valid_at hv (by omega : m.toNat < l.length)
        have hcl := climb_step hv h22 (by omega : m.toNat < l.length)
        refine tr_skip ?_
        refine pe_then_normal ?_
        refine tr_sub hC (.cons (t := 1) rfl (.cons (t := 2) rfl (.cons (t := 6) rfl .nil))) (.cons (t := 600) rfl (.cons (t := 2) rfl .nil)) rfl ?_
        refine tr_seq ?_
        refine tr_block ?_
        refine tr_region (fun N6 hN => ?_)
        refine lx (op_move rfl) rfl ?_
        refine lx (op_fieldAddr rfl fl25_0 sz22) rfl ?_
        refine lx (op_bload_one (m := 2) rfl rfl ag22 rfl) rfl ?_
        refine lx (op_move rfl) rfl ?_
        refine lx (op_index rfl rfl el22 sz29 (by omega : m = ((m.toNat : Nat) : Int)) (sites_at (by omega : m.toNat < l.length))) rfl ?_
        first | refine lx (op_load_all rfl ag29 sz29) rfl ?_ | refine lx (op_load_agg rfl ag29 sz29 rfl) rfl ?_ | refine lx (op_bload (m := 600) rfl rfl ag29 sz29) rfl ?_ | refine lx (op_bload (m := 2) rfl rfl ag29 sz29) rfl ?_ | refine lx (op_bload_part (m := 600) rfl rfl ag29 sz29 rfl rfl) rfl ?_ | refine lx (op_bload_part (m := 2) rfl rfl ag29 sz29 rfl rfl) rfl ?_
        refine lx (op_buildSlice (f := sp) (xs := [(l[m.toNat]'(by omega)).2]) (l := [(0, (Go.Operand.tmp 33))]) ze29 rfl rfl (by decide) el22 sz29 sp_len (.cons rfl (.agg rfl) .nil) rfl (by decide)) rfl ?_
        refine lxr (op_append_t (m := 600) (m' := 600) (kk := 35) (f := sp) rfl rfl rfl (.inl rfl) el22 ze29 sz29 by29 rfl (by decide) sp_len (by rw [List.length_singleton]; omega) (by rw [List.length_singleton]; omega)) rfl ?_
        refine lx (op_assign rfl) rfl ?_
        refine lx_end ⟨by kernel_rfl, ?_⟩
        refine pe_block_normal ?_
        refine pe_then_normal ?_
        refine tr_sub hC (.cons (t := 1) rfl (.cons (t := 2) rfl (.cons (t := 6) rfl .nil))) (.cons (t := 2) rfl (.cons (t := 600) rfl .nil)) rfl ?_
        refine tr_region (fun N5 hN => ?_)
        refine lx (op_fieldAddr rfl fl25_1 sz23) rfl ?_
        refine lx (op_bload_one (m := 2) rfl rfl ag23 rfl) rfl ?_
        refine lx (op_move rfl) rfl ?_
        refine lx (op_index rfl rfl el23 sz3 (by omega : m = ((m.toNat : Nat) : Int)) (parents_at (by omega : m.toNat < l.length))) rfl ?_
        first | refine lx (op_load_one rfl ag3 rfl) rfl ?_ | refine lx (op_bload_one (m := 2) rfl rfl ag3 rfl) rfl ?_ | refine lx (op_bload_one (m := 600) rfl rfl ag3 rfl) rfl ?_
        refine lx (op_assign rfl) rfl ?_
        refine lx_end ⟨by kernel_rfl, ?_⟩
        refine pe_round (⟨((l[m.toNat]'(by omega)).1, acc ++ [(l[m.toNat]'(by omega)).2], (N6, 35)), by dsimp only; omega, by dsimp only; omega, by dsimp only; rw [hcl] at h3; rw [List.append_assoc]; exact h3, by dsimp only; rw [List.length_append, List.length_singleton]; omega⟩) (by dsimp only; omega) (pe_st hC ?_ ?_ rfl)
        · try dsimp only [List.cons_append, List.nil_append]
          first | refine SubF.cons rfl ?_ | (refine SubF.ent rfl ?_ ?_; · repeat (first | exact Ent.refl _ | exact Ents.nil | exact Ent.nil _ _ | exact Ent.row _ _ _ _ | exact Ent.func _ | refine Ents.cons ?_ ?_ | refine Ent.tup ?_ | refine Ent.agg ?_ | refine Ent.cells ?_ | exact Ent.of_eq rfl))
          first | refine SubF.cons rfl ?_ | (refine SubF.ent rfl ?_ ?_; · repeat (first | exact Ent.refl _ | exact Ents.nil | exact Ent.nil _ _ | exact Ent.row _ _ _ _ | exact Ent.func _ | refine Ents.cons ?_ ?_ | refine Ent.tup ?_ | refine Ent.agg ?_ | refine Ent.cells ?_ | exact Ent.of_eq rfl))
          first | refine SubF.cons rfl ?_ | (refine SubF.ent rfl ?_ ?_; · repeat (first | exact Ent.refl _ | exact Ents.nil | exact Ent.nil _ _ | exact Ent.row _ _ _ _ | exact Ent.func _ | refine Ents.cons ?_ ?_ | refine Ent.tup ?_ | refine Ent.agg ?_ | refine Ent.cells ?_ | exact Ent.of_eq rfl))
          exact SubF.nil
        · try dsimp only [List.cons_append, List.nil_append]
          repeat (first | exact SubL.nil | refine SubL.cons rfl ?_)
      · (try simp only [Bool.and_eq_true, Bool.or_eq_true, Bool.and_eq_false_iff, Bool.or_eq_false_iff, decide_eq_true_eq, decide_eq_false_iff_not, Bool.not_eq_true', Bool.not_eq_false', List.length_map, ne_eq, Decidable.not_not, Int.not_lt, Int.not_le] at h22)
        have hfin : acc = climb l (n + 1).toNat n := by rw [climb_neg h22, List.append_nil] at h3; exact h3
        refine tr_exit ?_
        refine pe_then_exit ?_
        refine pe_then_exit ?_
        refine pe_block_eq ?_
        refine pe_then_normal ?_
        refine tr_sub hC (.cons (t := 6) rfl .nil) (.cons (t := 600) rfl .nil) rfl ?_
        refine tr_seq ?_
        refine tr_region (fun N7 hN => ?_)
        refine lx (op_move rfl) rfl ?_
        first | refine lx_any rfl (op_callG2 (l := [(Go.Operand.tmp 36)]) (add := [(600, (id, blkX 2 29 (acc.reverse.flatMap sp)))]) (ks := []) (φ := tupP []) (.cons (m := 600) rfl .nil) (reverse_ok id acc (by omega)) (.cons rfl .nil) fn31 rfl rfl rfl (.old rfl .nil) rfl) (dOK_spec rfl) ?_ | refine lx_any rfl (op_callG2 (l := [(Go.Operand.tmp 36)]) (add := [(600, (id, blkX 2 29 (acc.reverse.flatMap sp)))]) (ks := []) (φ := tupP []) (.cons (m := 600) rfl .nil) (reverse_ok id acc (by omega)) (.ent rfl (by repeat (first | exact Ent.refl _ | exact Ents.nil | exact Ent.nil _ _ | exact Ent.row _ _ _ _ | exact Ent.func _ | refine Ents.cons ?_ ?_ | refine Ent.tup ?_ | refine Ent.agg ?_ | refine Ent.cells ?_ | exact Ent.of_eq rfl)) .nil) fn31 rfl rfl rfl (.old rfl .nil) rfl) (dOK_spec rfl) ?_
        refine lx_end ⟨by kernel_rfl, ?_⟩
        refine pe_then_normal ?_
        refine tr_sub hC (.cons (t := 6) rfl .nil) (.cons (t := 600) rfl .nil) rfl ?_
        refine tr_freeze (m := 600) rfl (.ent (t := 6) rfl (FEnt.mv (xs := acc.reverse) (by simp) ⟨[], by simp⟩ sp_len) .nil) ?_
        try dsimp only
        refine tr_seq ?_
        refine tr_region (fun N8 hN => ?_)
        refine lx (op_move rfl) rfl ?_
        refine lx (op_assign rfl) rfl ?_
        refine lx (op_assign rfl) rfl ?_
        refine lx_end ⟨by kernel_rfl, ?_⟩
        refine pe_then_normal ?_
        refine tr_sub hC (.cons (t := 4) rfl (.cons (t := 5) rfl .nil)) .nil rfl ?_
        refine tr_ret ?_
        refine pe_retN (rs := [.tmp 4, .tmp 5]) rfl rfl hO rfl (.tmp rfl (.tmp rfl .nil)) ?_
        rw [stackF_yes hyes, es_ofE, ← hfin]
        repeat (first | exact Ent.refl _ | exact Ents.nil | exact Ent.nil _ _ | exact Ent.row _ _ _ _ | exact Ent.func _ | refine Ents.cons ?_ ?_ | refine Ent.tup ?_ | refine Ent.agg ?_ | refine Ent.cells ?_ | exact Ent.of_eq rfl)

theorem rStack_ok (d : Dep) (hx : d.sites.length ≤ 1000000) (n : Int) : FnP Try.prog 20 [aggP d.ps, eqP (.int .i64 n)] (tupP [slP sp 2 (stackF d n).1, eqP (.bool (stackF d n).2)]) := by
  refine fn_pure' Try.func20 rfl Try.ntmps20 rfl ?_
  intro σ0 M ex Rf R hC hO
  simp only [frameOf, tokOf]
  refine tr_seq ?_
  refine tr_region (fun N0 hN => ?_)
  refine lxn (op_box (m := 2) (k := 2) rfl (.agg rfl) (by first | exact hC.low _ (by decide) | rfl)) rfl ?_
  refine lx (op_assign rfl) rfl ?_
  refine lx (op_assign rfl) rfl ?_
  refine lx_end ⟨by kernel_rfl, ?_⟩
  refine pe_then_normal ?_
  refine tr_sub hC (.cons (t := 1) rfl (.cons (t := 2) rfl .nil)) (.cons (t := 2) rfl .nil) rfl ?_
  refine tr_seq ?_
  refine tr_seq ?_
  refine tr_region (fun N1 hN => ?_)
  first | refine lx (op_bload (m := 2) rfl rfl ag25 sz25) rfl ?_ | refine lx (op_bload_part (m := 2) rfl rfl ag25 sz25 rfl rfl) rfl ?_
  first | refine lx (op_call (l := [(Go.Operand.tmp 7)]) (rvalid_ok _ (by omega)) (.cons rfl .nil) fn13) rfl ?_ | refine lx (op_call (l := [(Go.Operand.tmp 7)]) (rvalid_ok _ (by omega)) (.ent rfl (by repeat (first | exact Ent.refl _ | exact Ents.nil | exact Ent.nil _ _ | exact Ent.row _ _ _ _ | exact Ent.func _ | refine Ents.cons ?_ ?_ | refine Ent.tup ?_ | refine Ent.agg ?_ | refine Ent.cells ?_ | exact Ent.of_eq rfl)) .nil) fn13) rfl ?_
  first | refine lx (op_not rfl) rfl ?_ | refine lx (op_not_b rfl) rfl ?_
  refine lx (op_move rfl) rfl ?_
  refine lxs rfl rfl rfl guard_eq (.cons (t := 1) rfl (fun _ => Ent.refl _) .nil) (op_move rfl) rfl ?_
  refine lxs rfl rfl rfl guard_eq (.cons (t := 11) rfl (fun h => entW h) .nil) (op_lss rfl rfl) rfl ?_
  refine lx (op_pick_or rfl rfl) rfl ?_
  refine lx (op_move rfl) rfl ?_
  refine lxs rfl rfl rfl guard_eq (.cons (t := 1) rfl (fun _ => Ent.refl _) .nil) (op_move rfl) rfl ?_
  refine lxs rfl rfl rfl guard_eq (.cons (t := 2) rfl (fun _ => Ent.refl _) .nil) (op_fieldAddr rfl fl25_0 sz22) rfl ?_
  refine lxs rfl rfl rfl guard_eq (.cons (t := 16) rfl (fun h => entW h) .nil) (op_bload_one (m := 2) rfl rfl ag22 rfl) rfl ?_
  first | refine lxs rfl rfl rfl guard_eq (.cons (t := 17) rfl (fun h => entW h) .nil) (op_len rfl el22) rfl ?_ | refine lxs rfl rfl rfl guard_eq (.cons (t := 17) rfl (fun h => entW h) .nil) (op_len_row rfl el22) rfl ?_ | refine lxs rfl rfl rfl guard_eq (.cons (t := 17) rfl (fun h => entW h) .nil) (op_len_mv rfl el22) rfl ?_
  refine lxs rfl rfl rfl guard_eq (.cons (t := 15) rfl (fun h => entW h) (.cons (t := 18) rfl (fun h => entW h) .nil)) (op_geq rfl rfl) rfl ?_
  refine lx (op_pick_or rfl rfl) rfl ?_
  refine lx_end ⟨by kernel_rfl, ?_⟩
  refine pe_then_normal ?_
  refine tr_sub hC (.cons (t := 1) rfl (.cons (t := 2) rfl (.cons (t := 20) rfl .nil))) (.cons (t := 2) rfl .nil) rfl ?_
  refine tr_cond rfl (fun h20 => ?_) (fun h20 => ?_)
  · have hno := stackF_no2 h20
    refine tr_seq ?_
    refine tr_region (fun N2 hN => ?_)
    refine lx (op_assign rfl) rfl ?_
    refine lx (op_assign rfl) rfl ?_
    refine lx_end ⟨by kernel_rfl, ?_⟩
    refine pe_then_normal ?_
    refine tr_sub hC (.cons (t := 4) rfl (.cons (t := 5) rfl .nil)) .nil rfl ?_
    refine tr_ret ?_
    refine pe_then_ret ?_
    refine pe_retN (rs := [.tmp 4, .tmp 5]) rfl rfl hO rfl (.tmp rfl (.tmp rfl .nil)) ?_
    rw [hno]
    repeat (first | exact Ent.refl _ | exact Ents.nil | exact Ent.nil _ _ | exact Ent.row _ _ _ _ | exact Ent.func _ | refine Ents.cons ?_ ?_ | refine Ent.tup ?_ | refine Ent.agg ?_ | refine Ent.cells ?_ | exact Ent.of_eq rfl)
  · have hyes := stack_good2 h20
    obtain ⟨hl, hv⟩ := (validF_iff d).1 hyes.1
    obtain ⟨l, rfl⟩ : ∃ l, d = ofE l := ⟨d.es, (ofE_es hl).symm⟩
    rw [es_ofE] at hv
    have hS := lenS l
    refine tr_skip ?_
    refine pe_then_normal ?_
    refine tr_sub hC (.cons (t := 1) rfl (.cons (t := 2) rfl .nil)) (.cons (t := 2) rfl .nil) rfl ?_
    refine tr_seq ?_
    refine tr_region (fun N3 hN => ?_)
    refine lx (op_assign rfl) rfl ?_
    refine lx_end ⟨by kernel_rfl, ?_⟩
    refine pe_then_normal ?_
    refine tr_sub hC (.cons (t := 1) rfl (.cons (t := 2) rfl (.cons (t := 6) rfl .nil))) (.cons (t := 2) rfl .nil) rfl ?_
    refine tr_seq ?_
    refine tr_block ?_
    refine tr_loopK (α := {zz : Int × (List Site) // -1 ≤ zz.1 ∧ zz.1 < (l.length : Int) ∧ (climb l (zz.1 + 1).toNat zz.1).reverse ++ zz.2 = (climb l (n + 1).toNat n).reverse ∧ zz.2.length + (zz.1 + 1).toNat ≤ (n + 1).toNat}) (⟨(n, []), by omega, by omega, by simp, by simp⟩) (fun zz => [(1, eqP (.int .i64 zz.1.1)), (6, slP sp 2 zz.1.2)]) (fun zz => []) (fun zz => (zz.1.1 + 1).toNat) hC (.cons (t := 2) rfl .nil) (.cons (t := 2) rfl .nil) rfl ?_ ?_ (fun zz => ?_)
    · try dsimp only [List.cons_append, List.nil_append]
      first | refine SubF.cons rfl ?_ | (refine SubF.ent rfl ?_ ?_; · repeat (first | exact Ent.refl _ | exact Ents.nil | exact Ent.nil _ _ | exact Ent.row _ _ _ _ | exact Ent.func _ | refine Ents.cons ?_ ?_ | refine Ent.tup ?_ | refine Ent.agg ?_ | refine Ent.cells ?_ | exact Ent.of_eq rfl))
      first | refine SubF.cons rfl ?_ | (refine SubF.ent rfl ?_ ?_; · repeat (first | exact Ent.refl _ | exact Ents.nil | exact Ent.nil _ _ | exact Ent.row _ _ _ _ | exact Ent.func _ | refine Ents.cons ?_ ?_ | refine Ent.tup ?_ | refine Ent.agg ?_ | refine Ent.cells ?_ | exact Ent.of_eq rfl))
      exact SubF.nil
    · try dsimp only [List.cons_append, List.nil_append]
      repeat (first | exact SubL.nil | refine SubL.cons rfl ?_)
    · obtain ⟨⟨m, acc⟩, h1, h2, h3, h4⟩ := zz
      try dsimp only at h1
      try dsimp only at h2
      try dsimp only at h3
      try dsimp only at h4
      dsimp only [List.cons_append, List.nil_append]
      refine tr_seq ?_
      refine tr_seq ?_
      refine tr_region (fun N4 hN => ?_)
      refine lx (op_move rfl) rfl ?_
      refine lx (op_geq rfl rfl) rfl ?_
      refine lx_end ⟨by kernel_rfl, ?_⟩
      refine pe_then_normal ?_
      refine tr_sub hC (.cons (t := 1) rfl (.cons (t := 2) rfl (.cons (t := 6) rfl (.cons (t := 22) rfl .nil)))) (.cons (t := 2) rfl .nil) rfl ?_
      refine tr_cond rfl (fun h22 => ?_) (fun h22 => ?_)
      · (try simp only [Bool.and_eq_true, Bool.or_eq_true, Bool.and_eq_false_iff, Bool.or_eq_false_iff, decide_eq_true_eq, decide_eq_false_iff_not, Bool.not_eq_true', Bool.not_eq_false', List.length_map, ne_eq, Decidable.not_not, Int.not_lt, Int.not_le] at h22)
        have hva := valid_at hv (by omega : m.toNat < l.length)
        have hcl := climb_step hv h22 (by omega : m.toNat < l.length)
        refine tr_skip ?_
        refine pe_then_normal ?_
        refine tr_sub hC (.cons (t := 1) rfl (.cons (t := 2) rfl (.cons (t := 6) rfl .nil))) (.cons (t := 2) rfl .nil) rfl ?_
        refine tr_block ?_
        refine tr_seq ?_
        refine tr_region (fun N5 hN => ?_)
        refine lx (op_fieldAddr rfl fl25_0 sz22) rfl ?_
        refine lx (op_bload_one (m := 2) rfl rfl ag22 rfl) rfl ?_
        refine lx (op_move rfl) rfl ?_
        refine lx (op_index rfl rfl el22 sz29 (by omega : m = ((m.toNat : Nat) : Int)) (sites_at (by omega : m.toNat < l.length))) rfl ?_
        first | refine lx (op_load_all rfl ag29 sz29) rfl ?_ | refine lx (op_load_agg rfl ag29 sz29 rfl) rfl ?_ | refine lx (op_bload (m := 2) rfl rfl ag29 sz29) rfl ?_ | refine lx (op_bload_part (m := 2) rfl rfl ag29 sz29 rfl rfl) rfl ?_
        refine lxn (op_buildRow (m' := 28) (kk := 28) (f := sp) (xs := [(l[m.toNat]'(by omega)).2]) (l := [(0, (Go.Operand.tmp 27))]) ze29 rfl rfl (by decide) el22 sz29 sp_len (.cons rfl (.agg rfl) .nil) rfl (by decide) (by first | exact hC.low _ (by decide) | rfl)) rfl ?_
        refine lx (op_move rfl) rfl ?_
        refine lxr (op_append (m := 28) (m' := 30) (kk := 30) rfl rfl rfl (.inr (by first | exact hC.low _ (by decide) | rfl)) el22 ze29 sz29 by29 rfl sp_len (by rw [List.length_singleton]; omega) (by rw [List.length_singleton]; omega)) rfl ?_
        refine lx (op_assign rfl) rfl ?_
        refine lx_end ⟨by kernel_rfl, ?_⟩
        refine pe_then_normal ?_
        refine tr_sub hC (.cons (t := 1) rfl (.cons (t := 2) rfl (.cons (t := 6) rfl .nil))) (.cons (t := 2) rfl (.cons (t := 30) rfl .nil)) rfl ?_
        refine tr_region (fun N6 hN => ?_)
        refine lx (op_fieldAddr rfl fl25_1 sz23) rfl ?_
        refine lx (op_bload_one (m := 2) rfl rfl ag23 rfl) rfl ?_
        refine lx (op_move rfl) rfl ?_
        refine lx (op_index rfl rfl el23 sz3 (by omega : m = ((m.toNat : Nat) : Int)) (parents_at (by omega : m.toNat < l.length))) rfl ?_
        first | refine lx (op_load_one rfl ag3 rfl) rfl ?_ | refine lx (op_bload_one (m := 2) rfl rfl ag3 rfl) rfl ?_ | refine lx (op_bload_one (m := 30) rfl rfl ag3 rfl) rfl ?_
        refine lx (op_assign rfl) rfl ?_
        refine lx_end ⟨by kernel_rfl, ?_⟩
        refine pe_block_normal ?_
        refine pe_round (⟨((l[m.toNat]'(by omega)).1, [(l[m.toNat]'(by omega)).2] ++ acc), by dsimp only; omega, by dsimp only; omega, by dsimp only; rw [hcl] at h3; simpa using h3, by dsimp only; rw [List.length_append, List.length_singleton]; omega⟩) (by dsimp only; omega) (pe_st hC ?_ ?_ rfl)
        · try dsimp only [List.cons_append, List.nil_append]
          first | refine SubF.cons rfl ?_ | (refine SubF.ent rfl ?_ ?_; · repeat (first | exact Ent.refl _ | exact Ents.nil | exact Ent.nil _ _ | exact Ent.row _ _ _ _ | exact Ent.func _ | refine Ents.cons ?_ ?_ | refine Ent.tup ?_ | refine Ent.agg ?_ | refine Ent.cells ?_ | exact Ent.of_eq rfl))
          first | refine SubF.cons rfl ?_ | (refine SubF.ent rfl ?_ ?_; · repeat (first | exact Ent.refl _ | exact Ents.nil | exact Ent.nil _ _ | exact Ent.row _ _ _ _ | exact Ent.func _ | refine Ents.cons ?_ ?_ | refine Ent.tup ?_ | refine Ent.agg ?_ | refine Ent.cells ?_ | exact Ent.of_eq rfl))
          first | refine SubF.cons rfl ?_ | (refine SubF.ent rfl ?_ ?_; · repeat (first | exact Ent.refl _ | exact Ents.nil | exact Ent.nil _ _ | exact Ent.row _ _ _ _ | exact Ent.func _ | refine Ents.cons ?_ ?_ | refine Ent.tup ?_ | refine Ent.agg ?_ | refine Ent.cells ?_ | exact Ent.of_eq rfl))
          exact SubF.nil
        · try dsimp only [List.cons_append, List.nil_append]
          repeat (first | exact SubL.nil | refine SubL.cons rfl ?_)
      · (try simp only [Bool.and_eq_true, Bool.or_eq_true, Bool.and_eq_false_iff, Bool.or_eq_false_iff, decide_eq_true_eq, decide_eq_false_iff_not, Bool.not_eq_true', Bool.not_eq_false', List.length_map, ne_eq, Decidable.not_not, Int.not_lt, Int.not_le] at h22)
        have hfin : (climb l (n + 1).toNat n).reverse = acc := by rw [climb_neg h22] at h3; exact h3.symm
        refine tr_exit ?_
        refine pe_then_exit ?_
        refine pe_then_exit ?_
        refine pe_block_eq ?_
        refine pe_then_normal ?_
        refine tr_sub hC (.cons (t := 6) rfl .nil) .nil rfl ?_
        refine tr_seq ?_
        refine tr_region (fun N7 hN => ?_)
        refine lx (op_move rfl) rfl ?_
        refine lx (op_assign rfl) rfl ?_
        refine lx (op_assign rfl) rfl ?_
        refine lx_end ⟨by kernel_rfl, ?_⟩
        refine pe_then_normal ?_
        refine tr_sub hC (.cons (t := 4) rfl (.cons (t := 5) rfl .nil)) .nil rfl ?_
        refine tr_ret ?_
        refine pe_retN (rs := [.tmp 4, .tmp 5]) rfl rfl hO rfl (.tmp rfl (.tmp rfl .nil)) ?_
        rw [stackF_yes hyes, es_ofE, hfin]
        repeat (first | exact Ent.refl _ | exact Ents.nil | exact Ent.nil _ _ | exact Ent.row _ _ _ _ | exact Ent.func _ | refine Ents.cons ?_ ?_ | refine Ent.tup ?_ | refine Ent.agg ?_ | refine Ent.cells ?_ | exact Ent.of_eq rfl)

end Go.Proofs.Ytoibihhocjbilaa
