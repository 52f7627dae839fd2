/- Parts of a proof that share one text: StWalk15, StWalk16, StWalk17, StWalk18, StRead, StBulk. -/
import Derived.Test.YthiknhmoefbanaaVPf
import Derived.Test.YthiknhmoefbanaaVPb
import Derived.Test.YthiknhmoefbanaaChecked
import Derived.Test.YthiknhmoefbanaaRows

set_option linter.unusedVariables false
set_option linter.unusedSimpArgs false
namespace Go.Proofs.Ythiknhmoefbanaa
open Go.AL Go.Ch Go.Hp Go.RowKit
theorem ag9 : aggB Try.prog 9 = some false := by kernel_rfl
theorem fl66_0 : fldB Try.prog 66 0 = some (0, 9) := by kernel_rfl
theorem fn43 : fnB Try.prog 43 = true := by kernel_rfl
theorem sz9 : sizeB Try.prog 9 = some 1 := by kernel_rfl
theorem ze80 : zeroB Try.prog 80 = some (some (.agg #[.int .i64 0, .int .i64 0, .int .i64 0, .int .i64 0, .int .i64 0])) := by kernel_rfl
theorem function_ok (p : Pg) (f : Fu) (hc : f.code.length ≤ 9223372036854775807) : FnP Try.prog 36 [aggP p.ps, aggP f.ps] (eqP (.bool (functionF instrF p f))) := by
  refine fn_pure' Try.func36 rfl Try.ntmps36 rfl ?_
  intro σ0 M ex Rf R hC hO
  simp only [frameOf, tokOf]
  refine tr_seq ?_
  refine tr_region (fun N0 hN => ?_)
  refine lxn (op_box (m := 2) (k := 2) rfl (.agg rfl) (by first | exact hC.low _ (by decide) | rfl)) rfl ?_
  refine lxn (op_box (m := 3) (k := 3) rfl (.agg rfl) (by first | exact hC.low _ (by decide) | rfl)) rfl ?_
  refine lx (op_assign rfl) rfl ?_
  refine lx_end ⟨by kernel_rfl, ?_⟩
  refine pe_then_normal ?_
  refine tr_sub hC (.cons (t := 2) rfl (.cons (t := 3) rfl .nil)) (.cons (t := 2) rfl (.cons (t := 3) rfl .nil)) rfl ?_
  refine tr_seq ?_
  refine tr_seq ?_
  refine tr_region (fun N1 hN => ?_)
  refine lx (op_fieldAddr rfl fl66_0 sz9) rfl ?_
  refine lx (op_bload_one (m := 3) rfl rfl ag9 rfl) rfl ?_
  refine lx (op_eql_str st9 rfl rfl) rfl ?_
  refine lx (op_move rfl) rfl ?_
  refine lxs rfl rfl rfl guard_eq (.cons (t := 3) rfl (fun _ => Ent.refl _) .nil) (op_fieldAddr rfl fl66_1 sz3) rfl ?_
  refine lxs rfl rfl rfl guard_eq (.cons (t := 13) rfl (fun h => entW h) .nil) (op_bload_one (m := 3) rfl rfl ag3 rfl) rfl ?_
  refine lxs rfl rfl rfl guard_eq (.cons (t := 14) rfl (fun h => entW h) .nil) (op_lss rfl rfl) rfl ?_
  refine lx (op_pick_or rfl rfl) rfl ?_
  refine lx (op_move rfl) rfl ?_
  refine lxs rfl rfl rfl guard_eq (.cons (t := 3) rfl (fun _ => Ent.refl _) .nil) (op_fieldAddr rfl fl66_1 sz3) rfl ?_
  refine lxs rfl rfl rfl guard_eq (.cons (t := 18) rfl (fun h => entW h) .nil) (op_bload_one (m := 3) rfl rfl ag3 rfl) rfl ?_
  refine lxs rfl rfl rfl guard_eq (.cons (t := 3) rfl (fun _ => Ent.refl _) .nil) (op_fieldAddr rfl fl66_2 sz3) rfl ?_
  refine lxs rfl rfl rfl guard_eq (.cons (t := 20) rfl (fun h => entW h) .nil) (op_bload_one (m := 3) rfl rfl ag3 rfl) rfl ?_
  refine lxs rfl rfl rfl guard_eq (.cons (t := 19) rfl (fun h => entW h) (.cons (t := 21) rfl (fun h => entW h) .nil)) (op_gtr rfl rfl) rfl ?_
  refine lx (op_pick_or rfl rfl) rfl ?_
  refine lx (op_move rfl) rfl ?_
  refine lxs rfl rfl rfl guard_eq (.cons (t := 3) rfl (fun _ => Ent.refl _) .nil) (op_fieldAddr rfl fl66_2 sz3) rfl ?_
  refine lxs rfl rfl rfl guard_eq (.cons (t := 25) rfl (fun h => entW h) .nil) (op_bload_one (m := 3) rfl rfl ag3 rfl) rfl ?_
  refine lxs rfl rfl rfl guard_eq (.cons (t := 26) rfl (fun h => entW h) .nil) (op_gtr rfl rfl) rfl ?_
  refine lx (op_pick_or rfl rfl) rfl ?_
  refine lx (op_move rfl) rfl ?_
  refine lxs rfl rfl rfl guard_eq (.cons (t := 3) rfl (fun _ => Ent.refl _) .nil) (op_fieldAddr rfl fl66_3 sz64) rfl ?_
  refine lxs rfl rfl rfl guard_eq (.cons (t := 30) rfl (fun h => entW h) .nil) (op_bload_one (m := 3) rfl rfl ag64 rfl) rfl ?_
  first | refine lxs rfl rfl rfl guard_eq (.cons (t := 31) rfl (fun h => entW h) .nil) (op_len rfl el64) rfl ?_ | refine lxs rfl rfl rfl guard_eq (.cons (t := 31) rfl (fun h => entW h) .nil) (op_len_row rfl el64) rfl ?_ | refine lxs rfl rfl rfl guard_eq (.cons (t := 31) rfl (fun h => entW h) .nil) (op_len_mv rfl el64) rfl ?_ | refine lxs rfl rfl rfl guard_eq (.cons (t := 31) rfl (fun h => entW h) .nil) (op_len_nil rfl el64) rfl ?_
  refine lxs rfl rfl rfl guard_eq (.cons (t := 32) rfl (fun h => entW h) .nil) (op_eql rfl rfl) rfl ?_
  refine lx (op_pick_or rfl rfl) rfl ?_
  refine lx (op_move rfl) rfl ?_
  refine lxs rfl rfl rfl guard_eq (.cons (t := 3) rfl (fun _ => Ent.refl _) .nil) (op_fieldAddr rfl fl66_3 sz64) rfl ?_
  refine lxs rfl rfl rfl guard_eq (.cons (t := 36) rfl (fun h => entW h) .nil) (op_bload_one (m := 3) rfl rfl ag64 rfl) rfl ?_
  first | refine lxs rfl rfl rfl guard_eq (.cons (t := 37) rfl (fun h => entW h) .nil) (op_len rfl el64) rfl ?_ | refine lxs rfl rfl rfl guard_eq (.cons (t := 37) rfl (fun h => entW h) .nil) (op_len_row rfl el64) rfl ?_ | refine lxs rfl rfl rfl guard_eq (.cons (t := 37) rfl (fun h => entW h) .nil) (op_len_mv rfl el64) rfl ?_ | refine lxs rfl rfl rfl guard_eq (.cons (t := 37) rfl (fun h => entW h) .nil) (op_len_nil rfl el64) rfl ?_
  refine lxs rfl rfl rfl guard_eq (.cons (t := 38) rfl (fun h => entW h) .nil) (op_gtr rfl rfl) rfl ?_
  refine lx (op_pick_or rfl rfl) rfl ?_
  refine lx_end ⟨by kernel_rfl, ?_⟩
  refine pe_then_normal ?_
  refine tr_sub hC (.cons (t := 2) rfl (.cons (t := 3) rfl (.cons (t := 40) rfl .nil))) (.cons (t := 2) rfl (.cons (t := 3) rfl .nil)) rfl ?_
  refine tr_cond rfl (fun h40 => ?_) (fun h40 => ?_)
  · have hh : hdrF f = true := h40
    have hno := fun_1 (ins := instrF) (p := p) hh
    refine tr_seq ?_
    refine tr_region (fun N2 hN => ?_)
    refine lx (op_assign rfl) rfl ?_
    refine lx_end ⟨by kernel_rfl, ?_⟩
    refine pe_then_normal ?_
    refine tr_sub hC (.cons (t := 4) rfl .nil) .nil rfl ?_
    refine tr_ret ?_
    refine pe_then_ret ?_
    refine pe_ret1 rfl hO rfl (.tmp rfl .nil) ?_
    rw [hno]
    repeat (first | exact Ents.nil | refine Ents.cons ?_ ?_ | refine Ent.tup ?_ | refine Ent.agg ?_ | exact Ent.row _ _ _ _ | exact Ent.nil _ _ | exact Ent.func _ | exact Ent.refl _ | exact Ent.of_eq rfl | refine Ent.cells ?_)
  · have hh : hdrF f = false := h40
    have hlen : 0 < f.code.length ∧ f.code.length ≤ 1000 := by
      unfold hdrF at hh
      simp only [Bool.or_eq_false_iff, decide_eq_false_iff_not] at hh
      omega
    refine tr_skip ?_
    refine pe_then_normal ?_
    refine tr_sub hC (.cons (t := 2) rfl (.cons (t := 3) rfl .nil)) (.cons (t := 2) rfl (.cons (t := 3) rfl .nil)) rfl ?_
    refine tr_seq ?_
    refine tr_region (fun N3 hN => ?_)
    refine lx (op_fieldAddr rfl fl66_3 sz64) rfl ?_
    refine lx (op_bload_one (m := 3) rfl rfl ag64 rfl) rfl ?_
    refine lx (op_fieldAddr rfl fl66_3 sz64) rfl ?_
    refine lx (op_bload_one (m := 3) rfl rfl ag64 rfl) rfl ?_
    first | refine lx (op_len rfl el64) rfl ?_ | refine lx (op_len_row rfl el64) rfl ?_ | refine lx (op_len_mv rfl el64) rfl ?_ | refine lx (op_len_nil rfl el64) rfl ?_
    refine lx (op_sub rfl rfl (by omega)) rfl ?_
    refine lx (op_index rfl rfl el64 sz80 (by omega : (f.code.length : Int) - 1 = ((f.code.length - 1 : Nat) : Int)) (gt_at (d := in0) (by omega))) rfl ?_
    first | refine lx (op_fieldAddr rfl fl80_0 sz3) rfl ?_ | refine lx (op_fieldCells rfl fl80_0 sz3) rfl ?_
    first | refine lx (op_load_one rfl ag3 rfl) rfl ?_ | refine lx (op_bload_one (m := 2) rfl rfl ag3 rfl) rfl ?_ | refine lx (op_bload_one (m := 3) rfl rfl ag3 rfl) rfl ?_
    refine lx (op_assign rfl) rfl ?_
    refine lx_end ⟨by kernel_rfl, ?_⟩
    refine pe_then_normal ?_
    refine tr_sub hC (.cons (t := 2) rfl (.cons (t := 3) rfl (.cons (t := 5) rfl .nil))) (.cons (t := 2) rfl (.cons (t := 3) rfl .nil)) rfl ?_
    refine tr_seq ?_
    refine tr_seq ?_
    refine tr_region (fun N4 hN => ?_)
    refine lx (op_move rfl) rfl ?_
    refine lx (op_neq rfl rfl) rfl ?_
    refine lx (op_move rfl) rfl ?_
    refine lxs rfl rfl rfl guard_eq (.cons (t := 5) rfl (fun _ => Ent.refl _) .nil) (op_move rfl) rfl ?_
    refine lxs rfl rfl rfl guard_eq (.cons (t := 53) rfl (fun h => entW h) .nil) (op_neq rfl rfl) rfl ?_
    refine lx (op_pick_and rfl rfl) rfl ?_
    refine lx_end ⟨by kernel_rfl, ?_⟩
    refine pe_then_normal ?_
    refine tr_sub hC (.cons (t := 2) rfl (.cons (t := 3) rfl (.cons (t := 55) rfl .nil))) (.cons (t := 2) rfl (.cons (t := 3) rfl .nil)) rfl ?_
    refine tr_cond rfl (fun h55 => ?_) (fun h55 => ?_)
    · (try simp only [Bool.and_eq_true, Bool.or_eq_true, Bool.and_eq_false_iff, Bool.or_eq_false_iff, decide_eq_true_eq, decide_eq_false_iff_not, Bool.not_eq_true', Bool.not_eq_false', List.length_map, ne_eq, Decidable.not_not, Int.not_lt, Int.not_le] at h55)
      have hno := fun_2 (ins := instrF) (p := p) hh (by unfold lastOp; omega)
      refine tr_seq ?_
      refine tr_region (fun N5 hN => ?_)
      refine lx (op_assign rfl) rfl ?_
      refine lx_end ⟨by kernel_rfl, ?_⟩
      refine pe_then_normal ?_
      refine tr_sub hC (.cons (t := 4) rfl .nil) .nil rfl ?_
      refine tr_ret ?_
      refine pe_then_ret ?_
      refine pe_ret1 rfl hO rfl (.tmp rfl .nil) ?_
      rw [hno]
      repeat (first | exact Ents.nil | refine Ents.cons ?_ ?_ | refine Ent.tup ?_ | refine Ent.agg ?_ | exact Ent.row _ _ _ _ | exact Ent.nil _ _ | exact Ent.func _ | exact Ent.refl _ | exact Ent.of_eq rfl | refine Ent.cells ?_)
    · (try simp only [Bool.and_eq_true, Bool.or_eq_true, Bool.and_eq_false_iff, Bool.or_eq_false_iff, decide_eq_true_eq, decide_eq_false_iff_not, Bool.not_eq_true', Bool.not_eq_false', List.length_map, ne_eq, Decidable.not_not, Int.not_lt, Int.not_le] at h55)
      have hgo := fun_3 (ins := instrF) (p := p) hh (by unfold lastOp; omega)
      refine tr_skip ?_
      refine pe_then_normal ?_
      refine tr_sub hC (.cons (t := 2) rfl (.cons (t := 3) rfl .nil)) (.cons (t := 2) rfl (.cons (t := 3) rfl .nil)) rfl ?_
      refine tr_seq ?_
      refine tr_region (fun N6 hN => ?_)
      refine lx (op_assign rfl) rfl ?_
      refine lx_end ⟨by kernel_rfl, ?_⟩
      refine pe_then_normal ?_
      refine tr_sub hC (.cons (t := 2) rfl (.cons (t := 3) rfl (.cons (t := 6) rfl .nil))) (.cons (t := 2) rfl (.cons (t := 3) rfl .nil)) rfl ?_
      refine tr_seq ?_
      refine tr_seq ?_
      refine tr_region (fun N7 hN => ?_)
      refine lx (op_assign rfl) rfl ?_
      refine lx_end ⟨by kernel_rfl, ?_⟩
      refine pe_then_normal ?_
      refine tr_sub hC (.cons (t := 2) rfl (.cons (t := 3) rfl (.cons (t := 6) rfl (.cons (t := 7) rfl .nil)))) (.cons (t := 2) rfl (.cons (t := 3) rfl .nil)) rfl ?_
      refine tr_block ?_
      refine tr_loopK (α := {zz : Nat × Int // zz.1 ≤ f.code.length ∧ codeF instrF p f zz.2 (f.code.drop zz.1) = codeF instrF p f 0 f.code}) (⟨(0, 0), Nat.zero_le _, rfl⟩) (fun zz => [(6, eqP (.int .i64 zz.1.2)), (7, eqP (.int .i64 (zz.1.1 : Int)))]) (fun zz => []) (fun zz => f.code.length - zz.1.1) hC (.cons (t := 2) rfl (.cons (t := 3) rfl .nil)) (.cons (t := 2) rfl (.cons (t := 3) rfl .nil)) rfl ?_ ?_ (fun zz => ?_)
      · try dsimp only [List.cons_append, List.nil_append]
        first | refine SubF.cons rfl ?_ | (refine SubF.ent rfl ?_ ?_; · repeat (first | exact Ents.nil | refine Ents.cons ?_ ?_ | refine Ent.tup ?_ | refine Ent.agg ?_ | exact Ent.row _ _ _ _ | exact Ent.nil _ _ | exact Ent.func _ | exact Ent.refl _ | exact Ent.of_eq rfl | refine Ent.cells ?_))
        first | refine SubF.cons rfl ?_ | (refine SubF.ent rfl ?_ ?_; · repeat (first | exact Ents.nil | refine Ents.cons ?_ ?_ | refine Ent.tup ?_ | refine Ent.agg ?_ | exact Ent.row _ _ _ _ | exact Ent.nil _ _ | exact Ent.func _ | exact Ent.refl _ | exact Ent.of_eq rfl | refine Ent.cells ?_))
        exact SubF.nil
      · try dsimp only [List.cons_append, List.nil_append]
        repeat (first | exact SubL.nil | refine SubL.cons rfl ?_)
      · obtain ⟨⟨k, s⟩, hk1, hk2⟩ := zz
        try dsimp only at hk1
        try dsimp only at hk2
        dsimp only [List.cons_append, List.nil_append]
        refine tr_seq ?_
        refine tr_seq ?_
        refine tr_region (fun N8 hN => ?_)
        refine lx (op_move rfl) rfl ?_
        refine lx (op_fieldAddr rfl fl66_3 sz64) rfl ?_
        refine lx (op_bload_one (m := 3) rfl rfl ag64 rfl) rfl ?_
        first | refine lx (op_len rfl el64) rfl ?_ | refine lx (op_len_row rfl el64) rfl ?_ | refine lx (op_len_mv rfl el64) rfl ?_ | refine lx (op_len_nil rfl el64) rfl ?_
        refine lx (op_lss rfl rfl) rfl ?_
        refine lx_end ⟨by kernel_rfl, ?_⟩
        refine pe_then_normal ?_
        refine tr_sub hC (.cons (t := 2) rfl (.cons (t := 3) rfl (.cons (t := 6) rfl (.cons (t := 7) rfl (.cons (t := 60) rfl .nil))))) (.cons (t := 2) rfl (.cons (t := 3) rfl .nil)) rfl ?_
        refine tr_cond rfl (fun h60 => ?_) (fun h60 => ?_)
        · (try simp only [Bool.and_eq_true, Bool.or_eq_true, Bool.and_eq_false_iff, Bool.or_eq_false_iff, decide_eq_true_eq, decide_eq_false_iff_not, Bool.not_eq_true', Bool.not_eq_false', List.length_map, ne_eq, Decidable.not_not, Int.not_lt, Int.not_le] at h60)
          refine tr_skip ?_
          refine pe_then_normal ?_
          refine tr_sub hC (.cons (t := 2) rfl (.cons (t := 3) rfl (.cons (t := 6) rfl (.cons (t := 7) rfl .nil)))) (.cons (t := 2) rfl (.cons (t := 3) rfl .nil)) rfl ?_
          refine tr_seq ?_
          refine tr_block ?_
          refine tr_seq ?_
          refine tr_region (fun N10 hN => ?_)
          refine lx (op_fieldAddr rfl fl66_3 sz64) rfl ?_
          refine lx (op_bload_one (m := 3) rfl rfl ag64 rfl) rfl ?_
          refine lx (op_move rfl) rfl ?_
          refine lx (op_index rfl rfl el64 sz80 rfl (gt_at (d := in0) (by omega))) rfl ?_
          first | refine lx (op_load_all rfl ag80 sz80) rfl ?_ | refine lx (op_load_agg rfl ag80 sz80 rfl) rfl ?_ | refine lx (op_bload (m := 2) rfl rfl ag80 sz80) rfl ?_ | refine lx (op_bload (m := 3) rfl rfl ag80 sz80) rfl ?_ | refine lx (op_bload_part (m := 2) (qs := [_, _, _, _, _]) rfl rfl ag80 sz80 rfl rfl) rfl ?_ | refine lx (op_bload_part (m := 3) (qs := [_, _, _, _, _]) rfl rfl ag80 sz80 rfl rfl) rfl ?_
          refine lxn (op_alloc (m := 8) (k := 8) (ps := [eqP (.int .i64 0), eqP (.int .i64 0), eqP (.int .i64 0), eqP (.int .i64 0), eqP (.int .i64 0)]) ze80 rfl rfl (by first | exact hC.low _ (by decide) | rfl)) rfl ?_
          refine lxr (op_store_all (m := 8) rfl rfl rfl (.agg rfl) sz80 rfl) rfl ?_
          refine lx_end ⟨by kernel_rfl, ?_⟩
          refine pe_then_normal ?_
          refine tr_sub hC (.cons (t := 2) rfl (.cons (t := 3) rfl (.cons (t := 6) rfl (.cons (t := 7) rfl (.cons (t := 8) rfl .nil))))) (.cons (t := 2) rfl (.cons (t := 3) rfl (.cons (t := 8) rfl .nil))) rfl ?_
          refine tr_seq ?_
          refine tr_seq ?_
          refine tr_region (fun N11 hN => ?_)
          refine lx (op_move rfl) rfl ?_
          refine lx (op_gtr rfl rfl) rfl ?_
          refine lx (op_fieldAddr rfl fl80_0 sz3) rfl ?_
          refine lx (op_bload_one (m := 8) rfl rfl ag3 rfl) rfl ?_
          refine lx (op_eql rfl rfl) rfl ?_
          refine lx (op_neq_bool bo4 rfl rfl) rfl ?_
          refine lx (op_move rfl) rfl ?_
          refine lxs rfl rfl rfl guard_eq (.cons (t := 2) rfl (fun _ => Ent.refl _) .nil) (op_bload (m := 2) rfl rfl ag26 sz26) rfl ?_
          refine lxs rfl rfl rfl guard_eq (.cons (t := 3) rfl (fun _ => Ent.refl _) .nil) (op_bload (m := 3) rfl rfl ag66 sz66) rfl ?_
          refine lxs rfl rfl rfl guard_eq (.cons (t := 8) rfl (fun _ => Ent.refl _) .nil) (op_bload (m := 8) rfl rfl ag80 sz80) rfl ?_
          first | refine lxs rfl rfl rfl guard_eq (.cons (t := 75) rfl (fun h => entW h) (.cons (t := 76) rfl (fun h => entW h) (.cons (t := 77) rfl (fun h => entW h) .nil))) (op_call (l := [(Go.Operand.tmp 75), (Go.Operand.tmp 76), (Go.Operand.tmp 77)]) (instr_ok p f (gt in0 f.code k)) (.cons rfl (.cons rfl (.cons rfl .nil))) fn43) rfl ?_ | refine lxs rfl rfl rfl guard_eq (.cons (t := 75) rfl (fun h => entW h) (.cons (t := 76) rfl (fun h => entW h) (.cons (t := 77) rfl (fun h => entW h) .nil))) (op_call (l := [(Go.Operand.tmp 75), (Go.Operand.tmp 76), (Go.Operand.tmp 77)]) (instr_ok p f (gt in0 f.code k)) (.ent rfl (by repeat (first | exact Ents.nil | refine Ents.cons ?_ ?_ | refine Ent.tup ?_ | refine Ent.agg ?_ | exact Ent.row _ _ _ _ | exact Ent.nil _ _ | exact Ent.func _ | exact Ent.refl _ | exact Ent.of_eq rfl | refine Ent.cells ?_)) (.ent rfl (by repeat (first | exact Ents.nil | refine Ents.cons ?_ ?_ | refine Ent.tup ?_ | refine Ent.agg ?_ | exact Ent.row _ _ _ _ | exact Ent.nil _ _ | exact Ent.func _ | exact Ent.refl _ | exact Ent.of_eq rfl | refine Ent.cells ?_)) (.ent rfl (by repeat (first | exact Ents.nil | refine Ents.cons ?_ ?_ | refine Ent.tup ?_ | refine Ent.agg ?_ | exact Ent.row _ _ _ _ | exact Ent.nil _ _ | exact Ent.func _ | exact Ent.refl _ | exact Ent.of_eq rfl | refine Ent.cells ?_)) .nil))) fn43) rfl ?_
          first | refine lxs rfl rfl rfl guard_eq (.cons (t := 78) rfl (fun h => entW h) .nil) (op_not rfl) rfl ?_ | refine lxs rfl rfl rfl guard_eq (.cons (t := 78) rfl (fun h => entW h) .nil) (op_not_b rfl) rfl ?_
          refine lx (op_pick_or rfl rfl) rfl ?_
          refine lx_end ⟨by kernel_rfl, ?_⟩
          refine pe_then_normal ?_
          refine tr_sub hC (.cons (t := 2) rfl (.cons (t := 3) rfl (.cons (t := 6) rfl (.cons (t := 7) rfl (.cons (t := 8) rfl (.cons (t := 80) rfl .nil)))))) (.cons (t := 2) rfl (.cons (t := 3) rfl (.cons (t := 8) rfl .nil))) rfl ?_
          refine tr_cond rfl (fun h80 => ?_) (fun h80 => ?_)
          · have hno := hgo.trans (code_bad (by omega) hk2 h80)
            refine tr_seq ?_
            refine tr_region (fun N12 hN => ?_)
            refine lx (op_assign rfl) rfl ?_
            refine lx_end ⟨by kernel_rfl, ?_⟩
            refine pe_then_normal ?_
            refine tr_sub hC (.cons (t := 4) rfl .nil) .nil rfl ?_
            refine tr_ret ?_
            refine pe_then_ret ?_
            refine pe_block_ret ?_
            refine pe_then_ret ?_
            refine pe_then_ret ?_
            refine pe_block_ret ?_
            refine pe_then_ret ?_
            refine pe_ret1 rfl hO rfl (.tmp rfl .nil) ?_
            rw [hno]
            repeat (first | exact Ents.nil | refine Ents.cons ?_ ?_ | refine Ent.tup ?_ | refine Ent.agg ?_ | exact Ent.row _ _ _ _ | exact Ent.nil _ _ | exact Ent.func _ | exact Ent.refl _ | exact Ent.of_eq rfl | refine Ent.cells ?_)
          · have hnb : badI instrF p f (gt in0 f.code k) s = false := h80
            refine tr_skip ?_
            refine pe_then_normal ?_
            refine tr_sub hC (.cons (t := 2) rfl (.cons (t := 3) rfl (.cons (t := 6) rfl (.cons (t := 7) rfl (.cons (t := 8) rfl .nil))))) (.cons (t := 2) rfl (.cons (t := 3) rfl (.cons (t := 8) rfl .nil))) rfl ?_
            refine tr_seq ?_
            refine tr_seq ?_
            refine tr_region (fun N13 hN => ?_)
            refine lx (op_move rfl) rfl ?_
            refine lx (op_gtr rfl rfl) rfl ?_
            refine lx_end ⟨by kernel_rfl, ?_⟩
            refine pe_then_normal ?_
            refine tr_sub hC (.cons (t := 2) rfl (.cons (t := 3) rfl (.cons (t := 6) rfl (.cons (t := 7) rfl (.cons (t := 8) rfl (.cons (t := 82) rfl .nil)))))) (.cons (t := 2) rfl (.cons (t := 3) rfl (.cons (t := 8) rfl .nil))) rfl ?_
            refine tr_cond rfl (fun h82 => ?_) (fun h82 => ?_)
            · (try simp only [Bool.and_eq_true, Bool.or_eq_true, Bool.and_eq_false_iff, Bool.or_eq_false_iff, decide_eq_true_eq, decide_eq_false_iff_not, Bool.not_eq_true', Bool.not_eq_false', List.length_map, ne_eq, Decidable.not_not, Int.not_lt, Int.not_le] at h82)
              refine tr_region (fun N14 hN => ?_)
              refine lx (op_move rfl) rfl ?_
              refine lx (op_sub_w rfl rfl) rfl ?_
              refine lx (op_assign rfl) rfl ?_
              refine lx_end ⟨by kernel_rfl, ?_⟩
              refine pe_then_normal ?_
              refine tr_sub hC (.cons (t := 2) rfl (.cons (t := 3) rfl (.cons (t := 6) rfl (.cons (t := 7) rfl (.cons (t := 8) rfl .nil))))) (.cons (t := 2) rfl (.cons (t := 3) rfl (.cons (t := 8) rfl .nil))) rfl ?_
              refine tr_seq ?_
              refine tr_region (fun N15 hN => ?_)
              refine lx (op_fieldAddr rfl fl80_0 sz3) rfl ?_
              refine lx (op_bload_one (m := 8) rfl rfl ag3 rfl) rfl ?_
              refine lx (op_eql rfl rfl) rfl ?_
              refine lx_end ⟨by kernel_rfl, ?_⟩
              refine pe_then_normal ?_
              refine tr_sub hC (.cons (t := 2) rfl (.cons (t := 3) rfl (.cons (t := 6) rfl (.cons (t := 7) rfl (.cons (t := 8) rfl (.cons (t := 87) rfl .nil)))))) (.cons (t := 2) rfl (.cons (t := 3) rfl (.cons (t := 8) rfl .nil))) rfl ?_
              refine tr_cond rfl (fun h87 => ?_) (fun h87 => ?_)
              · (try simp only [Bool.and_eq_true, Bool.or_eq_true, Bool.and_eq_false_iff, Bool.or_eq_false_iff, decide_eq_true_eq, decide_eq_false_iff_not, Bool.not_eq_true', Bool.not_eq_false', List.length_map, ne_eq, Decidable.not_not, Int.not_lt, Int.not_le] at h87)
                have hnx := code_next (by omega) hk2 hnb (nxt_1 h87)
                refine tr_region (fun N16 hN => ?_)
                refine lx (op_fieldAddr rfl fl80_2 sz3) rfl ?_
                refine lx (op_bload_one (m := 8) rfl rfl ag3 rfl) rfl ?_
                refine lx (op_assign rfl) rfl ?_
                refine lx_end ⟨by kernel_rfl, ?_⟩
                refine pe_block_normal ?_
                refine pe_then_normal ?_
                refine tr_sub hC (.cons (t := 2) rfl (.cons (t := 3) rfl (.cons (t := 6) rfl (.cons (t := 7) rfl .nil)))) (.cons (t := 2) rfl (.cons (t := 3) rfl .nil)) rfl ?_
                refine tr_region (fun N9 hN => ?_)
                refine lx (op_move rfl) rfl ?_
                refine lx (op_add rfl rfl (by omega)) rfl ?_
                refine lx (op_assign rfl) rfl ?_
                refine lx_end ⟨by kernel_rfl, ?_⟩
                refine pe_round (⟨(k + 1, (gt in0 f.code k).b), by dsimp only; omega, hnx⟩) (by dsimp only; omega) (pe_st hC ?_ ?_ rfl)
                · try dsimp only [List.cons_append, List.nil_append]
                  first | refine SubF.cons rfl ?_ | (refine SubF.ent rfl ?_ ?_; · repeat (first | exact Ents.nil | refine Ents.cons ?_ ?_ | refine Ent.tup ?_ | refine Ent.agg ?_ | exact Ent.row _ _ _ _ | exact Ent.nil _ _ | exact Ent.func _ | exact Ent.refl _ | exact Ent.of_eq rfl | refine Ent.cells ?_))
                  first | refine SubF.cons rfl ?_ | (refine SubF.ent rfl ?_ ?_; · repeat (first | exact Ents.nil | refine Ents.cons ?_ ?_ | refine Ent.tup ?_ | refine Ent.agg ?_ | exact Ent.row _ _ _ _ | exact Ent.nil _ _ | exact Ent.func _ | exact Ent.refl _ | exact Ent.of_eq rfl | refine Ent.cells ?_))
                  first | refine SubF.cons rfl ?_ | (refine SubF.ent rfl ?_ ?_; · repeat (first | exact Ents.nil | refine Ents.cons ?_ ?_ | refine Ent.tup ?_ | refine Ent.agg ?_ | exact Ent.row _ _ _ _ | exact Ent.nil _ _ | exact Ent.func _ | exact Ent.refl _ | exact Ent.of_eq rfl | refine Ent.cells ?_))
                  first | refine SubF.cons rfl ?_ | (refine SubF.ent rfl ?_ ?_; · repeat (first | exact Ents.nil | refine Ents.cons ?_ ?_ | refine Ent.tup ?_ | refine Ent.agg ?_ | exact Ent.row _ _ _ _ | exact Ent.nil _ _ | exact Ent.func _ | exact Ent.refl _ | exact Ent.of_eq rfl | refine Ent.cells ?_))
                  exact SubF.nil
                · try dsimp only [List.cons_append, List.nil_append]
                  repeat (first | exact SubL.nil | refine SubL.cons rfl ?_)
              · (try simp only [Bool.and_eq_true, Bool.or_eq_true, Bool.and_eq_false_iff, Bool.or_eq_false_iff, decide_eq_true_eq, decide_eq_false_iff_not, Bool.not_eq_true', Bool.not_eq_false', List.length_map, ne_eq, Decidable.not_not, Int.not_lt, Int.not_le] at h87)
                have hnx := code_next (by omega) hk2 hnb (by first | exact nxt_2 h87 h82 | exact nxt_3 h87 (by omega))
                refine tr_skip ?_
                refine pe_block_normal ?_
                refine pe_then_normal ?_
                refine tr_sub hC (.cons (t := 2) rfl (.cons (t := 3) rfl (.cons (t := 6) rfl (.cons (t := 7) rfl .nil)))) (.cons (t := 2) rfl (.cons (t := 3) rfl .nil)) rfl ?_
                refine tr_region (fun N9 hN => ?_)
                refine lx (op_move rfl) rfl ?_
                refine lx (op_add rfl rfl (by omega)) rfl ?_
                refine lx (op_assign rfl) rfl ?_
                refine lx_end ⟨by kernel_rfl, ?_⟩
                refine pe_round (⟨(k + 1, IntKind.i64.wrap (s - 1)), by dsimp only; omega, hnx⟩) (by dsimp only; omega) (pe_st hC ?_ ?_ rfl)
                · try dsimp only [List.cons_append, List.nil_append]
                  first | refine SubF.cons rfl ?_ | (refine SubF.ent rfl ?_ ?_; · repeat (first | exact Ents.nil | refine Ents.cons ?_ ?_ | refine Ent.tup ?_ | refine Ent.agg ?_ | exact Ent.row _ _ _ _ | exact Ent.nil _ _ | exact Ent.func _ | exact Ent.refl _ | exact Ent.of_eq rfl | refine Ent.cells ?_))
                  first | refine SubF.cons rfl ?_ | (refine SubF.ent rfl ?_ ?_; · repeat (first | exact Ents.nil | refine Ents.cons ?_ ?_ | refine Ent.tup ?_ | refine Ent.agg ?_ | exact Ent.row _ _ _ _ | exact Ent.nil _ _ | exact Ent.func _ | exact Ent.refl _ | exact Ent.of_eq rfl | refine Ent.cells ?_))
                  first | refine SubF.cons rfl ?_ | (refine SubF.ent rfl ?_ ?_; · repeat (first | exact Ents.nil | refine Ents.cons ?_ ?_ | refine Ent.tup ?_ | refine Ent.agg ?_ | exact Ent.row _ _ _ _ | exact Ent.nil _ _ | exact Ent.func _ | exact Ent.refl _ | exact Ent.of_eq rfl | refine Ent.cells ?_))
                  first | refine SubF.cons rfl ?_ | (refine SubF.ent rfl ?_ ?_; · repeat (first | exact Ents.nil | refine Ents.cons ?_ ?_ | refine Ent.tup ?_ | refine Ent.agg ?_ | exact Ent.row _ _ _ _ | exact Ent.nil _ _ | exact Ent.func _ | exact Ent.refl _ | exact Ent.of_eq rfl | refine Ent.cells ?_))
                  exact SubF.nil
                · try dsimp only [List.cons_append, List.nil_append]
                  repeat (first | exact SubL.nil | refine SubL.cons rfl ?_)
            · (try simp only [Bool.and_eq_true, Bool.or_eq_true, Bool.and_eq_false_iff, Bool.or_eq_false_iff, decide_eq_true_eq, decide_eq_false_iff_not, Bool.not_eq_true', Bool.not_eq_false', List.length_map, ne_eq, Decidable.not_not, Int.not_lt, Int.not_le] at h82)
              refine tr_skip ?_
              refine pe_then_normal ?_
              refine tr_sub hC (.cons (t := 2) rfl (.cons (t := 3) rfl (.cons (t := 6) rfl (.cons (t := 7) rfl (.cons (t := 8) rfl .nil))))) (.cons (t := 2) rfl (.cons (t := 3) rfl (.cons (t := 8) rfl .nil))) rfl ?_
              refine tr_seq ?_
              refine tr_region (fun N15 hN => ?_)
              refine lx (op_fieldAddr rfl fl80_0 sz3) rfl ?_
              refine lx (op_bload_one (m := 8) rfl rfl ag3 rfl) rfl ?_
              refine lx (op_eql rfl rfl) rfl ?_
              refine lx_end ⟨by kernel_rfl, ?_⟩
              refine pe_then_normal ?_
              refine tr_sub hC (.cons (t := 2) rfl (.cons (t := 3) rfl (.cons (t := 6) rfl (.cons (t := 7) rfl (.cons (t := 8) rfl (.cons (t := 87) rfl .nil)))))) (.cons (t := 2) rfl (.cons (t := 3) rfl (.cons (t := 8) rfl .nil))) rfl ?_
              refine tr_cond rfl (fun h87 => ?_) (fun h87 => ?_)
              · (try simp only [Bool.and_eq_true, Bool.or_eq_true, Bool.and_eq_false_iff, Bool.or_eq_false_iff, decide_eq_true_eq, decide_eq_false_iff_not, Bool.not_eq_true', Bool.not_eq_false', List.length_map, ne_eq, Decidable.not_not, Int.not_lt, Int.not_le] at h87)
                have hnx := code_next (by omega) hk2 hnb (nxt_1 h87)
                refine tr_region (fun N16 hN => ?_)
                refine lx (op_fieldAddr rfl fl80_2 sz3) rfl ?_
                refine lx (op_bload_one (m := 8) rfl rfl ag3 rfl) rfl ?_
                refine lx (op_assign rfl) rfl ?_
                refine lx_end ⟨by kernel_rfl, ?_⟩
                refine pe_block_normal ?_
                refine pe_then_normal ?_
                refine tr_sub hC (.cons (t := 2) rfl (.cons (t := 3) rfl (.cons (t := 6) rfl (.cons (t := 7) rfl .nil)))) (.cons (t := 2) rfl (.cons (t := 3) rfl .nil)) rfl ?_
                refine tr_region (fun N9 hN => ?_)
                refine lx (op_move rfl) rfl ?_
                refine lx (op_add rfl rfl (by omega)) rfl ?_
                refine lx (op_assign rfl) rfl ?_
                refine lx_end ⟨by kernel_rfl, ?_⟩
                refine pe_round (⟨(k + 1, (gt in0 f.code k).b), by dsimp only; omega, hnx⟩) (by dsimp only; omega) (pe_st hC ?_ ?_ rfl)
                · try dsimp only [List.cons_append, List.nil_append]
                  first | refine SubF.cons rfl ?_ | (refine SubF.ent rfl ?_ ?_; · repeat (first | exact Ents.nil | refine Ents.cons ?_ ?_ | refine Ent.tup ?_ | refine Ent.agg ?_ | exact Ent.row _ _ _ _ | exact Ent.nil _ _ | exact Ent.func _ | exact Ent.refl _ | exact Ent.of_eq rfl | refine Ent.cells ?_))
                  first | refine SubF.cons rfl ?_ | (refine SubF.ent rfl ?_ ?_; · repeat (first | exact Ents.nil | refine Ents.cons ?_ ?_ | refine Ent.tup ?_ | refine Ent.agg ?_ | exact Ent.row _ _ _ _ | exact Ent.nil _ _ | exact Ent.func _ | exact Ent.refl _ | exact Ent.of_eq rfl | refine Ent.cells ?_))
                  first | refine SubF.cons rfl ?_ | (refine SubF.ent rfl ?_ ?_; · repeat (first | exact Ents.nil | refine Ents.cons ?_ ?_ | refine Ent.tup ?_ | refine Ent.agg ?_ | exact Ent.row _ _ _ _ | exact Ent.nil _ _ | exact Ent.func _ | exact Ent.refl _ | exact Ent.of_eq rfl | refine Ent.cells ?_))
                  first | refine SubF.cons rfl ?_ | (refine SubF.ent rfl ?_ ?_; · repeat (first | exact Ents.nil | refine Ents.cons ?_ ?_ | refine Ent.tup ?_ | refine Ent.agg ?_ | exact Ent.row _ _ _ _ | exact Ent.nil _ _ | exact Ent.func _ | exact Ent.refl _ | exact Ent.of_eq rfl | refine Ent.cells ?_))
                  exact SubF.nil
                · try dsimp only [List.cons_append, List.nil_append]
                  repeat (first | exact SubL.nil | refine SubL.cons rfl ?_)
              · (try simp only [Bool.and_eq_true, Bool.or_eq_true, Bool.and_eq_false_iff, Bool.or_eq_false_iff, decide_eq_true_eq, decide_eq_false_iff_not, Bool.not_eq_true', Bool.not_eq_false', List.length_map, ne_eq, Decidable.not_not, Int.not_lt, Int.not_le] at h87)
                have hnx := code_next (by omega) hk2 hnb (by first | exact nxt_2 h87 h82 | exact nxt_3 h87 (by omega))
                refine tr_skip ?_
                refine pe_block_normal ?_
                refine pe_then_normal ?_
                refine tr_sub hC (.cons (t := 2) rfl (.cons (t := 3) rfl (.cons (t := 6) rfl (.cons (t := 7) rfl .nil)))) (.cons (t := 2) rfl (.cons (t := 3) rfl .nil)) rfl ?_
                refine tr_region (fun N9 hN => ?_)
                refine lx (op_move rfl) rfl ?_
                refine lx (op_add rfl rfl (by omega)) rfl ?_
                refine lx (op_assign rfl) rfl ?_
                refine lx_end ⟨by kernel_rfl, ?_⟩
                refine pe_round (⟨(k + 1, s), by dsimp only; omega, hnx⟩) (by dsimp only; omega) (pe_st hC ?_ ?_ rfl)
                · try dsimp only [List.cons_append, List.nil_append]
                  first | refine SubF.cons rfl ?_ | (refine SubF.ent rfl ?_ ?_; · repeat (first | exact Ents.nil | refine Ents.cons ?_ ?_ | refine Ent.tup ?_ | refine Ent.agg ?_ | exact Ent.row _ _ _ _ | exact Ent.nil _ _ | exact Ent.func _ | exact Ent.refl _ | exact Ent.of_eq rfl | refine Ent.cells ?_))
                  first | refine SubF.cons rfl ?_ | (refine SubF.ent rfl ?_ ?_; · repeat (first | exact Ents.nil | refine Ents.cons ?_ ?_ | refine Ent.tup ?_ | refine Ent.agg ?_ | exact Ent.row _ _ _ _ | exact Ent.nil _ _ | exact Ent.func _ | exact Ent.refl _ | exact Ent.of_eq rfl | refine Ent.cells ?_))
                  first | refine SubF.cons rfl ?_ | (refine SubF.ent rfl ?_ ?_; · repeat (first | exact Ents.nil | refine Ents.cons ?_ ?_ | refine Ent.tup ?_ | refine Ent.agg ?_ | exact Ent.row _ _ _ _ | exact Ent.nil _ _ | exact Ent.func _ | exact Ent.refl _ | exact Ent.of_eq rfl | refine Ent.cells ?_))
                  first | refine SubF.cons rfl ?_ | (refine SubF.ent rfl ?_ ?_; · repeat (first | exact Ents.nil | refine Ents.cons ?_ ?_ | refine Ent.tup ?_ | refine Ent.agg ?_ | exact Ent.row _ _ _ _ | exact Ent.nil _ _ | exact Ent.func _ | exact Ent.refl _ | exact Ent.of_eq rfl | refine Ent.cells ?_))
                  exact SubF.nil
                · try dsimp only [List.cons_append, List.nil_append]
                  repeat (first | exact SubL.nil | refine SubL.cons rfl ?_)
        · (try simp only [Bool.and_eq_true, Bool.or_eq_true, Bool.and_eq_false_iff, Bool.or_eq_false_iff, decide_eq_true_eq, decide_eq_false_iff_not, Bool.not_eq_true', Bool.not_eq_false', List.length_map, ne_eq, Decidable.not_not, Int.not_lt, Int.not_le] at h60)
          have hfin := hgo.trans (code_end (by omega) hk2)
          refine tr_exit ?_
          refine pe_then_exit ?_
          refine pe_then_exit ?_
          refine pe_block_eq ?_
          refine pe_then_normal ?_
          refine tr_sub hC .nil .nil rfl ?_
          refine tr_seq ?_
          refine tr_region (fun N17 hN => ?_)
          refine lx (op_assign rfl) rfl ?_
          refine lx_end ⟨by kernel_rfl, ?_⟩
          refine pe_then_normal ?_
          refine tr_sub hC (.cons (t := 4) rfl .nil) .nil rfl ?_
          refine tr_ret ?_
          refine pe_ret1 rfl hO rfl (.tmp rfl .nil) ?_
          rw [hfin]
          repeat (first | exact Ents.nil | refine Ents.cons ?_ ?_ | refine Ent.tup ?_ | refine Ent.agg ?_ | exact Ent.row _ _ _ _ | exact Ent.nil _ _ | exact Ent.func _ | exact Ent.refl _ | exact Ent.of_eq rfl | refine Ent.cells ?_)
end Go.Proofs.Ythiknhmoefbanaa


set_option linter.unusedVariables false
set_option linter.unusedSimpArgs false
namespace Go.Proofs.Ythiknhmoefbanaa
open Go.AL Go.Ch Go.Hp Go.RowKit
theorem ag71 : aggB Try.prog 71 = some true := by kernel_rfl
theorem ag81 : aggB Try.prog 81 = some false := by kernel_rfl
theorem el81 : elemB Try.prog 81 = some 3 := by kernel_rfl
theorem fl26_3 : fldB Try.prog 26 3 = some (3, 3) := by kernel_rfl
theorem fl71_0 : fldB Try.prog 71 0 = some (0, 9) := by kernel_rfl
theorem fl71_1 : fldB Try.prog 71 1 = some (1, 3) := by kernel_rfl
theorem fn35 : fnB Try.prog 35 = true := by kernel_rfl
theorem fn36 : fnB Try.prog 36 = true := by kernel_rfl
theorem sz71 : sizeB Try.prog 71 = some 2 := by kernel_rfl
theorem sz81 : sizeB Try.prog 81 = some 1 := by kernel_rfl
theorem ze71 : zeroB Try.prog 71 = some (some (.agg #[.string ⟨#[]⟩, .int .i64 0])) := by kernel_rfl
theorem layouts_ok (xs : List (List Int)) (hx : xs.length ≤ 9223372036854775807) (hl : ∀ l ∈ xs, l.length ≤ 9223372036854775807) : FnP Try.prog 35 [slP lyp 1 xs] (eqP (.bool (layoutsF xs))) := by
  refine fn_pure' Try.func35 rfl Try.ntmps35 rfl ?_
  intro σ0 M ex Rf R hC hO
  simp only [frameOf, tokOf]
  refine tr_seq ?_
  refine tr_region (fun N0 hN => ?_)
  refine lx (op_assign rfl) rfl ?_
  refine lx_end ⟨by kernel_rfl, ?_⟩
  refine pe_then_normal ?_
  refine tr_sub hC (.cons (t := 0) rfl .nil) .nil rfl ?_
  refine tr_seq ?_
  refine tr_seq ?_
  refine tr_region (fun N1 hN => ?_)
  refine lx (op_assign rfl) rfl ?_
  refine lx_end ⟨by kernel_rfl, ?_⟩
  refine pe_then_normal ?_
  refine tr_sub hC (.cons (t := 0) rfl (.cons (t := 3) rfl .nil)) .nil rfl ?_
  refine tr_block ?_
  refine tr_loopK (α := {zz : Nat // zz ≤ xs.length ∧ allI zz (fun a => lay1 (gt [] xs a)) = true}) (⟨(0), Nat.zero_le _, rfl⟩) (fun zz => [(3, eqP (.int .i64 (zz.1 : Int)))]) (fun zz => []) (fun zz => xs.length - zz.1) hC (.cons (t := 0) rfl .nil) .nil rfl ?_ ?_ (fun zz => ?_)
  · try dsimp only [List.cons_append, List.nil_append]
    first | refine SubF.cons rfl ?_ | (refine SubF.ent rfl ?_ ?_; · repeat (first | exact Ents.nil | refine Ents.cons ?_ ?_ | refine Ent.tup ?_ | refine Ent.agg ?_ | exact Ent.row _ _ _ _ | exact Ent.nil _ _ | exact Ent.func _ | exact Ent.refl _ | exact Ent.of_eq rfl | refine Ent.cells ?_))
    exact SubF.nil
  · try dsimp only [List.cons_append, List.nil_append]
    repeat (first | exact SubL.nil | refine SubL.cons rfl ?_)
  · obtain ⟨k, hk1, hk2⟩ := zz
    dsimp only [List.cons_append, List.nil_append]
    refine tr_seq ?_
    refine tr_seq ?_
    refine tr_region (fun N2 hN => ?_)
    refine lx (op_move rfl) rfl ?_
    refine lx (op_move rfl) rfl ?_
    first | refine lx (op_len rfl el24) rfl ?_ | refine lx (op_len_row rfl el24) rfl ?_ | refine lx (op_len_mv rfl el24) rfl ?_ | refine lx (op_len_nil rfl el24) rfl ?_
    refine lx (op_lss rfl rfl) rfl ?_
    refine lx_end ⟨by kernel_rfl, ?_⟩
    refine pe_then_normal ?_
    refine tr_sub hC (.cons (t := 0) rfl (.cons (t := 3) rfl (.cons (t := 8) rfl .nil))) .nil rfl ?_
    refine tr_cond rfl (fun h8 => ?_) (fun h8 => ?_)
    · (try simp only [Bool.and_eq_true, Bool.or_eq_true, Bool.and_eq_false_iff, Bool.or_eq_false_iff, decide_eq_true_eq, decide_eq_false_iff_not, Bool.not_eq_true', Bool.not_eq_false', List.length_map, ne_eq, Decidable.not_not, Int.not_lt, Int.not_le] at h8)
      have hlk := hl _ (gt_mem (d := []) (by omega : k < xs.length))
      refine tr_skip ?_
      refine pe_then_normal ?_
      refine tr_sub hC (.cons (t := 0) rfl (.cons (t := 3) rfl .nil)) .nil rfl ?_
      refine tr_seq ?_
      refine tr_block ?_
      refine tr_seq ?_
      refine tr_seq ?_
      refine tr_region (fun N4 hN => ?_)
      refine lx (op_assign rfl) rfl ?_
      refine lx_end ⟨by kernel_rfl, ?_⟩
      refine pe_then_normal ?_
      refine tr_sub hC (.cons (t := 0) rfl (.cons (t := 3) rfl (.cons (t := 4) rfl .nil))) .nil rfl ?_
      refine tr_block ?_
      refine tr_loopK (α := {zz : Nat // zz ≤ (gt [] xs k).length ∧ allI zz (fun b => !(decide (gt 0 (gt [] xs k) b ≠ 0) && decide (gt 0 (gt [] xs k) b ≠ 1))) = true}) (⟨(0), Nat.zero_le _, rfl⟩) (fun zz => [(4, eqP (.int .i64 (zz.1 : Int)))]) (fun zz => []) (fun zz => (gt [] xs k).length - zz.1) hC (.cons (t := 0) rfl (.cons (t := 3) rfl .nil)) .nil rfl ?_ ?_ (fun zz => ?_)
      · try dsimp only [List.cons_append, List.nil_append]
        first | refine SubF.cons rfl ?_ | (refine SubF.ent rfl ?_ ?_; · repeat (first | exact Ents.nil | refine Ents.cons ?_ ?_ | refine Ent.tup ?_ | refine Ent.agg ?_ | exact Ent.row _ _ _ _ | exact Ent.nil _ _ | exact Ent.func _ | exact Ent.refl _ | exact Ent.of_eq rfl | refine Ent.cells ?_))
        exact SubF.nil
      · try dsimp only [List.cons_append, List.nil_append]
        repeat (first | exact SubL.nil | refine SubL.cons rfl ?_)
      · obtain ⟨j, hj1, hj2⟩ := zz
        dsimp only [List.cons_append, List.nil_append]
        refine tr_seq ?_
        refine tr_seq ?_
        refine tr_region (fun N5 hN => ?_)
        refine lx (op_move rfl) rfl ?_
        refine lx (op_move rfl) rfl ?_
        refine lx (op_move rfl) rfl ?_
        refine lx (op_index rfl rfl el24 sz81 rfl (gt_at (d := []) (by omega))) rfl ?_
        refine lx (op_load_one rfl ag81 rfl) rfl ?_
        first | refine lx (op_len rfl el81) rfl ?_ | refine lx (op_len_row rfl el81) rfl ?_ | refine lx (op_len_mv rfl el81) rfl ?_ | refine lx (op_len_nil rfl el81) rfl ?_
        refine lx (op_lss rfl rfl) rfl ?_
        refine lx_end ⟨by kernel_rfl, ?_⟩
        refine pe_then_normal ?_
        refine tr_sub hC (.cons (t := 0) rfl (.cons (t := 3) rfl (.cons (t := 4) rfl (.cons (t := 17) rfl .nil)))) .nil rfl ?_
        refine tr_cond rfl (fun h17 => ?_) (fun h17 => ?_)
        · (try simp only [Bool.and_eq_true, Bool.or_eq_true, Bool.and_eq_false_iff, Bool.or_eq_false_iff, decide_eq_true_eq, decide_eq_false_iff_not, Bool.not_eq_true', Bool.not_eq_false', List.length_map, ne_eq, Decidable.not_not, Int.not_lt, Int.not_le] at h17)
          refine tr_skip ?_
          refine pe_then_normal ?_
          refine tr_sub hC (.cons (t := 0) rfl (.cons (t := 3) rfl (.cons (t := 4) rfl .nil))) .nil rfl ?_
          refine tr_seq ?_
          refine tr_block ?_
          refine tr_seq ?_
          refine tr_region (fun N7 hN => ?_)
          refine lx (op_move rfl) rfl ?_
          refine lx (op_move rfl) rfl ?_
          refine lx (op_index rfl rfl el24 sz81 rfl (gt_at (d := []) (by omega))) rfl ?_
          refine lx (op_load_one rfl ag81 rfl) rfl ?_
          refine lx (op_move rfl) rfl ?_
          refine lx (op_index rfl rfl el81 sz3 rfl (gt_at (d := (0 : Int)) (by omega))) rfl ?_
          refine lx (op_load_one rfl ag3 rfl) rfl ?_
          refine lx (op_neq rfl rfl) rfl ?_
          refine lx (op_move rfl) rfl ?_
          refine lxs rfl rfl rfl guard_eq (.cons (t := 0) rfl (fun _ => Ent.refl _) .nil) (op_move rfl) rfl ?_
          refine lxs rfl rfl rfl guard_eq (.cons (t := 3) rfl (fun _ => Ent.refl _) .nil) (op_move rfl) rfl ?_
          refine lxs rfl rfl rfl guard_eq (.cons (t := 29) rfl (fun h => entW h) (.cons (t := 30) rfl (fun h => entW h) .nil)) (op_index rfl rfl el24 sz81 rfl (gt_at (d := []) (by omega))) rfl ?_
          refine lxs rfl rfl rfl guard_eq (.cons (t := 31) rfl (fun h => entW h) .nil) (op_load_one rfl ag81 rfl) rfl ?_
          refine lxs rfl rfl rfl guard_eq (.cons (t := 4) rfl (fun _ => Ent.refl _) .nil) (op_move rfl) rfl ?_
          refine lxs rfl rfl rfl guard_eq (.cons (t := 32) rfl (fun h => entW h) (.cons (t := 33) rfl (fun h => entW h) .nil)) (op_index rfl rfl el81 sz3 rfl (gt_at (d := (0 : Int)) (by omega))) rfl ?_
          refine lxs rfl rfl rfl guard_eq (.cons (t := 34) rfl (fun h => entW h) .nil) (op_load_one rfl ag3 rfl) rfl ?_
          refine lxs rfl rfl rfl guard_eq (.cons (t := 35) rfl (fun h => entW h) .nil) (op_neq rfl rfl) rfl ?_
          refine lx (op_pick_and rfl rfl) rfl ?_
          refine lx_end ⟨by kernel_rfl, ?_⟩
          refine pe_then_normal ?_
          refine tr_sub hC (.cons (t := 0) rfl (.cons (t := 3) rfl (.cons (t := 4) rfl (.cons (t := 37) rfl .nil)))) .nil rfl ?_
          refine tr_cond rfl (fun h37 => ?_) (fun h37 => ?_)
          · have hno := lays_no (by omega) (lay_no1 (by omega) h37)
            refine tr_seq ?_
            refine tr_region (fun N8 hN => ?_)
            refine lx (op_assign rfl) rfl ?_
            refine lx_end ⟨by kernel_rfl, ?_⟩
            refine pe_then_normal ?_
            refine tr_sub hC (.cons (t := 2) rfl .nil) .nil rfl ?_
            refine tr_ret ?_
            refine pe_block_ret ?_
            refine pe_then_ret ?_
            refine pe_then_ret ?_
            refine pe_block_ret ?_
            refine pe_then_ret ?_
            refine pe_block_ret ?_
            refine pe_then_ret ?_
            refine pe_then_ret ?_
            refine pe_block_ret ?_
            refine pe_then_ret ?_
            refine pe_ret1 rfl hO rfl (.tmp rfl .nil) ?_
            rw [hno]
            repeat (first | exact Ents.nil | refine Ents.cons ?_ ?_ | refine Ent.tup ?_ | refine Ent.agg ?_ | exact Ent.row _ _ _ _ | exact Ent.nil _ _ | exact Ent.func _ | exact Ent.refl _ | exact Ent.of_eq rfl | refine Ent.cells ?_)
          · have hst : (fun b => !(decide (gt 0 (gt [] xs k) b ≠ 0) && decide (gt 0 (gt [] xs k) b ≠ 1))) j = true := by
              dsimp only
              rw [h37]
              rfl
            refine tr_skip ?_
            refine pe_block_normal ?_
            refine pe_then_normal ?_
            refine tr_sub hC (.cons (t := 0) rfl (.cons (t := 3) rfl (.cons (t := 4) rfl .nil))) .nil rfl ?_
            refine tr_region (fun N6 hN => ?_)
            refine lx (op_move rfl) rfl ?_
            refine lx (op_add rfl rfl (by omega)) rfl ?_
            refine lx (op_assign rfl) rfl ?_
            refine lx_end ⟨by kernel_rfl, ?_⟩
            refine pe_round (⟨(j + 1), by omega, allI_step hj2 hst⟩) (by dsimp only; omega) (pe_st hC ?_ ?_ rfl)
            · try dsimp only [List.cons_append, List.nil_append]
              first | refine SubF.cons rfl ?_ | (refine SubF.ent rfl ?_ ?_; · repeat (first | exact Ents.nil | refine Ents.cons ?_ ?_ | refine Ent.tup ?_ | refine Ent.agg ?_ | exact Ent.row _ _ _ _ | exact Ent.nil _ _ | exact Ent.func _ | exact Ent.refl _ | exact Ent.of_eq rfl | refine Ent.cells ?_))
              first | refine SubF.cons rfl ?_ | (refine SubF.ent rfl ?_ ?_; · repeat (first | exact Ents.nil | refine Ents.cons ?_ ?_ | refine Ent.tup ?_ | refine Ent.agg ?_ | exact Ent.row _ _ _ _ | exact Ent.nil _ _ | exact Ent.func _ | exact Ent.refl _ | exact Ent.of_eq rfl | refine Ent.cells ?_))
              first | refine SubF.cons rfl ?_ | (refine SubF.ent rfl ?_ ?_; · repeat (first | exact Ents.nil | refine Ents.cons ?_ ?_ | refine Ent.tup ?_ | refine Ent.agg ?_ | exact Ent.row _ _ _ _ | exact Ent.nil _ _ | exact Ent.func _ | exact Ent.refl _ | exact Ent.of_eq rfl | refine Ent.cells ?_))
              exact SubF.nil
            · try dsimp only [List.cons_append, List.nil_append]
              repeat (first | exact SubL.nil | refine SubL.cons rfl ?_)
        · (try simp only [Bool.and_eq_true, Bool.or_eq_true, Bool.and_eq_false_iff, Bool.or_eq_false_iff, decide_eq_true_eq, decide_eq_false_iff_not, Bool.not_eq_true', Bool.not_eq_false', List.length_map, ne_eq, Decidable.not_not, Int.not_lt, Int.not_le] at h17)
          have hin := allI_end hj2 (by omega : (gt [] xs k).length ≤ j)
          refine tr_exit ?_
          refine pe_then_exit ?_
          refine pe_then_exit ?_
          refine pe_block_eq ?_
          refine pe_then_normal ?_
          refine tr_sub hC (.cons (t := 0) rfl (.cons (t := 3) rfl .nil)) .nil rfl ?_
          refine tr_seq ?_
          refine tr_region (fun N9 hN => ?_)
          refine lx (op_move rfl) rfl ?_
          refine lx (op_move rfl) rfl ?_
          refine lx (op_index rfl rfl el24 sz81 rfl (gt_at (d := []) (by omega))) rfl ?_
          refine lx (op_load_one rfl ag81 rfl) rfl ?_
          first | refine lx (op_len rfl el81) rfl ?_ | refine lx (op_len_row rfl el81) rfl ?_ | refine lx (op_len_mv rfl el81) rfl ?_ | refine lx (op_len_nil rfl el81) rfl ?_
          refine lx (op_gtr rfl rfl) rfl ?_
          refine lx_end ⟨by kernel_rfl, ?_⟩
          refine pe_then_normal ?_
          refine tr_sub hC (.cons (t := 0) rfl (.cons (t := 3) rfl (.cons (t := 43) rfl .nil))) .nil rfl ?_
          refine tr_cond rfl (fun h43 => ?_) (fun h43 => ?_)
          · (try simp only [Bool.and_eq_true, Bool.or_eq_true, Bool.and_eq_false_iff, Bool.or_eq_false_iff, decide_eq_true_eq, decide_eq_false_iff_not, Bool.not_eq_true', Bool.not_eq_false', List.length_map, ne_eq, Decidable.not_not, Int.not_lt, Int.not_le] at h43)
            have hno := lays_no (k := k) (ls := xs) (by omega) (lay_no2 (l := gt [] xs k) (by omega))
            refine tr_seq ?_
            refine tr_region (fun N10 hN => ?_)
            refine lx (op_assign rfl) rfl ?_
            refine lx_end ⟨by kernel_rfl, ?_⟩
            refine pe_then_normal ?_
            refine tr_sub hC (.cons (t := 2) rfl .nil) .nil rfl ?_
            refine tr_ret ?_
            refine pe_block_ret ?_
            refine pe_then_ret ?_
            refine pe_then_ret ?_
            refine pe_block_ret ?_
            refine pe_then_ret ?_
            refine pe_ret1 rfl hO rfl (.tmp rfl .nil) ?_
            rw [hno]
            repeat (first | exact Ents.nil | refine Ents.cons ?_ ?_ | refine Ent.tup ?_ | refine Ent.agg ?_ | exact Ent.row _ _ _ _ | exact Ent.nil _ _ | exact Ent.func _ | exact Ent.refl _ | exact Ent.of_eq rfl | refine Ent.cells ?_)
          · (try simp only [Bool.and_eq_true, Bool.or_eq_true, Bool.and_eq_false_iff, Bool.or_eq_false_iff, decide_eq_true_eq, decide_eq_false_iff_not, Bool.not_eq_true', Bool.not_eq_false', List.length_map, ne_eq, Decidable.not_not, Int.not_lt, Int.not_le] at h43)
            have hyes := lay_yes hin (by omega)
            refine tr_skip ?_
            refine pe_block_normal ?_
            refine pe_then_normal ?_
            refine tr_sub hC (.cons (t := 0) rfl (.cons (t := 3) rfl .nil)) .nil rfl ?_
            refine tr_region (fun N3 hN => ?_)
            refine lx (op_move rfl) rfl ?_
            refine lx (op_add rfl rfl (by omega)) rfl ?_
            refine lx (op_assign rfl) rfl ?_
            refine lx_end ⟨by kernel_rfl, ?_⟩
            refine pe_round (⟨(k + 1), by omega, allI_step (φ := fun a => lay1 (gt [] xs a)) hk2 hyes⟩) (by dsimp only; omega) (pe_st hC ?_ ?_ rfl)
            · try dsimp only [List.cons_append, List.nil_append]
              first | refine SubF.cons rfl ?_ | (refine SubF.ent rfl ?_ ?_; · repeat (first | exact Ents.nil | refine Ents.cons ?_ ?_ | refine Ent.tup ?_ | refine Ent.agg ?_ | exact Ent.row _ _ _ _ | exact Ent.nil _ _ | exact Ent.func _ | exact Ent.refl _ | exact Ent.of_eq rfl | refine Ent.cells ?_))
              first | refine SubF.cons rfl ?_ | (refine SubF.ent rfl ?_ ?_; · repeat (first | exact Ents.nil | refine Ents.cons ?_ ?_ | refine Ent.tup ?_ | refine Ent.agg ?_ | exact Ent.row _ _ _ _ | exact Ent.nil _ _ | exact Ent.func _ | exact Ent.refl _ | exact Ent.of_eq rfl | refine Ent.cells ?_))
              exact SubF.nil
            · try dsimp only [List.cons_append, List.nil_append]
              repeat (first | exact SubL.nil | refine SubL.cons rfl ?_)
    · (try simp only [Bool.and_eq_true, Bool.or_eq_true, Bool.and_eq_false_iff, Bool.or_eq_false_iff, decide_eq_true_eq, decide_eq_false_iff_not, Bool.not_eq_true', Bool.not_eq_false', List.length_map, ne_eq, Decidable.not_not, Int.not_lt, Int.not_le] at h8)
      have hfin := lays_fin (allI_end hk2 (by omega))
      refine tr_exit ?_
      refine pe_then_exit ?_
      refine pe_then_exit ?_
      refine pe_block_eq ?_
      refine pe_then_normal ?_
      refine tr_sub hC (.cons (t := 0) rfl .nil) .nil rfl ?_
      refine tr_seq ?_
      refine tr_region (fun N11 hN => ?_)
      refine lx (op_move rfl) rfl ?_
      first | refine lx (op_len rfl el24) rfl ?_ | refine lx (op_len_row rfl el24) rfl ?_ | refine lx (op_len_mv rfl el24) rfl ?_ | refine lx (op_len_nil rfl el24) rfl ?_
      refine lx (op_leq rfl rfl) rfl ?_
      refine lx (op_assign rfl) rfl ?_
      refine lx_end ⟨by kernel_rfl, ?_⟩
      refine pe_then_normal ?_
      refine tr_sub hC (.cons (t := 2) rfl .nil) .nil rfl ?_
      refine tr_ret ?_
      refine pe_ret1 rfl hO rfl (.tmp rfl .nil) ?_
      rw [hfin]
      repeat (first | exact Ents.nil | refine Ents.cons ?_ ?_ | refine Ent.tup ?_ | refine Ent.agg ?_ | exact Ent.row _ _ _ _ | exact Ent.nil _ _ | exact Ent.func _ | exact Ent.refl _ | exact Ent.of_eq rfl | refine Ent.cells ?_)
theorem Prog_ok (p : Pg) (hb : BdPg 9223372036854775807 p) : FnP Try.prog 13 [aggP p.ps] (eqP (.bool (progF instrF p))) := by
  have hbf := hb.funcs
  have hbg := hb.globals
  refine fn_pure' Try.func13 rfl Try.ntmps13 rfl ?_
  intro σ0 M ex Rf R hC hO
  simp only [frameOf, tokOf]
  refine tr_seq ?_
  refine tr_region (fun N0 hN => ?_)
  refine lxn (op_box (m := 1) (k := 1) rfl (.agg rfl) (by first | exact hC.low _ (by decide) | rfl)) rfl ?_
  refine lx (op_assign rfl) rfl ?_
  refine lx_end ⟨by kernel_rfl, ?_⟩
  refine pe_then_normal ?_
  refine tr_sub hC (.cons (t := 1) rfl .nil) (.cons (t := 1) rfl .nil) rfl ?_
  refine tr_seq ?_
  refine tr_seq ?_
  refine tr_region (fun N1 hN => ?_)
  refine lx (op_fieldAddr rfl fl26_0 sz22) rfl ?_
  refine lx (op_bload_one (m := 1) rfl rfl ag22 rfl) rfl ?_
  first | refine lx (op_len rfl el22) rfl ?_ | refine lx (op_len_row rfl el22) rfl ?_ | refine lx (op_len_mv rfl el22) rfl ?_ | refine lx (op_len_nil rfl el22) rfl ?_
  refine lx (op_gtr rfl rfl) rfl ?_
  refine lx (op_move rfl) rfl ?_
  refine lxs rfl rfl rfl guard_eq (.cons (t := 1) rfl (fun _ => Ent.refl _) .nil) (op_fieldAddr rfl fl26_1 sz23) rfl ?_
  refine lxs rfl rfl rfl guard_eq (.cons (t := 13) rfl (fun h => entW h) .nil) (op_bload_one (m := 1) rfl rfl ag23 rfl) rfl ?_
  first | refine lxs rfl rfl rfl guard_eq (.cons (t := 14) rfl (fun h => entW h) .nil) (op_len rfl el23) rfl ?_ | refine lxs rfl rfl rfl guard_eq (.cons (t := 14) rfl (fun h => entW h) .nil) (op_len_row rfl el23) rfl ?_ | refine lxs rfl rfl rfl guard_eq (.cons (t := 14) rfl (fun h => entW h) .nil) (op_len_mv rfl el23) rfl ?_ | refine lxs rfl rfl rfl guard_eq (.cons (t := 14) rfl (fun h => entW h) .nil) (op_len_nil rfl el23) rfl ?_
  refine lxs rfl rfl rfl guard_eq (.cons (t := 15) rfl (fun h => entW h) .nil) (op_gtr rfl rfl) rfl ?_
  refine lx (op_pick_or rfl rfl) rfl ?_
  refine lx (op_move rfl) rfl ?_
  refine lxs rfl rfl rfl guard_eq (.cons (t := 1) rfl (fun _ => Ent.refl _) .nil) (op_fieldAddr rfl fl26_2 sz24) rfl ?_
  refine lxs rfl rfl rfl guard_eq (.cons (t := 19) rfl (fun h => entW h) .nil) (op_bload_one (m := 1) rfl rfl ag24 rfl) rfl ?_
  first | refine lxs rfl rfl rfl guard_eq (.cons (t := 20) rfl (fun h => entW h) .nil) (op_call (l := [(Go.Operand.tmp 20)]) (layouts_ok p.layouts hb.layouts hb.lays) (.cons rfl .nil) fn35) rfl ?_ | refine lxs rfl rfl rfl guard_eq (.cons (t := 20) rfl (fun h => entW h) .nil) (op_call (l := [(Go.Operand.tmp 20)]) (layouts_ok p.layouts hb.layouts hb.lays) (.ent rfl (by repeat (first | exact Ents.nil | refine Ents.cons ?_ ?_ | refine Ent.tup ?_ | refine Ent.agg ?_ | exact Ent.row _ _ _ _ | exact Ent.nil _ _ | exact Ent.func _ | exact Ent.refl _ | exact Ent.of_eq rfl | refine Ent.cells ?_)) .nil) fn35) rfl ?_
  first | refine lxs rfl rfl rfl guard_eq (.cons (t := 21) rfl (fun h => entW h) .nil) (op_not rfl) rfl ?_ | refine lxs rfl rfl rfl guard_eq (.cons (t := 21) rfl (fun h => entW h) .nil) (op_not_b rfl) rfl ?_
  refine lx (op_pick_or rfl rfl) rfl ?_
  refine lx (op_move rfl) rfl ?_
  refine lxs rfl rfl rfl guard_eq (.cons (t := 1) rfl (fun _ => Ent.refl _) .nil) (op_fieldAddr rfl fl26_3 sz3) rfl ?_
  refine lxs rfl rfl rfl guard_eq (.cons (t := 25) rfl (fun h => entW h) .nil) (op_bload_one (m := 1) rfl rfl ag3 rfl) rfl ?_
  refine lxs rfl rfl rfl guard_eq (.cons (t := 26) rfl (fun h => entW h) .nil) (op_lss rfl rfl) rfl ?_
  refine lx (op_pick_or rfl rfl) rfl ?_
  refine lx (op_move rfl) rfl ?_
  refine lxs rfl rfl rfl guard_eq (.cons (t := 1) rfl (fun _ => Ent.refl _) .nil) (op_fieldAddr rfl fl26_3 sz3) rfl ?_
  refine lxs rfl rfl rfl guard_eq (.cons (t := 30) rfl (fun h => entW h) .nil) (op_bload_one (m := 1) rfl rfl ag3 rfl) rfl ?_
  refine lxs rfl rfl rfl guard_eq (.cons (t := 1) rfl (fun _ => Ent.refl _) .nil) (op_fieldAddr rfl fl26_0 sz22) rfl ?_
  refine lxs rfl rfl rfl guard_eq (.cons (t := 32) rfl (fun h => entW h) .nil) (op_bload_one (m := 1) rfl rfl ag22 rfl) rfl ?_
  first | refine lxs rfl rfl rfl guard_eq (.cons (t := 33) rfl (fun h => entW h) .nil) (op_len rfl el22) rfl ?_ | refine lxs rfl rfl rfl guard_eq (.cons (t := 33) rfl (fun h => entW h) .nil) (op_len_row rfl el22) rfl ?_ | refine lxs rfl rfl rfl guard_eq (.cons (t := 33) rfl (fun h => entW h) .nil) (op_len_mv rfl el22) rfl ?_ | refine lxs rfl rfl rfl guard_eq (.cons (t := 33) rfl (fun h => entW h) .nil) (op_len_nil rfl el22) rfl ?_
  refine lxs rfl rfl rfl guard_eq (.cons (t := 31) rfl (fun h => entW h) (.cons (t := 34) rfl (fun h => entW h) .nil)) (op_geq rfl rfl) rfl ?_
  refine lx (op_pick_or rfl rfl) rfl ?_
  refine lx (op_move rfl) rfl ?_
  refine lxs rfl rfl rfl guard_eq (.cons (t := 1) rfl (fun _ => Ent.refl _) .nil) (op_fieldAddr rfl fl26_0 sz22) rfl ?_
  refine lxs rfl rfl rfl guard_eq (.cons (t := 38) rfl (fun h => entW h) .nil) (op_bload_one (m := 1) rfl rfl ag22 rfl) rfl ?_
  refine lxs rfl rfl rfl guard_eq (.cons (t := 1) rfl (fun _ => Ent.refl _) .nil) (op_fieldAddr rfl fl26_3 sz3) rfl ?_
  refine lxs rfl rfl rfl guard_eq (.cons (t := 40) rfl (fun h => entW h) .nil) (op_bload_one (m := 1) rfl rfl ag3 rfl) rfl ?_
  refine lxsc (rd := [(39, slP Fu.ps 4 p.funcs), (41, eqP (.int .i64 p.main))]) (φ := cellsP (pfn p p.main).ps) rfl rfl rfl guard_eq (.cons (t := 39) rfl (fun h => entW h) (.cons (t := 41) rfl (fun h => entW h) .nil)) (fun hgd => ?_) rfl rfl ?_
  · have hq0 : 0 ≤ p.main ∧ p.main < (p.funcs.length : Int) := by
      simp at hgd
      omega
    exact op_index rfl rfl el22 sz66 (by omega : p.main = ((p.main.toNat : Nat) : Int)) (pfn_at (by omega) (by omega))
  first | refine lxs rfl rfl rfl guard_eq (.cons (t := 42) rfl (fun h => entW h) .nil) (op_fieldAddr rfl fl66_1 sz3) rfl ?_ | refine lxs rfl rfl rfl guard_eq (.cons (t := 42) rfl (fun h => entW h) .nil) (op_fieldCells rfl fl66_1 sz3) rfl ?_
  first | refine lxs rfl rfl rfl guard_eq (.cons (t := 43) rfl (fun h => entW h) .nil) (op_load_one rfl ag3 rfl) rfl ?_ | refine lxs rfl rfl rfl guard_eq (.cons (t := 43) rfl (fun h => entW h) .nil) (op_bload_one (m := 1) rfl rfl ag3 rfl) rfl ?_
  refine lxs rfl rfl rfl guard_eq (.cons (t := 44) rfl (fun h => entW h) .nil) (op_neq rfl rfl) rfl ?_
  refine lx (op_pick_or rfl rfl) rfl ?_
  refine lx_end ⟨by kernel_rfl, ?_⟩
  refine pe_then_normal ?_
  refine tr_sub hC (.cons (t := 1) rfl (.cons (t := 46) rfl .nil)) (.cons (t := 1) rfl .nil) rfl ?_
  refine tr_cond rfl (fun h46 => ?_) (fun h46 => ?_)
  · have hh : hdrP p = true := h46
    have hno := prog_no (ins := instrF) hh
    refine tr_seq ?_
    refine tr_region (fun N2 hN => ?_)
    refine lx (op_assign rfl) rfl ?_
    refine lx_end ⟨by kernel_rfl, ?_⟩
    refine pe_then_normal ?_
    refine tr_sub hC (.cons (t := 2) rfl .nil) .nil rfl ?_
    refine tr_ret ?_
    refine pe_then_ret ?_
    refine pe_ret1 rfl hO rfl (.tmp rfl .nil) ?_
    rw [hno]
    repeat (first | exact Ents.nil | refine Ents.cons ?_ ?_ | refine Ent.tup ?_ | refine Ent.agg ?_ | exact Ent.row _ _ _ _ | exact Ent.nil _ _ | exact Ent.func _ | exact Ent.refl _ | exact Ent.of_eq rfl | refine Ent.cells ?_)
  · have hh : hdrP p = false := h46
    refine tr_skip ?_
    refine pe_then_normal ?_
    refine tr_sub hC (.cons (t := 1) rfl .nil) (.cons (t := 1) rfl .nil) rfl ?_
    refine tr_seq ?_
    refine tr_seq ?_
    refine tr_region (fun N3 hN => ?_)
    refine lx (op_assign rfl) rfl ?_
    refine lx_end ⟨by kernel_rfl, ?_⟩
    refine pe_then_normal ?_
    refine tr_sub hC (.cons (t := 1) rfl (.cons (t := 3) rfl .nil)) (.cons (t := 1) rfl .nil) rfl ?_
    refine tr_block ?_
    refine tr_loopK (α := {zz : Nat // zz ≤ p.globals.length ∧ allI zz (glOK p.globals) = true}) (⟨(0), Nat.zero_le _, rfl⟩) (fun zz => [(3, eqP (.int .i64 (zz.1 : Int)))]) (fun zz => []) (fun zz => p.globals.length - zz.1) hC (.cons (t := 1) rfl .nil) (.cons (t := 1) rfl .nil) rfl ?_ ?_ (fun zz => ?_)
    · try dsimp only [List.cons_append, List.nil_append]
      first | refine SubF.cons rfl ?_ | (refine SubF.ent rfl ?_ ?_; · repeat (first | exact Ents.nil | refine Ents.cons ?_ ?_ | refine Ent.tup ?_ | refine Ent.agg ?_ | exact Ent.row _ _ _ _ | exact Ent.nil _ _ | exact Ent.func _ | exact Ent.refl _ | exact Ent.of_eq rfl | refine Ent.cells ?_))
      exact SubF.nil
    · try dsimp only [List.cons_append, List.nil_append]
      repeat (first | exact SubL.nil | refine SubL.cons rfl ?_)
    · obtain ⟨k, hk1, hk2⟩ := zz
      dsimp only [List.cons_append, List.nil_append]
      refine tr_seq ?_
      refine tr_seq ?_
      refine tr_region (fun N4 hN => ?_)
      refine lx (op_move rfl) rfl ?_
      refine lx (op_fieldAddr rfl fl26_1 sz23) rfl ?_
      refine lx (op_bload_one (m := 1) rfl rfl ag23 rfl) rfl ?_
      first | refine lx (op_len rfl el23) rfl ?_ | refine lx (op_len_row rfl el23) rfl ?_ | refine lx (op_len_mv rfl el23) rfl ?_ | refine lx (op_len_nil rfl el23) rfl ?_
      refine lx (op_lss rfl rfl) rfl ?_
      refine lx_end ⟨by kernel_rfl, ?_⟩
      refine pe_then_normal ?_
      refine tr_sub hC (.cons (t := 1) rfl (.cons (t := 3) rfl (.cons (t := 51) rfl .nil))) (.cons (t := 1) rfl .nil) rfl ?_
      refine tr_cond rfl (fun h51 => ?_) (fun h51 => ?_)
      · (try simp only [Bool.and_eq_true, Bool.or_eq_true, Bool.and_eq_false_iff, Bool.or_eq_false_iff, decide_eq_true_eq, decide_eq_false_iff_not, Bool.not_eq_true', Bool.not_eq_false', List.length_map, ne_eq, Decidable.not_not, Int.not_lt, Int.not_le] at h51)
        refine tr_skip ?_
        refine pe_then_normal ?_
        refine tr_sub hC (.cons (t := 1) rfl (.cons (t := 3) rfl .nil)) (.cons (t := 1) rfl .nil) rfl ?_
        refine tr_seq ?_
        refine tr_block ?_
        refine tr_seq ?_
        refine tr_region (fun N6 hN => ?_)
        refine lx (op_fieldAddr rfl fl26_1 sz23) rfl ?_
        refine lx (op_bload_one (m := 1) rfl rfl ag23 rfl) rfl ?_
        refine lx (op_move rfl) rfl ?_
        refine lx (op_index rfl rfl el23 sz71 rfl (gt_at (d := gl0) (by omega))) rfl ?_
        first | refine lx (op_load_all rfl ag71 sz71) rfl ?_ | refine lx (op_load_agg rfl ag71 sz71 rfl) rfl ?_ | refine lx (op_bload (m := 1) rfl rfl ag71 sz71) rfl ?_ | refine lx (op_bload_part (m := 1) (qs := [_, _]) rfl rfl ag71 sz71 rfl rfl) rfl ?_
        refine lxn (op_alloc (m := 4) (k := 4) (ps := [eqP (.string ⟨#[]⟩), eqP (.int .i64 0)]) ze71 rfl rfl (by first | exact hC.low _ (by decide) | rfl)) rfl ?_
        refine lxr (op_store_all (m := 4) rfl rfl rfl (.agg rfl) sz71 rfl) rfl ?_
        refine lx_end ⟨by kernel_rfl, ?_⟩
        refine pe_then_normal ?_
        refine tr_sub hC (.cons (t := 1) rfl (.cons (t := 3) rfl (.cons (t := 4) rfl .nil))) (.cons (t := 1) rfl (.cons (t := 4) rfl .nil)) rfl ?_
        refine tr_seq ?_
        refine tr_seq ?_
        refine tr_region (fun N7 hN => ?_)
        refine lx (op_fieldAddr rfl fl71_0 sz9) rfl ?_
        refine lx (op_bload_one (m := 4) rfl rfl ag9 rfl) rfl ?_
        refine lx (op_eql_str st9 rfl rfl) rfl ?_
        refine lx (op_move rfl) rfl ?_
        refine lxs rfl rfl rfl guard_eq (.cons (t := 4) rfl (fun _ => Ent.refl _) .nil) (op_fieldAddr rfl fl71_1 sz3) rfl ?_
        refine lxs rfl rfl rfl guard_eq (.cons (t := 63) rfl (fun h => entW h) .nil) (op_bload_one (m := 4) rfl rfl ag3 rfl) rfl ?_
        refine lxs rfl rfl rfl guard_eq (.cons (t := 64) rfl (fun h => entW h) .nil) (op_neq rfl rfl) rfl ?_
        refine lxs rfl rfl rfl guard_eq (.cons (t := 65) rfl (fun h => entW h) .nil) (op_move rfl) rfl ?_
        refine lxs rfl rfl rfl guard_w (.cons (t := 4) rfl (fun _ => Ent.refl _) .nil) (op_fieldAddr rfl fl71_1 sz3) rfl ?_
        refine lxs rfl rfl rfl guard_w (.cons (t := 67) rfl (fun h => entW h) .nil) (op_bload_one (m := 4) rfl rfl ag3 rfl) rfl ?_
        refine lxs rfl rfl rfl guard_w (.cons (t := 68) rfl (fun h => entW h) .nil) (op_neq rfl rfl) rfl ?_
        refine lxs rfl rfl rfl guard_eq (.cons (t := 66) rfl (fun h => entW h) (.cons (t := 69) rfl (fun h => entS h) .nil)) (op_pick_and rfl rfl) rfl ?_
        refine lx (op_pick_or rfl rfl) rfl ?_
        refine lx_end ⟨by kernel_rfl, ?_⟩
        refine pe_then_normal ?_
        refine tr_sub hC (.cons (t := 1) rfl (.cons (t := 3) rfl (.cons (t := 4) rfl (.cons (t := 71) rfl .nil)))) (.cons (t := 1) rfl (.cons (t := 4) rfl .nil)) rfl ?_
        refine tr_cond rfl (fun h71 => ?_) (fun h71 => ?_)
        · have hno := prog_g (ins := instrF) hh (gl_no1 (by omega) h71)
          refine tr_seq ?_
          refine tr_region (fun N8 hN => ?_)
          refine lx (op_assign rfl) rfl ?_
          refine lx_end ⟨by kernel_rfl, ?_⟩
          refine pe_then_normal ?_
          refine tr_sub hC (.cons (t := 2) rfl .nil) .nil rfl ?_
          refine tr_ret ?_
          refine pe_then_ret ?_
          refine pe_block_ret ?_
          refine pe_then_ret ?_
          refine pe_then_ret ?_
          refine pe_block_ret ?_
          refine pe_then_ret ?_
          refine pe_ret1 rfl hO rfl (.tmp rfl .nil) ?_
          rw [hno]
          repeat (first | exact Ents.nil | refine Ents.cons ?_ ?_ | refine Ent.tup ?_ | refine Ent.agg ?_ | exact Ent.row _ _ _ _ | exact Ent.nil _ _ | exact Ent.func _ | exact Ent.refl _ | exact Ent.of_eq rfl | refine Ent.cells ?_)
        · have hg1 := h71
          refine tr_skip ?_
          refine pe_then_normal ?_
          refine tr_sub hC (.cons (t := 1) rfl (.cons (t := 3) rfl (.cons (t := 4) rfl .nil))) (.cons (t := 1) rfl (.cons (t := 4) rfl .nil)) rfl ?_
          refine tr_seq ?_
          refine tr_region (fun N9 hN => ?_)
          refine lx (op_assign rfl) rfl ?_
          refine lx_end ⟨by kernel_rfl, ?_⟩
          refine pe_then_normal ?_
          refine tr_sub hC (.cons (t := 1) rfl (.cons (t := 3) rfl (.cons (t := 4) rfl (.cons (t := 5) rfl .nil)))) (.cons (t := 1) rfl (.cons (t := 4) rfl .nil)) rfl ?_
          refine tr_block ?_
          refine tr_loopK (α := {zz : Nat // zz ≤ k ∧ allI zz (fun zz => !((gt gl0 p.globals zz).name.toList == (gt gl0 p.globals k).name.toList)) = true}) (⟨(0), Nat.zero_le _, rfl⟩) (fun zz => [(5, eqP (.int .i64 (zz.1 : Int)))]) (fun zz => []) (fun zz => k - zz.1) hC (.cons (t := 1) rfl (.cons (t := 3) rfl (.cons (t := 4) rfl .nil))) (.cons (t := 1) rfl (.cons (t := 4) rfl .nil)) rfl ?_ ?_ (fun zz => ?_)
          · try dsimp only [List.cons_append, List.nil_append]
            first | refine SubF.cons rfl ?_ | (refine SubF.ent rfl ?_ ?_; · repeat (first | exact Ents.nil | refine Ents.cons ?_ ?_ | refine Ent.tup ?_ | refine Ent.agg ?_ | exact Ent.row _ _ _ _ | exact Ent.nil _ _ | exact Ent.func _ | exact Ent.refl _ | exact Ent.of_eq rfl | refine Ent.cells ?_))
            exact SubF.nil
          · try dsimp only [List.cons_append, List.nil_append]
            repeat (first | exact SubL.nil | refine SubL.cons rfl ?_)
          · obtain ⟨j, hj1, hj2⟩ := zz
            dsimp only [List.cons_append, List.nil_append]
            refine tr_seq ?_
            refine tr_seq ?_
            refine tr_region (fun N10 hN => ?_)
            refine lx (op_move rfl) rfl ?_
            refine lx (op_move rfl) rfl ?_
            refine lx (op_lss rfl rfl) rfl ?_
            refine lx_end ⟨by kernel_rfl, ?_⟩
            refine pe_then_normal ?_
            refine tr_sub hC (.cons (t := 1) rfl (.cons (t := 3) rfl (.cons (t := 4) rfl (.cons (t := 5) rfl (.cons (t := 74) rfl .nil))))) (.cons (t := 1) rfl (.cons (t := 4) rfl .nil)) rfl ?_
            refine tr_cond rfl (fun h74 => ?_) (fun h74 => ?_)
            · (try simp only [Bool.and_eq_true, Bool.or_eq_true, Bool.and_eq_false_iff, Bool.or_eq_false_iff, decide_eq_true_eq, decide_eq_false_iff_not, Bool.not_eq_true', Bool.not_eq_false', List.length_map, ne_eq, Decidable.not_not, Int.not_lt, Int.not_le] at h74)
              refine tr_skip ?_
              refine pe_then_normal ?_
              refine tr_sub hC (.cons (t := 1) rfl (.cons (t := 3) rfl (.cons (t := 4) rfl (.cons (t := 5) rfl .nil)))) (.cons (t := 1) rfl (.cons (t := 4) rfl .nil)) rfl ?_
              refine tr_seq ?_
              refine tr_block ?_
              refine tr_seq ?_
              refine tr_drawn mixed (fun N12 hN => ?_)
              refine lx (op_fieldAddr rfl fl26_1 sz23) rfl ?_
              refine lx (op_bload_one (m := 1) rfl rfl ag23 rfl) rfl ?_
              refine lx (op_move rfl) rfl ?_
              refine lx (op_index rfl rfl el23 sz71 rfl (gt_at (d := gl0) (by omega))) rfl ?_
              first | refine lx (op_fieldAddr rfl fl71_0 sz9) rfl ?_ | refine lx (op_fieldCells rfl fl71_0 sz9) rfl ?_
              first | refine lx (op_load_one rfl ag9 rfl) rfl ?_ | refine lx (op_bload_one (m := 1) rfl rfl ag9 rfl) rfl ?_ | refine lx (op_bload_one (m := 4) rfl rfl ag9 rfl) rfl ?_
              refine lx (op_fieldAddr rfl fl71_0 sz9) rfl ?_
              refine lx (op_bload_one (m := 4) rfl rfl ag9 rfl) rfl ?_
              refine lx (op_eql_str st9 rfl rfl) rfl ?_
              refine lx_end ⟨by kernel_rfl, ?_⟩
              refine pe_then_normal ?_
              refine tr_sub hC (.cons (t := 1) rfl (.cons (t := 3) rfl (.cons (t := 4) rfl (.cons (t := 5) rfl (.cons (t := 85) rfl .nil))))) (.cons (t := 1) rfl (.cons (t := 4) rfl .nil)) rfl ?_
              refine tr_cond rfl (fun h85 => ?_) (fun h85 => ?_)
              · have hno := prog_g (ins := instrF) hh (gl_no2 (by omega) (by omega) h85)
                refine tr_seq ?_
                refine tr_region (fun N13 hN => ?_)
                refine lx (op_assign rfl) rfl ?_
                refine lx_end ⟨by kernel_rfl, ?_⟩
                refine pe_then_normal ?_
                refine tr_sub hC (.cons (t := 2) rfl .nil) .nil rfl ?_
                refine tr_ret ?_
                refine pe_block_ret ?_
                refine pe_then_ret ?_
                refine pe_then_ret ?_
                refine pe_block_ret ?_
                refine pe_block_ret ?_
                refine pe_then_ret ?_
                refine pe_then_ret ?_
                refine pe_block_ret ?_
                refine pe_then_ret ?_
                refine pe_ret1 rfl hO rfl (.tmp rfl .nil) ?_
                rw [hno]
                repeat (first | exact Ents.nil | refine Ents.cons ?_ ?_ | refine Ent.tup ?_ | refine Ent.agg ?_ | exact Ent.row _ _ _ _ | exact Ent.nil _ _ | exact Ent.func _ | exact Ent.refl _ | exact Ent.of_eq rfl | refine Ent.cells ?_)
              · have hst : (fun j => !((gt gl0 p.globals j).name.toList == (gt gl0 p.globals k).name.toList)) j = true := by
                  dsimp only
                  rw [h85]
                  rfl
                refine tr_skip ?_
                refine pe_block_normal ?_
                refine pe_then_normal ?_
                refine tr_sub hC (.cons (t := 1) rfl (.cons (t := 3) rfl (.cons (t := 4) rfl (.cons (t := 5) rfl .nil)))) (.cons (t := 1) rfl (.cons (t := 4) rfl .nil)) rfl ?_
                refine tr_region (fun N11 hN => ?_)
                refine lx (op_move rfl) rfl ?_
                refine lx (op_add rfl rfl (by omega)) rfl ?_
                refine lx (op_assign rfl) rfl ?_
                refine lx_end ⟨by kernel_rfl, ?_⟩
                refine pe_round (⟨(j + 1), by omega, allI_step hj2 hst⟩) (by dsimp only; omega) (pe_st hC ?_ ?_ rfl)
                · try dsimp only [List.cons_append, List.nil_append]
                  first | refine SubF.cons rfl ?_ | (refine SubF.ent rfl ?_ ?_; · repeat (first | exact Ents.nil | refine Ents.cons ?_ ?_ | refine Ent.tup ?_ | refine Ent.agg ?_ | exact Ent.row _ _ _ _ | exact Ent.nil _ _ | exact Ent.func _ | exact Ent.refl _ | exact Ent.of_eq rfl | refine Ent.cells ?_))
                  first | refine SubF.cons rfl ?_ | (refine SubF.ent rfl ?_ ?_; · repeat (first | exact Ents.nil | refine Ents.cons ?_ ?_ | refine Ent.tup ?_ | refine Ent.agg ?_ | exact Ent.row _ _ _ _ | exact Ent.nil _ _ | exact Ent.func _ | exact Ent.refl _ | exact Ent.of_eq rfl | refine Ent.cells ?_))
                  first | refine SubF.cons rfl ?_ | (refine SubF.ent rfl ?_ ?_; · repeat (first | exact Ents.nil | refine Ents.cons ?_ ?_ | refine Ent.tup ?_ | refine Ent.agg ?_ | exact Ent.row _ _ _ _ | exact Ent.nil _ _ | exact Ent.func _ | exact Ent.refl _ | exact Ent.of_eq rfl | refine Ent.cells ?_))
                  first | refine SubF.cons rfl ?_ | (refine SubF.ent rfl ?_ ?_; · repeat (first | exact Ents.nil | refine Ents.cons ?_ ?_ | refine Ent.tup ?_ | refine Ent.agg ?_ | exact Ent.row _ _ _ _ | exact Ent.nil _ _ | exact Ent.func _ | exact Ent.refl _ | exact Ent.of_eq rfl | refine Ent.cells ?_))
                  exact SubF.nil
                · try dsimp only [List.cons_append, List.nil_append]
                  repeat (first | exact SubL.nil | refine SubL.cons rfl ?_)
            · (try simp only [Bool.and_eq_true, Bool.or_eq_true, Bool.and_eq_false_iff, Bool.or_eq_false_iff, decide_eq_true_eq, decide_eq_false_iff_not, Bool.not_eq_true', Bool.not_eq_false', List.length_map, ne_eq, Decidable.not_not, Int.not_lt, Int.not_le] at h74)
              have hyes := gl_yes hg1 (allI_end hj2 (by omega : k ≤ j))
              refine tr_exit ?_
              refine pe_then_exit ?_
              refine pe_then_exit ?_
              refine pe_block_eq ?_
              refine pe_block_normal ?_
              refine pe_then_normal ?_
              refine tr_sub hC (.cons (t := 1) rfl (.cons (t := 3) rfl .nil)) (.cons (t := 1) rfl .nil) rfl ?_
              refine tr_region (fun N5 hN => ?_)
              refine lx (op_move rfl) rfl ?_
              refine lx (op_add rfl rfl (by omega)) rfl ?_
              refine lx (op_assign rfl) rfl ?_
              refine lx_end ⟨by kernel_rfl, ?_⟩
              refine pe_round (⟨(k + 1), by omega, allI_step hk2 hyes⟩) (by dsimp only; omega) (pe_st hC ?_ ?_ rfl)
              · try dsimp only [List.cons_append, List.nil_append]
                first | refine SubF.cons rfl ?_ | (refine SubF.ent rfl ?_ ?_; · repeat (first | exact Ents.nil | refine Ents.cons ?_ ?_ | refine Ent.tup ?_ | refine Ent.agg ?_ | exact Ent.row _ _ _ _ | exact Ent.nil _ _ | exact Ent.func _ | exact Ent.refl _ | exact Ent.of_eq rfl | refine Ent.cells ?_))
                first | refine SubF.cons rfl ?_ | (refine SubF.ent rfl ?_ ?_; · repeat (first | exact Ents.nil | refine Ents.cons ?_ ?_ | refine Ent.tup ?_ | refine Ent.agg ?_ | exact Ent.row _ _ _ _ | exact Ent.nil _ _ | exact Ent.func _ | exact Ent.refl _ | exact Ent.of_eq rfl | refine Ent.cells ?_))
                exact SubF.nil
              · try dsimp only [List.cons_append, List.nil_append]
                repeat (first | exact SubL.nil | refine SubL.cons rfl ?_)
      · (try simp only [Bool.and_eq_true, Bool.or_eq_true, Bool.and_eq_false_iff, Bool.or_eq_false_iff, decide_eq_true_eq, decide_eq_false_iff_not, Bool.not_eq_true', Bool.not_eq_false', List.length_map, ne_eq, Decidable.not_not, Int.not_lt, Int.not_le] at h51)
        have hgl := allI_end hk2 (by omega : p.globals.length ≤ k)
        refine tr_exit ?_
        refine pe_then_exit ?_
        refine pe_then_exit ?_
        refine pe_block_eq ?_
        refine pe_then_normal ?_
        refine tr_sub hC (.cons (t := 1) rfl .nil) (.cons (t := 1) rfl .nil) rfl ?_
        refine tr_seq ?_
        refine tr_seq ?_
        refine tr_region (fun N14 hN => ?_)
        refine lx (op_assign rfl) rfl ?_
        refine lx_end ⟨by kernel_rfl, ?_⟩
        refine pe_then_normal ?_
        refine tr_sub hC (.cons (t := 1) rfl (.cons (t := 6) rfl .nil)) (.cons (t := 1) rfl .nil) rfl ?_
        refine tr_block ?_
        refine tr_loopK (α := {zz : Nat // zz ≤ p.funcs.length ∧ allI zz (fnK instrF p) = true}) (⟨(0), Nat.zero_le _, rfl⟩) (fun zz => [(6, eqP (.int .i64 (zz.1 : Int)))]) (fun zz => []) (fun zz => p.funcs.length - zz.1) hC (.cons (t := 1) rfl .nil) (.cons (t := 1) rfl .nil) rfl ?_ ?_ (fun zz => ?_)
        · try dsimp only [List.cons_append, List.nil_append]
          first | refine SubF.cons rfl ?_ | (refine SubF.ent rfl ?_ ?_; · repeat (first | exact Ents.nil | refine Ents.cons ?_ ?_ | refine Ent.tup ?_ | refine Ent.agg ?_ | exact Ent.row _ _ _ _ | exact Ent.nil _ _ | exact Ent.func _ | exact Ent.refl _ | exact Ent.of_eq rfl | refine Ent.cells ?_))
          exact SubF.nil
        · try dsimp only [List.cons_append, List.nil_append]
          repeat (first | exact SubL.nil | refine SubL.cons rfl ?_)
        · obtain ⟨k, hk1, hk2⟩ := zz
          dsimp only [List.cons_append, List.nil_append]
          refine tr_seq ?_
          refine tr_seq ?_
          refine tr_region (fun N15 hN => ?_)
          refine lx (op_move rfl) rfl ?_
          refine lx (op_fieldAddr rfl fl26_0 sz22) rfl ?_
          refine lx (op_bload_one (m := 1) rfl rfl ag22 rfl) rfl ?_
          first | refine lx (op_len rfl el22) rfl ?_ | refine lx (op_len_row rfl el22) rfl ?_ | refine lx (op_len_mv rfl el22) rfl ?_ | refine lx (op_len_nil rfl el22) rfl ?_
          refine lx (op_lss rfl rfl) rfl ?_
          refine lx_end ⟨by kernel_rfl, ?_⟩
          refine pe_then_normal ?_
          refine tr_sub hC (.cons (t := 1) rfl (.cons (t := 6) rfl (.cons (t := 90) rfl .nil))) (.cons (t := 1) rfl .nil) rfl ?_
          refine tr_cond rfl (fun h90 => ?_) (fun h90 => ?_)
          · (try simp only [Bool.and_eq_true, Bool.or_eq_true, Bool.and_eq_false_iff, Bool.or_eq_false_iff, decide_eq_true_eq, decide_eq_false_iff_not, Bool.not_eq_true', Bool.not_eq_false', List.length_map, ne_eq, Decidable.not_not, Int.not_lt, Int.not_le] at h90)
            refine tr_skip ?_
            refine pe_then_normal ?_
            refine tr_sub hC (.cons (t := 1) rfl (.cons (t := 6) rfl .nil)) (.cons (t := 1) rfl .nil) rfl ?_
            refine tr_seq ?_
            refine tr_block ?_
            refine tr_seq ?_
            refine tr_seq ?_
            refine tr_drawn mixed (fun N17 hN => ?_)
            refine lx (op_bload (m := 1) rfl rfl ag26 sz26) rfl ?_
            refine lx (op_fieldAddr rfl fl26_0 sz22) rfl ?_
            refine lx (op_bload_one (m := 1) rfl rfl ag22 rfl) rfl ?_
            refine lx (op_move rfl) rfl ?_
            refine lx (op_index rfl rfl el22 sz66 rfl (gt_at (d := fu0) (by omega))) rfl ?_
            first | refine lx (op_load_all rfl ag66 sz66) rfl ?_ | refine lx (op_load_agg rfl ag66 sz66 rfl) rfl ?_ | refine lx (op_bload (m := 1) rfl rfl ag66 sz66) rfl ?_ | refine lx (op_bload_part (m := 1) (qs := [_, _, _, _]) rfl rfl ag66 sz66 rfl rfl) rfl ?_
            first | refine lx (op_call (l := [(Go.Operand.tmp 93), (Go.Operand.tmp 98)]) (function_ok p (gt fu0 p.funcs k) (hb.codes _ (gt_mem (by omega)))) (.cons rfl (.cons rfl .nil)) fn36) rfl ?_ | refine lx (op_call (l := [(Go.Operand.tmp 93), (Go.Operand.tmp 98)]) (function_ok p (gt fu0 p.funcs k) (hb.codes _ (gt_mem (by omega)))) (.ent rfl (by repeat (first | exact Ents.nil | refine Ents.cons ?_ ?_ | refine Ent.tup ?_ | refine Ent.agg ?_ | exact Ent.row _ _ _ _ | exact Ent.nil _ _ | exact Ent.func _ | exact Ent.refl _ | exact Ent.of_eq rfl | refine Ent.cells ?_)) (.ent rfl (by repeat (first | exact Ents.nil | refine Ents.cons ?_ ?_ | refine Ent.tup ?_ | refine Ent.agg ?_ | exact Ent.row _ _ _ _ | exact Ent.nil _ _ | exact Ent.func _ | exact Ent.refl _ | exact Ent.of_eq rfl | refine Ent.cells ?_)) .nil)) fn36) rfl ?_
            first | refine lx (op_not rfl) rfl ?_ | refine lx (op_not_b rfl) rfl ?_
            refine lx_end ⟨by kernel_rfl, ?_⟩
            refine pe_then_normal ?_
            refine tr_sub hC (.cons (t := 1) rfl (.cons (t := 6) rfl (.cons (t := 100) rfl .nil))) (.cons (t := 1) rfl .nil) rfl ?_
            refine tr_cond rfl (fun h100 => ?_) (fun h100 => ?_)
            · have hno := prog_f hh (fn_no1 (ins := instrF) (k := k) (by omega) (by simpa using h100))
              refine tr_seq ?_
              refine tr_region (fun N18 hN => ?_)
              refine lx (op_assign rfl) rfl ?_
              refine lx_end ⟨by kernel_rfl, ?_⟩
              refine pe_then_normal ?_
              refine tr_sub hC (.cons (t := 2) rfl .nil) .nil rfl ?_
              refine tr_ret ?_
              refine pe_then_ret ?_
              refine pe_block_ret ?_
              refine pe_then_ret ?_
              refine pe_then_ret ?_
              refine pe_block_ret ?_
              refine pe_then_ret ?_
              refine pe_ret1 rfl hO rfl (.tmp rfl .nil) ?_
              rw [hno]
              repeat (first | exact Ents.nil | refine Ents.cons ?_ ?_ | refine Ent.tup ?_ | refine Ent.agg ?_ | exact Ent.row _ _ _ _ | exact Ent.nil _ _ | exact Ent.func _ | exact Ent.refl _ | exact Ent.of_eq rfl | refine Ent.cells ?_)
            · have hf1 : functionF instrF p (gt fu0 p.funcs k) = true := by simpa using h100
              refine tr_skip ?_
              refine pe_then_normal ?_
              refine tr_sub hC (.cons (t := 1) rfl (.cons (t := 6) rfl .nil)) (.cons (t := 1) rfl .nil) rfl ?_
              refine tr_seq ?_
              refine tr_region (fun N19 hN => ?_)
              refine lx (op_assign rfl) rfl ?_
              refine lx_end ⟨by kernel_rfl, ?_⟩
              refine pe_then_normal ?_
              refine tr_sub hC (.cons (t := 1) rfl (.cons (t := 6) rfl (.cons (t := 7) rfl .nil))) (.cons (t := 1) rfl .nil) rfl ?_
              refine tr_block ?_
              refine tr_loopK (α := {zz : Nat // zz ≤ k ∧ allI zz (fun zz => !((gt fu0 p.funcs zz).name.toList == (gt fu0 p.funcs k).name.toList)) = true}) (⟨(0), Nat.zero_le _, rfl⟩) (fun zz => [(7, eqP (.int .i64 (zz.1 : Int)))]) (fun zz => []) (fun zz => k - zz.1) hC (.cons (t := 1) rfl (.cons (t := 6) rfl .nil)) (.cons (t := 1) rfl .nil) rfl ?_ ?_ (fun zz => ?_)
              · try dsimp only [List.cons_append, List.nil_append]
                first | refine SubF.cons rfl ?_ | (refine SubF.ent rfl ?_ ?_; · repeat (first | exact Ents.nil | refine Ents.cons ?_ ?_ | refine Ent.tup ?_ | refine Ent.agg ?_ | exact Ent.row _ _ _ _ | exact Ent.nil _ _ | exact Ent.func _ | exact Ent.refl _ | exact Ent.of_eq rfl | refine Ent.cells ?_))
                exact SubF.nil
              · try dsimp only [List.cons_append, List.nil_append]
                repeat (first | exact SubL.nil | refine SubL.cons rfl ?_)
              · obtain ⟨j, hj1, hj2⟩ := zz
                dsimp only [List.cons_append, List.nil_append]
                refine tr_seq ?_
                refine tr_seq ?_
                refine tr_region (fun N20 hN => ?_)
                refine lx (op_move rfl) rfl ?_
                refine lx (op_move rfl) rfl ?_
                refine lx (op_lss rfl rfl) rfl ?_
                refine lx_end ⟨by kernel_rfl, ?_⟩
                refine pe_then_normal ?_
                refine tr_sub hC (.cons (t := 1) rfl (.cons (t := 6) rfl (.cons (t := 7) rfl (.cons (t := 103) rfl .nil)))) (.cons (t := 1) rfl .nil) rfl ?_
                refine tr_cond rfl (fun h103 => ?_) (fun h103 => ?_)
                · (try simp only [Bool.and_eq_true, Bool.or_eq_true, Bool.and_eq_false_iff, Bool.or_eq_false_iff, decide_eq_true_eq, decide_eq_false_iff_not, Bool.not_eq_true', Bool.not_eq_false', List.length_map, ne_eq, Decidable.not_not, Int.not_lt, Int.not_le] at h103)
                  refine tr_skip ?_
                  refine pe_then_normal ?_
                  refine tr_sub hC (.cons (t := 1) rfl (.cons (t := 6) rfl (.cons (t := 7) rfl .nil))) (.cons (t := 1) rfl .nil) rfl ?_
                  refine tr_seq ?_
                  refine tr_block ?_
                  refine tr_seq ?_
                  refine tr_drawn mixed (fun N22 hN => ?_)
                  refine lx (op_fieldAddr rfl fl26_0 sz22) rfl ?_
                  refine lx (op_bload_one (m := 1) rfl rfl ag22 rfl) rfl ?_
                  refine lx (op_move rfl) rfl ?_
                  refine lx (op_index rfl rfl el22 sz66 rfl (gt_at (d := fu0) (by omega))) rfl ?_
                  first | refine lx (op_fieldAddr rfl fl66_0 sz9) rfl ?_ | refine lx (op_fieldCells rfl fl66_0 sz9) rfl ?_
                  first | refine lx (op_load_one rfl ag9 rfl) rfl ?_ | refine lx (op_bload_one (m := 1) rfl rfl ag9 rfl) rfl ?_
                  refine lx (op_fieldAddr rfl fl26_0 sz22) rfl ?_
                  refine lx (op_bload_one (m := 1) rfl rfl ag22 rfl) rfl ?_
                  refine lx (op_move rfl) rfl ?_
                  refine lx (op_index rfl rfl el22 sz66 rfl (gt_at (d := fu0) (by omega))) rfl ?_
                  first | refine lx (op_fieldAddr rfl fl66_0 sz9) rfl ?_ | refine lx (op_fieldCells rfl fl66_0 sz9) rfl ?_
                  first | refine lx (op_load_one rfl ag9 rfl) rfl ?_ | refine lx (op_bload_one (m := 1) rfl rfl ag9 rfl) rfl ?_
                  refine lx (op_eql_str st9 rfl rfl) rfl ?_
                  refine lx_end ⟨by kernel_rfl, ?_⟩
                  refine pe_then_normal ?_
                  refine tr_sub hC (.cons (t := 1) rfl (.cons (t := 6) rfl (.cons (t := 7) rfl (.cons (t := 118) rfl .nil)))) (.cons (t := 1) rfl .nil) rfl ?_
                  refine tr_cond rfl (fun h118 => ?_) (fun h118 => ?_)
                  · have hno := prog_f hh (fn_no2 (ins := instrF) (j := j) (k := k) (by omega) (by omega) h118)
                    refine tr_seq ?_
                    refine tr_region (fun N23 hN => ?_)
                    refine lx (op_assign rfl) rfl ?_
                    refine lx_end ⟨by kernel_rfl, ?_⟩
                    refine pe_then_normal ?_
                    refine tr_sub hC (.cons (t := 2) rfl .nil) .nil rfl ?_
                    refine tr_ret ?_
                    refine pe_block_ret ?_
                    refine pe_then_ret ?_
                    refine pe_then_ret ?_
                    refine pe_block_ret ?_
                    refine pe_block_ret ?_
                    refine pe_then_ret ?_
                    refine pe_then_ret ?_
                    refine pe_block_ret ?_
                    refine pe_then_ret ?_
                    refine pe_ret1 rfl hO rfl (.tmp rfl .nil) ?_
                    rw [hno]
                    repeat (first | exact Ents.nil | refine Ents.cons ?_ ?_ | refine Ent.tup ?_ | refine Ent.agg ?_ | exact Ent.row _ _ _ _ | exact Ent.nil _ _ | exact Ent.func _ | exact Ent.refl _ | exact Ent.of_eq rfl | refine Ent.cells ?_)
                  · have hst : (fun j => !((gt fu0 p.funcs j).name.toList == (gt fu0 p.funcs k).name.toList)) j = true := by
                      dsimp only
                      rw [h118]
                      rfl
                    refine tr_skip ?_
                    refine pe_block_normal ?_
                    refine pe_then_normal ?_
                    refine tr_sub hC (.cons (t := 1) rfl (.cons (t := 6) rfl (.cons (t := 7) rfl .nil))) (.cons (t := 1) rfl .nil) rfl ?_
                    refine tr_region (fun N21 hN => ?_)
                    refine lx (op_move rfl) rfl ?_
                    refine lx (op_add rfl rfl (by omega)) rfl ?_
                    refine lx (op_assign rfl) rfl ?_
                    refine lx_end ⟨by kernel_rfl, ?_⟩
                    refine pe_round (⟨(j + 1), by omega, allI_step hj2 hst⟩) (by dsimp only; omega) (pe_st hC ?_ ?_ rfl)
                    · try dsimp only [List.cons_append, List.nil_append]
                      first | refine SubF.cons rfl ?_ | (refine SubF.ent rfl ?_ ?_; · repeat (first | exact Ents.nil | refine Ents.cons ?_ ?_ | refine Ent.tup ?_ | refine Ent.agg ?_ | exact Ent.row _ _ _ _ | exact Ent.nil _ _ | exact Ent.func _ | exact Ent.refl _ | exact Ent.of_eq rfl | refine Ent.cells ?_))
                      first | refine SubF.cons rfl ?_ | (refine SubF.ent rfl ?_ ?_; · repeat (first | exact Ents.nil | refine Ents.cons ?_ ?_ | refine Ent.tup ?_ | refine Ent.agg ?_ | exact Ent.row _ _ _ _ | exact Ent.nil _ _ | exact Ent.func _ | exact Ent.refl _ | exact Ent.of_eq rfl | refine Ent.cells ?_))
                      first | refine SubF.cons rfl ?_ | (refine SubF.ent rfl ?_ ?_; · repeat (first | exact Ents.nil | refine Ents.cons ?_ ?_ | refine Ent.tup ?_ | refine Ent.agg ?_ | exact Ent.row _ _ _ _ | exact Ent.nil _ _ | exact Ent.func _ | exact Ent.refl _ | exact Ent.of_eq rfl | refine Ent.cells ?_))
                      exact SubF.nil
                    · try dsimp only [List.cons_append, List.nil_append]
                      repeat (first | exact SubL.nil | refine SubL.cons rfl ?_)
                · (try simp only [Bool.and_eq_true, Bool.or_eq_true, Bool.and_eq_false_iff, Bool.or_eq_false_iff, decide_eq_true_eq, decide_eq_false_iff_not, Bool.not_eq_true', Bool.not_eq_false', List.length_map, ne_eq, Decidable.not_not, Int.not_lt, Int.not_le] at h103)
                  have hyes := fn_yes hf1 (allI_end hj2 (by omega : k ≤ j))
                  refine tr_exit ?_
                  refine pe_then_exit ?_
                  refine pe_then_exit ?_
                  refine pe_block_eq ?_
                  refine pe_block_normal ?_
                  refine pe_then_normal ?_
                  refine tr_sub hC (.cons (t := 1) rfl (.cons (t := 6) rfl .nil)) (.cons (t := 1) rfl .nil) rfl ?_
                  refine tr_region (fun N16 hN => ?_)
                  refine lx (op_move rfl) rfl ?_
                  refine lx (op_add rfl rfl (by omega)) rfl ?_
                  refine lx (op_assign rfl) rfl ?_
                  refine lx_end ⟨by kernel_rfl, ?_⟩
                  refine pe_round (⟨(k + 1), by omega, allI_step hk2 hyes⟩) (by dsimp only; omega) (pe_st hC ?_ ?_ rfl)
                  · try dsimp only [List.cons_append, List.nil_append]
                    first | refine SubF.cons rfl ?_ | (refine SubF.ent rfl ?_ ?_; · repeat (first | exact Ents.nil | refine Ents.cons ?_ ?_ | refine Ent.tup ?_ | refine Ent.agg ?_ | exact Ent.row _ _ _ _ | exact Ent.nil _ _ | exact Ent.func _ | exact Ent.refl _ | exact Ent.of_eq rfl | refine Ent.cells ?_))
                    first | refine SubF.cons rfl ?_ | (refine SubF.ent rfl ?_ ?_; · repeat (first | exact Ents.nil | refine Ents.cons ?_ ?_ | refine Ent.tup ?_ | refine Ent.agg ?_ | exact Ent.row _ _ _ _ | exact Ent.nil _ _ | exact Ent.func _ | exact Ent.refl _ | exact Ent.of_eq rfl | refine Ent.cells ?_))
                    exact SubF.nil
                  · try dsimp only [List.cons_append, List.nil_append]
                    repeat (first | exact SubL.nil | refine SubL.cons rfl ?_)
          · (try simp only [Bool.and_eq_true, Bool.or_eq_true, Bool.and_eq_false_iff, Bool.or_eq_false_iff, decide_eq_true_eq, decide_eq_false_iff_not, Bool.not_eq_true', Bool.not_eq_false', List.length_map, ne_eq, Decidable.not_not, Int.not_lt, Int.not_le] at h90)
            have hfin := prog_y hh hgl (allI_end hk2 (by omega : p.funcs.length ≤ k))
            refine tr_exit ?_
            refine pe_then_exit ?_
            refine pe_then_exit ?_
            refine pe_block_eq ?_
            refine pe_then_normal ?_
            refine tr_sub hC .nil .nil rfl ?_
            refine tr_seq ?_
            refine tr_region (fun N24 hN => ?_)
            refine lx (op_assign rfl) rfl ?_
            refine lx_end ⟨by kernel_rfl, ?_⟩
            refine pe_then_normal ?_
            refine tr_sub hC (.cons (t := 2) rfl .nil) .nil rfl ?_
            refine tr_ret ?_
            refine pe_ret1 rfl hO rfl (.tmp rfl .nil) ?_
            rw [hfin]
            repeat (first | exact Ents.nil | refine Ents.cons ?_ ?_ | refine Ent.tup ?_ | refine Ent.agg ?_ | exact Ent.row _ _ _ _ | exact Ent.nil _ _ | exact Ent.func _ | exact Ent.refl _ | exact Ent.of_eq rfl | refine Ent.cells ?_)
end Go.Proofs.Ythiknhmoefbanaa


set_option linter.unusedVariables false
set_option linter.unusedSimpArgs false
namespace Go.Proofs.Ythiknhmoefbanaa
open Go.AL Go.Ch Go.Hp Go.RowKit
theorem fn13 : fnB Try.prog 13 = true := by kernel_rfl
theorem fn14 : fnB Try.prog 14 = true := by kernel_rfl
theorem fn15 : fnB Try.prog 15 = true := by kernel_rfl
theorem fn21 : fnB Try.prog 21 = true := by kernel_rfl
theorem fn23 : fnB Try.prog 23 = true := by kernel_rfl
theorem fn25 : fnB Try.prog 25 = true := by kernel_rfl
theorem fn27 : fnB Try.prog 27 = true := by kernel_rfl
theorem fn29 : fnB Try.prog 29 = true := by kernel_rfl
theorem fn34 : fnB Try.prog 34 = true := by kernel_rfl
theorem fs26 : sizesB Try.prog 26 = true := by kernel_rfl
theorem fs66 : sizesB Try.prog 66 = true := by kernel_rfl
theorem fs80 : sizesB Try.prog 80 = true := by kernel_rfl
theorem ze26 : zeroB Try.prog 26 = some (some (.agg #[.slice none 0 0, .slice none 0 0, .slice none 0 0, .int .i64 0])) := by kernel_rfl
abbrev exI : In := ⟨30, -1, 0, 0, 0⟩
abbrev exM : Fu := ⟨⟨#[109, 97, 105, 110]⟩, 0, 1, [exI]⟩
abbrev exF : Fu := ⟨⟨#[102]⟩, 2, 3, [exI]⟩
abbrev exP : Pg := ⟨[exM, exF], [], [], 0⟩
abbrev aF (l : Bool) (r : V) (ds : List Df) (z : V) : Fm := ⟨1, 0, [⟨0, 5, 0⟩, ⟨0, 6, 0⟩, z], -1, ds, l, r⟩
abbrev aG1 : Gr := ⟨0, 0, 0, [aF false v0 [] v0]⟩
abbrev aG2 : Gr := ⟨0, 0, 0, [aF false v0 [⟨0, []⟩] v0]⟩
abbrev aG3 : Gr := ⟨0, 0, 0, [aF true ⟨0, 1, 0⟩ [] v0, ⟨0, 0, [v0], -1, [], false, v0⟩]⟩
abbrev aG4 : Gr := ⟨2, 0, 0, []⟩
abbrev aG5 : Gr := ⟨0, 0, 0, [aF false v0 [] ⟨0, 9, 0⟩]⟩
theorem bdG_ble {n : Nat} {g : Gr} (h : (Nat.ble g.frames.length n && g.frames.all (fun f => Nat.ble f.regs.length n && Nat.ble f.defers.length n && f.defers.all fun d => Nat.ble d.args.length n)) = true) : BdG n g := by
  simp only [Bool.and_eq_true, Nat.ble_eq, List.all_eq_true] at h
  exact ⟨h.1, fun f hf => ⟨(h.2 f hf).1.1, (h.2 f hf).1.2, (h.2 f hf).2⟩⟩
theorem exPOK : POK exP := by
  intro f hf
  simp only [exP, List.mem_cons, List.not_mem_nil, or_false] at hf
  rcases hf with rfl | rfl <;> decide
theorem Enter_a : FnP Try.prog 17 [aggP exP.ps, aggP gr0.ps, eqP (.int .i64 1), slP vp 3 [⟨0, 5, 0⟩, ⟨0, 6, 0⟩], eqP (.int .i64 (-1))] (tupP [aggP aG1.ps, eqP (.int .i64 0)]) := by
  have := Enter_ok exP exPOK gr0 (bdG_ble rfl) (by decide) 1 [⟨0, 5, 0⟩, ⟨0, 6, 0⟩] (-1)
  rwa [show enterF exP gr0 1 [⟨0, 5, 0⟩, ⟨0, 6, 0⟩] (-1) = (aG1, 0) by decide] at this
theorem Reg_a (g : Gr) (r : Int) (v : V) (hb : BdG 1048576 g) (hn : g.frames.length ≤ 100000) (h : regF g r = v) : FnP Try.prog 27 [aggP g.ps, eqP (.int .i64 r)] (aggP (vp v)) := by
  have := Reg_ok g hb hn r
  rwa [h] at this
theorem Defer_a : FnP Try.prog 23 [aggP aG1.ps, aggP (Df.ps ⟨0, []⟩)] (aggP aG2.ps) := by
  have := Defer_ok aG1 (bdG_ble rfl) (by decide) ⟨0, []⟩ (by decide)
  rwa [show deferF aG1 ⟨0, []⟩ = aG2 by decide] at this
theorem Leave_a (g g' : Gr) (v : V) (hb : BdG 1048576 g) (hn : g.frames.length ≤ 100000) (h : leaveF exP g v = g') : FnP Try.prog 21 [aggP exP.ps, aggP g.ps, aggP (vp v)] (aggP g'.ps) := by
  have := Leave_ok exP exPOK g hb hn v
  rwa [h] at this
theorem Set_a : FnP Try.prog 25 [aggP aG1.ps, eqP (.int .i64 2), aggP (vp ⟨0, 9, 0⟩)] (aggP aG5.ps) := by
  have := Set_ok aG1 (bdG_ble rfl) (by decide) 2 ⟨0, 9, 0⟩
  rwa [show setF aG1 2 ⟨0, 9, 0⟩ = aG5 by decide] at this
theorem example_ok  : FnP Try.prog 34 [] (aggP exP.ps) := by
  refine fn_pure' Try.func34 rfl Try.ntmps34 rfl ?_
  intro σ0 M ex Rf R hC hO
  simp only [frameOf, tokOf]
  refine tr_seq ?_
  refine tr_region (fun N0 hN => ?_)
  refine lxn (op_alloc (m := 0) (k := 0) (ps := [eqP (.slice none 0 0), eqP (.slice none 0 0), eqP (.slice none 0 0), eqP (.int .i64 0)]) ze26 rfl rfl (by first | exact hC.low _ (by decide) | rfl)) rfl ?_
  refine lx_end ⟨by kernel_rfl, ?_⟩
  refine pe_then_normal ?_
  refine tr_sub hC (.cons (t := 0) rfl .nil) (.cons (t := 0) rfl .nil) rfl ?_
  refine tr_seq ?_
  refine tr_region (fun N1 hN => ?_)
  refine lx (OpJ.ent (op_build (qs := [_, _, _, _, _]) (parts := [(0, (Go.Operand.const (Go.Value.int Go.IntKind.i64 30))), (1, (Go.Operand.const (Go.Value.int Go.IntKind.i64 (-1))))]) ze80 rfl rfl fs80 (.cons rfl (.one (by (first | exact One.eq rfl | exact One.mv _ _ _ _ _ | exact One.cl _ _ _ | exact One.map _ | exact One.sl _ _ _ | exact One.row _ _ _ _ | exact One.msl _ _ _ _ | exact One.ptr _ _ | exact One.b _ | exact One.cells _))) fl80_0 sz3 rfl (.cons rfl (.one (by (first | exact One.eq rfl | exact One.mv _ _ _ _ _ | exact One.cl _ _ _ | exact One.map _ | exact One.sl _ _ _ | exact One.row _ _ _ _ | exact One.msl _ _ _ _ | exact One.ptr _ _ | exact One.b _ | exact One.cells _))) fl80_1 sz3 rfl .nil)) rfl rfl) (show Ent _ (aggP (In.ps exI)) from (by repeat (first | exact Ents.nil | refine Ents.cons ?_ ?_ | refine Ent.tup ?_ | refine Ent.agg ?_ | exact Ent.row _ _ _ _ | exact Ent.nil _ _ | exact Ent.func _ | exact Ent.refl _ | exact Ent.of_eq rfl | refine Ent.cells ?_)))) rfl ?_
  refine lx (op_buildSlice (f := In.ps) (xs := [exI]) (l := [(0, (Go.Operand.tmp 2))]) ze80 rfl rfl (by decide) el64 sz80 In.len (.cons rfl (.agg rfl) .nil) rfl (by decide)) rfl ?_
  refine lx (op_assign rfl) rfl ?_
  refine lx_end ⟨by kernel_rfl, ?_⟩
  refine pe_then_normal ?_
  refine tr_sub hC (.cons (t := 0) rfl (.cons (t := 1) rfl .nil)) (.cons (t := 0) rfl .nil) rfl ?_
  refine tr_seq ?_
  refine tr_region (fun N2 hN => ?_)
  refine lx (op_move rfl) rfl ?_
  refine lx (OpJ.ent (op_build (qs := [_, _, _, _]) (parts := [(0, (Go.Operand.const (Go.Value.string (ByteArray.mk #[109, 97, 105, 110])))), (2, (Go.Operand.const (Go.Value.int Go.IntKind.i64 1))), (3, (Go.Operand.tmp 4))]) ze66 rfl rfl fs66 (.cons rfl (.one (by (first | exact One.eq rfl | exact One.mv _ _ _ _ _ | exact One.cl _ _ _ | exact One.map _ | exact One.sl _ _ _ | exact One.row _ _ _ _ | exact One.msl _ _ _ _ | exact One.ptr _ _ | exact One.b _ | exact One.cells _))) fl66_0 sz9 rfl (.cons rfl (.one (by (first | exact One.eq rfl | exact One.mv _ _ _ _ _ | exact One.cl _ _ _ | exact One.map _ | exact One.sl _ _ _ | exact One.row _ _ _ _ | exact One.msl _ _ _ _ | exact One.ptr _ _ | exact One.b _ | exact One.cells _))) fl66_2 sz3 rfl (.cons rfl (.one (by (first | exact One.eq rfl | exact One.mv _ _ _ _ _ | exact One.cl _ _ _ | exact One.map _ | exact One.sl _ _ _ | exact One.row _ _ _ _ | exact One.msl _ _ _ _ | exact One.ptr _ _ | exact One.b _ | exact One.cells _))) fl66_3 sz64 rfl .nil))) rfl rfl) (show Ent _ (aggP (Fu.ps exM)) from (by repeat (first | exact Ents.nil | refine Ents.cons ?_ ?_ | refine Ent.tup ?_ | refine Ent.agg ?_ | exact Ent.row _ _ _ _ | exact Ent.nil _ _ | exact Ent.func _ | exact Ent.refl _ | exact Ent.of_eq rfl | refine Ent.cells ?_)))) rfl ?_
  refine lx (op_move rfl) rfl ?_
  refine lx (OpJ.ent (op_build (qs := [_, _, _, _]) (parts := [(0, (Go.Operand.const (Go.Value.string (ByteArray.mk #[102])))), (1, (Go.Operand.const (Go.Value.int Go.IntKind.i64 2))), (2, (Go.Operand.const (Go.Value.int Go.IntKind.i64 3))), (3, (Go.Operand.tmp 6))]) ze66 rfl rfl fs66 (.cons rfl (.one (by (first | exact One.eq rfl | exact One.mv _ _ _ _ _ | exact One.cl _ _ _ | exact One.map _ | exact One.sl _ _ _ | exact One.row _ _ _ _ | exact One.msl _ _ _ _ | exact One.ptr _ _ | exact One.b _ | exact One.cells _))) fl66_0 sz9 rfl (.cons rfl (.one (by (first | exact One.eq rfl | exact One.mv _ _ _ _ _ | exact One.cl _ _ _ | exact One.map _ | exact One.sl _ _ _ | exact One.row _ _ _ _ | exact One.msl _ _ _ _ | exact One.ptr _ _ | exact One.b _ | exact One.cells _))) fl66_1 sz3 rfl (.cons rfl (.one (by (first | exact One.eq rfl | exact One.mv _ _ _ _ _ | exact One.cl _ _ _ | exact One.map _ | exact One.sl _ _ _ | exact One.row _ _ _ _ | exact One.msl _ _ _ _ | exact One.ptr _ _ | exact One.b _ | exact One.cells _))) fl66_2 sz3 rfl (.cons rfl (.one (by (first | exact One.eq rfl | exact One.mv _ _ _ _ _ | exact One.cl _ _ _ | exact One.map _ | exact One.sl _ _ _ | exact One.row _ _ _ _ | exact One.msl _ _ _ _ | exact One.ptr _ _ | exact One.b _ | exact One.cells _))) fl66_3 sz64 rfl .nil)))) rfl rfl) (show Ent _ (aggP (Fu.ps exF)) from (by repeat (first | exact Ents.nil | refine Ents.cons ?_ ?_ | refine Ent.tup ?_ | refine Ent.agg ?_ | exact Ent.row _ _ _ _ | exact Ent.nil _ _ | exact Ent.func _ | exact Ent.refl _ | exact Ent.of_eq rfl | refine Ent.cells ?_)))) rfl ?_
  refine lx (op_buildSlice (f := Fu.ps) (xs := [exM, exF]) (l := [(0, (Go.Operand.tmp 5)), (1, (Go.Operand.tmp 7))]) ze66 rfl rfl (by decide) el22 sz66 Fu.len (.cons rfl (.agg rfl) (.cons rfl (.agg rfl) .nil)) rfl (by decide)) rfl ?_
  refine lx (OpJ.ent (op_build (qs := [_, _, _, _]) (parts := [(0, (Go.Operand.tmp 8))]) ze26 rfl rfl fs26 (.cons rfl (.one (by (first | exact One.eq rfl | exact One.mv _ _ _ _ _ | exact One.cl _ _ _ | exact One.map _ | exact One.sl _ _ _ | exact One.row _ _ _ _ | exact One.msl _ _ _ _ | exact One.ptr _ _ | exact One.b _ | exact One.cells _))) fl26_0 sz22 rfl .nil) rfl rfl) (show Ent _ (aggP exP.ps) from (by repeat (first | exact Ents.nil | refine Ents.cons ?_ ?_ | refine Ent.tup ?_ | refine Ent.agg ?_ | exact Ent.row _ _ _ _ | exact Ent.nil _ _ | exact Ent.func _ | exact Ent.refl _ | exact Ent.of_eq rfl | refine Ent.cells ?_)))) rfl ?_
  refine lxr (op_store_all (m := 0) rfl rfl rfl (.agg rfl) sz26 rfl) rfl ?_
  refine lx_end ⟨by kernel_rfl, ?_⟩
  refine pe_then_normal ?_
  refine tr_sub hC (.cons (t := 0) rfl .nil) (.cons (t := 0) rfl .nil) rfl ?_
  refine tr_ret ?_
  refine pe_ret1 rfl hO rfl (.cell (m := 0) rfl rfl ag26 sz26 .nil) ?_
  repeat (first | exact Ents.nil | refine Ents.cons ?_ ?_ | refine Ent.tup ?_ | refine Ent.agg ?_ | exact Ent.row _ _ _ _ | exact Ent.nil _ _ | exact Ent.func _ | exact Ent.refl _ | exact Ent.of_eq rfl | refine Ent.cells ?_)
theorem awake_ok  : FnP Try.prog 12 [] (eqP (.bool true)) := by
  refine fn_pure' Try.func12 rfl Try.ntmps12 rfl ?_
  intro σ0 M ex Rf R hC hO
  simp only [frameOf, tokOf]
  refine tr_seq ?_
  refine tr_region (fun N0 hN => ?_)
  refine lx (op_assign rfl) rfl ?_
  refine lx_end ⟨by kernel_rfl, ?_⟩
  refine pe_then_normal ?_
  refine tr_sub hC .nil .nil rfl ?_
  refine tr_seq ?_
  refine tr_region (fun N1 hN => ?_)
  first | refine lx (op_call (l := []) (example_ok) .nil fn34) rfl ?_ | refine lx (op_call (l := []) (example_ok) .nil fn34) rfl ?_
  refine lxn (op_alloc (m := 1) (k := 1) (ps := [eqP (.slice none 0 0), eqP (.slice none 0 0), eqP (.slice none 0 0), eqP (.int .i64 0)]) ze26 rfl rfl (by first | exact hC.low _ (by decide) | rfl)) rfl ?_
  refine lxr (op_store_all (m := 1) rfl rfl rfl (.agg rfl) sz26 rfl) rfl ?_
  refine lx_end ⟨by kernel_rfl, ?_⟩
  refine pe_then_normal ?_
  refine tr_sub hC (.cons (t := 1) rfl .nil) (.cons (t := 1) rfl .nil) rfl ?_
  refine tr_seq ?_
  refine tr_region (fun N2 hN => ?_)
  refine lx (op_bload (m := 1) rfl rfl ag26 sz26) rfl ?_
  refine lx (OpJ.ent (op_build (qs := [_, _, _, _]) (parts := []) ze29 rfl rfl fs29 .nil rfl rfl) (show Ent _ (aggP gr0.ps) from (by repeat (first | exact Ents.nil | refine Ents.cons ?_ ?_ | refine Ent.tup ?_ | refine Ent.agg ?_ | exact Ent.row _ _ _ _ | exact Ent.nil _ _ | exact Ent.func _ | exact Ent.refl _ | exact Ent.of_eq rfl | refine Ent.cells ?_)))) rfl ?_
  refine lx (OpJ.ent (op_build (qs := [_, _, _]) (parts := [(1, (Go.Operand.const (Go.Value.int Go.IntKind.i64 5)))]) ze43 rfl rfl fs43 (.cons rfl (.one (by (first | exact One.eq rfl | exact One.mv _ _ _ _ _ | exact One.cl _ _ _ | exact One.map _ | exact One.sl _ _ _ | exact One.row _ _ _ _ | exact One.msl _ _ _ _ | exact One.ptr _ _ | exact One.b _ | exact One.cells _))) fl43_1 sz3 rfl .nil) rfl rfl) (show Ent _ (aggP (vp ⟨0, 5, 0⟩)) from (by repeat (first | exact Ents.nil | refine Ents.cons ?_ ?_ | refine Ent.tup ?_ | refine Ent.agg ?_ | exact Ent.row _ _ _ _ | exact Ent.nil _ _ | exact Ent.func _ | exact Ent.refl _ | exact Ent.of_eq rfl | refine Ent.cells ?_)))) rfl ?_
  refine lx (OpJ.ent (op_build (qs := [_, _, _]) (parts := [(1, (Go.Operand.const (Go.Value.int Go.IntKind.i64 6)))]) ze43 rfl rfl fs43 (.cons rfl (.one (by (first | exact One.eq rfl | exact One.mv _ _ _ _ _ | exact One.cl _ _ _ | exact One.map _ | exact One.sl _ _ _ | exact One.row _ _ _ _ | exact One.msl _ _ _ _ | exact One.ptr _ _ | exact One.b _ | exact One.cells _))) fl43_1 sz3 rfl .nil) rfl rfl) (show Ent _ (aggP (vp ⟨0, 6, 0⟩)) from (by repeat (first | exact Ents.nil | refine Ents.cons ?_ ?_ | refine Ent.tup ?_ | refine Ent.agg ?_ | exact Ent.row _ _ _ _ | exact Ent.nil _ _ | exact Ent.func _ | exact Ent.refl _ | exact Ent.of_eq rfl | refine Ent.cells ?_)))) rfl ?_
  refine lx (op_buildSlice (f := vp) (xs := [⟨0, 5, 0⟩, ⟨0, 6, 0⟩]) (l := [(0, (Go.Operand.tmp 10)), (1, (Go.Operand.tmp 11))]) ze43 rfl rfl (by decide) el33 sz43 vp_len (.cons rfl (.agg rfl) (.cons rfl (.agg rfl) .nil)) rfl (by decide)) rfl ?_
  first | refine lx (op_call (l := [(Go.Operand.tmp 8), (Go.Operand.tmp 9), (Go.Operand.const (Go.Value.int Go.IntKind.i64 1)), (Go.Operand.tmp 12), (Go.Operand.const (Go.Value.int Go.IntKind.i64 (-1)))]) (Enter_a) (.cons rfl (.cons rfl (.cons rfl (.cons rfl (.cons rfl .nil))))) fn17) rfl ?_ | refine lx (op_call (l := [(Go.Operand.tmp 8), (Go.Operand.tmp 9), (Go.Operand.const (Go.Value.int Go.IntKind.i64 1)), (Go.Operand.tmp 12), (Go.Operand.const (Go.Value.int Go.IntKind.i64 (-1)))]) (Enter_a) (.ent rfl (by repeat (first | exact Ents.nil | refine Ents.cons ?_ ?_ | refine Ent.tup ?_ | refine Ent.agg ?_ | exact Ent.row _ _ _ _ | exact Ent.nil _ _ | exact Ent.func _ | exact Ent.refl _ | exact Ent.of_eq rfl | refine Ent.cells ?_)) (.ent rfl (by repeat (first | exact Ents.nil | refine Ents.cons ?_ ?_ | refine Ent.tup ?_ | refine Ent.agg ?_ | exact Ent.row _ _ _ _ | exact Ent.nil _ _ | exact Ent.func _ | exact Ent.refl _ | exact Ent.of_eq rfl | refine Ent.cells ?_)) (.ent rfl (by repeat (first | exact Ents.nil | refine Ents.cons ?_ ?_ | refine Ent.tup ?_ | refine Ent.agg ?_ | exact Ent.row _ _ _ _ | exact Ent.nil _ _ | exact Ent.func _ | exact Ent.refl _ | exact Ent.of_eq rfl | refine Ent.cells ?_)) (.ent rfl (by repeat (first | exact Ents.nil | refine Ents.cons ?_ ?_ | refine Ent.tup ?_ | refine Ent.agg ?_ | exact Ent.row _ _ _ _ | exact Ent.nil _ _ | exact Ent.func _ | exact Ent.refl _ | exact Ent.of_eq rfl | refine Ent.cells ?_)) (.ent rfl (by repeat (first | exact Ents.nil | refine Ents.cons ?_ ?_ | refine Ent.tup ?_ | refine Ent.agg ?_ | exact Ent.row _ _ _ _ | exact Ent.nil _ _ | exact Ent.func _ | exact Ent.refl _ | exact Ent.of_eq rfl | refine Ent.cells ?_)) .nil))))) fn17) rfl ?_
  refine lx (op_move rfl) rfl ?_
  refine lx (op_extract rfl rfl) rfl ?_
  refine lx (op_extract rfl rfl) rfl ?_
  refine lxn (op_alloc (m := 2) (k := 2) (ps := [eqP (.int .i64 0), eqP (.int .i64 0), eqP (.int .i64 0), eqP (.slice none 0 0)]) ze29 rfl rfl (by first | exact hC.low _ (by decide) | rfl)) rfl ?_
  refine lxr (op_store_all (m := 2) rfl rfl rfl (.agg rfl) sz29 rfl) rfl ?_
  refine lx (op_assign rfl) rfl ?_
  refine lx_end ⟨by kernel_rfl, ?_⟩
  refine pe_then_normal ?_
  refine tr_sub hC (.cons (t := 1) rfl (.cons (t := 2) rfl (.cons (t := 3) rfl .nil))) (.cons (t := 1) rfl (.cons (t := 2) rfl .nil)) rfl ?_
  refine tr_seq ?_
  refine tr_seq ?_
  refine tr_region (fun N3 hN => ?_)
  refine lx (op_move rfl) rfl ?_
  refine lx (op_neq rfl rfl) rfl ?_
  refine lx (op_move rfl) rfl ?_
  refine lxs rfl rfl rfl guard_eq (.cons (t := 2) rfl (fun _ => Ent.refl _) .nil) (op_fieldAddr rfl fl29_3 sz27) rfl ?_
  refine lxs rfl rfl rfl guard_eq (.cons (t := 19) rfl (fun h => entW h) .nil) (op_bload_one (m := 2) rfl rfl ag27 rfl) rfl ?_
  first | refine lxs rfl rfl rfl guard_eq (.cons (t := 20) rfl (fun h => entW h) .nil) (op_len rfl el27) rfl ?_ | refine lxs rfl rfl rfl guard_eq (.cons (t := 20) rfl (fun h => entW h) .nil) (op_len_row rfl el27) rfl ?_ | refine lxs rfl rfl rfl guard_eq (.cons (t := 20) rfl (fun h => entW h) .nil) (op_len_mv rfl el27) rfl ?_ | refine lxs rfl rfl rfl guard_eq (.cons (t := 20) rfl (fun h => entW h) .nil) (op_len_nil rfl el27) rfl ?_
  refine lxs rfl rfl rfl guard_eq (.cons (t := 21) rfl (fun h => entW h) .nil) (op_neq rfl rfl) rfl ?_
  refine lx (op_pick_or rfl rfl) rfl ?_
  refine lx (op_move rfl) rfl ?_
  refine lxs rfl rfl rfl guard_eq (.cons (t := 2) rfl (fun _ => Ent.refl _) .nil) (op_bload (m := 2) rfl rfl ag29 sz29) rfl ?_
  first | refine lxs rfl rfl rfl guard_eq (.cons (t := 25) rfl (fun h => entW h) .nil) (op_call (l := [(Go.Operand.tmp 25), (Go.Operand.const (Go.Value.int Go.IntKind.i64 0))]) (Reg_a aG1 0 ⟨0, 5, 0⟩ (bdG_ble rfl) (by decide) (by decide)) (.cons rfl (.cons rfl .nil)) fn27) rfl ?_ | refine lxs rfl rfl rfl guard_eq (.cons (t := 25) rfl (fun h => entW h) .nil) (op_call (l := [(Go.Operand.tmp 25), (Go.Operand.const (Go.Value.int Go.IntKind.i64 0))]) (Reg_a aG1 0 ⟨0, 5, 0⟩ (bdG_ble rfl) (by decide) (by decide)) (.ent rfl (by repeat (first | exact Ents.nil | refine Ents.cons ?_ ?_ | refine Ent.tup ?_ | refine Ent.agg ?_ | exact Ent.row _ _ _ _ | exact Ent.nil _ _ | exact Ent.func _ | exact Ent.refl _ | exact Ent.of_eq rfl | refine Ent.cells ?_)) (.ent rfl (by repeat (first | exact Ents.nil | refine Ents.cons ?_ ?_ | refine Ent.tup ?_ | refine Ent.agg ?_ | exact Ent.row _ _ _ _ | exact Ent.nil _ _ | exact Ent.func _ | exact Ent.refl _ | exact Ent.of_eq rfl | refine Ent.cells ?_)) .nil)) fn27) rfl ?_
  refine lxs rfl rfl rfl guard_eq (.cons (t := 26) rfl (fun h => entW h) .nil) (op_field_one rfl fl43_1 ag3 rfl) rfl ?_
  refine lxs rfl rfl rfl guard_eq (.cons (t := 27) rfl (fun h => entW h) .nil) (op_neq rfl rfl) rfl ?_
  refine lx (op_pick_or rfl rfl) rfl ?_
  refine lx (op_move rfl) rfl ?_
  refine lxs rfl rfl rfl guard_eq (.cons (t := 2) rfl (fun _ => Ent.refl _) .nil) (op_bload (m := 2) rfl rfl ag29 sz29) rfl ?_
  first | refine lxs rfl rfl rfl guard_eq (.cons (t := 31) rfl (fun h => entW h) .nil) (op_call (l := [(Go.Operand.tmp 31), (Go.Operand.const (Go.Value.int Go.IntKind.i64 1))]) (Reg_a aG1 1 ⟨0, 6, 0⟩ (bdG_ble rfl) (by decide) (by decide)) (.cons rfl (.cons rfl .nil)) fn27) rfl ?_ | refine lxs rfl rfl rfl guard_eq (.cons (t := 31) rfl (fun h => entW h) .nil) (op_call (l := [(Go.Operand.tmp 31), (Go.Operand.const (Go.Value.int Go.IntKind.i64 1))]) (Reg_a aG1 1 ⟨0, 6, 0⟩ (bdG_ble rfl) (by decide) (by decide)) (.ent rfl (by repeat (first | exact Ents.nil | refine Ents.cons ?_ ?_ | refine Ent.tup ?_ | refine Ent.agg ?_ | exact Ent.row _ _ _ _ | exact Ent.nil _ _ | exact Ent.func _ | exact Ent.refl _ | exact Ent.of_eq rfl | refine Ent.cells ?_)) (.ent rfl (by repeat (first | exact Ents.nil | refine Ents.cons ?_ ?_ | refine Ent.tup ?_ | refine Ent.agg ?_ | exact Ent.row _ _ _ _ | exact Ent.nil _ _ | exact Ent.func _ | exact Ent.refl _ | exact Ent.of_eq rfl | refine Ent.cells ?_)) .nil)) fn27) rfl ?_
  refine lxs rfl rfl rfl guard_eq (.cons (t := 32) rfl (fun h => entW h) .nil) (op_field_one rfl fl43_1 ag3 rfl) rfl ?_
  refine lxs rfl rfl rfl guard_eq (.cons (t := 33) rfl (fun h => entW h) .nil) (op_neq rfl rfl) rfl ?_
  refine lx (op_pick_or rfl rfl) rfl ?_
  refine lx (op_move rfl) rfl ?_
  refine lxs rfl rfl rfl guard_eq (.cons (t := 2) rfl (fun _ => Ent.refl _) .nil) (op_bload (m := 2) rfl rfl ag29 sz29) rfl ?_
  first | refine lxs rfl rfl rfl guard_eq (.cons (t := 37) rfl (fun h => entW h) .nil) (op_call (l := [(Go.Operand.tmp 37), (Go.Operand.const (Go.Value.int Go.IntKind.i64 2))]) (Reg_a aG1 2 v0 (bdG_ble rfl) (by decide) (by decide)) (.cons rfl (.cons rfl .nil)) fn27) rfl ?_ | refine lxs rfl rfl rfl guard_eq (.cons (t := 37) rfl (fun h => entW h) .nil) (op_call (l := [(Go.Operand.tmp 37), (Go.Operand.const (Go.Value.int Go.IntKind.i64 2))]) (Reg_a aG1 2 v0 (bdG_ble rfl) (by decide) (by decide)) (.ent rfl (by repeat (first | exact Ents.nil | refine Ents.cons ?_ ?_ | refine Ent.tup ?_ | refine Ent.agg ?_ | exact Ent.row _ _ _ _ | exact Ent.nil _ _ | exact Ent.func _ | exact Ent.refl _ | exact Ent.of_eq rfl | refine Ent.cells ?_)) (.ent rfl (by repeat (first | exact Ents.nil | refine Ents.cons ?_ ?_ | refine Ent.tup ?_ | refine Ent.agg ?_ | exact Ent.row _ _ _ _ | exact Ent.nil _ _ | exact Ent.func _ | exact Ent.refl _ | exact Ent.of_eq rfl | refine Ent.cells ?_)) .nil)) fn27) rfl ?_
  refine lxs rfl rfl rfl guard_eq (.cons (t := 38) rfl (fun h => entW h) .nil) (op_field_one rfl fl43_1 ag3 rfl) rfl ?_
  refine lxs rfl rfl rfl guard_eq (.cons (t := 39) rfl (fun h => entW h) .nil) (op_neq rfl rfl) rfl ?_
  refine lx (op_pick_or rfl rfl) rfl ?_
  refine lx (op_move rfl) rfl ?_
  refine lxs rfl rfl rfl guard_eq (.cons (t := 1) rfl (fun _ => Ent.refl _) .nil) (op_bload (m := 1) rfl rfl ag26 sz26) rfl ?_
  refine lxs rfl rfl rfl guard_eq (.cons (t := 2) rfl (fun _ => Ent.refl _) .nil) (op_bload (m := 2) rfl rfl ag29 sz29) rfl ?_
  first | refine lxs rfl rfl rfl guard_eq (.cons (t := 43) rfl (fun h => entW h) (.cons (t := 44) rfl (fun h => entW h) .nil)) (op_call (l := [(Go.Operand.tmp 43), (Go.Operand.tmp 44)]) (Valid_ok exP aG1 (bdG_ble rfl)) (.cons rfl (.cons rfl .nil)) fn14) rfl ?_ | refine lxs rfl rfl rfl guard_eq (.cons (t := 43) rfl (fun h => entW h) (.cons (t := 44) rfl (fun h => entW h) .nil)) (op_call (l := [(Go.Operand.tmp 43), (Go.Operand.tmp 44)]) (Valid_ok exP aG1 (bdG_ble rfl)) (.ent rfl (by repeat (first | exact Ents.nil | refine Ents.cons ?_ ?_ | refine Ent.tup ?_ | refine Ent.agg ?_ | exact Ent.row _ _ _ _ | exact Ent.nil _ _ | exact Ent.func _ | exact Ent.refl _ | exact Ent.of_eq rfl | refine Ent.cells ?_)) (.ent rfl (by repeat (first | exact Ents.nil | refine Ents.cons ?_ ?_ | refine Ent.tup ?_ | refine Ent.agg ?_ | exact Ent.row _ _ _ _ | exact Ent.nil _ _ | exact Ent.func _ | exact Ent.refl _ | exact Ent.of_eq rfl | refine Ent.cells ?_)) .nil)) fn14) rfl ?_
  first | refine lxs rfl rfl rfl guard_eq (.cons (t := 45) rfl (fun h => entW h) .nil) (op_not rfl) rfl ?_ | refine lxs rfl rfl rfl guard_eq (.cons (t := 45) rfl (fun h => entW h) .nil) (op_not_b rfl) rfl ?_
  refine lx (op_pick_or rfl rfl) rfl ?_
  refine lx_end ⟨by kernel_rfl, ?_⟩
  refine pe_then_normal ?_
  refine tr_sub hC (.cons (t := 1) rfl (.cons (t := 2) rfl (.cons (t := 47) rfl .nil))) (.cons (t := 1) rfl (.cons (t := 2) rfl .nil)) rfl ?_
  refine tr_cond rfl (fun h47 => ?_) (fun h47 => ?_)
  · exact absurd h47 (by decide)
  · (try simp only [Bool.and_eq_true, Bool.or_eq_true, Bool.and_eq_false_iff, Bool.or_eq_false_iff, decide_eq_true_eq, decide_eq_false_iff_not, Bool.not_eq_true', Bool.not_eq_false', List.length_map, ne_eq, Decidable.not_not, Int.not_lt, Int.not_le] at h47)
    refine tr_skip ?_
    refine pe_then_normal ?_
    refine tr_sub hC (.cons (t := 1) rfl (.cons (t := 2) rfl .nil)) (.cons (t := 1) rfl (.cons (t := 2) rfl .nil)) rfl ?_
    refine tr_seq ?_
    refine tr_drawn mixed (fun N5 hN => ?_)
    refine lx (op_bload (m := 1) rfl rfl ag26 sz26) rfl ?_
    refine lx (op_bload (m := 2) rfl rfl ag29 sz29) rfl ?_
    refine lx (OpJ.ent (op_build (qs := [_, _]) (parts := []) ze47 rfl rfl fs47 .nil rfl rfl) (show Ent _ (aggP (Df.ps ⟨0, []⟩)) from (by repeat (first | exact Ents.nil | refine Ents.cons ?_ ?_ | refine Ent.tup ?_ | refine Ent.agg ?_ | exact Ent.row _ _ _ _ | exact Ent.nil _ _ | exact Ent.func _ | exact Ent.refl _ | exact Ent.of_eq rfl | refine Ent.cells ?_)))) rfl ?_
    first | refine lx (op_call (l := [(Go.Operand.tmp 49), (Go.Operand.tmp 50)]) (Defer_a) (.cons rfl (.cons rfl .nil)) fn23) rfl ?_ | refine lx (op_call (l := [(Go.Operand.tmp 49), (Go.Operand.tmp 50)]) (Defer_a) (.ent rfl (by repeat (first | exact Ents.nil | refine Ents.cons ?_ ?_ | refine Ent.tup ?_ | refine Ent.agg ?_ | exact Ent.row _ _ _ _ | exact Ent.nil _ _ | exact Ent.func _ | exact Ent.refl _ | exact Ent.of_eq rfl | refine Ent.cells ?_)) (.ent rfl (by repeat (first | exact Ents.nil | refine Ents.cons ?_ ?_ | refine Ent.tup ?_ | refine Ent.agg ?_ | exact Ent.row _ _ _ _ | exact Ent.nil _ _ | exact Ent.func _ | exact Ent.refl _ | exact Ent.of_eq rfl | refine Ent.cells ?_)) .nil)) fn23) rfl ?_
    refine lx (OpJ.ent (op_build (qs := [_, _, _]) (parts := [(1, (Go.Operand.const (Go.Value.int Go.IntKind.i64 1)))]) ze43 rfl rfl fs43 (.cons rfl (.one (by (first | exact One.eq rfl | exact One.mv _ _ _ _ _ | exact One.cl _ _ _ | exact One.map _ | exact One.sl _ _ _ | exact One.row _ _ _ _ | exact One.msl _ _ _ _ | exact One.ptr _ _ | exact One.b _ | exact One.cells _))) fl43_1 sz3 rfl .nil) rfl rfl) (show Ent _ (aggP (vp ⟨0, 1, 0⟩)) from (by repeat (first | exact Ents.nil | refine Ents.cons ?_ ?_ | refine Ent.tup ?_ | refine Ent.agg ?_ | exact Ent.row _ _ _ _ | exact Ent.nil _ _ | exact Ent.func _ | exact Ent.refl _ | exact Ent.of_eq rfl | refine Ent.cells ?_)))) rfl ?_
    first | refine lx (op_call (l := [(Go.Operand.tmp 48), (Go.Operand.tmp 51), (Go.Operand.tmp 52)]) (Leave_a aG2 aG3 ⟨0, 1, 0⟩ (bdG_ble rfl) (by decide) (by decide)) (.cons rfl (.cons rfl (.cons rfl .nil))) fn21) rfl ?_ | refine lx (op_call (l := [(Go.Operand.tmp 48), (Go.Operand.tmp 51), (Go.Operand.tmp 52)]) (Leave_a aG2 aG3 ⟨0, 1, 0⟩ (bdG_ble rfl) (by decide) (by decide)) (.ent rfl (by repeat (first | exact Ents.nil | refine Ents.cons ?_ ?_ | refine Ent.tup ?_ | refine Ent.agg ?_ | exact Ent.row _ _ _ _ | exact Ent.nil _ _ | exact Ent.func _ | exact Ent.refl _ | exact Ent.of_eq rfl | refine Ent.cells ?_)) (.ent rfl (by repeat (first | exact Ents.nil | refine Ents.cons ?_ ?_ | refine Ent.tup ?_ | refine Ent.agg ?_ | exact Ent.row _ _ _ _ | exact Ent.nil _ _ | exact Ent.func _ | exact Ent.refl _ | exact Ent.of_eq rfl | refine Ent.cells ?_)) (.ent rfl (by repeat (first | exact Ents.nil | refine Ents.cons ?_ ?_ | refine Ent.tup ?_ | refine Ent.agg ?_ | exact Ent.row _ _ _ _ | exact Ent.nil _ _ | exact Ent.func _ | exact Ent.refl _ | exact Ent.of_eq rfl | refine Ent.cells ?_)) .nil))) fn21) rfl ?_
    refine lxn (op_alloc (m := 4) (k := 4) (ps := [eqP (.int .i64 0), eqP (.int .i64 0), eqP (.int .i64 0), eqP (.slice none 0 0)]) ze29 rfl rfl (by first | exact hC.low _ (by decide) | rfl)) rfl ?_
    refine lxr (op_store_all (m := 4) rfl rfl rfl (.agg rfl) sz29 rfl) rfl ?_
    refine lx_end ⟨by kernel_rfl, ?_⟩
    refine pe_then_normal ?_
    refine tr_sub hC (.cons (t := 1) rfl (.cons (t := 2) rfl (.cons (t := 4) rfl .nil))) (.cons (t := 1) rfl (.cons (t := 2) rfl (.cons (t := 4) rfl .nil))) rfl ?_
    refine tr_seq ?_
    refine tr_region (fun N6 hN => ?_)
    refine lx (op_bload (m := 1) rfl rfl ag26 sz26) rfl ?_
    refine lx (op_bload (m := 4) rfl rfl ag29 sz29) rfl ?_
    refine lx (OpJ.ent (op_build (qs := [_, _, _]) (parts := []) ze43 rfl rfl fs43 .nil rfl rfl) (show Ent _ (aggP (vp v0)) from (by repeat (first | exact Ents.nil | refine Ents.cons ?_ ?_ | refine Ent.tup ?_ | refine Ent.agg ?_ | exact Ent.row _ _ _ _ | exact Ent.nil _ _ | exact Ent.func _ | exact Ent.refl _ | exact Ent.of_eq rfl | refine Ent.cells ?_)))) rfl ?_
    first | refine lx (op_call (l := [(Go.Operand.tmp 54), (Go.Operand.tmp 55), (Go.Operand.tmp 56)]) (Leave_a aG3 aG4 v0 (bdG_ble rfl) (by decide) (by decide)) (.cons rfl (.cons rfl (.cons rfl .nil))) fn21) rfl ?_ | refine lx (op_call (l := [(Go.Operand.tmp 54), (Go.Operand.tmp 55), (Go.Operand.tmp 56)]) (Leave_a aG3 aG4 v0 (bdG_ble rfl) (by decide) (by decide)) (.ent rfl (by repeat (first | exact Ents.nil | refine Ents.cons ?_ ?_ | refine Ent.tup ?_ | refine Ent.agg ?_ | exact Ent.row _ _ _ _ | exact Ent.nil _ _ | exact Ent.func _ | exact Ent.refl _ | exact Ent.of_eq rfl | refine Ent.cells ?_)) (.ent rfl (by repeat (first | exact Ents.nil | refine Ents.cons ?_ ?_ | refine Ent.tup ?_ | refine Ent.agg ?_ | exact Ent.row _ _ _ _ | exact Ent.nil _ _ | exact Ent.func _ | exact Ent.refl _ | exact Ent.of_eq rfl | refine Ent.cells ?_)) (.ent rfl (by repeat (first | exact Ents.nil | refine Ents.cons ?_ ?_ | refine Ent.tup ?_ | refine Ent.agg ?_ | exact Ent.row _ _ _ _ | exact Ent.nil _ _ | exact Ent.func _ | exact Ent.refl _ | exact Ent.of_eq rfl | refine Ent.cells ?_)) .nil))) fn21) rfl ?_
    refine lxn (op_alloc (m := 5) (k := 5) (ps := [eqP (.int .i64 0), eqP (.int .i64 0), eqP (.int .i64 0), eqP (.slice none 0 0)]) ze29 rfl rfl (by first | exact hC.low _ (by decide) | rfl)) rfl ?_
    refine lxr (op_store_all (m := 5) rfl rfl rfl (.agg rfl) sz29 rfl) rfl ?_
    refine lx_end ⟨by kernel_rfl, ?_⟩
    refine pe_then_normal ?_
    refine tr_sub hC (.cons (t := 2) rfl (.cons (t := 4) rfl (.cons (t := 5) rfl .nil))) (.cons (t := 2) rfl (.cons (t := 4) rfl (.cons (t := 5) rfl .nil))) rfl ?_
    refine tr_seq ?_
    refine tr_region (fun N7 hN => ?_)
    refine lx (op_fieldAddr rfl fl29_3 sz27) rfl ?_
    refine lx (op_bload_one (m := 4) rfl rfl ag27 rfl) rfl ?_
    first | refine lx (op_len rfl el27) rfl ?_ | refine lx (op_len_row rfl el27) rfl ?_ | refine lx (op_len_mv rfl el27) rfl ?_ | refine lx (op_len_nil rfl el27) rfl ?_
    refine lx (op_eql rfl rfl) rfl ?_
    refine lx (op_move rfl) rfl ?_
    refine lxs rfl rfl rfl guard_eq (.cons (t := 4) rfl (fun _ => Ent.refl _) .nil) (op_fieldAddr rfl fl29_3 sz27) rfl ?_
    refine lxs rfl rfl rfl guard_eq (.cons (t := 63) rfl (fun h => entW h) .nil) (op_bload_one (m := 4) rfl rfl ag27 rfl) rfl ?_
    refine lxs rfl rfl rfl guard_eq (.cons (t := 64) rfl (fun h => entW h) .nil) (op_index rfl rfl el27 sz60 (show (1 : Int) = ((1 : Nat) : Int) from rfl) (rfl : aG3.frames[1]? = some _)) rfl ?_
    first | refine lxs rfl rfl rfl guard_eq (.cons (t := 65) rfl (fun h => entW h) .nil) (op_fieldAddr rfl fl60_0 sz3) rfl ?_ | refine lxs rfl rfl rfl guard_eq (.cons (t := 65) rfl (fun h => entW h) .nil) (op_fieldCells rfl fl60_0 sz3) rfl ?_
    first | refine lxs rfl rfl rfl guard_eq (.cons (t := 66) rfl (fun h => entW h) .nil) (op_load_one rfl ag3 rfl) rfl ?_ | refine lxs rfl rfl rfl guard_eq (.cons (t := 66) rfl (fun h => entW h) .nil) (op_bload_one (m := 2) rfl rfl ag3 rfl) rfl ?_ | refine lxs rfl rfl rfl guard_eq (.cons (t := 66) rfl (fun h => entW h) .nil) (op_bload_one (m := 4) rfl rfl ag3 rfl) rfl ?_ | refine lxs rfl rfl rfl guard_eq (.cons (t := 66) rfl (fun h => entW h) .nil) (op_bload_one (m := 5) rfl rfl ag3 rfl) rfl ?_
    refine lxs rfl rfl rfl guard_eq (.cons (t := 67) rfl (fun h => entW h) .nil) (op_eql rfl rfl) rfl ?_
    refine lx (op_pick_and rfl rfl) rfl ?_
    refine lx (op_move rfl) rfl ?_
    refine lxs rfl rfl rfl guard_eq (.cons (t := 5) rfl (fun _ => Ent.refl _) .nil) (op_fieldAddr rfl fl29_0 sz3) rfl ?_
    refine lxs rfl rfl rfl guard_eq (.cons (t := 71) rfl (fun h => entW h) .nil) (op_bload_one (m := 5) rfl rfl ag3 rfl) rfl ?_
    refine lxs rfl rfl rfl guard_eq (.cons (t := 72) rfl (fun h => entW h) .nil) (op_eql rfl rfl) rfl ?_
    refine lx (op_pick_and rfl rfl) rfl ?_
    refine lx (op_move rfl) rfl ?_
    refine lxs rfl rfl rfl guard_eq (.cons (t := 4) rfl (fun _ => Ent.refl _) .nil) (op_bload (m := 4) rfl rfl ag29 sz29) rfl ?_
    first | refine lxs rfl rfl rfl guard_eq (.cons (t := 76) rfl (fun h => entW h) .nil) (op_call (l := [(Go.Operand.tmp 76)]) (Sites_ok aG3 (by decide)) (.cons rfl .nil) fn29) rfl ?_ | refine lxs rfl rfl rfl guard_eq (.cons (t := 76) rfl (fun h => entW h) .nil) (op_call (l := [(Go.Operand.tmp 76)]) (Sites_ok aG3 (by decide)) (.ent rfl (by repeat (first | exact Ents.nil | refine Ents.cons ?_ ?_ | refine Ent.tup ?_ | refine Ent.agg ?_ | exact Ent.row _ _ _ _ | exact Ent.nil _ _ | exact Ent.func _ | exact Ent.refl _ | exact Ent.of_eq rfl | refine Ent.cells ?_)) .nil) fn29) rfl ?_
    first | refine lxs rfl rfl rfl guard_eq (.cons (t := 77) rfl (fun h => entW h) .nil) (op_len rfl el53) rfl ?_ | refine lxs rfl rfl rfl guard_eq (.cons (t := 77) rfl (fun h => entW h) .nil) (op_len_row rfl el53) rfl ?_ | refine lxs rfl rfl rfl guard_eq (.cons (t := 77) rfl (fun h => entW h) .nil) (op_len_mv rfl el53) rfl ?_ | refine lxs rfl rfl rfl guard_eq (.cons (t := 77) rfl (fun h => entW h) .nil) (op_len_nil rfl el53) rfl ?_
    refine lxs rfl rfl rfl guard_eq (.cons (t := 78) rfl (fun h => entW h) .nil) (op_eql rfl rfl) rfl ?_
    refine lx (op_pick_and rfl rfl) rfl ?_
    refine lx (op_move rfl) rfl ?_
    refine lxs rfl rfl rfl guard_eq (.cons (t := 2) rfl (fun _ => Ent.refl _) .nil) (op_bload (m := 2) rfl rfl ag29 sz29) rfl ?_
    refine lxs rfl rfl rfl guard_eq .nil (op_build (qs := [_, _, _]) (parts := [(1, (Go.Operand.const (Go.Value.int Go.IntKind.i64 9)))]) ze43 rfl rfl fs43 (.cons rfl (.one (by (first | exact One.eq rfl | exact One.mv _ _ _ _ _ | exact One.cl _ _ _ | exact One.map _ | exact One.sl _ _ _ | exact One.row _ _ _ _ | exact One.msl _ _ _ _ | exact One.ptr _ _ | exact One.b _ | exact One.cells _))) fl43_1 sz3 rfl .nil) rfl rfl) rfl ?_
    first | refine lxs rfl rfl rfl guard_eq (.cons (t := 82) rfl (fun h => entW h) (.cons (t := 83) rfl (fun h => entW h) .nil)) (op_call (l := [(Go.Operand.tmp 82), (Go.Operand.const (Go.Value.int Go.IntKind.i64 2)), (Go.Operand.tmp 83)]) (Set_a) (.cons rfl (.cons rfl (.cons rfl .nil))) fn25) rfl ?_ | refine lxs rfl rfl rfl guard_eq (.cons (t := 82) rfl (fun h => entW h) (.cons (t := 83) rfl (fun h => entW h) .nil)) (op_call (l := [(Go.Operand.tmp 82), (Go.Operand.const (Go.Value.int Go.IntKind.i64 2)), (Go.Operand.tmp 83)]) (Set_a) (.ent rfl (by repeat (first | exact Ents.nil | refine Ents.cons ?_ ?_ | refine Ent.tup ?_ | refine Ent.agg ?_ | exact Ent.row _ _ _ _ | exact Ent.nil _ _ | exact Ent.func _ | exact Ent.refl _ | exact Ent.of_eq rfl | refine Ent.cells ?_)) (.ent rfl (by repeat (first | exact Ents.nil | refine Ents.cons ?_ ?_ | refine Ent.tup ?_ | refine Ent.agg ?_ | exact Ent.row _ _ _ _ | exact Ent.nil _ _ | exact Ent.func _ | exact Ent.refl _ | exact Ent.of_eq rfl | refine Ent.cells ?_)) (.ent rfl (by repeat (first | exact Ents.nil | refine Ents.cons ?_ ?_ | refine Ent.tup ?_ | refine Ent.agg ?_ | exact Ent.row _ _ _ _ | exact Ent.nil _ _ | exact Ent.func _ | exact Ent.refl _ | exact Ent.of_eq rfl | refine Ent.cells ?_)) .nil))) fn25) rfl ?_
    first | refine lxs rfl rfl rfl guard_eq (.cons (t := 84) rfl (fun h => entW h) .nil) (op_call (l := [(Go.Operand.tmp 84), (Go.Operand.const (Go.Value.int Go.IntKind.i64 2))]) (Reg_a aG5 2 ⟨0, 9, 0⟩ (bdG_ble rfl) (by decide) (by decide)) (.cons rfl (.cons rfl .nil)) fn27) rfl ?_ | refine lxs rfl rfl rfl guard_eq (.cons (t := 84) rfl (fun h => entW h) .nil) (op_call (l := [(Go.Operand.tmp 84), (Go.Operand.const (Go.Value.int Go.IntKind.i64 2))]) (Reg_a aG5 2 ⟨0, 9, 0⟩ (bdG_ble rfl) (by decide) (by decide)) (.ent rfl (by repeat (first | exact Ents.nil | refine Ents.cons ?_ ?_ | refine Ent.tup ?_ | refine Ent.agg ?_ | exact Ent.row _ _ _ _ | exact Ent.nil _ _ | exact Ent.func _ | exact Ent.refl _ | exact Ent.of_eq rfl | refine Ent.cells ?_)) (.ent rfl (by repeat (first | exact Ents.nil | refine Ents.cons ?_ ?_ | refine Ent.tup ?_ | refine Ent.agg ?_ | exact Ent.row _ _ _ _ | exact Ent.nil _ _ | exact Ent.func _ | exact Ent.refl _ | exact Ent.of_eq rfl | refine Ent.cells ?_)) .nil)) fn27) rfl ?_
    refine lxs rfl rfl rfl guard_eq (.cons (t := 85) rfl (fun h => entW h) .nil) (op_field_one rfl fl43_1 ag3 rfl) rfl ?_
    refine lxs rfl rfl rfl guard_eq (.cons (t := 86) rfl (fun h => entW h) .nil) (op_eql rfl rfl) rfl ?_
    refine lx (op_pick_and rfl rfl) rfl ?_
    refine lx (op_assign rfl) rfl ?_
    refine lx_end ⟨by kernel_rfl, ?_⟩
    refine pe_then_normal ?_
    refine tr_sub hC (.cons (t := 0) rfl .nil) .nil rfl ?_
    refine tr_ret ?_
    refine pe_ret1 rfl hO rfl (.tmp rfl .nil) ?_
    repeat (first | exact Ents.nil | refine Ents.cons ?_ ?_ | refine Ent.tup ?_ | refine Ent.agg ?_ | exact Ent.row _ _ _ _ | exact Ent.nil _ _ | exact Ent.func _ | exact Ent.refl _ | exact Ent.of_eq rfl | refine Ent.cells ?_)
end Go.Proofs.Ythiknhmoefbanaa


set_option linter.unusedVariables false
set_option linter.unusedSimpArgs false
namespace Go.Proofs.Ythiknhmoefbanaa
open Go.AL Go.Ch Go.Hp Go.RowKit
theorem fn12 : fnB Try.prog 12 = true := by kernel_rfl
theorem fact_g (g : Gr) : Fact (aggP g.ps) (BdG 9223372036854775807 g) := fun σ v h => by
  have h0 := Fact.agg 3 rfl (Fact.sl Fm.ps 9 g.frames) σ v h
  have h1 := Fact.agg 3 rfl (Fact.each (f := Fm.ps) (n := 9) (xs := g.frames) (φ := fun f => f.regs.length ≤ 9223372036854775807) (fun f => ⟨2, _, rfl, Fact.sl _ _ _⟩)) σ v h
  have h2 := Fact.agg 3 rfl (Fact.each (f := Fm.ps) (n := 9) (xs := g.frames) (φ := fun f => f.defers.length ≤ 9223372036854775807) (fun f => ⟨4, _, rfl, Fact.sl _ _ _⟩)) σ v h
  have h3 := Fact.agg 3 rfl (Fact.each (f := Fm.ps) (n := 9) (xs := g.frames) (φ := fun f => ∀ d ∈ f.defers, d.args.length ≤ 9223372036854775807) (fun f => ⟨4, _, rfl, Fact.each (fun d => ⟨1, _, rfl, Fact.sl _ _ _⟩)⟩)) σ v h
  exact ⟨h0, fun f hf => ⟨h1 f hf, h2 f hf, h3 f hf⟩⟩
theorem fact_p (p : Pg) : Fact (aggP p.ps) (BdPg 9223372036854775807 p) := fun σ v h => by
  have h0 := Fact.agg 0 rfl (Fact.sl Fu.ps 4 p.funcs) σ v h
  have h1 := Fact.agg 1 rfl (Fact.sl Gl.ps 2 p.globals) σ v h
  have h2 := Fact.agg 2 rfl (Fact.sl lyp 1 p.layouts) σ v h
  have h3 := Fact.agg 2 rfl (Fact.each (f := lyp) (n := 1) (xs := p.layouts) (φ := fun l => l.length ≤ 9223372036854775807) (fun l => ⟨0, _, rfl, Fact.sl _ _ _⟩)) σ v h
  have h4 := Fact.agg 0 rfl (Fact.each (f := Fu.ps) (n := 4) (xs := p.funcs) (φ := fun f => f.code.length ≤ 9223372036854775807) (fun f => ⟨3, _, rfl, Fact.sl _ _ _⟩)) σ v h
  exact ⟨h0, h1, h2, h3, h4⟩
theorem law_valid (p : Pg) (g : Gr) : FnP Try.prog 3 [aggP p.ps, aggP g.ps] (eqP (.bool true)) := by
  refine fn_pure' Try.func3 rfl Try.ntmps3 rfl ?_
  intro σ0 M ex Rf R hC hO
  simp only [frameOf, tokOf]
  refine tr_fact (t := 0) rfl (fact_p p) (fun hp => ?_)
  refine tr_fact (t := 1) rfl (fact_g g) (fun hb => ?_)
  refine tr_seq ?_
  refine tr_region (fun N0 hN => ?_)
  refine lxn (op_box (m := 2) (k := 2) rfl (.agg rfl) (by first | exact hC.low _ (by decide) | rfl)) rfl ?_
  refine lxn (op_box (m := 3) (k := 3) rfl (.agg rfl) (by first | exact hC.low _ (by decide) | rfl)) rfl ?_
  refine lx (op_assign rfl) rfl ?_
  refine lx_end ⟨by kernel_rfl, ?_⟩
  refine pe_then_normal ?_
  refine tr_sub hC (.cons (t := 2) rfl (.cons (t := 3) rfl .nil)) (.cons (t := 2) rfl (.cons (t := 3) rfl .nil)) rfl ?_
  refine tr_seq ?_
  refine tr_drawn mixed (fun N1 hN => ?_)
  first | refine lx (op_call (l := []) (awake_ok) .nil fn12) rfl ?_ | refine lx (op_call (l := []) (awake_ok) .nil fn12) rfl ?_
  refine lx (op_move rfl) rfl ?_
  refine lxs rfl rfl rfl guard_eq (.cons (t := 2) rfl (fun _ => Ent.refl _) .nil) (op_bload (m := 2) rfl rfl ag26 sz26) rfl ?_
  first | refine lxs rfl rfl rfl guard_eq (.cons (t := 7) rfl (fun h => entW h) .nil) (op_call (l := [(Go.Operand.tmp 7)]) (Prog_ok p hp) (.cons rfl .nil) fn13) rfl ?_ | refine lxs rfl rfl rfl guard_eq (.cons (t := 7) rfl (fun h => entW h) .nil) (op_call (l := [(Go.Operand.tmp 7)]) (Prog_ok p hp) (.ent rfl (by repeat (first | exact Ents.nil | refine Ents.cons ?_ ?_ | refine Ent.tup ?_ | refine Ent.agg ?_ | exact Ent.row _ _ _ _ | exact Ent.nil _ _ | exact Ent.func _ | exact Ent.refl _ | exact Ent.of_eq rfl | refine Ent.cells ?_)) .nil) fn13) rfl ?_
  first | refine lxs rfl rfl rfl guard_eq (.cons (t := 8) rfl (fun h => entW h) .nil) (op_not rfl) rfl ?_ | refine lxs rfl rfl rfl guard_eq (.cons (t := 8) rfl (fun h => entW h) .nil) (op_not_b rfl) rfl ?_
  refine lxs rfl rfl rfl guard_eq (.cons (t := 9) rfl (fun h => entW h) .nil) (op_move rfl) rfl ?_
  refine lxs rfl rfl rfl guard_w (.cons (t := 2) rfl (fun _ => Ent.refl _) .nil) (op_bload (m := 2) rfl rfl ag26 sz26) rfl ?_
  refine lxs rfl rfl rfl guard_w (.cons (t := 3) rfl (fun _ => Ent.refl _) .nil) (op_bload (m := 3) rfl rfl ag29 sz29) rfl ?_
  first | refine lxs rfl rfl rfl guard_w (.cons (t := 11) rfl (fun h => entW h) (.cons (t := 12) rfl (fun h => entW h) .nil)) (op_call (l := [(Go.Operand.tmp 11), (Go.Operand.tmp 12)]) (Valid_ok p g hb) (.cons rfl (.cons rfl .nil)) fn14) rfl ?_ | refine lxs rfl rfl rfl guard_w (.cons (t := 11) rfl (fun h => entW h) (.cons (t := 12) rfl (fun h => entW h) .nil)) (op_call (l := [(Go.Operand.tmp 11), (Go.Operand.tmp 12)]) (Valid_ok p g hb) (.ent rfl (by repeat (first | exact Ents.nil | refine Ents.cons ?_ ?_ | refine Ent.tup ?_ | refine Ent.agg ?_ | exact Ent.row _ _ _ _ | exact Ent.nil _ _ | exact Ent.func _ | exact Ent.refl _ | exact Ent.of_eq rfl | refine Ent.cells ?_)) (.ent rfl (by repeat (first | exact Ents.nil | refine Ents.cons ?_ ?_ | refine Ent.tup ?_ | refine Ent.agg ?_ | exact Ent.row _ _ _ _ | exact Ent.nil _ _ | exact Ent.func _ | exact Ent.refl _ | exact Ent.of_eq rfl | refine Ent.cells ?_)) .nil)) fn14) rfl ?_
  refine lxs rfl rfl rfl guard_w (.cons (t := 2) rfl (fun _ => Ent.refl _) .nil) (op_bload (m := 2) rfl rfl ag26 sz26) rfl ?_
  refine lxs rfl rfl rfl guard_w (.cons (t := 3) rfl (fun _ => Ent.refl _) .nil) (op_bload (m := 3) rfl rfl ag29 sz29) rfl ?_
  first | refine lxs rfl rfl rfl guard_w (.cons (t := 14) rfl (fun h => entW h) (.cons (t := 15) rfl (fun h => entW h) .nil)) (op_call (l := [(Go.Operand.tmp 14), (Go.Operand.tmp 15)]) (rValid_ok p g hb) (.cons rfl (.cons rfl .nil)) fn15) rfl ?_ | refine lxs rfl rfl rfl guard_w (.cons (t := 14) rfl (fun h => entW h) (.cons (t := 15) rfl (fun h => entW h) .nil)) (op_call (l := [(Go.Operand.tmp 14), (Go.Operand.tmp 15)]) (rValid_ok p g hb) (.ent rfl (by repeat (first | exact Ents.nil | refine Ents.cons ?_ ?_ | refine Ent.tup ?_ | refine Ent.agg ?_ | exact Ent.row _ _ _ _ | exact Ent.nil _ _ | exact Ent.func _ | exact Ent.refl _ | exact Ent.of_eq rfl | refine Ent.cells ?_)) (.ent rfl (by repeat (first | exact Ents.nil | refine Ents.cons ?_ ?_ | refine Ent.tup ?_ | refine Ent.agg ?_ | exact Ent.row _ _ _ _ | exact Ent.nil _ _ | exact Ent.func _ | exact Ent.refl _ | exact Ent.of_eq rfl | refine Ent.cells ?_)) .nil)) fn15) rfl ?_
  refine lxs rfl rfl rfl guard_w (.cons (t := 13) rfl (fun h => entW h) (.cons (t := 16) rfl (fun h => entW h) .nil)) (op_eql_bool bo4 rfl rfl) rfl ?_
  refine lxs rfl rfl rfl guard_eq (.cons (t := 10) rfl (fun h => entW h) (.cons (t := 17) rfl (fun h => entS h) .nil)) (op_pick_or rfl rfl) rfl ?_
  refine lx (op_pick_and rfl rfl) rfl ?_
  refine lx (op_assign rfl) rfl ?_
  refine lx_end ⟨by kernel_rfl, ?_⟩
  refine pe_then_normal ?_
  refine tr_sub hC (.cons (t := 4) rfl .nil) .nil rfl ?_
  refine tr_ret ?_
  refine pe_ret1 rfl hO rfl (.tmp rfl .nil) ?_
  exact entB (by simp)
structure Cl where
  p : Pg
  g : Gr
  fn : Int
  args : List V
  dest : Int
def Cl.ps (c : Cl) : List Pred := [slP Fu.ps 4 c.p.funcs, slP Gl.ps 2 c.p.globals, slP lyp 1 c.p.layouts, eqP (.int .i64 c.p.main), eqP (.int .i64 c.g.state), eqP (.int .i64 c.g.fault), eqP (.int .i64 c.g.allocs), slP Fm.ps 9 c.g.frames, eqP (.int .i64 c.fn), slP vp 3 c.args, eqP (.int .i64 c.dest)]
theorem Cl.len (c : Cl) : c.ps.length = 11 := rfl
def sv (s : Int × Int) : List Value := [.int .i64 s.1, .int .i64 s.2]
end Go.Proofs.Ythiknhmoefbanaa


namespace Go.Proofs.Ythiknhmoefbanaa
open Go.AL Go.Ch Go.Hp Go.RowKit
section
variable {H : Type} {enc : TypeId × Value → H} {W : World} {base : Nat} {spare : Nat → Bool} {held : Bool} {bk : DataW H → Nat}
theorem rdS_string (hB : BulkOK bk) {P : Program} {t : TypeId} (ht : P.underlying t = some .string) : RdS enc P W base spare held bk t (fun b : ByteArray => [eqP (.string b)]) (fun _ => 1) (fun _ => True) := by
  intro fuel cs x hx
  obtain ⟨n, rfl, rfl, hs⟩ := DataW.trod_string ht hx
  refine ⟨n, ⟨trivial, hB.lit _⟩, rfl, fun j p u hp hu => ?_⟩
  cases j with
  | zero => simp at hp hu; subst hp; subst hu; exact ⟨rfl, rfl⟩
  | succ j => simp at hp
theorem rd_value (hB : BulkOK bk) : RdS enc Try.prog W base spare held bk 43 vp szV (fun _ => True) :=
  (rdS_struct hB (fs := [(0, 3, 1), (1, 3, 1), (2, 3, 1)]) (m := 3) (by kernel_rfl) (by kernel_rfl) (rdfS_cons (rdS_int hB Try.underlying3) (rdfS_cons (rdS_int hB Try.underlying3) (rdfS_cons (rdS_int hB Try.underlying3) rdfS_nil)))).map
    (fun x => ⟨x.1, x.2.1, x.2.2.1⟩) (fun _ => rfl) (fun _ => Nat.le_refl _) (fun _ _ => trivial)
theorem rd_values (hB : BulkOK bk) : RdS enc Try.prog W base spare held bk 33 (fun l => [slP vp 3 l]) (szL szV) (fun _ => True) :=
  (rdS_slice hB Try.underlying33 (rd_value hB) (by kernel_rfl) (by decide)).map (fun x => x) (fun _ => rfl) (fun _ => Nat.le_refl _) (fun _ _ => trivial)
theorem rd_deferred (hB : BulkOK bk) : RdS enc Try.prog W base spare held bk 47 Df.ps szD (fun _ => True) :=
  (rdS_struct hB (fs := [(0, 3, 1), (1, 33, 1)]) (m := 2) (by kernel_rfl) (by kernel_rfl) (rdfS_cons (rdS_int hB Try.underlying3) (rdfS_cons (rd_values hB) rdfS_nil))).map
    (fun x => ⟨x.1, x.2.1⟩) (fun _ => rfl) (fun _ => by simp only [szD]; omega) (fun _ _ => trivial)
theorem rd_defers (hB : BulkOK bk) : RdS enc Try.prog W base spare held bk 58 (fun l => [slP Df.ps 2 l]) (szL szD) (fun _ => True) :=
  (rdS_slice hB Try.underlying58 (rd_deferred hB) (by kernel_rfl) (by decide)).map (fun x => x) (fun _ => rfl) (fun _ => Nat.le_refl _) (fun _ _ => trivial)
theorem rd_frame (hB : BulkOK bk) : RdS enc Try.prog W base spare held bk 60 Fm.ps szFm (fun _ => True) :=
  (rdS_struct hB (fs := [(0, 3, 1), (1, 3, 1), (2, 33, 1), (3, 3, 1), (4, 58, 1), (5, 4, 1), (6, 43, 3)]) (m := 9) (by kernel_rfl) (by kernel_rfl) (rdfS_cons (rdS_int hB Try.underlying3) (rdfS_cons (rdS_int hB Try.underlying3) (rdfS_cons (rd_values hB) (rdfS_cons (rdS_int hB Try.underlying3) (rdfS_cons (rd_defers hB) (rdfS_cons (rdS_bool hB Try.underlying4) (rdfS_cons (rd_value hB) rdfS_nil)))))))).map
    (fun x => ⟨x.1, x.2.1, x.2.2.1, x.2.2.2.1, x.2.2.2.2.1, x.2.2.2.2.2.1, x.2.2.2.2.2.2.1⟩) (fun _ => rfl) (fun _ => by simp only [szFm, szV]; omega) (fun _ _ => trivial)
theorem rd_frames (hB : BulkOK bk) : RdS enc Try.prog W base spare held bk 27 (fun l => [slP Fm.ps 9 l]) (szL szFm) (fun _ => True) :=
  (rdS_slice hB Try.underlying27 (rd_frame hB) (by kernel_rfl) (by decide)).map (fun x => x) (fun _ => rfl) (fun _ => Nat.le_refl _) (fun _ _ => trivial)
theorem rd_goroutine (hB : BulkOK bk) : RdS enc Try.prog W base spare held bk 29 Gr.ps szGr (fun _ => True) :=
  (rdS_struct hB (fs := [(0, 3, 1), (1, 3, 1), (2, 3, 1), (3, 27, 1)]) (m := 4) (by kernel_rfl) (by kernel_rfl) (rdfS_cons (rdS_int hB Try.underlying3) (rdfS_cons (rdS_int hB Try.underlying3) (rdfS_cons (rdS_int hB Try.underlying3) (rdfS_cons (rd_frames hB) rdfS_nil))))).map
    (fun x => ⟨x.1, x.2.1, x.2.2.1, x.2.2.2.1⟩) (fun _ => rfl) (fun _ => by simp only [szGr]; omega) (fun _ _ => trivial)
theorem rd_instr (hB : BulkOK bk) : RdS enc Try.prog W base spare held bk 80 In.ps szIn (fun _ => True) :=
  (rdS_struct hB (fs := [(0, 3, 1), (1, 3, 1), (2, 3, 1), (3, 3, 1), (4, 3, 1)]) (m := 5) (by kernel_rfl) (by kernel_rfl) (rdfS_cons (rdS_int hB Try.underlying3) (rdfS_cons (rdS_int hB Try.underlying3) (rdfS_cons (rdS_int hB Try.underlying3) (rdfS_cons (rdS_int hB Try.underlying3) (rdfS_cons (rdS_int hB Try.underlying3) rdfS_nil)))))).map
    (fun x => ⟨x.1, x.2.1, x.2.2.1, x.2.2.2.1, x.2.2.2.2.1⟩) (fun _ => rfl) (fun _ => by simp only [szIn]; omega) (fun _ _ => trivial)
theorem rd_instrs (hB : BulkOK bk) : RdS enc Try.prog W base spare held bk 64 (fun l => [slP In.ps 5 l]) (szL szIn) (fun _ => True) :=
  (rdS_slice hB Try.underlying64 (rd_instr hB) (by kernel_rfl) (by decide)).map (fun x => x) (fun _ => rfl) (fun _ => Nat.le_refl _) (fun _ _ => trivial)
theorem rd_func (hB : BulkOK bk) : RdS enc Try.prog W base spare held bk 66 Fu.ps szFu (fun _ => True) :=
  (rdS_struct hB (fs := [(0, 9, 1), (1, 3, 1), (2, 3, 1), (3, 64, 1)]) (m := 4) (by kernel_rfl) (by kernel_rfl) (rdfS_cons (rdS_string hB Try.underlying9) (rdfS_cons (rdS_int hB Try.underlying3) (rdfS_cons (rdS_int hB Try.underlying3) (rdfS_cons (rd_instrs hB) rdfS_nil))))).map
    (fun x => ⟨x.1, x.2.1, x.2.2.1, x.2.2.2.1⟩) (fun _ => rfl) (fun _ => by simp only [szFu]; omega) (fun _ _ => trivial)
theorem rd_funcs (hB : BulkOK bk) : RdS enc Try.prog W base spare held bk 22 (fun l => [slP Fu.ps 4 l]) (szL szFu) (fun _ => True) :=
  (rdS_slice hB Try.underlying22 (rd_func hB) (by kernel_rfl) (by decide)).map (fun x => x) (fun _ => rfl) (fun _ => Nat.le_refl _) (fun _ _ => trivial)
theorem rd_global (hB : BulkOK bk) : RdS enc Try.prog W base spare held bk 71 Gl.ps szGl (fun _ => True) :=
  (rdS_struct hB (fs := [(0, 9, 1), (1, 3, 1)]) (m := 2) (by kernel_rfl) (by kernel_rfl) (rdfS_cons (rdS_string hB Try.underlying9) (rdfS_cons (rdS_int hB Try.underlying3) rdfS_nil))).map
    (fun x => ⟨x.1, x.2.1⟩) (fun _ => rfl) (fun _ => by simp only [szGl]; omega) (fun _ _ => trivial)
theorem rd_globals (hB : BulkOK bk) : RdS enc Try.prog W base spare held bk 23 (fun l => [slP Gl.ps 2 l]) (szL szGl) (fun _ => True) :=
  (rdS_slice hB Try.underlying23 (rd_global hB) (by kernel_rfl) (by decide)).map (fun x => x) (fun _ => rfl) (fun _ => Nat.le_refl _) (fun _ _ => trivial)
theorem rd_layout (hB : BulkOK bk) : RdS enc Try.prog W base spare held bk 81 lyp (szL szI) (fun _ => True) :=
  (rdS_slice hB Try.underlying81 (rdS_int hB Try.underlying3) (by kernel_rfl) (by decide)).map (fun x => x) (fun _ => rfl) (fun _ => Nat.le_refl _) (fun _ _ => trivial)
theorem rd_layouts (hB : BulkOK bk) : RdS enc Try.prog W base spare held bk 24 (fun l => [slP lyp 1 l]) (szL (szL szI)) (fun _ => True) :=
  (rdS_slice hB Try.underlying24 (rd_layout hB) (by kernel_rfl) (by decide)).map (fun x => x) (fun _ => rfl) (fun _ => Nat.le_refl _) (fun _ _ => trivial)
theorem rd_program (hB : BulkOK bk) : RdS enc Try.prog W base spare held bk 26 Pg.ps szP (fun _ => True) :=
  (rdS_struct hB (fs := [(0, 22, 1), (1, 23, 1), (2, 24, 1), (3, 3, 1)]) (m := 4) (by kernel_rfl) (by kernel_rfl) (rdfS_cons (rd_funcs hB) (rdfS_cons (rd_globals hB) (rdfS_cons (rd_layouts hB) (rdfS_cons (rdS_int hB Try.underlying3) rdfS_nil))))).map
    (fun x => ⟨x.1, x.2.1, x.2.2.1, x.2.2.2.1⟩) (fun _ => rfl) (fun _ => by simp only [szP]; omega) (fun _ _ => trivial)
def szCl (c : Cl) : Nat := szP c.p + szGr c.g + szL szV c.args
end
end Go.Proofs.Ythiknhmoefbanaa


namespace Go.Proofs.Ythiknhmoefbanaa
open Go.AL
theorem bulkAll {H : Type} : ∀ l : List (DataW H), Rows.uptoBulkAll l = (l.map Rows.uptoBulk).sum
  | [] => rfl
  | d :: l => by
    rw [Rows.uptoBulkAll, bulkAll l, List.map_cons, List.sum_cons]
theorem bulkOK {H : Type} : BulkOK (H := H) Rows.uptoBulk where
  lit := fun l => by cases l <;> simp [Rows.uptoBulk]
  nil := by simp [Rows.uptoBulk]
  slice := fun e s => by rw [Rows.uptoBulk, bulkAll, bulkAll]; omega
  agg := fun l => by rw [Rows.uptoBulk, bulkAll]; omega
end Go.Proofs.Ythiknhmoefbanaa
