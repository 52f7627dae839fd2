/- Walks of the functions of layer 18 and of the statements about it. -/
import Derived.Test.YtopnkekmbohgoaaLkLaws
import Derived.Test.YtopnkekmbohgoaaLkPlain
set_option linter.unusedVariables false
set_option linter.unusedSimpArgs false
namespace Go.Proofs.Ytopnkekmbohgoaa
open Go.AL Go.Lk Go.RowKit

theorem law_undone (s : Sy) (g : Int) (hg : 0 ≤ g) : FnP Try.prog 7 [aggP s.ps, eqP (.int .u8 g)] (eqP (.bool true)) := by
  have hk : goro (IntKind.i64.wrap (g.tmod 8)) = true := goro8 hg
  refine fn_pure' Try.func7 rfl Try.ntmps7 rfl ?_
  intro σ0 M ex Rf R hC hO
  simp only [frameOf, tokOf]
  refine tr_seq ?_
  refine tr_region (fun N0 hN => ?_)
  refine lxn (op_box (m := 2) (k := 2) rfl (.agg rfl) (by first | exact hC.low _ (by decide) | rfl)) rfl ?_
  refine lx (op_assign rfl) rfl ?_
  refine lx_end ⟨by kernel_rfl, ?_⟩
  refine pe_then_normal ?_
  refine tr_sub hC (.cons (t := 1) rfl (.cons (t := 2) rfl .nil)) (.cons (t := 2) rfl .nil) rfl ?_
  refine tr_seq ?_
  refine tr_seq ?_
  refine tr_region (fun N1 hN => ?_)
  first | refine lx (op_call (l := []) (awake_ok) .nil fn9) rfl ?_ | refine lx (op_call (l := []) (awake_ok) .nil fn9) rfl ?_
  first | refine lx (op_not rfl) rfl ?_ | refine lx (op_not_b rfl) rfl ?_
  refine lx_end ⟨by kernel_rfl, ?_⟩
  refine pe_then_normal ?_
  refine tr_sub hC (.cons (t := 1) rfl (.cons (t := 2) rfl (.cons (t := 16) rfl .nil))) (.cons (t := 2) rfl .nil) rfl ?_
  refine tr_cond rfl (fun h16 => ?_) (fun h16 => ?_)
  · exact absurd h16 (by decide)
  · (try simp only [Bool.and_eq_true, Bool.or_eq_true, Bool.and_eq_false_iff, Bool.or_eq_false_iff, decide_eq_true_eq, decide_eq_false_iff_not, Bool.not_eq_true', Bool.not_eq_false', ne_eq, Decidable.not_not, Int.not_lt, Int.not_le] at h16)
    refine tr_skip ?_
    refine pe_then_normal ?_
    refine tr_sub hC (.cons (t := 1) rfl (.cons (t := 2) rfl .nil)) (.cons (t := 2) rfl .nil) rfl ?_
    refine tr_seq ?_
    refine tr_seq ?_
    refine tr_region (fun N3 hN => ?_)
    first | refine lx (op_bload (m := 2) rfl rfl ag24 sz24) rfl ?_ | refine lx (op_bload_part (m := 2) rfl rfl ag24 sz24 rfl rfl) rfl ?_
    first | refine lx (op_call (l := [(Go.Operand.tmp 17)]) (few_ok s) (.cons rfl .nil) fn10) rfl ?_ | refine lx (op_call (l := [(Go.Operand.tmp 17)]) (few_ok s) (.ent rfl (by repeat (first | exact Ent.refl _ | exact Ents.nil | exact Ent.nil _ _ | exact Ent.row _ _ _ _ | exact Ent.func _ | refine Ents.cons ?_ ?_ | refine Ent.tup ?_ | refine Ent.agg ?_ | refine Ent.cells ?_ | exact Ent.of_eq rfl)) .nil) fn10) rfl ?_
    first | refine lx (op_not rfl) rfl ?_ | refine lx (op_not_b rfl) rfl ?_
    refine lx (op_move rfl) rfl ?_
    first | refine lxs rfl rfl rfl guard_eq (.cons (t := 2) rfl (fun _ => Ent.refl _) .nil) (op_bload (m := 2) rfl rfl ag24 sz24) rfl ?_ | refine lxs rfl rfl rfl guard_eq (.cons (t := 2) rfl (fun _ => Ent.refl _) .nil) (op_bload_part (m := 2) rfl rfl ag24 sz24 rfl rfl) rfl ?_
    refine lxsc (rd := [(21, aggP s.ps)]) (φ := eqP (.bool (validF s))) rfl rfl rfl guard_eq (.cons (t := 21) rfl (fun h => entW h) .nil) (fun hgd => ?_) rfl rfl ?_
    · have hx : s.readers.length ≤ 1000000 := by simp at hgd; omega
      first | exact op_call (l := [(Go.Operand.tmp 21)]) (rvalid_ok s hx) (.cons rfl .nil) fn15 | exact op_call (l := [(Go.Operand.tmp 21)]) (rvalid_ok s hx) (.ent rfl (by repeat (first | exact Ent.refl _ | exact Ents.nil | exact Ent.nil _ _ | exact Ent.row _ _ _ _ | exact Ent.func _ | refine Ents.cons ?_ ?_ | refine Ent.tup ?_ | refine Ent.agg ?_ | refine Ent.cells ?_ | exact Ent.of_eq rfl)) .nil) fn15
    first | refine lxs rfl rfl rfl guard_eq (.cons (t := 22) rfl (fun h => entW h) .nil) (op_not rfl) rfl ?_ | refine lxs rfl rfl rfl guard_eq (.cons (t := 22) rfl (fun h => entW h) .nil) (op_not_b rfl) rfl ?_
    refine lx (op_pick_or rfl rfl) rfl ?_
    refine lx_end ⟨by kernel_rfl, ?_⟩
    refine pe_then_normal ?_
    refine tr_sub hC (.cons (t := 1) rfl (.cons (t := 2) rfl (.cons (t := 24) rfl .nil))) (.cons (t := 2) rfl .nil) rfl ?_
    refine tr_cond rfl (fun h24 => ?_) (fun h24 => ?_)
    · (try simp only [Bool.and_eq_true, Bool.or_eq_true, Bool.and_eq_false_iff, Bool.or_eq_false_iff, decide_eq_true_eq, decide_eq_false_iff_not, Bool.not_eq_true', Bool.not_eq_false', ne_eq, Decidable.not_not, Int.not_lt, Int.not_le] at h24)
      refine tr_seq ?_
      refine tr_region (fun N4 hN => ?_)
      refine lx (op_assign rfl) rfl ?_
      refine lx_end ⟨by kernel_rfl, ?_⟩
      refine pe_then_normal ?_
      refine tr_sub hC (.cons (t := 4) rfl .nil) .nil rfl ?_
      refine tr_ret ?_
      refine pe_then_ret ?_
      refine pe_ret1 rfl hO rfl (.tmp rfl .nil) ?_
      repeat (first | exact Ent.refl _ | exact Ents.nil | exact Ent.nil _ _ | exact Ent.row _ _ _ _ | exact Ent.func _ | refine Ents.cons ?_ ?_ | refine Ent.tup ?_ | refine Ent.agg ?_ | refine Ent.cells ?_ | exact Ent.of_eq rfl)
    · (try simp only [Bool.and_eq_true, Bool.or_eq_true, Bool.and_eq_false_iff, Bool.or_eq_false_iff, decide_eq_true_eq, decide_eq_false_iff_not, Bool.not_eq_true', Bool.not_eq_false', ne_eq, Decidable.not_not, Int.not_lt, Int.not_le] at h24)
      have hv : validF s = true := h24.2
      have hx : s.readers.length ≤ 1000000 := by omega
      refine tr_skip ?_
      refine pe_then_normal ?_
      refine tr_sub hC (.cons (t := 1) rfl (.cons (t := 2) rfl .nil)) (.cons (t := 2) rfl .nil) rfl ?_
      refine tr_seq ?_
      refine tr_region (fun N5 hN => ?_)
      refine lx (op_move rfl) rfl ?_
      refine lx (op_rem rfl rfl rfl) rfl ?_
      refine lx (op_convert rfl us5 ik3) rfl ?_
      refine lx (op_assign rfl) rfl ?_
      refine lx_end ⟨by kernel_rfl, ?_⟩
      refine pe_then_normal ?_
      refine tr_sub hC (.cons (t := 2) rfl (.cons (t := 5) rfl .nil)) (.cons (t := 2) rfl .nil) rfl ?_
      refine tr_seq ?_
      refine tr_region (fun N6 hN => ?_)
      first | refine lx (op_bload (m := 2) rfl rfl ag24 sz24) rfl ?_ | refine lx (op_bload_part (m := 2) rfl rfl ag24 sz24 rfl rfl) rfl ?_
      refine lx (op_move rfl) rfl ?_
      first | refine lx (op_call (l := [(Go.Operand.tmp 29), (Go.Operand.tmp 30)]) (lock_ok s _ hx) (.cons rfl (.cons rfl .nil)) fn20) rfl ?_ | refine lx (op_call (l := [(Go.Operand.tmp 29), (Go.Operand.tmp 30)]) (lock_ok s _ hx) (.ent rfl (by repeat (first | exact Ent.refl _ | exact Ents.nil | exact Ent.nil _ _ | exact Ent.row _ _ _ _ | exact Ent.func _ | refine Ents.cons ?_ ?_ | refine Ent.tup ?_ | refine Ent.agg ?_ | refine Ent.cells ?_ | exact Ent.of_eq rfl)) (.ent rfl (by repeat (first | exact Ent.refl _ | exact Ents.nil | exact Ent.nil _ _ | exact Ent.row _ _ _ _ | exact Ent.func _ | refine Ents.cons ?_ ?_ | refine Ent.tup ?_ | refine Ent.agg ?_ | refine Ent.cells ?_ | exact Ent.of_eq rfl)) .nil)) fn20) rfl ?_
      refine lx (op_move rfl) rfl ?_
      refine lx (op_extract rfl rfl) rfl ?_
      refine lx (op_extract rfl rfl) rfl ?_
      refine lxn (op_alloc (m := 6) (k := 6) (ps := zps) ze24 rfl rfl (by first | exact hC.low _ (by decide) | rfl)) rfl ?_
      first | refine lxr (op_store_all (m := 6) rfl rfl rfl (.agg rfl) sz24 rfl) rfl ?_ | refine lxr (op_store (m := 6) rfl rfl rfl (.agg rfl) sz24 rfl rfl rfl) rfl ?_
      refine lx (op_assign rfl) rfl ?_
      refine lx_end ⟨by kernel_rfl, ?_⟩
      refine pe_then_normal ?_
      refine tr_sub hC (.cons (t := 2) rfl (.cons (t := 5) rfl (.cons (t := 6) rfl (.cons (t := 7) rfl .nil)))) (.cons (t := 2) rfl (.cons (t := 6) rfl .nil)) rfl ?_
      refine tr_seq ?_
      refine tr_seq ?_
      refine tr_region (fun N7 hN => ?_)
      refine lx (op_move rfl) rfl ?_
      refine lx (op_eql rfl rfl) rfl ?_
      refine lx_end ⟨by kernel_rfl, ?_⟩
      refine pe_then_normal ?_
      refine tr_sub hC (.cons (t := 2) rfl (.cons (t := 5) rfl (.cons (t := 6) rfl (.cons (t := 35) rfl .nil)))) (.cons (t := 2) rfl (.cons (t := 6) rfl .nil)) rfl ?_
      refine tr_join [(2, ptrP (N0, 2) 0), (5, eqP (.int .i64 (IntKind.i64.wrap (g.tmod 8))))] [(2, some ((N0, 2), blk 24 s.ps))] ?_ ?_
      · refine tr_cond rfl (fun h35 => ?_) (fun h35 => ?_)
        · (try simp only [Bool.and_eq_true, Bool.or_eq_true, Bool.and_eq_false_iff, Bool.or_eq_false_iff, decide_eq_true_eq, decide_eq_false_iff_not, Bool.not_eq_true', Bool.not_eq_false', ne_eq, Decidable.not_not, Int.not_lt, Int.not_le] at h35)
          refine tr_seq ?_
          refine tr_region (fun N8 hN => ?_)
          first | refine lx (op_bload (m := 6) rfl rfl ag24 sz24) rfl ?_ | refine lx (op_bload_part (m := 6) rfl rfl ag24 sz24 rfl rfl) rfl ?_
          first | refine lx (op_call (l := [(Go.Operand.tmp 37)]) (unlock_ok _ lockF_len) (.cons rfl .nil) fn25) rfl ?_ | refine lx (op_call (l := [(Go.Operand.tmp 37)]) (unlock_ok _ lockF_len) (.ent rfl (by repeat (first | exact Ent.refl _ | exact Ents.nil | exact Ent.nil _ _ | exact Ent.row _ _ _ _ | exact Ent.func _ | refine Ents.cons ?_ ?_ | refine Ent.tup ?_ | refine Ent.agg ?_ | refine Ent.cells ?_ | exact Ent.of_eq rfl)) .nil) fn25) rfl ?_
          refine lx (op_move rfl) rfl ?_
          refine lx (op_extract rfl rfl) rfl ?_
          refine lx (op_extract rfl rfl) rfl ?_
          refine lxn (op_alloc (m := 8) (k := 8) (ps := zps) ze24 rfl rfl (by first | exact hC.low _ (by decide) | rfl)) rfl ?_
          first | refine lxr (op_store_all (m := 8) rfl rfl rfl (.agg rfl) sz24 rfl) rfl ?_ | refine lxr (op_store (m := 8) rfl rfl rfl (.agg rfl) sz24 rfl rfl rfl) rfl ?_
          refine lx (op_assign rfl) rfl ?_
          refine lx_end ⟨by kernel_rfl, ?_⟩
          refine pe_then_normal ?_
          refine tr_sub hC (.cons (t := 2) rfl (.cons (t := 5) rfl (.cons (t := 8) rfl (.cons (t := 9) rfl .nil)))) (.cons (t := 2) rfl (.cons (t := 8) rfl .nil)) rfl ?_
          refine tr_seq ?_
          refine tr_region (fun N9 hN => ?_)
          refine lx (op_move rfl) rfl ?_
          refine lx (op_neq rfl rfl) rfl ?_
          refine lx (op_move rfl) rfl ?_
          first | refine lxs rfl rfl rfl guard_eq (.cons (t := 8) rfl (fun _ => Ent.refl _) .nil) (op_bload (m := 8) rfl rfl ag24 sz24) rfl ?_ | refine lxs rfl rfl rfl guard_eq (.cons (t := 8) rfl (fun _ => Ent.refl _) .nil) (op_bload_part (m := 8) rfl rfl ag24 sz24 rfl rfl) rfl ?_
          first | refine lxs rfl rfl rfl guard_eq (.cons (t := 2) rfl (fun _ => Ent.refl _) .nil) (op_bload (m := 2) rfl rfl ag24 sz24) rfl ?_ | refine lxs rfl rfl rfl guard_eq (.cons (t := 2) rfl (fun _ => Ent.refl _) .nil) (op_bload_part (m := 2) rfl rfl ag24 sz24 rfl rfl) rfl ?_
          first | refine lxs rfl rfl rfl guard_eq (.cons (t := 44) rfl (fun h => entW h) (.cons (t := 45) rfl (fun h => entW h) .nil)) (op_call (l := [(Go.Operand.tmp 44), (Go.Operand.tmp 45)]) (same_ok _ _ unlockF_len) (.cons rfl (.cons rfl .nil)) fn13) rfl ?_ | refine lxs rfl rfl rfl guard_eq (.cons (t := 44) rfl (fun h => entW h) (.cons (t := 45) rfl (fun h => entW h) .nil)) (op_call (l := [(Go.Operand.tmp 44), (Go.Operand.tmp 45)]) (same_ok _ _ unlockF_len) (.ent rfl (by repeat (first | exact Ent.refl _ | exact Ents.nil | exact Ent.nil _ _ | exact Ent.row _ _ _ _ | exact Ent.func _ | refine Ents.cons ?_ ?_ | refine Ent.tup ?_ | refine Ent.agg ?_ | refine Ent.cells ?_ | exact Ent.of_eq rfl)) (.ent rfl (by repeat (first | exact Ent.refl _ | exact Ents.nil | exact Ent.nil _ _ | exact Ent.row _ _ _ _ | exact Ent.func _ | refine Ents.cons ?_ ?_ | refine Ent.tup ?_ | refine Ent.agg ?_ | refine Ent.cells ?_ | exact Ent.of_eq rfl)) .nil)) fn13) rfl ?_
          first | refine lxs rfl rfl rfl guard_eq (.cons (t := 46) rfl (fun h => entW h) .nil) (op_not rfl) rfl ?_ | refine lxs rfl rfl rfl guard_eq (.cons (t := 46) rfl (fun h => entW h) .nil) (op_not_b rfl) rfl ?_
          refine lx (op_pick_or rfl rfl) rfl ?_
          refine lx_end ⟨by kernel_rfl, ?_⟩
          refine pe_then_normal ?_
          refine tr_sub hC (.cons (t := 2) rfl (.cons (t := 5) rfl (.cons (t := 48) rfl .nil))) (.cons (t := 2) rfl .nil) rfl ?_
          refine tr_cond rfl (fun h48 => ?_) (fun h48 => ?_)
          · exact absurd h48 (by simp [undone_lock hv hk h35])
          · (try simp only [Bool.and_eq_true, Bool.or_eq_true, Bool.and_eq_false_iff, Bool.or_eq_false_iff, decide_eq_true_eq, decide_eq_false_iff_not, Bool.not_eq_true', Bool.not_eq_false', ne_eq, Decidable.not_not, Int.not_lt, Int.not_le] at h48)
            refine tr_skip ?_
            refine pe_then_mid (pe_st hC ?_ ?_ rfl)
            · try dsimp only
              first | refine SubF.cons rfl ?_ | (refine SubF.ent rfl ?_ ?_; · repeat (first | exact Ent.refl _ | exact Ents.nil | exact Ent.nil _ _ | exact Ent.row _ _ _ _ | exact Ent.func _ | refine Ents.cons ?_ ?_ | refine Ent.tup ?_ | refine Ent.agg ?_ | refine Ent.cells ?_ | exact Ent.of_eq rfl))
              first | refine SubF.cons rfl ?_ | (refine SubF.ent rfl ?_ ?_; · repeat (first | exact Ent.refl _ | exact Ents.nil | exact Ent.nil _ _ | exact Ent.row _ _ _ _ | exact Ent.func _ | refine Ents.cons ?_ ?_ | refine Ent.tup ?_ | refine Ent.agg ?_ | refine Ent.cells ?_ | exact Ent.of_eq rfl))
              exact SubF.nil
            · try dsimp only
              repeat (first | exact SubL.nil | refine SubL.cons rfl ?_)
        · (try simp only [Bool.and_eq_true, Bool.or_eq_true, Bool.and_eq_false_iff, Bool.or_eq_false_iff, decide_eq_true_eq, decide_eq_false_iff_not, Bool.not_eq_true', Bool.not_eq_false', ne_eq, Decidable.not_not, Int.not_lt, Int.not_le] at h35)
          refine tr_skip ?_
          refine pe_then_mid (pe_st hC ?_ ?_ rfl)
          · try dsimp only
            first | refine SubF.cons rfl ?_ | (refine SubF.ent rfl ?_ ?_; · repeat (first | exact Ent.refl _ | exact Ents.nil | exact Ent.nil _ _ | exact Ent.row _ _ _ _ | exact Ent.func _ | refine Ents.cons ?_ ?_ | refine Ent.tup ?_ | refine Ent.agg ?_ | refine Ent.cells ?_ | exact Ent.of_eq rfl))
            first | refine SubF.cons rfl ?_ | (refine SubF.ent rfl ?_ ?_; · repeat (first | exact Ent.refl _ | exact Ents.nil | exact Ent.nil _ _ | exact Ent.row _ _ _ _ | exact Ent.func _ | refine Ents.cons ?_ ?_ | refine Ent.tup ?_ | refine Ent.agg ?_ | refine Ent.cells ?_ | exact Ent.of_eq rfl))
            exact SubF.nil
          · try dsimp only
            repeat (first | exact SubL.nil | refine SubL.cons rfl ?_)
      · refine tr_seq ?_
        refine tr_seq ?_
        refine tr_region (fun N11 hN => ?_)
        refine lx (op_assign rfl) rfl ?_
        refine lx_end ⟨by kernel_rfl, ?_⟩
        refine pe_then_normal ?_
        refine tr_sub hC (.cons (t := 2) rfl (.cons (t := 5) rfl (.cons (t := 10) rfl .nil))) (.cons (t := 2) rfl .nil) rfl ?_
        refine tr_block ?_
        refine tr_loop (α := {k : Nat // k ≤ s.readers.length ∧ ∀ x ∈ s.readers.take k, decide (x = (IntKind.i64.wrap (g.tmod 8))) = false}) (⟨0, Nat.zero_le _, by simp⟩) (fun x => [(2, ptrP (N0, 2) 0), (5, eqP (.int .i64 (IntKind.i64.wrap (g.tmod 8)))), (10, eqP (.int .i64 (x.1 : Int)))]) (fun x => [(2, some ((N0, 2), blk 24 s.ps))]) (fun x => s.readers.length - x.1) (pe_st hC ?_ ?_ rfl) (fun x => ?_)
        · try dsimp only
          first | refine SubF.cons rfl ?_ | (refine SubF.ent rfl ?_ ?_; · repeat (first | exact Ent.refl _ | exact Ents.nil | exact Ent.nil _ _ | exact Ent.row _ _ _ _ | exact Ent.func _ | refine Ents.cons ?_ ?_ | refine Ent.tup ?_ | refine Ent.agg ?_ | refine Ent.cells ?_ | exact Ent.of_eq rfl))
          first | refine SubF.cons rfl ?_ | (refine SubF.ent rfl ?_ ?_; · repeat (first | exact Ent.refl _ | exact Ents.nil | exact Ent.nil _ _ | exact Ent.row _ _ _ _ | exact Ent.func _ | refine Ents.cons ?_ ?_ | refine Ent.tup ?_ | refine Ent.agg ?_ | refine Ent.cells ?_ | exact Ent.of_eq rfl))
          first | refine SubF.cons rfl ?_ | (refine SubF.ent rfl ?_ ?_; · repeat (first | exact Ent.refl _ | exact Ents.nil | exact Ent.nil _ _ | exact Ent.row _ _ _ _ | exact Ent.func _ | refine Ents.cons ?_ ?_ | refine Ent.tup ?_ | refine Ent.agg ?_ | refine Ent.cells ?_ | exact Ent.of_eq rfl))
          exact SubF.nil
        · try dsimp only
          repeat (first | exact SubL.nil | refine SubL.cons rfl ?_)
        · obtain ⟨k, hk1, hk2⟩ := x
          dsimp only
          refine tr_seq ?_
          refine tr_seq ?_
          refine tr_region (fun N12 hN => ?_)
          refine lx (op_move rfl) rfl ?_
          refine lx (op_fieldAddr rfl fl24_4 sz22) rfl ?_
          refine lx (op_bload_one (m := 2) rfl rfl ag22 rfl) rfl ?_
          first | refine lx (op_len rfl el22) rfl ?_ | refine lx (op_len_row rfl el22) rfl ?_ | refine lx (op_len_mv rfl el22) rfl ?_
          refine lx (op_lss rfl rfl) rfl ?_
          refine lx_end ⟨by kernel_rfl, ?_⟩
          refine pe_then_normal ?_
          refine tr_sub hC (.cons (t := 2) rfl (.cons (t := 5) rfl (.cons (t := 10) rfl (.cons (t := 53) rfl .nil)))) (.cons (t := 2) rfl .nil) rfl ?_
          refine tr_cond rfl (fun h53 => ?_) (fun h53 => ?_)
          · (try simp only [Bool.and_eq_true, Bool.or_eq_true, Bool.and_eq_false_iff, Bool.or_eq_false_iff, decide_eq_true_eq, decide_eq_false_iff_not, Bool.not_eq_true', Bool.not_eq_false', ne_eq, Decidable.not_not, Int.not_lt, Int.not_le] at h53)
            refine tr_skip ?_
            refine pe_then_normal ?_
            refine tr_sub hC (.cons (t := 2) rfl (.cons (t := 5) rfl (.cons (t := 10) rfl .nil))) (.cons (t := 2) rfl .nil) rfl ?_
            refine tr_seq ?_
            refine tr_block ?_
            refine tr_seq ?_
            refine tr_region (fun N14 hN => ?_)
            refine lx (op_fieldAddr rfl fl24_4 sz22) rfl ?_
            refine lx (op_bload_one (m := 2) rfl rfl ag22 rfl) rfl ?_
            refine lx (op_move rfl) rfl ?_
            refine lx (op_index rfl rfl el22 sz3 rfl (List.getElem?_eq_getElem (by omega : k < s.readers.length))) rfl ?_
            first | refine lx (op_load_one rfl ag3 rfl) rfl ?_ | refine lx (op_bload_one (m := 2) rfl rfl ag3 rfl) rfl ?_
            refine lx (op_move rfl) rfl ?_
            refine lx (op_eql rfl rfl) rfl ?_
            refine lx_end ⟨by kernel_rfl, ?_⟩
            refine pe_then_normal ?_
            refine tr_sub hC (.cons (t := 2) rfl (.cons (t := 5) rfl (.cons (t := 10) rfl (.cons (t := 62) rfl .nil)))) (.cons (t := 2) rfl .nil) rfl ?_
            refine tr_cond rfl (fun h62 => ?_) (fun h62 => ?_)
            · (try simp only [Bool.and_eq_true, Bool.or_eq_true, Bool.and_eq_false_iff, Bool.or_eq_false_iff, decide_eq_true_eq, decide_eq_false_iff_not, Bool.not_eq_true', Bool.not_eq_false', ne_eq, Decidable.not_not, Int.not_lt, Int.not_le] at h62)
              refine tr_seq ?_
              refine tr_region (fun N15 hN => ?_)
              refine lx (op_assign rfl) rfl ?_
              refine lx_end ⟨by kernel_rfl, ?_⟩
              refine pe_then_normal ?_
              refine tr_sub hC (.cons (t := 4) rfl .nil) .nil rfl ?_
              refine tr_ret ?_
              refine pe_block_ret ?_
              refine pe_then_ret ?_
              refine pe_then_ret ?_
              refine pe_block_ret ?_
              refine pe_then_ret ?_
              refine pe_ret1 rfl hO rfl (.tmp rfl .nil) ?_
              repeat (first | exact Ent.refl _ | exact Ents.nil | exact Ent.nil _ _ | exact Ent.row _ _ _ _ | exact Ent.func _ | refine Ents.cons ?_ ?_ | refine Ent.tup ?_ | refine Ent.agg ?_ | refine Ent.cells ?_ | exact Ent.of_eq rfl)
            · (try simp only [Bool.and_eq_true, Bool.or_eq_true, Bool.and_eq_false_iff, Bool.or_eq_false_iff, decide_eq_true_eq, decide_eq_false_iff_not, Bool.not_eq_true', Bool.not_eq_false', ne_eq, Decidable.not_not, Int.not_lt, Int.not_le] at h62)
              have hmiss : decide (s.readers[k] = (IntKind.i64.wrap (g.tmod 8))) = false := by simpa using h62
              refine tr_skip ?_
              refine pe_block_normal ?_
              refine pe_then_normal ?_
              refine tr_sub hC (.cons (t := 2) rfl (.cons (t := 5) rfl (.cons (t := 10) rfl .nil))) (.cons (t := 2) rfl .nil) rfl ?_
              refine tr_region (fun N13 hN => ?_)
              refine lx (op_move rfl) rfl ?_
              refine lx (op_add rfl rfl (by omega)) rfl ?_
              refine lx (op_assign rfl) rfl ?_
              refine lx_end ⟨by kernel_rfl, ?_⟩
              refine pe_round (⟨k + 1, by omega, take_all hk2 (by omega) hmiss⟩) (by dsimp only; omega) (pe_st hC ?_ ?_ rfl)
              · try dsimp only
                first | refine SubF.cons rfl ?_ | (refine SubF.ent rfl ?_ ?_; · repeat (first | exact Ent.refl _ | exact Ents.nil | exact Ent.nil _ _ | exact Ent.row _ _ _ _ | exact Ent.func _ | refine Ents.cons ?_ ?_ | refine Ent.tup ?_ | refine Ent.agg ?_ | refine Ent.cells ?_ | exact Ent.of_eq rfl))
                first | refine SubF.cons rfl ?_ | (refine SubF.ent rfl ?_ ?_; · repeat (first | exact Ent.refl _ | exact Ents.nil | exact Ent.nil _ _ | exact Ent.row _ _ _ _ | exact Ent.func _ | refine Ents.cons ?_ ?_ | refine Ent.tup ?_ | refine Ent.agg ?_ | refine Ent.cells ?_ | exact Ent.of_eq rfl))
                first | refine SubF.cons rfl ?_ | (refine SubF.ent rfl ?_ ?_; · repeat (first | exact Ent.refl _ | exact Ents.nil | exact Ent.nil _ _ | exact Ent.row _ _ _ _ | exact Ent.func _ | refine Ents.cons ?_ ?_ | refine Ent.tup ?_ | refine Ent.agg ?_ | refine Ent.cells ?_ | exact Ent.of_eq rfl))
                exact SubF.nil
              · try dsimp only
                repeat (first | exact SubL.nil | refine SubL.cons rfl ?_)
          · (try simp only [Bool.and_eq_true, Bool.or_eq_true, Bool.and_eq_false_iff, Bool.or_eq_false_iff, decide_eq_true_eq, decide_eq_false_iff_not, Bool.not_eq_true', Bool.not_eq_false', ne_eq, Decidable.not_not, Int.not_lt, Int.not_le] at h53)
            have hk3 : k = s.readers.length := by omega
            refine tr_exit ?_
            refine pe_then_exit ?_
            refine pe_then_exit ?_
            refine pe_block_eq ?_
            refine pe_then_normal ?_
            refine tr_sub hC (.cons (t := 2) rfl (.cons (t := 5) rfl .nil)) (.cons (t := 2) rfl .nil) rfl ?_
            refine tr_seq ?_
            refine tr_region (fun N16 hN => ?_)
            first | refine lx (op_bload (m := 2) rfl rfl ag24 sz24) rfl ?_ | refine lx (op_bload_part (m := 2) rfl rfl ag24 sz24 rfl rfl) rfl ?_
            refine lx (op_move rfl) rfl ?_
            first | refine lx (op_call (l := [(Go.Operand.tmp 64), (Go.Operand.tmp 65)]) (rlock_ok s _ hx) (.cons rfl (.cons rfl .nil)) fn21) rfl ?_ | refine lx (op_call (l := [(Go.Operand.tmp 64), (Go.Operand.tmp 65)]) (rlock_ok s _ hx) (.ent rfl (by repeat (first | exact Ent.refl _ | exact Ents.nil | exact Ent.nil _ _ | exact Ent.row _ _ _ _ | exact Ent.func _ | refine Ents.cons ?_ ?_ | refine Ent.tup ?_ | refine Ent.agg ?_ | refine Ent.cells ?_ | exact Ent.of_eq rfl)) (.ent rfl (by repeat (first | exact Ent.refl _ | exact Ents.nil | exact Ent.nil _ _ | exact Ent.row _ _ _ _ | exact Ent.func _ | refine Ents.cons ?_ ?_ | refine Ent.tup ?_ | refine Ent.agg ?_ | refine Ent.cells ?_ | exact Ent.of_eq rfl)) .nil)) fn21) rfl ?_
            refine lx (op_move rfl) rfl ?_
            refine lx (op_extract rfl rfl) rfl ?_
            refine lx (op_extract rfl rfl) rfl ?_
            refine lxn (op_alloc (m := 11) (k := 11) (ps := zps) ze24 rfl rfl (by first | exact hC.low _ (by decide) | rfl)) rfl ?_
            first | refine lxr (op_store_all (m := 11) rfl rfl rfl (.agg rfl) sz24 rfl) rfl ?_ | refine lxr (op_store (m := 11) rfl rfl rfl (.agg rfl) sz24 rfl rfl rfl) rfl ?_
            refine lx (op_assign rfl) rfl ?_
            refine lx_end ⟨by kernel_rfl, ?_⟩
            refine pe_then_normal ?_
            refine tr_sub hC (.cons (t := 2) rfl (.cons (t := 5) rfl (.cons (t := 11) rfl (.cons (t := 12) rfl .nil)))) (.cons (t := 2) rfl (.cons (t := 11) rfl .nil)) rfl ?_
            refine tr_seq ?_
            refine tr_seq ?_
            refine tr_region (fun N17 hN => ?_)
            refine lx (op_move rfl) rfl ?_
            refine lx (op_neq rfl rfl) rfl ?_
            refine lx_end ⟨by kernel_rfl, ?_⟩
            refine pe_then_normal ?_
            refine tr_sub hC (.cons (t := 2) rfl (.cons (t := 5) rfl (.cons (t := 11) rfl (.cons (t := 70) rfl .nil)))) (.cons (t := 2) rfl (.cons (t := 11) rfl .nil)) rfl ?_
            refine tr_cond rfl (fun h70 => ?_) (fun h70 => ?_)
            · (try simp only [Bool.and_eq_true, Bool.or_eq_true, Bool.and_eq_false_iff, Bool.or_eq_false_iff, decide_eq_true_eq, decide_eq_false_iff_not, Bool.not_eq_true', Bool.not_eq_false', ne_eq, Decidable.not_not, Int.not_lt, Int.not_le] at h70)
              refine tr_seq ?_
              refine tr_region (fun N18 hN => ?_)
              refine lx (op_assign rfl) rfl ?_
              refine lx_end ⟨by kernel_rfl, ?_⟩
              refine pe_then_normal ?_
              refine tr_sub hC (.cons (t := 4) rfl .nil) .nil rfl ?_
              refine tr_ret ?_
              refine pe_then_ret ?_
              refine pe_ret1 rfl hO rfl (.tmp rfl .nil) ?_
              repeat (first | exact Ent.refl _ | exact Ents.nil | exact Ent.nil _ _ | exact Ent.row _ _ _ _ | exact Ent.func _ | refine Ents.cons ?_ ?_ | refine Ent.tup ?_ | refine Ent.agg ?_ | refine Ent.cells ?_ | exact Ent.of_eq rfl)
            · (try simp only [Bool.and_eq_true, Bool.or_eq_true, Bool.and_eq_false_iff, Bool.or_eq_false_iff, decide_eq_true_eq, decide_eq_false_iff_not, Bool.not_eq_true', Bool.not_eq_false', ne_eq, Decidable.not_not, Int.not_lt, Int.not_le] at h70)
              refine tr_skip ?_
              refine pe_then_normal ?_
              refine tr_sub hC (.cons (t := 2) rfl (.cons (t := 5) rfl (.cons (t := 11) rfl .nil))) (.cons (t := 2) rfl (.cons (t := 11) rfl .nil)) rfl ?_
              refine tr_seq ?_
              refine tr_region (fun N19 hN => ?_)
              first | refine lx (op_bload (m := 11) rfl rfl ag24 sz24) rfl ?_ | refine lx (op_bload_part (m := 11) rfl rfl ag24 sz24 rfl rfl) rfl ?_
              refine lx (op_move rfl) rfl ?_
              first | refine lx (op_call (l := [(Go.Operand.tmp 72), (Go.Operand.tmp 73)]) (runlock_ok _ _ (Nat.le_trans (rlockF_len (n := 40) (by omega)) (by decide))) (.cons rfl (.cons rfl .nil)) fn22) rfl ?_ | refine lx (op_call (l := [(Go.Operand.tmp 72), (Go.Operand.tmp 73)]) (runlock_ok _ _ (Nat.le_trans (rlockF_len (n := 40) (by omega)) (by decide))) (.ent rfl (by repeat (first | exact Ent.refl _ | exact Ents.nil | exact Ent.nil _ _ | exact Ent.row _ _ _ _ | exact Ent.func _ | refine Ents.cons ?_ ?_ | refine Ent.tup ?_ | refine Ent.agg ?_ | refine Ent.cells ?_ | exact Ent.of_eq rfl)) (.ent rfl (by repeat (first | exact Ent.refl _ | exact Ents.nil | exact Ent.nil _ _ | exact Ent.row _ _ _ _ | exact Ent.func _ | refine Ents.cons ?_ ?_ | refine Ent.tup ?_ | refine Ent.agg ?_ | refine Ent.cells ?_ | exact Ent.of_eq rfl)) .nil)) fn22) rfl ?_
              refine lx (op_move rfl) rfl ?_
              refine lx (op_extract rfl rfl) rfl ?_
              refine lx (op_extract rfl rfl) rfl ?_
              refine lxn (op_alloc (m := 13) (k := 13) (ps := zps) ze24 rfl rfl (by first | exact hC.low _ (by decide) | rfl)) rfl ?_
              first | refine lxr (op_store_all (m := 13) rfl rfl rfl (.agg rfl) sz24 rfl) rfl ?_ | refine lxr (op_store (m := 13) rfl rfl rfl (.agg rfl) sz24 rfl rfl rfl) rfl ?_
              refine lx (op_assign rfl) rfl ?_
              refine lx_end ⟨by kernel_rfl, ?_⟩
              refine pe_then_normal ?_
              refine tr_sub hC (.cons (t := 2) rfl (.cons (t := 13) rfl (.cons (t := 14) rfl .nil))) (.cons (t := 2) rfl (.cons (t := 13) rfl .nil)) rfl ?_
              refine tr_seq ?_
              refine tr_region (fun N20 hN => ?_)
              refine lx (op_move rfl) rfl ?_
              refine lx (op_eql rfl rfl) rfl ?_
              refine lx (op_move rfl) rfl ?_
              first | refine lxs rfl rfl rfl guard_eq (.cons (t := 13) rfl (fun _ => Ent.refl _) .nil) (op_bload (m := 13) rfl rfl ag24 sz24) rfl ?_ | refine lxs rfl rfl rfl guard_eq (.cons (t := 13) rfl (fun _ => Ent.refl _) .nil) (op_bload_part (m := 13) rfl rfl ag24 sz24 rfl rfl) rfl ?_
              first | refine lxs rfl rfl rfl guard_eq (.cons (t := 2) rfl (fun _ => Ent.refl _) .nil) (op_bload (m := 2) rfl rfl ag24 sz24) rfl ?_ | refine lxs rfl rfl rfl guard_eq (.cons (t := 2) rfl (fun _ => Ent.refl _) .nil) (op_bload_part (m := 2) rfl rfl ag24 sz24 rfl rfl) rfl ?_
              first | refine lxs rfl rfl rfl guard_eq (.cons (t := 80) rfl (fun h => entW h) (.cons (t := 81) rfl (fun h => entW h) .nil)) (op_call (l := [(Go.Operand.tmp 80), (Go.Operand.tmp 81)]) (same_ok _ _ (runlockF_len (Nat.le_trans (rlockF_len (n := 40) (by omega)) (by decide)))) (.cons rfl (.cons rfl .nil)) fn13) rfl ?_ | refine lxs rfl rfl rfl guard_eq (.cons (t := 80) rfl (fun h => entW h) (.cons (t := 81) rfl (fun h => entW h) .nil)) (op_call (l := [(Go.Operand.tmp 80), (Go.Operand.tmp 81)]) (same_ok _ _ (runlockF_len (Nat.le_trans (rlockF_len (n := 40) (by omega)) (by decide)))) (.ent rfl (by repeat (first | exact Ent.refl _ | exact Ents.nil | exact Ent.nil _ _ | exact Ent.row _ _ _ _ | exact Ent.func _ | refine Ents.cons ?_ ?_ | refine Ent.tup ?_ | refine Ent.agg ?_ | refine Ent.cells ?_ | exact Ent.of_eq rfl)) (.ent rfl (by repeat (first | exact Ent.refl _ | exact Ents.nil | exact Ent.nil _ _ | exact Ent.row _ _ _ _ | exact Ent.func _ | refine Ents.cons ?_ ?_ | refine Ent.tup ?_ | refine Ent.agg ?_ | refine Ent.cells ?_ | exact Ent.of_eq rfl)) .nil)) fn13) rfl ?_
              refine lx (op_pick_and rfl rfl) rfl ?_
              refine lx (op_assign rfl) rfl ?_
              refine lx_end ⟨by kernel_rfl, ?_⟩
              refine pe_then_normal ?_
              refine tr_sub hC (.cons (t := 4) rfl .nil) .nil rfl ?_
              refine tr_ret ?_
              refine pe_ret1 rfl hO rfl (.tmp rfl .nil) ?_
              exact entB (by rw [hk3, List.take_of_length_le (Nat.le_refl _)] at hk2; simp [undone_rlock hv hk hk2 h70])

theorem law_commute (s : Sy) (a b : Int) (ha : 0 ≤ a) (hb : 0 ≤ b) : FnP Try.prog 5 [aggP s.ps, eqP (.int .u8 a), eqP (.int .u8 b)] (eqP (.bool true)) := by
  have hka : goro (IntKind.i64.wrap (a.tmod 8)) = true := goro8 ha
  have hkb : goro (IntKind.i64.wrap (b.tmod 8)) = true := goro8 hb
  refine fn_pure' Try.func5 rfl Try.ntmps5 rfl ?_
  intro σ0 M ex Rf R hC hO
  simp only [frameOf, tokOf]
  refine tr_seq ?_
  refine tr_region (fun N0 hN => ?_)
  refine lxn (op_box (m := 3) (k := 3) rfl (.agg rfl) (by first | exact hC.low _ (by decide) | rfl)) rfl ?_
  refine lx (op_assign rfl) rfl ?_
  refine lx_end ⟨by kernel_rfl, ?_⟩
  refine pe_then_normal ?_
  refine tr_sub hC (.cons (t := 1) rfl (.cons (t := 2) rfl (.cons (t := 3) rfl .nil))) (.cons (t := 3) rfl .nil) rfl ?_
  refine tr_seq ?_
  refine tr_seq ?_
  refine tr_region (fun N1 hN => ?_)
  first | refine lx (op_call (l := []) (awake_ok) .nil fn9) rfl ?_ | refine lx (op_call (l := []) (awake_ok) .nil fn9) rfl ?_
  first | refine lx (op_not rfl) rfl ?_ | refine lx (op_not_b rfl) rfl ?_
  refine lx_end ⟨by kernel_rfl, ?_⟩
  refine pe_then_normal ?_
  refine tr_sub hC (.cons (t := 1) rfl (.cons (t := 2) rfl (.cons (t := 3) rfl (.cons (t := 19) rfl .nil)))) (.cons (t := 3) rfl .nil) rfl ?_
  refine tr_cond rfl (fun h19 => ?_) (fun h19 => ?_)
  · exact absurd h19 (by decide)
  · (try simp only [Bool.and_eq_true, Bool.or_eq_true, Bool.and_eq_false_iff, Bool.or_eq_false_iff, decide_eq_true_eq, decide_eq_false_iff_not, Bool.not_eq_true', Bool.not_eq_false', ne_eq, Decidable.not_not, Int.not_lt, Int.not_le] at h19)
    refine tr_skip ?_
    refine pe_then_normal ?_
    refine tr_sub hC (.cons (t := 1) rfl (.cons (t := 2) rfl (.cons (t := 3) rfl .nil))) (.cons (t := 3) rfl .nil) rfl ?_
    refine tr_seq ?_
    refine tr_seq ?_
    refine tr_region (fun N3 hN => ?_)
    first | refine lx (op_bload (m := 3) rfl rfl ag24 sz24) rfl ?_ | refine lx (op_bload_part (m := 3) rfl rfl ag24 sz24 rfl rfl) rfl ?_
    first | refine lx (op_call (l := [(Go.Operand.tmp 20)]) (few_ok s) (.cons rfl .nil) fn10) rfl ?_ | refine lx (op_call (l := [(Go.Operand.tmp 20)]) (few_ok s) (.ent rfl (by repeat (first | exact Ent.refl _ | exact Ents.nil | exact Ent.nil _ _ | exact Ent.row _ _ _ _ | exact Ent.func _ | refine Ents.cons ?_ ?_ | refine Ent.tup ?_ | refine Ent.agg ?_ | refine Ent.cells ?_ | exact Ent.of_eq rfl)) .nil) fn10) rfl ?_
    first | refine lx (op_not rfl) rfl ?_ | refine lx (op_not_b rfl) rfl ?_
    refine lx (op_move rfl) rfl ?_
    first | refine lxs rfl rfl rfl guard_eq (.cons (t := 3) rfl (fun _ => Ent.refl _) .nil) (op_bload (m := 3) rfl rfl ag24 sz24) rfl ?_ | refine lxs rfl rfl rfl guard_eq (.cons (t := 3) rfl (fun _ => Ent.refl _) .nil) (op_bload_part (m := 3) rfl rfl ag24 sz24 rfl rfl) rfl ?_
    refine lxsc (rd := [(24, aggP s.ps)]) (φ := eqP (.bool (validF s))) rfl rfl rfl guard_eq (.cons (t := 24) rfl (fun h => entW h) .nil) (fun hgd => ?_) rfl rfl ?_
    · have hx : s.readers.length ≤ 1000000 := by simp at hgd; omega
      first | exact op_call (l := [(Go.Operand.tmp 24)]) (rvalid_ok s hx) (.cons rfl .nil) fn15 | exact op_call (l := [(Go.Operand.tmp 24)]) (rvalid_ok s hx) (.ent rfl (by repeat (first | exact Ent.refl _ | exact Ents.nil | exact Ent.nil _ _ | exact Ent.row _ _ _ _ | exact Ent.func _ | refine Ents.cons ?_ ?_ | refine Ent.tup ?_ | refine Ent.agg ?_ | refine Ent.cells ?_ | exact Ent.of_eq rfl)) .nil) fn15
    first | refine lxs rfl rfl rfl guard_eq (.cons (t := 25) rfl (fun h => entW h) .nil) (op_not rfl) rfl ?_ | refine lxs rfl rfl rfl guard_eq (.cons (t := 25) rfl (fun h => entW h) .nil) (op_not_b rfl) rfl ?_
    refine lx (op_pick_or rfl rfl) rfl ?_
    refine lx_end ⟨by kernel_rfl, ?_⟩
    refine pe_then_normal ?_
    refine tr_sub hC (.cons (t := 1) rfl (.cons (t := 2) rfl (.cons (t := 3) rfl (.cons (t := 27) rfl .nil)))) (.cons (t := 3) rfl .nil) rfl ?_
    refine tr_cond rfl (fun h27 => ?_) (fun h27 => ?_)
    · (try simp only [Bool.and_eq_true, Bool.or_eq_true, Bool.and_eq_false_iff, Bool.or_eq_false_iff, decide_eq_true_eq, decide_eq_false_iff_not, Bool.not_eq_true', Bool.not_eq_false', ne_eq, Decidable.not_not, Int.not_lt, Int.not_le] at h27)
      refine tr_seq ?_
      refine tr_region (fun N4 hN => ?_)
      refine lx (op_assign rfl) rfl ?_
      refine lx_end ⟨by kernel_rfl, ?_⟩
      refine pe_then_normal ?_
      refine tr_sub hC (.cons (t := 6) rfl .nil) .nil rfl ?_
      refine tr_ret ?_
      refine pe_then_ret ?_
      refine pe_ret1 rfl hO rfl (.tmp rfl .nil) ?_
      repeat (first | exact Ent.refl _ | exact Ents.nil | exact Ent.nil _ _ | exact Ent.row _ _ _ _ | exact Ent.func _ | refine Ents.cons ?_ ?_ | refine Ent.tup ?_ | refine Ent.agg ?_ | refine Ent.cells ?_ | exact Ent.of_eq rfl)
    · (try simp only [Bool.and_eq_true, Bool.or_eq_true, Bool.and_eq_false_iff, Bool.or_eq_false_iff, decide_eq_true_eq, decide_eq_false_iff_not, Bool.not_eq_true', Bool.not_eq_false', ne_eq, Decidable.not_not, Int.not_lt, Int.not_le] at h27)
      have hv : validF s = true := h27.2
      have hx : s.readers.length ≤ 1000000 := by omega
      refine tr_skip ?_
      refine pe_then_normal ?_
      refine tr_sub hC (.cons (t := 1) rfl (.cons (t := 2) rfl (.cons (t := 3) rfl .nil))) (.cons (t := 3) rfl .nil) rfl ?_
      refine tr_seq ?_
      refine tr_region (fun N5 hN => ?_)
      refine lx (op_move rfl) rfl ?_
      refine lx (op_rem rfl rfl rfl) rfl ?_
      refine lx (op_convert rfl us5 ik3) rfl ?_
      refine lx (op_assign rfl) rfl ?_
      refine lx_end ⟨by kernel_rfl, ?_⟩
      refine pe_then_normal ?_
      refine tr_sub hC (.cons (t := 2) rfl (.cons (t := 3) rfl (.cons (t := 7) rfl .nil))) (.cons (t := 3) rfl .nil) rfl ?_
      refine tr_seq ?_
      refine tr_region (fun N6 hN => ?_)
      refine lx (op_move rfl) rfl ?_
      refine lx (op_rem rfl rfl rfl) rfl ?_
      refine lx (op_convert rfl us5 ik3) rfl ?_
      refine lx (op_assign rfl) rfl ?_
      refine lx_end ⟨by kernel_rfl, ?_⟩
      refine pe_then_normal ?_
      refine tr_sub hC (.cons (t := 3) rfl (.cons (t := 7) rfl (.cons (t := 8) rfl .nil))) (.cons (t := 3) rfl .nil) rfl ?_
      refine tr_seq ?_
      refine tr_seq ?_
      refine tr_region (fun N7 hN => ?_)
      refine lx (op_move rfl) rfl ?_
      refine lx (op_move rfl) rfl ?_
      refine lx (op_eql rfl rfl) rfl ?_
      refine lx_end ⟨by kernel_rfl, ?_⟩
      refine pe_then_normal ?_
      refine tr_sub hC (.cons (t := 3) rfl (.cons (t := 7) rfl (.cons (t := 8) rfl (.cons (t := 36) rfl .nil)))) (.cons (t := 3) rfl .nil) rfl ?_
      refine tr_cond rfl (fun h36 => ?_) (fun h36 => ?_)
      · (try simp only [Bool.and_eq_true, Bool.or_eq_true, Bool.and_eq_false_iff, Bool.or_eq_false_iff, decide_eq_true_eq, decide_eq_false_iff_not, Bool.not_eq_true', Bool.not_eq_false', ne_eq, Decidable.not_not, Int.not_lt, Int.not_le] at h36)
        refine tr_seq ?_
        refine tr_region (fun N8 hN => ?_)
        refine lx (op_assign rfl) rfl ?_
        refine lx_end ⟨by kernel_rfl, ?_⟩
        refine pe_then_normal ?_
        refine tr_sub hC (.cons (t := 6) rfl .nil) .nil rfl ?_
        refine tr_ret ?_
        refine pe_then_ret ?_
        refine pe_ret1 rfl hO rfl (.tmp rfl .nil) ?_
        repeat (first | exact Ent.refl _ | exact Ents.nil | exact Ent.nil _ _ | exact Ent.row _ _ _ _ | exact Ent.func _ | refine Ents.cons ?_ ?_ | refine Ent.tup ?_ | refine Ent.agg ?_ | refine Ent.cells ?_ | exact Ent.of_eq rfl)
      · (try simp only [Bool.and_eq_true, Bool.or_eq_true, Bool.and_eq_false_iff, Bool.or_eq_false_iff, decide_eq_true_eq, decide_eq_false_iff_not, Bool.not_eq_true', Bool.not_eq_false', ne_eq, Decidable.not_not, Int.not_lt, Int.not_le] at h36)
        refine tr_skip ?_
        refine pe_then_normal ?_
        refine tr_sub hC (.cons (t := 3) rfl (.cons (t := 7) rfl (.cons (t := 8) rfl .nil))) (.cons (t := 3) rfl .nil) rfl ?_
        refine tr_seq ?_
        refine tr_region (fun N9 hN => ?_)
        first | refine lx (op_bload (m := 3) rfl rfl ag24 sz24) rfl ?_ | refine lx (op_bload_part (m := 3) rfl rfl ag24 sz24 rfl rfl) rfl ?_
        refine lx (op_move rfl) rfl ?_
        first | refine lx (op_call (l := [(Go.Operand.tmp 38), (Go.Operand.tmp 39)]) (rlock_ok s _ hx) (.cons rfl (.cons rfl .nil)) fn21) rfl ?_ | refine lx (op_call (l := [(Go.Operand.tmp 38), (Go.Operand.tmp 39)]) (rlock_ok s _ hx) (.ent rfl (by repeat (first | exact Ent.refl _ | exact Ents.nil | exact Ent.nil _ _ | exact Ent.row _ _ _ _ | exact Ent.func _ | refine Ents.cons ?_ ?_ | refine Ent.tup ?_ | refine Ent.agg ?_ | refine Ent.cells ?_ | exact Ent.of_eq rfl)) (.ent rfl (by repeat (first | exact Ent.refl _ | exact Ents.nil | exact Ent.nil _ _ | exact Ent.row _ _ _ _ | exact Ent.func _ | refine Ents.cons ?_ ?_ | refine Ent.tup ?_ | refine Ent.agg ?_ | refine Ent.cells ?_ | exact Ent.of_eq rfl)) .nil)) fn21) rfl ?_
        refine lx (op_move rfl) rfl ?_
        refine lx (op_extract rfl rfl) rfl ?_
        refine lx (op_extract rfl rfl) rfl ?_
        first | refine lxr (op_store_all (m := 3) rfl rfl rfl (.agg rfl) sz24 rfl) rfl ?_ | refine lxr (op_store (m := 3) rfl rfl rfl (.agg rfl) sz24 rfl rfl rfl) rfl ?_
        refine lx (op_assign rfl) rfl ?_
        refine lx_end ⟨by kernel_rfl, ?_⟩
        refine pe_then_normal ?_
        refine tr_sub hC (.cons (t := 3) rfl (.cons (t := 7) rfl (.cons (t := 8) rfl (.cons (t := 9) rfl .nil)))) (.cons (t := 3) rfl .nil) rfl ?_
        refine tr_seq ?_
        refine tr_seq ?_
        refine tr_region (fun N10 hN => ?_)
        refine lx (op_move rfl) rfl ?_
        refine lx (op_neq rfl rfl) rfl ?_
        refine lx_end ⟨by kernel_rfl, ?_⟩
        refine pe_then_normal ?_
        refine tr_sub hC (.cons (t := 3) rfl (.cons (t := 7) rfl (.cons (t := 8) rfl (.cons (t := 44) rfl .nil)))) (.cons (t := 3) rfl .nil) rfl ?_
        refine tr_cond rfl (fun h44 => ?_) (fun h44 => ?_)
        · (try simp only [Bool.and_eq_true, Bool.or_eq_true, Bool.and_eq_false_iff, Bool.or_eq_false_iff, decide_eq_true_eq, decide_eq_false_iff_not, Bool.not_eq_true', Bool.not_eq_false', ne_eq, Decidable.not_not, Int.not_lt, Int.not_le] at h44)
          refine tr_seq ?_
          refine tr_region (fun N11 hN => ?_)
          refine lx (op_assign rfl) rfl ?_
          refine lx_end ⟨by kernel_rfl, ?_⟩
          refine pe_then_normal ?_
          refine tr_sub hC (.cons (t := 6) rfl .nil) .nil rfl ?_
          refine tr_ret ?_
          refine pe_then_ret ?_
          refine pe_ret1 rfl hO rfl (.tmp rfl .nil) ?_
          repeat (first | exact Ent.refl _ | exact Ents.nil | exact Ent.nil _ _ | exact Ent.row _ _ _ _ | exact Ent.func _ | refine Ents.cons ?_ ?_ | refine Ent.tup ?_ | refine Ent.agg ?_ | refine Ent.cells ?_ | exact Ent.of_eq rfl)
        · (try simp only [Bool.and_eq_true, Bool.or_eq_true, Bool.and_eq_false_iff, Bool.or_eq_false_iff, decide_eq_true_eq, decide_eq_false_iff_not, Bool.not_eq_true', Bool.not_eq_false', ne_eq, Decidable.not_not, Int.not_lt, Int.not_le] at h44)
          refine tr_skip ?_
          refine pe_then_normal ?_
          refine tr_sub hC (.cons (t := 3) rfl (.cons (t := 7) rfl (.cons (t := 8) rfl .nil))) (.cons (t := 3) rfl .nil) rfl ?_
          refine tr_seq ?_
          refine tr_region (fun N12 hN => ?_)
          first | refine lx (op_bload (m := 3) rfl rfl ag24 sz24) rfl ?_ | refine lx (op_bload_part (m := 3) rfl rfl ag24 sz24 rfl rfl) rfl ?_
          refine lx (op_move rfl) rfl ?_
          first | refine lx (op_call (l := [(Go.Operand.tmp 46), (Go.Operand.tmp 47)]) (rlock_ok _ _ (Nat.le_trans (rlockF_len (n := 40) (by omega)) (by decide))) (.cons rfl (.cons rfl .nil)) fn21) rfl ?_ | refine lx (op_call (l := [(Go.Operand.tmp 46), (Go.Operand.tmp 47)]) (rlock_ok _ _ (Nat.le_trans (rlockF_len (n := 40) (by omega)) (by decide))) (.ent rfl (by repeat (first | exact Ent.refl _ | exact Ents.nil | exact Ent.nil _ _ | exact Ent.row _ _ _ _ | exact Ent.func _ | refine Ents.cons ?_ ?_ | refine Ent.tup ?_ | refine Ent.agg ?_ | refine Ent.cells ?_ | exact Ent.of_eq rfl)) (.ent rfl (by repeat (first | exact Ent.refl _ | exact Ents.nil | exact Ent.nil _ _ | exact Ent.row _ _ _ _ | exact Ent.func _ | refine Ents.cons ?_ ?_ | refine Ent.tup ?_ | refine Ent.agg ?_ | refine Ent.cells ?_ | exact Ent.of_eq rfl)) .nil)) fn21) rfl ?_
          refine lx (op_move rfl) rfl ?_
          refine lx (op_extract rfl rfl) rfl ?_
          refine lx (op_extract rfl rfl) rfl ?_
          first | refine lxr (op_store_all (m := 3) rfl rfl rfl (.agg rfl) sz24 rfl) rfl ?_ | refine lxr (op_store (m := 3) rfl rfl rfl (.agg rfl) sz24 rfl rfl rfl) rfl ?_
          refine lx (op_assign rfl) rfl ?_
          refine lx_end ⟨by kernel_rfl, ?_⟩
          refine pe_then_normal ?_
          refine tr_sub hC (.cons (t := 3) rfl (.cons (t := 7) rfl (.cons (t := 8) rfl (.cons (t := 9) rfl .nil)))) (.cons (t := 3) rfl .nil) rfl ?_
          refine tr_seq ?_
          refine tr_region (fun N13 hN => ?_)
          first | refine lx (op_bload (m := 3) rfl rfl ag24 sz24) rfl ?_ | refine lx (op_bload_part (m := 3) rfl rfl ag24 sz24 rfl rfl) rfl ?_
          refine lx (op_move rfl) rfl ?_
          first | refine lx (op_call (l := [(Go.Operand.tmp 52), (Go.Operand.tmp 53)]) (runlock_ok _ _ (Nat.le_trans (rlockF_len (n := 41) (rlockF_len (n := 40) (by omega))) (by decide))) (.cons rfl (.cons rfl .nil)) fn22) rfl ?_ | refine lx (op_call (l := [(Go.Operand.tmp 52), (Go.Operand.tmp 53)]) (runlock_ok _ _ (Nat.le_trans (rlockF_len (n := 41) (rlockF_len (n := 40) (by omega))) (by decide))) (.ent rfl (by repeat (first | exact Ent.refl _ | exact Ents.nil | exact Ent.nil _ _ | exact Ent.row _ _ _ _ | exact Ent.func _ | refine Ents.cons ?_ ?_ | refine Ent.tup ?_ | refine Ent.agg ?_ | refine Ent.cells ?_ | exact Ent.of_eq rfl)) (.ent rfl (by repeat (first | exact Ent.refl _ | exact Ents.nil | exact Ent.nil _ _ | exact Ent.row _ _ _ _ | exact Ent.func _ | refine Ents.cons ?_ ?_ | refine Ent.tup ?_ | refine Ent.agg ?_ | refine Ent.cells ?_ | exact Ent.of_eq rfl)) .nil)) fn22) rfl ?_
          refine lx (op_move rfl) rfl ?_
          refine lx (op_extract rfl rfl) rfl ?_
          refine lx (op_extract rfl rfl) rfl ?_
          refine lxn (op_alloc (m := 10) (k := 10) (ps := zps) ze24 rfl rfl (by first | exact hC.low _ (by decide) | rfl)) rfl ?_
          first | refine lxr (op_store_all (m := 10) rfl rfl rfl (.agg rfl) sz24 rfl) rfl ?_ | refine lxr (op_store (m := 10) rfl rfl rfl (.agg rfl) sz24 rfl rfl rfl) rfl ?_
          refine lx (op_assign rfl) rfl ?_
          refine lx_end ⟨by kernel_rfl, ?_⟩
          refine pe_then_normal ?_
          refine tr_sub hC (.cons (t := 3) rfl (.cons (t := 7) rfl (.cons (t := 8) rfl (.cons (t := 9) rfl (.cons (t := 10) rfl (.cons (t := 11) rfl .nil)))))) (.cons (t := 3) rfl (.cons (t := 10) rfl .nil)) rfl ?_
          refine tr_seq ?_
          refine tr_region (fun N14 hN => ?_)
          first | refine lx (op_bload (m := 10) rfl rfl ag24 sz24) rfl ?_ | refine lx (op_bload_part (m := 10) rfl rfl ag24 sz24 rfl rfl) rfl ?_
          refine lx (op_move rfl) rfl ?_
          first | refine lx (op_call (l := [(Go.Operand.tmp 58), (Go.Operand.tmp 59)]) (runlock_ok _ _ (Nat.le_trans (runlockF_len (rlockF_len (n := 41) (rlockF_len (n := 40) (by omega)))) (by decide))) (.cons rfl (.cons rfl .nil)) fn22) rfl ?_ | refine lx (op_call (l := [(Go.Operand.tmp 58), (Go.Operand.tmp 59)]) (runlock_ok _ _ (Nat.le_trans (runlockF_len (rlockF_len (n := 41) (rlockF_len (n := 40) (by omega)))) (by decide))) (.ent rfl (by repeat (first | exact Ent.refl _ | exact Ents.nil | exact Ent.nil _ _ | exact Ent.row _ _ _ _ | exact Ent.func _ | refine Ents.cons ?_ ?_ | refine Ent.tup ?_ | refine Ent.agg ?_ | refine Ent.cells ?_ | exact Ent.of_eq rfl)) (.ent rfl (by repeat (first | exact Ent.refl _ | exact Ents.nil | exact Ent.nil _ _ | exact Ent.row _ _ _ _ | exact Ent.func _ | refine Ents.cons ?_ ?_ | refine Ent.tup ?_ | refine Ent.agg ?_ | refine Ent.cells ?_ | exact Ent.of_eq rfl)) .nil)) fn22) rfl ?_
          refine lx (op_move rfl) rfl ?_
          refine lx (op_extract rfl rfl) rfl ?_
          refine lx (op_extract rfl rfl) rfl ?_
          refine lxn (op_alloc (m := 12) (k := 12) (ps := zps) ze24 rfl rfl (by first | exact hC.low _ (by decide) | rfl)) rfl ?_
          first | refine lxr (op_store_all (m := 12) rfl rfl rfl (.agg rfl) sz24 rfl) rfl ?_ | refine lxr (op_store (m := 12) rfl rfl rfl (.agg rfl) sz24 rfl rfl rfl) rfl ?_
          refine lx (op_assign rfl) rfl ?_
          refine lx_end ⟨by kernel_rfl, ?_⟩
          refine pe_then_normal ?_
          refine tr_sub hC (.cons (t := 3) rfl (.cons (t := 7) rfl (.cons (t := 8) rfl (.cons (t := 9) rfl (.cons (t := 11) rfl (.cons (t := 12) rfl (.cons (t := 13) rfl .nil))))))) (.cons (t := 3) rfl (.cons (t := 12) rfl .nil)) rfl ?_
          refine tr_seq ?_
          refine tr_region (fun N15 hN => ?_)
          first | refine lx (op_bload (m := 3) rfl rfl ag24 sz24) rfl ?_ | refine lx (op_bload_part (m := 3) rfl rfl ag24 sz24 rfl rfl) rfl ?_
          refine lx (op_move rfl) rfl ?_
          first | refine lx (op_call (l := [(Go.Operand.tmp 64), (Go.Operand.tmp 65)]) (runlock_ok _ _ (Nat.le_trans (rlockF_len (n := 41) (rlockF_len (n := 40) (by omega))) (by decide))) (.cons rfl (.cons rfl .nil)) fn22) rfl ?_ | refine lx (op_call (l := [(Go.Operand.tmp 64), (Go.Operand.tmp 65)]) (runlock_ok _ _ (Nat.le_trans (rlockF_len (n := 41) (rlockF_len (n := 40) (by omega))) (by decide))) (.ent rfl (by repeat (first | exact Ent.refl _ | exact Ents.nil | exact Ent.nil _ _ | exact Ent.row _ _ _ _ | exact Ent.func _ | refine Ents.cons ?_ ?_ | refine Ent.tup ?_ | refine Ent.agg ?_ | refine Ent.cells ?_ | exact Ent.of_eq rfl)) (.ent rfl (by repeat (first | exact Ent.refl _ | exact Ents.nil | exact Ent.nil _ _ | exact Ent.row _ _ _ _ | exact Ent.func _ | refine Ents.cons ?_ ?_ | refine Ent.tup ?_ | refine Ent.agg ?_ | refine Ent.cells ?_ | exact Ent.of_eq rfl)) .nil)) fn22) rfl ?_
          refine lx (op_move rfl) rfl ?_
          refine lx (op_extract rfl rfl) rfl ?_
          refine lx (op_extract rfl rfl) rfl ?_
          refine lxn (op_alloc (m := 14) (k := 14) (ps := zps) ze24 rfl rfl (by first | exact hC.low _ (by decide) | rfl)) rfl ?_
          first | refine lxr (op_store_all (m := 14) rfl rfl rfl (.agg rfl) sz24 rfl) rfl ?_ | refine lxr (op_store (m := 14) rfl rfl rfl (.agg rfl) sz24 rfl rfl rfl) rfl ?_
          refine lx (op_assign rfl) rfl ?_
          refine lx_end ⟨by kernel_rfl, ?_⟩
          refine pe_then_normal ?_
          refine tr_sub hC (.cons (t := 7) rfl (.cons (t := 9) rfl (.cons (t := 11) rfl (.cons (t := 12) rfl (.cons (t := 13) rfl (.cons (t := 14) rfl (.cons (t := 15) rfl .nil))))))) (.cons (t := 12) rfl (.cons (t := 14) rfl .nil)) rfl ?_
          refine tr_seq ?_
          refine tr_region (fun N16 hN => ?_)
          first | refine lx (op_bload (m := 14) rfl rfl ag24 sz24) rfl ?_ | refine lx (op_bload_part (m := 14) rfl rfl ag24 sz24 rfl rfl) rfl ?_
          refine lx (op_move rfl) rfl ?_
          first | refine lx (op_call (l := [(Go.Operand.tmp 70), (Go.Operand.tmp 71)]) (runlock_ok _ _ (Nat.le_trans (runlockF_len (rlockF_len (n := 41) (rlockF_len (n := 40) (by omega)))) (by decide))) (.cons rfl (.cons rfl .nil)) fn22) rfl ?_ | refine lx (op_call (l := [(Go.Operand.tmp 70), (Go.Operand.tmp 71)]) (runlock_ok _ _ (Nat.le_trans (runlockF_len (rlockF_len (n := 41) (rlockF_len (n := 40) (by omega)))) (by decide))) (.ent rfl (by repeat (first | exact Ent.refl _ | exact Ents.nil | exact Ent.nil _ _ | exact Ent.row _ _ _ _ | exact Ent.func _ | refine Ents.cons ?_ ?_ | refine Ent.tup ?_ | refine Ent.agg ?_ | refine Ent.cells ?_ | exact Ent.of_eq rfl)) (.ent rfl (by repeat (first | exact Ent.refl _ | exact Ents.nil | exact Ent.nil _ _ | exact Ent.row _ _ _ _ | exact Ent.func _ | refine Ents.cons ?_ ?_ | refine Ent.tup ?_ | refine Ent.agg ?_ | refine Ent.cells ?_ | exact Ent.of_eq rfl)) .nil)) fn22) rfl ?_
          refine lx (op_move rfl) rfl ?_
          refine lx (op_extract rfl rfl) rfl ?_
          refine lx (op_extract rfl rfl) rfl ?_
          refine lxn (op_alloc (m := 16) (k := 16) (ps := zps) ze24 rfl rfl (by first | exact hC.low _ (by decide) | rfl)) rfl ?_
          first | refine lxr (op_store_all (m := 16) rfl rfl rfl (.agg rfl) sz24 rfl) rfl ?_ | refine lxr (op_store (m := 16) rfl rfl rfl (.agg rfl) sz24 rfl rfl rfl) rfl ?_
          refine lx (op_assign rfl) rfl ?_
          refine lx_end ⟨by kernel_rfl, ?_⟩
          refine pe_then_normal ?_
          refine tr_sub hC (.cons (t := 9) rfl (.cons (t := 11) rfl (.cons (t := 12) rfl (.cons (t := 13) rfl (.cons (t := 15) rfl (.cons (t := 16) rfl (.cons (t := 17) rfl .nil))))))) (.cons (t := 12) rfl (.cons (t := 16) rfl .nil)) rfl ?_
          refine tr_seq ?_
          refine tr_region (fun N17 hN => ?_)
          refine lx (op_move rfl) rfl ?_
          refine lx (op_eql rfl rfl) rfl ?_
          refine lx (op_move rfl) rfl ?_
          refine lxs rfl rfl rfl guard_eq (.cons (t := 11) rfl (fun _ => Ent.refl _) .nil) (op_move rfl) rfl ?_
          refine lxs rfl rfl rfl guard_eq (.cons (t := 78) rfl (fun h => entW h) .nil) (op_eql rfl rfl) rfl ?_
          refine lx (op_pick_and rfl rfl) rfl ?_
          refine lx (op_move rfl) rfl ?_
          refine lxs rfl rfl rfl guard_eq (.cons (t := 13) rfl (fun _ => Ent.refl _) .nil) (op_move rfl) rfl ?_
          refine lxs rfl rfl rfl guard_eq (.cons (t := 82) rfl (fun h => entW h) .nil) (op_eql rfl rfl) rfl ?_
          refine lx (op_pick_and rfl rfl) rfl ?_
          refine lx (op_move rfl) rfl ?_
          refine lxs rfl rfl rfl guard_eq (.cons (t := 15) rfl (fun _ => Ent.refl _) .nil) (op_move rfl) rfl ?_
          refine lxs rfl rfl rfl guard_eq (.cons (t := 86) rfl (fun h => entW h) .nil) (op_eql rfl rfl) rfl ?_
          refine lx (op_pick_and rfl rfl) rfl ?_
          refine lx (op_move rfl) rfl ?_
          refine lxs rfl rfl rfl guard_eq (.cons (t := 17) rfl (fun _ => Ent.refl _) .nil) (op_move rfl) rfl ?_
          refine lxs rfl rfl rfl guard_eq (.cons (t := 90) rfl (fun h => entW h) .nil) (op_eql rfl rfl) rfl ?_
          refine lx (op_pick_and rfl rfl) rfl ?_
          refine lx (op_move rfl) rfl ?_
          first | refine lxs rfl rfl rfl guard_eq (.cons (t := 12) rfl (fun _ => Ent.refl _) .nil) (op_bload (m := 12) rfl rfl ag24 sz24) rfl ?_ | refine lxs rfl rfl rfl guard_eq (.cons (t := 12) rfl (fun _ => Ent.refl _) .nil) (op_bload_part (m := 12) rfl rfl ag24 sz24 rfl rfl) rfl ?_
          first | refine lxs rfl rfl rfl guard_eq (.cons (t := 16) rfl (fun _ => Ent.refl _) .nil) (op_bload (m := 16) rfl rfl ag24 sz24) rfl ?_ | refine lxs rfl rfl rfl guard_eq (.cons (t := 16) rfl (fun _ => Ent.refl _) .nil) (op_bload_part (m := 16) rfl rfl ag24 sz24 rfl rfl) rfl ?_
          first | refine lxs rfl rfl rfl guard_eq (.cons (t := 94) rfl (fun h => entW h) (.cons (t := 95) rfl (fun h => entW h) .nil)) (op_call (l := [(Go.Operand.tmp 94), (Go.Operand.tmp 95)]) (same_ok _ _ (Nat.le_trans (runlockF_len (runlockF_len (rlockF_len (n := 41) (rlockF_len (n := 40) (by omega))))) (by decide))) (.cons rfl (.cons rfl .nil)) fn13) rfl ?_ | refine lxs rfl rfl rfl guard_eq (.cons (t := 94) rfl (fun h => entW h) (.cons (t := 95) rfl (fun h => entW h) .nil)) (op_call (l := [(Go.Operand.tmp 94), (Go.Operand.tmp 95)]) (same_ok _ _ (Nat.le_trans (runlockF_len (runlockF_len (rlockF_len (n := 41) (rlockF_len (n := 40) (by omega))))) (by decide))) (.ent rfl (by repeat (first | exact Ent.refl _ | exact Ents.nil | exact Ent.nil _ _ | exact Ent.row _ _ _ _ | exact Ent.func _ | refine Ents.cons ?_ ?_ | refine Ent.tup ?_ | refine Ent.agg ?_ | refine Ent.cells ?_ | exact Ent.of_eq rfl)) (.ent rfl (by repeat (first | exact Ent.refl _ | exact Ents.nil | exact Ent.nil _ _ | exact Ent.row _ _ _ _ | exact Ent.func _ | refine Ents.cons ?_ ?_ | refine Ent.tup ?_ | refine Ent.agg ?_ | refine Ent.cells ?_ | exact Ent.of_eq rfl)) .nil)) fn13) rfl ?_
          refine lx (op_pick_and rfl rfl) rfl ?_
          refine lx (op_assign rfl) rfl ?_
          refine lx_end ⟨by kernel_rfl, ?_⟩
          refine pe_then_normal ?_
          refine tr_sub hC (.cons (t := 6) rfl .nil) .nil rfl ?_
          refine tr_ret ?_
          refine pe_ret1 rfl hO rfl (.tmp rfl .nil) ?_
          obtain ⟨c1, c2, c3, c4, c5, c6⟩ := commute hv hka hkb h36 h44
          exact entB (by simp [h44, c1, c2, c3, c4, c5, c6])

end Go.Proofs.Ytopnkekmbohgoaa
