/- Walks of the functions of layer 18 and of the statements about it. -/
import Derived.Test.YtopnkekmbohgoaaLkLaws2
import Derived.Test.YtopnkekmbohgoaaLkPlain2
set_option linter.unusedVariables false
set_option linter.unusedSimpArgs false
namespace Go.Proofs.Ytopnkekmbohgoaa
open Go.AL Go.Lk Go.RowKit
theorem ag5 : aggB Try.prog 5 = some false := by kernel_rfl
theorem el39 : elemB Try.prog 39 = some 41 := by kernel_rfl
theorem fl41_0 : fldB Try.prog 41 0 = some (0, 5) := by kernel_rfl
theorem fl41_1 : fldB Try.prog 41 1 = some (1, 5) := by kernel_rfl
theorem sz5 : sizeB Try.prog 5 = some 1 := by kernel_rfl
theorem sz41 : sizeB Try.prog 41 = some 2 := by kernel_rfl
theorem fresh_ok (b : Bool) : FnP Try.prog 11 [eqP (.int .i64 (kindOf b)), eqP (.int .i64 4), eqP (.int .i64 2)] (syE (fresh b, 0)) := fresh_new b ▸ new_ok _ _ _
theorem law_excludes (b : Bool) (l : List (Int × Int)) (hl : ∀ x ∈ l, 0 ≤ x.1 ∧ 0 ≤ x.2) : FnP Try.prog 8 [eqP (.bool b), slP ap 2 l] (eqP (.bool true)) := by
  refine fn_pure' Try.func8 rfl Try.ntmps8 rfl ?_
  intro σ0 M ex Rf R hC hO
  simp only [frameOf, tokOf]
  refine tr_seq ?_
  refine tr_region (fun N0 hN => ?_)
  refine lx (op_assign rfl) rfl ?_
  refine lx_end ⟨by kernel_rfl, ?_⟩
  refine pe_then_normal ?_
  refine tr_sub hC (.cons (t := 0) rfl (.cons (t := 1) rfl .nil)) .nil rfl ?_
  refine tr_seq ?_
  refine tr_seq ?_
  refine tr_region (fun N1 hN => ?_)
  first | refine lx (op_call (l := []) (awake_ok) .nil fn9) rfl ?_ | refine lx (op_call (l := []) (awake_ok) .nil fn9) rfl ?_
  first | refine lx (op_not rfl) rfl ?_ | refine lx (op_not_b rfl) rfl ?_
  refine lx_end ⟨by kernel_rfl, ?_⟩
  refine pe_then_normal ?_
  refine tr_sub hC (.cons (t := 0) rfl (.cons (t := 1) rfl (.cons (t := 16) rfl .nil))) .nil rfl ?_
  refine tr_cond rfl (fun h16 => ?_) (fun h16 => ?_)
  · exact absurd h16 (by decide)
  · (try simp only [Bool.and_eq_true, Bool.or_eq_true, Bool.and_eq_false_iff, Bool.or_eq_false_iff, decide_eq_true_eq, decide_eq_false_iff_not, Bool.not_eq_true', Bool.not_eq_false', ne_eq, Decidable.not_not, Int.not_lt, Int.not_le] at h16)
    refine tr_skip ?_
    refine pe_then_normal ?_
    refine tr_sub hC (.cons (t := 0) rfl (.cons (t := 1) rfl .nil)) .nil rfl ?_
    refine tr_seq ?_
    refine tr_seq ?_
    refine tr_region (fun N3 hN => ?_)
    refine lx (op_move rfl) rfl ?_
    first | refine lx (op_len rfl el39) rfl ?_ | refine lx (op_len_row rfl el39) rfl ?_ | refine lx (op_len_mv rfl el39) rfl ?_
    refine lx (op_gtr rfl rfl) rfl ?_
    refine lx_end ⟨by kernel_rfl, ?_⟩
    refine pe_then_normal ?_
    refine tr_sub hC (.cons (t := 0) rfl (.cons (t := 1) rfl (.cons (t := 19) rfl .nil))) .nil rfl ?_
    refine tr_cond rfl (fun h19 => ?_) (fun h19 => ?_)
    · (try simp only [Bool.and_eq_true, Bool.or_eq_true, Bool.and_eq_false_iff, Bool.or_eq_false_iff, decide_eq_true_eq, decide_eq_false_iff_not, Bool.not_eq_true', Bool.not_eq_false', ne_eq, Decidable.not_not, Int.not_lt, Int.not_le] at h19)
      refine tr_seq ?_
      refine tr_region (fun N4 hN => ?_)
      refine lx (op_assign rfl) rfl ?_
      refine lx_end ⟨by kernel_rfl, ?_⟩
      refine pe_then_normal ?_
      refine tr_sub hC (.cons (t := 4) rfl .nil) .nil rfl ?_
      refine tr_ret ?_
      refine pe_then_ret ?_
      refine pe_ret1 rfl hO rfl (.tmp rfl .nil) ?_
      repeat (first | exact Ent.refl _ | exact Ents.nil | exact Ent.nil _ _ | exact Ent.row _ _ _ _ | exact Ent.func _ | refine Ents.cons ?_ ?_ | refine Ent.tup ?_ | refine Ent.agg ?_ | refine Ent.cells ?_ | exact Ent.of_eq rfl)
    · (try simp only [Bool.and_eq_true, Bool.or_eq_true, Bool.and_eq_false_iff, Bool.or_eq_false_iff, decide_eq_true_eq, decide_eq_false_iff_not, Bool.not_eq_true', Bool.not_eq_false', ne_eq, Decidable.not_not, Int.not_lt, Int.not_le] at h19)
      refine tr_skip ?_
      refine pe_then_normal ?_
      refine tr_sub hC (.cons (t := 0) rfl (.cons (t := 1) rfl .nil)) .nil rfl ?_
      refine tr_seq ?_
      refine tr_region (fun N5 hN => ?_)
      refine lx (op_assign rfl) rfl ?_
      refine lx_end ⟨by kernel_rfl, ?_⟩
      refine pe_then_normal ?_
      refine tr_sub hC (.cons (t := 0) rfl (.cons (t := 1) rfl (.cons (t := 5) rfl .nil))) .nil rfl ?_
      refine tr_seq ?_
      refine tr_seq ?_
      refine tr_region (fun N6 hN => ?_)
      refine lx (op_move rfl) rfl ?_
      refine lx_end ⟨by kernel_rfl, ?_⟩
      refine pe_then_normal ?_
      refine tr_sub hC (.cons (t := 0) rfl (.cons (t := 1) rfl (.cons (t := 5) rfl (.cons (t := 20) rfl .nil)))) .nil rfl ?_
      refine tr_join [(0, eqP (.bool b)), (1, slP ap 2 l), (5, eqP (.int .i64 (kindOf b)))] [] ?_ ?_
      · refine tr_cond rfl (fun h20 => ?_) (fun h20 => ?_)
        · (try simp only [Bool.and_eq_true, Bool.or_eq_true, Bool.and_eq_false_iff, Bool.or_eq_false_iff, decide_eq_true_eq, decide_eq_false_iff_not, Bool.not_eq_true', Bool.not_eq_false', ne_eq, Decidable.not_not, Int.not_lt, Int.not_le] at h20)
          refine tr_region (fun N7 hN => ?_)
          refine lx (op_assign rfl) rfl ?_
          refine lx_end ⟨by kernel_rfl, ?_⟩
          refine pe_then_mid (pe_st hC ?_ ?_ rfl)
          · try dsimp only
            first | refine SubF.cons rfl ?_ | (refine SubF.ent rfl ?_ ?_; · first | exact Ent.refl _ | exact entI (by rw [h20]; rfl))
            first | refine SubF.cons rfl ?_ | (refine SubF.ent rfl ?_ ?_; · first | exact Ent.refl _ | exact entI (by rw [h20]; rfl))
            first | refine SubF.cons rfl ?_ | (refine SubF.ent rfl ?_ ?_; · first | exact Ent.refl _ | exact entI (by rw [h20]; rfl))
            exact SubF.nil
          · try dsimp only
            repeat (first | exact SubL.nil | refine SubL.cons rfl ?_)
        · (try simp only [Bool.and_eq_true, Bool.or_eq_true, Bool.and_eq_false_iff, Bool.or_eq_false_iff, decide_eq_true_eq, decide_eq_false_iff_not, Bool.not_eq_true', Bool.not_eq_false', ne_eq, Decidable.not_not, Int.not_lt, Int.not_le] at h20)
          refine tr_skip ?_
          refine pe_then_mid (pe_st hC ?_ ?_ rfl)
          · try dsimp only
            first | refine SubF.cons rfl ?_ | (refine SubF.ent rfl ?_ ?_; · first | exact Ent.refl _ | exact entI (by rw [h20]; rfl))
            first | refine SubF.cons rfl ?_ | (refine SubF.ent rfl ?_ ?_; · first | exact Ent.refl _ | exact entI (by rw [h20]; rfl))
            first | refine SubF.cons rfl ?_ | (refine SubF.ent rfl ?_ ?_; · first | exact Ent.refl _ | exact entI (by rw [h20]; rfl))
            exact SubF.nil
          · try dsimp only
            repeat (first | exact SubL.nil | refine SubL.cons rfl ?_)
      · refine tr_seq ?_
        refine tr_region (fun N8 hN => ?_)
        refine lx (op_move rfl) rfl ?_
        first | refine lx (op_call (l := [(Go.Operand.tmp 22), (Go.Operand.const (Go.Value.int Go.IntKind.i64 4)), (Go.Operand.const (Go.Value.int Go.IntKind.i64 2))]) (fresh_ok b) (.cons rfl (.cons rfl (.cons rfl .nil))) fn11) rfl ?_ | refine lx (op_call (l := [(Go.Operand.tmp 22), (Go.Operand.const (Go.Value.int Go.IntKind.i64 4)), (Go.Operand.const (Go.Value.int Go.IntKind.i64 2))]) (fresh_ok b) (.ent rfl (by repeat (first | exact Ent.refl _ | exact Ents.nil | exact Ent.nil _ _ | exact Ent.row _ _ _ _ | exact Ent.func _ | refine Ents.cons ?_ ?_ | refine Ent.tup ?_ | refine Ent.agg ?_ | refine Ent.cells ?_ | exact Ent.of_eq rfl)) (.ent rfl (by repeat (first | exact Ent.refl _ | exact Ents.nil | exact Ent.nil _ _ | exact Ent.row _ _ _ _ | exact Ent.func _ | refine Ents.cons ?_ ?_ | refine Ent.tup ?_ | refine Ent.agg ?_ | refine Ent.cells ?_ | exact Ent.of_eq rfl)) (.ent rfl (by repeat (first | exact Ent.refl _ | exact Ents.nil | exact Ent.nil _ _ | exact Ent.row _ _ _ _ | exact Ent.func _ | refine Ents.cons ?_ ?_ | refine Ent.tup ?_ | refine Ent.agg ?_ | refine Ent.cells ?_ | exact Ent.of_eq rfl)) .nil))) fn11) rfl ?_
        refine lx (op_move rfl) rfl ?_
        refine lx (op_extract rfl rfl) rfl ?_
        refine lx (op_extract rfl rfl) rfl ?_
        refine lxn (op_alloc (m := 6) (k := 6) (ps := zps) ze24 rfl rfl (by first | exact hC.low _ (by decide) | rfl)) rfl ?_
        first | refine lxr (op_store_all (m := 6) rfl rfl rfl (.agg rfl) sz24 rfl) rfl ?_ | refine lxr (op_store (m := 6) rfl rfl rfl (.agg rfl) sz24 rfl rfl rfl) rfl ?_
        refine lx (op_assign rfl) rfl ?_
        refine lx_end ⟨by kernel_rfl, ?_⟩
        refine pe_then_normal ?_
        refine tr_sub hC (.cons (t := 0) rfl (.cons (t := 1) rfl (.cons (t := 6) rfl (.cons (t := 7) rfl .nil)))) (.cons (t := 6) rfl .nil) rfl ?_
        refine tr_seq ?_
        refine tr_seq ?_
        refine tr_region (fun N9 hN => ?_)
        refine lx (op_move rfl) rfl ?_
        refine lx (op_neq rfl rfl) rfl ?_
        refine lx_end ⟨by kernel_rfl, ?_⟩
        refine pe_then_normal ?_
        refine tr_sub hC (.cons (t := 0) rfl (.cons (t := 1) rfl (.cons (t := 6) rfl (.cons (t := 27) rfl .nil)))) (.cons (t := 6) rfl .nil) rfl ?_
        refine tr_cond rfl (fun h27 => ?_) (fun h27 => ?_)
        · exact absurd h27 (by simp)
        · (try simp only [Bool.and_eq_true, Bool.or_eq_true, Bool.and_eq_false_iff, Bool.or_eq_false_iff, decide_eq_true_eq, decide_eq_false_iff_not, Bool.not_eq_true', Bool.not_eq_false', ne_eq, Decidable.not_not, Int.not_lt, Int.not_le] at h27)
          refine tr_skip ?_
          refine pe_then_normal ?_
          refine tr_sub hC (.cons (t := 0) rfl (.cons (t := 1) rfl (.cons (t := 6) rfl .nil))) (.cons (t := 6) rfl .nil) rfl ?_
          refine tr_seq ?_
          refine tr_region (fun N11 hN => ?_)
          first | refine lx (op_bload (m := 6) rfl rfl ag24 sz24) rfl ?_ | refine lx (op_bload_part (m := 6) rfl rfl ag24 sz24 rfl rfl) rfl ?_
          refine lxn (op_alloc (m := 8) (k := 8) (ps := zps) ze24 rfl rfl (by first | exact hC.low _ (by decide) | rfl)) rfl ?_
          first | refine lxr (op_store_all (m := 8) rfl rfl rfl (.agg rfl) sz24 rfl) rfl ?_ | refine lxr (op_store (m := 8) rfl rfl rfl (.agg rfl) sz24 rfl rfl rfl) rfl ?_
          refine lx_end ⟨by kernel_rfl, ?_⟩
          refine pe_then_normal ?_
          refine tr_sub hC (.cons (t := 0) rfl (.cons (t := 1) rfl (.cons (t := 6) rfl (.cons (t := 8) rfl .nil)))) (.cons (t := 6) rfl (.cons (t := 8) rfl .nil)) rfl ?_
          refine tr_seq ?_
          refine tr_region (fun N12 hN => ?_)
          refine lx (op_assign rfl) rfl ?_
          refine lx_end ⟨by kernel_rfl, ?_⟩
          refine pe_then_normal ?_
          refine tr_sub hC (.cons (t := 0) rfl (.cons (t := 1) rfl (.cons (t := 6) rfl (.cons (t := 8) rfl (.cons (t := 9) rfl .nil))))) (.cons (t := 6) rfl (.cons (t := 8) rfl .nil)) rfl ?_
          refine tr_seq ?_
          refine tr_region (fun N13 hN => ?_)
          refine lx (op_assign rfl) rfl ?_
          refine lx_end ⟨by kernel_rfl, ?_⟩
          refine pe_then_normal ?_
          refine tr_sub hC (.cons (t := 0) rfl (.cons (t := 1) rfl (.cons (t := 6) rfl (.cons (t := 8) rfl (.cons (t := 9) rfl (.cons (t := 10) rfl .nil)))))) (.cons (t := 6) rfl (.cons (t := 8) rfl .nil)) rfl ?_
          refine tr_seq ?_
          refine tr_seq ?_
          refine tr_region (fun N14 hN => ?_)
          refine lx (op_assign rfl) rfl ?_
          refine lx_end ⟨by kernel_rfl, ?_⟩
          refine pe_then_normal ?_
          refine tr_sub hC (.cons (t := 0) rfl (.cons (t := 1) rfl (.cons (t := 6) rfl (.cons (t := 8) rfl (.cons (t := 9) rfl (.cons (t := 10) rfl (.cons (t := 11) rfl .nil))))))) (.cons (t := 6) rfl (.cons (t := 8) rfl .nil)) rfl ?_
          refine tr_block ?_
          refine tr_loop (α := {x : Nat × Sy // x.1 ≤ l.length ∧ Inv b x.2 ∧ x.2.readers.length ≤ x.1}) (⟨(0, fresh b), Nat.zero_le _, fresh_inv b, Nat.le_refl _⟩) (fun x => [(0, eqP (.bool b)), (1, slP ap 2 l), (6, ptrP (N8, 6) 0), (8, ptrP (N11, 8) 0), (9, eqP (.int .i64 (own x.1.2))), (10, eqP (.int .i64 (x.1.2.readers.length : Int))), (11, eqP (.int .i64 (x.1.1 : Int)))]) (fun x => [(6, some ((N8, 6), blk 24 (fresh b).ps)), (8, some ((N11, 8), blk 24 x.1.2.ps))]) (fun x => l.length - x.1.1) (pe_st hC ?_ ?_ rfl) (fun x => ?_)
          · try dsimp only
            first | refine SubF.cons rfl ?_ | (refine SubF.ent rfl ?_ ?_; · first | exact Ent.refl _ | exact entI rfl | exact entI (by omega))
            first | refine SubF.cons rfl ?_ | (refine SubF.ent rfl ?_ ?_; · first | exact Ent.refl _ | exact entI rfl | exact entI (by omega))
            first | refine SubF.cons rfl ?_ | (refine SubF.ent rfl ?_ ?_; · first | exact Ent.refl _ | exact entI rfl | exact entI (by omega))
            first | refine SubF.cons rfl ?_ | (refine SubF.ent rfl ?_ ?_; · first | exact Ent.refl _ | exact entI rfl | exact entI (by omega))
            first | refine SubF.cons rfl ?_ | (refine SubF.ent rfl ?_ ?_; · first | exact Ent.refl _ | exact entI rfl | exact entI (by omega))
            first | refine SubF.cons rfl ?_ | (refine SubF.ent rfl ?_ ?_; · first | exact Ent.refl _ | exact entI rfl | exact entI (by omega))
            first | refine SubF.cons rfl ?_ | (refine SubF.ent rfl ?_ ?_; · first | exact Ent.refl _ | exact entI rfl | exact entI (by omega))
            exact SubF.nil
          · try dsimp only
            repeat (first | exact SubL.nil | refine SubL.cons rfl ?_)
          · obtain ⟨⟨k, s⟩, hk1, hI, hk2⟩ := x
            dsimp only at hk1 hI hk2 ⊢
            refine tr_seq ?_
            refine tr_seq ?_
            refine tr_region (fun N15 hN => ?_)
            refine lx (op_move rfl) rfl ?_
            refine lx (op_move rfl) rfl ?_
            first | refine lx (op_len rfl el39) rfl ?_ | refine lx (op_len_row rfl el39) rfl ?_ | refine lx (op_len_mv rfl el39) rfl ?_
            refine lx (op_lss rfl rfl) rfl ?_
            refine lx_end ⟨by kernel_rfl, ?_⟩
            refine pe_then_normal ?_
            refine tr_sub hC (.cons (t := 0) rfl (.cons (t := 1) rfl (.cons (t := 6) rfl (.cons (t := 8) rfl (.cons (t := 9) rfl (.cons (t := 10) rfl (.cons (t := 11) rfl (.cons (t := 32) rfl .nil)))))))) (.cons (t := 6) rfl (.cons (t := 8) rfl .nil)) rfl ?_
            refine tr_cond rfl (fun h32 => ?_) (fun h32 => ?_)
            · (try simp only [Bool.and_eq_true, Bool.or_eq_true, Bool.and_eq_false_iff, Bool.or_eq_false_iff, decide_eq_true_eq, decide_eq_false_iff_not, Bool.not_eq_true', Bool.not_eq_false', ne_eq, Decidable.not_not, Int.not_lt, Int.not_le] at h32)
              have hkl : k < l.length := by omega
              have hg : goro (IntKind.i64.wrap (l[k].2.tmod 8)) = true := goro8 (hl _ (List.getElem_mem hkl)).2
              refine tr_skip ?_
              refine pe_then_normal ?_
              refine tr_sub hC (.cons (t := 0) rfl (.cons (t := 1) rfl (.cons (t := 6) rfl (.cons (t := 8) rfl (.cons (t := 9) rfl (.cons (t := 10) rfl (.cons (t := 11) rfl .nil))))))) (.cons (t := 6) rfl (.cons (t := 8) rfl .nil)) rfl ?_
              refine tr_seq ?_
              refine tr_block ?_
              refine tr_seq ?_
              refine tr_region (fun N17 hN => ?_)
              refine lx (op_move rfl) rfl ?_
              refine lx (op_move rfl) rfl ?_
              refine lx (op_index rfl rfl el39 sz41 rfl (List.getElem?_eq_getElem hkl)) rfl ?_
              first | refine lx (op_fieldAddr rfl fl41_1 sz5) rfl ?_ | refine lx (op_fieldCells rfl fl41_1 sz5) rfl ?_
              first | refine lx (op_load_one rfl ag5 rfl) rfl ?_ | refine lx (op_bload_one (m := 6) rfl rfl ag5 rfl) rfl ?_ | refine lx (op_bload_one (m := 8) rfl rfl ag5 rfl) rfl ?_
              refine lx (op_rem rfl rfl rfl) rfl ?_
              refine lx (op_convert rfl us5 ik3) rfl ?_
              refine lx (op_assign rfl) rfl ?_
              refine lx_end ⟨by kernel_rfl, ?_⟩
              refine pe_then_normal ?_
              refine tr_sub hC (.cons (t := 0) rfl (.cons (t := 1) rfl (.cons (t := 6) rfl (.cons (t := 8) rfl (.cons (t := 9) rfl (.cons (t := 10) rfl (.cons (t := 11) rfl (.cons (t := 12) rfl .nil)))))))) (.cons (t := 6) rfl (.cons (t := 8) rfl .nil)) rfl ?_
              refine tr_seq ?_
              refine tr_region (fun N18 hN => ?_)
              refine lxn (op_alloc (m := 13) (k := 13) (ps := zps) ze24 rfl rfl (by first | exact hC.low _ (by decide) | rfl)) rfl ?_
              refine lx_end ⟨by kernel_rfl, ?_⟩
              refine pe_then_normal ?_
              refine tr_sub hC (.cons (t := 0) rfl (.cons (t := 1) rfl (.cons (t := 6) rfl (.cons (t := 8) rfl (.cons (t := 9) rfl (.cons (t := 10) rfl (.cons (t := 11) rfl (.cons (t := 12) rfl (.cons (t := 13) rfl .nil))))))))) (.cons (t := 6) rfl (.cons (t := 8) rfl (.cons (t := 13) rfl .nil))) rfl ?_
              refine tr_seq ?_
              refine tr_region (fun N19 hN => ?_)
              refine lx (op_assign rfl) rfl ?_
              refine lx_end ⟨by kernel_rfl, ?_⟩
              refine pe_then_normal ?_
              refine tr_sub hC (.cons (t := 0) rfl (.cons (t := 1) rfl (.cons (t := 6) rfl (.cons (t := 8) rfl (.cons (t := 9) rfl (.cons (t := 10) rfl (.cons (t := 11) rfl (.cons (t := 12) rfl (.cons (t := 13) rfl .nil))))))))) (.cons (t := 6) rfl (.cons (t := 8) rfl (.cons (t := 13) rfl .nil))) rfl ?_
              refine tr_seq ?_
              refine tr_seq ?_
              refine tr_region (fun N20 hN => ?_)
              refine lx (op_move rfl) rfl ?_
              refine lx (op_move rfl) rfl ?_
              refine lx (op_index rfl rfl el39 sz41 rfl (List.getElem?_eq_getElem hkl)) rfl ?_
              first | refine lx (op_fieldAddr rfl fl41_0 sz5) rfl ?_ | refine lx (op_fieldCells rfl fl41_0 sz5) rfl ?_
              first | refine lx (op_load_one rfl ag5 rfl) rfl ?_ | refine lx (op_bload_one (m := 6) rfl rfl ag5 rfl) rfl ?_ | refine lx (op_bload_one (m := 8) rfl rfl ag5 rfl) rfl ?_ | refine lx (op_bload_one (m := 13) rfl rfl ag5 rfl) rfl ?_
              refine lx (op_rem rfl rfl rfl) rfl ?_
              refine lx_end ⟨by kernel_rfl, ?_⟩
              refine pe_then_normal ?_
              refine tr_sub hC (.cons (t := 0) rfl (.cons (t := 1) rfl (.cons (t := 6) rfl (.cons (t := 8) rfl (.cons (t := 9) rfl (.cons (t := 10) rfl (.cons (t := 11) rfl (.cons (t := 12) rfl (.cons (t := 13) rfl (.cons (t := 47) rfl .nil)))))))))) (.cons (t := 6) rfl (.cons (t := 8) rfl (.cons (t := 13) rfl .nil))) rfl ?_
              refine tr_join [(0, eqP (.bool b)), (1, slP ap 2 l), (6, ptrP (N8, 6) 0), (8, ptrP (N11, 8) 0), (9, eqP (.int .i64 (own (nxt s (actF s (l[k].1.tmod 4) (IntKind.i64.wrap (l[k].2.tmod 8))))))), (10, eqP (.int .i64 ((nxt s (actF s (l[k].1.tmod 4) (IntKind.i64.wrap (l[k].2.tmod 8)))).readers.length : Int))), (11, eqP (.int .i64 (k : Int))), (13, ptrP (N18, 13) 0), (14, eqP (.int .i64 (actF s (l[k].1.tmod 4) (IntKind.i64.wrap (l[k].2.tmod 8))).2))] [(6, some ((N8, 6), blk 24 (fresh b).ps)), (8, some ((N11, 8), blk 24 s.ps)), (13, some ((N18, 13), blk 24 (actF s (l[k].1.tmod 4) (IntKind.i64.wrap (l[k].2.tmod 8))).1.ps))] ?_ ?_
              · refine tr_block ?_
                refine tr_seq ?_
                refine tr_region (fun N26 hN => ?_)
                refine lx (op_eql rfl rfl) rfl ?_
                refine lx (op_assign rfl) rfl ?_
                refine lx_end ⟨by kernel_rfl, ?_⟩
                refine pe_then_normal ?_
                refine tr_sub hC (.cons (t := 0) rfl (.cons (t := 1) rfl (.cons (t := 6) rfl (.cons (t := 8) rfl (.cons (t := 9) rfl (.cons (t := 10) rfl (.cons (t := 11) rfl (.cons (t := 12) rfl (.cons (t := 13) rfl (.cons (t := 47) rfl (.cons (t := 63) rfl .nil))))))))))) (.cons (t := 6) rfl (.cons (t := 8) rfl (.cons (t := 13) rfl .nil))) rfl ?_
                refine tr_cond rfl (fun h63 => ?_) (fun h63 => ?_)
                · (try simp only [Bool.and_eq_true, Bool.or_eq_true, Bool.and_eq_false_iff, Bool.or_eq_false_iff, decide_eq_true_eq, decide_eq_false_iff_not, Bool.not_eq_true', Bool.not_eq_false', ne_eq, Decidable.not_not, Int.not_lt, Int.not_le] at h63)
                  have hact : actF s (l[k].1.tmod 4) (IntKind.i64.wrap (l[k].2.tmod 8)) = lockF s (IntKind.i64.wrap (l[k].2.tmod 8)) := by unfold actF; rw [if_pos h63]
                  refine tr_seq ?_
                  refine tr_region (fun N27 hN => ?_)
                  first | refine lx (op_bload (m := 8) rfl rfl ag24 sz24) rfl ?_ | refine lx (op_bload_part (m := 8) rfl rfl ag24 sz24 rfl rfl) rfl ?_
                  refine lx (op_move rfl) rfl ?_
                  first | refine lx (op_call (l := [(Go.Operand.tmp 66), (Go.Operand.tmp 67)]) (lock_ok s _ (by omega)) (.cons rfl (.cons rfl .nil)) fn20) rfl ?_ | refine lx (op_call (l := [(Go.Operand.tmp 66), (Go.Operand.tmp 67)]) (lock_ok s _ (by omega)) (.ent rfl (by repeat (first | exact Ent.refl _ | exact Ents.nil | exact Ent.nil _ _ | exact Ent.row _ _ _ _ | exact Ent.func _ | refine Ents.cons ?_ ?_ | refine Ent.tup ?_ | refine Ent.agg ?_ | refine Ent.cells ?_ | exact Ent.of_eq rfl)) (.ent rfl (by repeat (first | exact Ent.refl _ | exact Ents.nil | exact Ent.nil _ _ | exact Ent.row _ _ _ _ | exact Ent.func _ | refine Ents.cons ?_ ?_ | refine Ent.tup ?_ | refine Ent.agg ?_ | refine Ent.cells ?_ | exact Ent.of_eq rfl)) .nil)) fn20) rfl ?_
                  refine lx (op_move rfl) rfl ?_
                  refine lx (op_extract rfl rfl) rfl ?_
                  refine lx (op_extract rfl rfl) rfl ?_
                  first | refine lxr (op_store_all (m := 13) rfl rfl rfl (.agg rfl) sz24 rfl) rfl ?_ | refine lxr (op_store (m := 13) rfl rfl rfl (.agg rfl) sz24 rfl rfl rfl) rfl ?_
                  refine lx (op_assign rfl) rfl ?_
                  refine lx_end ⟨by kernel_rfl, ?_⟩
                  refine pe_then_normal ?_
                  refine tr_sub hC (.cons (t := 0) rfl (.cons (t := 1) rfl (.cons (t := 6) rfl (.cons (t := 8) rfl (.cons (t := 9) rfl (.cons (t := 10) rfl (.cons (t := 11) rfl (.cons (t := 13) rfl (.cons (t := 14) rfl .nil))))))))) (.cons (t := 6) rfl (.cons (t := 8) rfl (.cons (t := 13) rfl .nil))) rfl ?_
                  refine tr_seq ?_
                  refine tr_seq ?_
                  refine tr_region (fun N28 hN => ?_)
                  refine lx (op_move rfl) rfl ?_
                  refine lx (op_eql rfl rfl) rfl ?_
                  refine lx (op_move rfl) rfl ?_
                  refine lx (op_eql rfl rfl) rfl ?_
                  refine lx (op_move rfl) rfl ?_
                  refine lxs rfl rfl rfl guard_eq (.cons (t := 10) rfl (fun _ => Ent.refl _) .nil) (op_move rfl) rfl ?_
                  refine lxs rfl rfl rfl guard_eq (.cons (t := 76) rfl (fun h => entW h) .nil) (op_eql rfl rfl) rfl ?_
                  refine lx (op_pick_and rfl rfl) rfl ?_
                  refine lx (op_neq_bool bo4 rfl rfl) rfl ?_
                  refine lx_end ⟨by kernel_rfl, ?_⟩
                  refine pe_then_normal ?_
                  refine tr_sub hC (.cons (t := 0) rfl (.cons (t := 1) rfl (.cons (t := 6) rfl (.cons (t := 8) rfl (.cons (t := 9) rfl (.cons (t := 10) rfl (.cons (t := 11) rfl (.cons (t := 13) rfl (.cons (t := 14) rfl (.cons (t := 79) rfl .nil)))))))))) (.cons (t := 6) rfl (.cons (t := 8) rfl (.cons (t := 13) rfl .nil))) rfl ?_
                  refine tr_cond rfl (fun h79 => ?_) (fun h79 => ?_)
                  · exact absurd h79 (by rw [lock_test hI hg]; simp)
                  · (try simp only [Bool.and_eq_true, Bool.or_eq_true, Bool.and_eq_false_iff, Bool.or_eq_false_iff, decide_eq_true_eq, decide_eq_false_iff_not, Bool.not_eq_true', Bool.not_eq_false', ne_eq, Decidable.not_not, Int.not_lt, Int.not_le] at h79)
                    refine tr_skip ?_
                    refine pe_then_normal ?_
                    refine tr_sub hC (.cons (t := 0) rfl (.cons (t := 1) rfl (.cons (t := 6) rfl (.cons (t := 8) rfl (.cons (t := 9) rfl (.cons (t := 10) rfl (.cons (t := 11) rfl (.cons (t := 13) rfl (.cons (t := 14) rfl .nil))))))))) (.cons (t := 6) rfl (.cons (t := 8) rfl (.cons (t := 13) rfl .nil))) rfl ?_
                    refine tr_seq ?_
                    refine tr_region (fun N30 hN => ?_)
                    refine lx (op_move rfl) rfl ?_
                    refine lx (op_eql rfl rfl) rfl ?_
                    refine lx_end ⟨by kernel_rfl, ?_⟩
                    refine pe_then_normal ?_
                    refine tr_sub hC (.cons (t := 0) rfl (.cons (t := 1) rfl (.cons (t := 6) rfl (.cons (t := 8) rfl (.cons (t := 9) rfl (.cons (t := 10) rfl (.cons (t := 11) rfl (.cons (t := 13) rfl (.cons (t := 14) rfl (.cons (t := 81) rfl .nil)))))))))) (.cons (t := 6) rfl (.cons (t := 8) rfl (.cons (t := 13) rfl .nil))) rfl ?_
                    refine tr_cond rfl (fun h81 => ?_) (fun h81 => ?_)
                    · (try simp only [Bool.and_eq_true, Bool.or_eq_true, Bool.and_eq_false_iff, Bool.or_eq_false_iff, decide_eq_true_eq, decide_eq_false_iff_not, Bool.not_eq_true', Bool.not_eq_false', ne_eq, Decidable.not_not, Int.not_lt, Int.not_le] at h81)
                      have e := (lock_next hI hg).2.1 h81
                      have hle := own_le s
                      have e9 : own s + 1 = own (nxt s (lockF s (IntKind.i64.wrap (l[k].2.tmod 8)))) := by omega
                      have e10 : (s.readers.length : Int) = ((nxt s (lockF s (IntKind.i64.wrap (l[k].2.tmod 8)))).readers.length : Int) := by omega
                      refine tr_region (fun N31 hN => ?_)
                      refine lx (op_move rfl) rfl ?_
                      refine lx (op_add rfl rfl (by have := own_le s; omega)) rfl ?_
                      refine lx (op_assign rfl) rfl ?_
                      refine lx_end ⟨by kernel_rfl, ?_⟩
                      refine pe_block_normal ?_
                      rw [hact]
                      refine pe_then_mid (pe_st hC ?_ ?_ rfl)
                      · try dsimp only
                        first | refine SubF.cons rfl ?_ | (refine SubF.ent rfl ?_ ?_; · first | exact Ent.refl _ | exact entI (by omega))
                        first | refine SubF.cons rfl ?_ | (refine SubF.ent rfl ?_ ?_; · first | exact Ent.refl _ | exact entI (by omega))
                        first | refine SubF.cons rfl ?_ | (refine SubF.ent rfl ?_ ?_; · first | exact Ent.refl _ | exact entI (by omega))
                        first | refine SubF.cons rfl ?_ | (refine SubF.ent rfl ?_ ?_; · first | exact Ent.refl _ | exact entI (by omega))
                        first | refine SubF.cons rfl ?_ | (refine SubF.ent rfl ?_ ?_; · first | exact Ent.refl _ | exact entI (by omega))
                        first | refine SubF.cons rfl ?_ | (refine SubF.ent rfl ?_ ?_; · first | exact Ent.refl _ | exact entI (by omega))
                        first | refine SubF.cons rfl ?_ | (refine SubF.ent rfl ?_ ?_; · first | exact Ent.refl _ | exact entI (by omega))
                        first | refine SubF.cons rfl ?_ | (refine SubF.ent rfl ?_ ?_; · first | exact Ent.refl _ | exact entI (by omega))
                        first | refine SubF.cons rfl ?_ | (refine SubF.ent rfl ?_ ?_; · first | exact Ent.refl _ | exact entI (by omega))
                        exact SubF.nil
                      · try dsimp only
                        repeat (first | exact SubL.nil | refine SubL.cons rfl ?_)
                    · (try simp only [Bool.and_eq_true, Bool.or_eq_true, Bool.and_eq_false_iff, Bool.or_eq_false_iff, decide_eq_true_eq, decide_eq_false_iff_not, Bool.not_eq_true', Bool.not_eq_false', ne_eq, Decidable.not_not, Int.not_lt, Int.not_le] at h81)
                      have hn := nxt_no (s := s) (r := lockF s (IntKind.i64.wrap (l[k].2.tmod 8))) h81
                      have e9 : own s = own (nxt s (lockF s (IntKind.i64.wrap (l[k].2.tmod 8)))) := by rw [hn]
                      have e10 : (s.readers.length : Int) = ((nxt s (lockF s (IntKind.i64.wrap (l[k].2.tmod 8)))).readers.length : Int) := by rw [hn]
                      refine tr_skip ?_
                      refine pe_block_normal ?_
                      rw [hact]
                      refine pe_then_mid (pe_st hC ?_ ?_ rfl)
                      · try dsimp only
                        first | refine SubF.cons rfl ?_ | (refine SubF.ent rfl ?_ ?_; · first | exact Ent.refl _ | exact entI (by omega))
                        first | refine SubF.cons rfl ?_ | (refine SubF.ent rfl ?_ ?_; · first | exact Ent.refl _ | exact entI (by omega))
                        first | refine SubF.cons rfl ?_ | (refine SubF.ent rfl ?_ ?_; · first | exact Ent.refl _ | exact entI (by omega))
                        first | refine SubF.cons rfl ?_ | (refine SubF.ent rfl ?_ ?_; · first | exact Ent.refl _ | exact entI (by omega))
                        first | refine SubF.cons rfl ?_ | (refine SubF.ent rfl ?_ ?_; · first | exact Ent.refl _ | exact entI (by omega))
                        first | refine SubF.cons rfl ?_ | (refine SubF.ent rfl ?_ ?_; · first | exact Ent.refl _ | exact entI (by omega))
                        first | refine SubF.cons rfl ?_ | (refine SubF.ent rfl ?_ ?_; · first | exact Ent.refl _ | exact entI (by omega))
                        first | refine SubF.cons rfl ?_ | (refine SubF.ent rfl ?_ ?_; · first | exact Ent.refl _ | exact entI (by omega))
                        first | refine SubF.cons rfl ?_ | (refine SubF.ent rfl ?_ ?_; · first | exact Ent.refl _ | exact entI (by omega))
                        exact SubF.nil
                      · try dsimp only
                        repeat (first | exact SubL.nil | refine SubL.cons rfl ?_)
                · (try simp only [Bool.and_eq_true, Bool.or_eq_true, Bool.and_eq_false_iff, Bool.or_eq_false_iff, decide_eq_true_eq, decide_eq_false_iff_not, Bool.not_eq_true', Bool.not_eq_false', ne_eq, Decidable.not_not, Int.not_lt, Int.not_le] at h63)
                  refine tr_seq ?_
                  refine tr_region (fun N32 hN => ?_)
                  refine lx (op_eql rfl rfl) rfl ?_
                  refine lx (op_assign rfl) rfl ?_
                  refine lx_end ⟨by kernel_rfl, ?_⟩
                  refine pe_then_normal ?_
                  refine tr_sub hC (.cons (t := 0) rfl (.cons (t := 1) rfl (.cons (t := 6) rfl (.cons (t := 8) rfl (.cons (t := 9) rfl (.cons (t := 10) rfl (.cons (t := 11) rfl (.cons (t := 12) rfl (.cons (t := 13) rfl (.cons (t := 47) rfl (.cons (t := 84) rfl .nil))))))))))) (.cons (t := 6) rfl (.cons (t := 8) rfl (.cons (t := 13) rfl .nil))) rfl ?_
                  refine tr_cond rfl (fun h84 => ?_) (fun h84 => ?_)
                  · (try simp only [Bool.and_eq_true, Bool.or_eq_true, Bool.and_eq_false_iff, Bool.or_eq_false_iff, decide_eq_true_eq, decide_eq_false_iff_not, Bool.not_eq_true', Bool.not_eq_false', ne_eq, Decidable.not_not, Int.not_lt, Int.not_le] at h84)
                    have hact : actF s (l[k].1.tmod 4) (IntKind.i64.wrap (l[k].2.tmod 8)) = unlockF s := by unfold actF; rw [if_neg h63, if_pos h84]
                    refine tr_seq ?_
                    refine tr_region (fun N33 hN => ?_)
                    first | refine lx (op_bload (m := 8) rfl rfl ag24 sz24) rfl ?_ | refine lx (op_bload_part (m := 8) rfl rfl ag24 sz24 rfl rfl) rfl ?_
                    first | refine lx (op_call (l := [(Go.Operand.tmp 87)]) (unlock_ok s (by omega)) (.cons rfl .nil) fn25) rfl ?_ | refine lx (op_call (l := [(Go.Operand.tmp 87)]) (unlock_ok s (by omega)) (.ent rfl (by repeat (first | exact Ent.refl _ | exact Ents.nil | exact Ent.nil _ _ | exact Ent.row _ _ _ _ | exact Ent.func _ | refine Ents.cons ?_ ?_ | refine Ent.tup ?_ | refine Ent.agg ?_ | refine Ent.cells ?_ | exact Ent.of_eq rfl)) .nil) fn25) rfl ?_
                    refine lx (op_move rfl) rfl ?_
                    refine lx (op_extract rfl rfl) rfl ?_
                    refine lx (op_extract rfl rfl) rfl ?_
                    first | refine lxr (op_store_all (m := 13) rfl rfl rfl (.agg rfl) sz24 rfl) rfl ?_ | refine lxr (op_store (m := 13) rfl rfl rfl (.agg rfl) sz24 rfl rfl rfl) rfl ?_
                    refine lx (op_assign rfl) rfl ?_
                    refine lx_end ⟨by kernel_rfl, ?_⟩
                    refine pe_then_normal ?_
                    refine tr_sub hC (.cons (t := 0) rfl (.cons (t := 1) rfl (.cons (t := 6) rfl (.cons (t := 8) rfl (.cons (t := 9) rfl (.cons (t := 10) rfl (.cons (t := 11) rfl (.cons (t := 13) rfl (.cons (t := 14) rfl .nil))))))))) (.cons (t := 6) rfl (.cons (t := 8) rfl (.cons (t := 13) rfl .nil))) rfl ?_
                    refine tr_seq ?_
                    refine tr_seq ?_
                    refine tr_region (fun N34 hN => ?_)
                    refine lx (op_move rfl) rfl ?_
                    refine lx (op_eql rfl rfl) rfl ?_
                    refine lx (op_move rfl) rfl ?_
                    refine lx (op_eql rfl rfl) rfl ?_
                    refine lx (op_neq_bool bo4 rfl rfl) rfl ?_
                    refine lx_end ⟨by kernel_rfl, ?_⟩
                    refine pe_then_normal ?_
                    refine tr_sub hC (.cons (t := 0) rfl (.cons (t := 1) rfl (.cons (t := 6) rfl (.cons (t := 8) rfl (.cons (t := 9) rfl (.cons (t := 10) rfl (.cons (t := 11) rfl (.cons (t := 13) rfl (.cons (t := 14) rfl (.cons (t := 95) rfl .nil)))))))))) (.cons (t := 6) rfl (.cons (t := 8) rfl (.cons (t := 13) rfl .nil))) rfl ?_
                    refine tr_cond rfl (fun h95 => ?_) (fun h95 => ?_)
                    · exact absurd h95 (by rw [unlock_test hI]; simp)
                    · (try simp only [Bool.and_eq_true, Bool.or_eq_true, Bool.and_eq_false_iff, Bool.or_eq_false_iff, decide_eq_true_eq, decide_eq_false_iff_not, Bool.not_eq_true', Bool.not_eq_false', ne_eq, Decidable.not_not, Int.not_lt, Int.not_le] at h95)
                      refine tr_skip ?_
                      refine pe_then_normal ?_
                      refine tr_sub hC (.cons (t := 0) rfl (.cons (t := 1) rfl (.cons (t := 6) rfl (.cons (t := 8) rfl (.cons (t := 9) rfl (.cons (t := 10) rfl (.cons (t := 11) rfl (.cons (t := 13) rfl (.cons (t := 14) rfl .nil))))))))) (.cons (t := 6) rfl (.cons (t := 8) rfl (.cons (t := 13) rfl .nil))) rfl ?_
                      refine tr_seq ?_
                      refine tr_region (fun N36 hN => ?_)
                      refine lx (op_move rfl) rfl ?_
                      refine lx (op_eql rfl rfl) rfl ?_
                      refine lx_end ⟨by kernel_rfl, ?_⟩
                      refine pe_then_normal ?_
                      refine tr_sub hC (.cons (t := 0) rfl (.cons (t := 1) rfl (.cons (t := 6) rfl (.cons (t := 8) rfl (.cons (t := 9) rfl (.cons (t := 10) rfl (.cons (t := 11) rfl (.cons (t := 13) rfl (.cons (t := 14) rfl (.cons (t := 97) rfl .nil)))))))))) (.cons (t := 6) rfl (.cons (t := 8) rfl (.cons (t := 13) rfl .nil))) rfl ?_
                      refine tr_cond rfl (fun h97 => ?_) (fun h97 => ?_)
                      · (try simp only [Bool.and_eq_true, Bool.or_eq_true, Bool.and_eq_false_iff, Bool.or_eq_false_iff, decide_eq_true_eq, decide_eq_false_iff_not, Bool.not_eq_true', Bool.not_eq_false', ne_eq, Decidable.not_not, Int.not_lt, Int.not_le] at h97)
                        have e := (unlock_next hI).2.1 h97
                        have hle := own_le s
                        have e9 : own s - 1 = own (nxt s (unlockF s)) := by omega
                        have e10 : (s.readers.length : Int) = ((nxt s (unlockF s)).readers.length : Int) := by omega
                        refine tr_region (fun N37 hN => ?_)
                        refine lx (op_move rfl) rfl ?_
                        refine lx (op_sub rfl rfl (by have := own_le s; omega)) rfl ?_
                        refine lx (op_assign rfl) rfl ?_
                        refine lx_end ⟨by kernel_rfl, ?_⟩
                        refine pe_block_normal ?_
                        rw [hact]
                        refine pe_then_mid (pe_st hC ?_ ?_ rfl)
                        · try dsimp only
                          first | refine SubF.cons rfl ?_ | (refine SubF.ent rfl ?_ ?_; · first | exact Ent.refl _ | exact entI (by omega))
                          first | refine SubF.cons rfl ?_ | (refine SubF.ent rfl ?_ ?_; · first | exact Ent.refl _ | exact entI (by omega))
                          first | refine SubF.cons rfl ?_ | (refine SubF.ent rfl ?_ ?_; · first | exact Ent.refl _ | exact entI (by omega))
                          first | refine SubF.cons rfl ?_ | (refine SubF.ent rfl ?_ ?_; · first | exact Ent.refl _ | exact entI (by omega))
                          first | refine SubF.cons rfl ?_ | (refine SubF.ent rfl ?_ ?_; · first | exact Ent.refl _ | exact entI (by omega))
                          first | refine SubF.cons rfl ?_ | (refine SubF.ent rfl ?_ ?_; · first | exact Ent.refl _ | exact entI (by omega))
                          first | refine SubF.cons rfl ?_ | (refine SubF.ent rfl ?_ ?_; · first | exact Ent.refl _ | exact entI (by omega))
                          first | refine SubF.cons rfl ?_ | (refine SubF.ent rfl ?_ ?_; · first | exact Ent.refl _ | exact entI (by omega))
                          first | refine SubF.cons rfl ?_ | (refine SubF.ent rfl ?_ ?_; · first | exact Ent.refl _ | exact entI (by omega))
                          exact SubF.nil
                        · try dsimp only
                          repeat (first | exact SubL.nil | refine SubL.cons rfl ?_)
                      · (try simp only [Bool.and_eq_true, Bool.or_eq_true, Bool.and_eq_false_iff, Bool.or_eq_false_iff, decide_eq_true_eq, decide_eq_false_iff_not, Bool.not_eq_true', Bool.not_eq_false', ne_eq, Decidable.not_not, Int.not_lt, Int.not_le] at h97)
                        have hn := nxt_no (s := s) (r := unlockF s) h97
                        have e9 : own s = own (nxt s (unlockF s)) := by rw [hn]
                        have e10 : (s.readers.length : Int) = ((nxt s (unlockF s)).readers.length : Int) := by rw [hn]
                        refine tr_skip ?_
                        refine pe_block_normal ?_
                        rw [hact]
                        refine pe_then_mid (pe_st hC ?_ ?_ rfl)
                        · try dsimp only
                          first | refine SubF.cons rfl ?_ | (refine SubF.ent rfl ?_ ?_; · first | exact Ent.refl _ | exact entI (by omega))
                          first | refine SubF.cons rfl ?_ | (refine SubF.ent rfl ?_ ?_; · first | exact Ent.refl _ | exact entI (by omega))
                          first | refine SubF.cons rfl ?_ | (refine SubF.ent rfl ?_ ?_; · first | exact Ent.refl _ | exact entI (by omega))
                          first | refine SubF.cons rfl ?_ | (refine SubF.ent rfl ?_ ?_; · first | exact Ent.refl _ | exact entI (by omega))
                          first | refine SubF.cons rfl ?_ | (refine SubF.ent rfl ?_ ?_; · first | exact Ent.refl _ | exact entI (by omega))
                          first | refine SubF.cons rfl ?_ | (refine SubF.ent rfl ?_ ?_; · first | exact Ent.refl _ | exact entI (by omega))
                          first | refine SubF.cons rfl ?_ | (refine SubF.ent rfl ?_ ?_; · first | exact Ent.refl _ | exact entI (by omega))
                          first | refine SubF.cons rfl ?_ | (refine SubF.ent rfl ?_ ?_; · first | exact Ent.refl _ | exact entI (by omega))
                          first | refine SubF.cons rfl ?_ | (refine SubF.ent rfl ?_ ?_; · first | exact Ent.refl _ | exact entI (by omega))
                          exact SubF.nil
                        · try dsimp only
                          repeat (first | exact SubL.nil | refine SubL.cons rfl ?_)
                  · (try simp only [Bool.and_eq_true, Bool.or_eq_true, Bool.and_eq_false_iff, Bool.or_eq_false_iff, decide_eq_true_eq, decide_eq_false_iff_not, Bool.not_eq_true', Bool.not_eq_false', ne_eq, Decidable.not_not, Int.not_lt, Int.not_le] at h84)
                    refine tr_seq ?_
                    refine tr_region (fun N38 hN => ?_)
                    refine lx (op_eql rfl rfl) rfl ?_
                    refine lx (op_assign rfl) rfl ?_
                    refine lx_end ⟨by kernel_rfl, ?_⟩
                    refine pe_then_normal ?_
                    refine tr_sub hC (.cons (t := 0) rfl (.cons (t := 1) rfl (.cons (t := 6) rfl (.cons (t := 8) rfl (.cons (t := 9) rfl (.cons (t := 10) rfl (.cons (t := 11) rfl (.cons (t := 12) rfl (.cons (t := 13) rfl (.cons (t := 100) rfl .nil)))))))))) (.cons (t := 6) rfl (.cons (t := 8) rfl (.cons (t := 13) rfl .nil))) rfl ?_
                    refine tr_cond rfl (fun h100 => ?_) (fun h100 => ?_)
                    · (try simp only [Bool.and_eq_true, Bool.or_eq_true, Bool.and_eq_false_iff, Bool.or_eq_false_iff, decide_eq_true_eq, decide_eq_false_iff_not, Bool.not_eq_true', Bool.not_eq_false', ne_eq, Decidable.not_not, Int.not_lt, Int.not_le] at h100)
                      have hact : actF s (l[k].1.tmod 4) (IntKind.i64.wrap (l[k].2.tmod 8)) = rlockF s (IntKind.i64.wrap (l[k].2.tmod 8)) := by unfold actF; rw [if_neg h63, if_neg h84, if_pos h100]
                      refine tr_seq ?_
                      refine tr_region (fun N39 hN => ?_)
                      first | refine lx (op_bload (m := 8) rfl rfl ag24 sz24) rfl ?_ | refine lx (op_bload_part (m := 8) rfl rfl ag24 sz24 rfl rfl) rfl ?_
                      refine lx (op_move rfl) rfl ?_
                      first | refine lx (op_call (l := [(Go.Operand.tmp 103), (Go.Operand.tmp 104)]) (rlock_ok s _ (by omega)) (.cons rfl (.cons rfl .nil)) fn21) rfl ?_ | refine lx (op_call (l := [(Go.Operand.tmp 103), (Go.Operand.tmp 104)]) (rlock_ok s _ (by omega)) (.ent rfl (by repeat (first | exact Ent.refl _ | exact Ents.nil | exact Ent.nil _ _ | exact Ent.row _ _ _ _ | exact Ent.func _ | refine Ents.cons ?_ ?_ | refine Ent.tup ?_ | refine Ent.agg ?_ | refine Ent.cells ?_ | exact Ent.of_eq rfl)) (.ent rfl (by repeat (first | exact Ent.refl _ | exact Ents.nil | exact Ent.nil _ _ | exact Ent.row _ _ _ _ | exact Ent.func _ | refine Ents.cons ?_ ?_ | refine Ent.tup ?_ | refine Ent.agg ?_ | refine Ent.cells ?_ | exact Ent.of_eq rfl)) .nil)) fn21) rfl ?_
                      refine lx (op_move rfl) rfl ?_
                      refine lx (op_extract rfl rfl) rfl ?_
                      refine lx (op_extract rfl rfl) rfl ?_
                      first | refine lxr (op_store_all (m := 13) rfl rfl rfl (.agg rfl) sz24 rfl) rfl ?_ | refine lxr (op_store (m := 13) rfl rfl rfl (.agg rfl) sz24 rfl rfl rfl) rfl ?_
                      refine lx (op_assign rfl) rfl ?_
                      refine lx_end ⟨by kernel_rfl, ?_⟩
                      refine pe_then_normal ?_
                      refine tr_sub hC (.cons (t := 0) rfl (.cons (t := 1) rfl (.cons (t := 6) rfl (.cons (t := 8) rfl (.cons (t := 9) rfl (.cons (t := 10) rfl (.cons (t := 11) rfl (.cons (t := 13) rfl (.cons (t := 14) rfl .nil))))))))) (.cons (t := 6) rfl (.cons (t := 8) rfl (.cons (t := 13) rfl .nil))) rfl ?_
                      refine tr_seq ?_
                      refine tr_seq ?_
                      refine tr_region (fun N40 hN => ?_)
                      refine lx (op_move rfl) rfl ?_
                      refine lx (op_eql rfl rfl) rfl ?_
                      refine lx (op_move rfl) rfl ?_
                      refine lx (op_eql rfl rfl) rfl ?_
                      refine lx (op_move rfl) rfl ?_
                      refine lxs rfl rfl rfl guard_eq (.cons (t := 0) rfl (fun _ => Ent.refl _) .nil) (op_move rfl) rfl ?_
                      refine lx (op_pick_and rfl rfl) rfl ?_
                      refine lx (op_neq_bool bo4 rfl rfl) rfl ?_
                      refine lx_end ⟨by kernel_rfl, ?_⟩
                      refine pe_then_normal ?_
                      refine tr_sub hC (.cons (t := 0) rfl (.cons (t := 1) rfl (.cons (t := 6) rfl (.cons (t := 8) rfl (.cons (t := 9) rfl (.cons (t := 10) rfl (.cons (t := 11) rfl (.cons (t := 13) rfl (.cons (t := 14) rfl (.cons (t := 115) rfl .nil)))))))))) (.cons (t := 6) rfl (.cons (t := 8) rfl (.cons (t := 13) rfl .nil))) rfl ?_
                      refine tr_cond rfl (fun h115 => ?_) (fun h115 => ?_)
                      · exact absurd h115 (by rw [rlock_test hI hg]; simp)
                      · (try simp only [Bool.and_eq_true, Bool.or_eq_true, Bool.and_eq_false_iff, Bool.or_eq_false_iff, decide_eq_true_eq, decide_eq_false_iff_not, Bool.not_eq_true', Bool.not_eq_false', ne_eq, Decidable.not_not, Int.not_lt, Int.not_le] at h115)
                        refine tr_skip ?_
                        refine pe_then_normal ?_
                        refine tr_sub hC (.cons (t := 0) rfl (.cons (t := 1) rfl (.cons (t := 6) rfl (.cons (t := 8) rfl (.cons (t := 9) rfl (.cons (t := 10) rfl (.cons (t := 11) rfl (.cons (t := 13) rfl (.cons (t := 14) rfl .nil))))))))) (.cons (t := 6) rfl (.cons (t := 8) rfl (.cons (t := 13) rfl .nil))) rfl ?_
                        refine tr_seq ?_
                        refine tr_region (fun N42 hN => ?_)
                        refine lx (op_move rfl) rfl ?_
                        refine lx (op_eql rfl rfl) rfl ?_
                        refine lx_end ⟨by kernel_rfl, ?_⟩
                        refine pe_then_normal ?_
                        refine tr_sub hC (.cons (t := 0) rfl (.cons (t := 1) rfl (.cons (t := 6) rfl (.cons (t := 8) rfl (.cons (t := 9) rfl (.cons (t := 10) rfl (.cons (t := 11) rfl (.cons (t := 13) rfl (.cons (t := 14) rfl (.cons (t := 117) rfl .nil)))))))))) (.cons (t := 6) rfl (.cons (t := 8) rfl (.cons (t := 13) rfl .nil))) rfl ?_
                        refine tr_cond rfl (fun h117 => ?_) (fun h117 => ?_)
                        · (try simp only [Bool.and_eq_true, Bool.or_eq_true, Bool.and_eq_false_iff, Bool.or_eq_false_iff, decide_eq_true_eq, decide_eq_false_iff_not, Bool.not_eq_true', Bool.not_eq_false', ne_eq, Decidable.not_not, Int.not_lt, Int.not_le] at h117)
                          have e := (rlock_next hI hg).2.1 h117
                          have hle := own_le s
                          have e9 : own s = own (nxt s (rlockF s (IntKind.i64.wrap (l[k].2.tmod 8)))) := by omega
                          have e10 : (s.readers.length : Int) + 1 = ((nxt s (rlockF s (IntKind.i64.wrap (l[k].2.tmod 8)))).readers.length : Int) := by omega
                          refine tr_region (fun N43 hN => ?_)
                          refine lx (op_move rfl) rfl ?_
                          refine lx (op_add rfl rfl (by omega)) rfl ?_
                          refine lx (op_assign rfl) rfl ?_
                          refine lx_end ⟨by kernel_rfl, ?_⟩
                          refine pe_block_normal ?_
                          rw [hact]
                          refine pe_then_mid (pe_st hC ?_ ?_ rfl)
                          · try dsimp only
                            first | refine SubF.cons rfl ?_ | (refine SubF.ent rfl ?_ ?_; · first | exact Ent.refl _ | exact entI (by omega))
                            first | refine SubF.cons rfl ?_ | (refine SubF.ent rfl ?_ ?_; · first | exact Ent.refl _ | exact entI (by omega))
                            first | refine SubF.cons rfl ?_ | (refine SubF.ent rfl ?_ ?_; · first | exact Ent.refl _ | exact entI (by omega))
                            first | refine SubF.cons rfl ?_ | (refine SubF.ent rfl ?_ ?_; · first | exact Ent.refl _ | exact entI (by omega))
                            first | refine SubF.cons rfl ?_ | (refine SubF.ent rfl ?_ ?_; · first | exact Ent.refl _ | exact entI (by omega))
                            first | refine SubF.cons rfl ?_ | (refine SubF.ent rfl ?_ ?_; · first | exact Ent.refl _ | exact entI (by omega))
                            first | refine SubF.cons rfl ?_ | (refine SubF.ent rfl ?_ ?_; · first | exact Ent.refl _ | exact entI (by omega))
                            first | refine SubF.cons rfl ?_ | (refine SubF.ent rfl ?_ ?_; · first | exact Ent.refl _ | exact entI (by omega))
                            first | refine SubF.cons rfl ?_ | (refine SubF.ent rfl ?_ ?_; · first | exact Ent.refl _ | exact entI (by omega))
                            exact SubF.nil
                          · try dsimp only
                            repeat (first | exact SubL.nil | refine SubL.cons rfl ?_)
                        · (try simp only [Bool.and_eq_true, Bool.or_eq_true, Bool.and_eq_false_iff, Bool.or_eq_false_iff, decide_eq_true_eq, decide_eq_false_iff_not, Bool.not_eq_true', Bool.not_eq_false', ne_eq, Decidable.not_not, Int.not_lt, Int.not_le] at h117)
                          have hn := nxt_no (s := s) (r := rlockF s (IntKind.i64.wrap (l[k].2.tmod 8))) h117
                          have e9 : own s = own (nxt s (rlockF s (IntKind.i64.wrap (l[k].2.tmod 8)))) := by rw [hn]
                          have e10 : (s.readers.length : Int) = ((nxt s (rlockF s (IntKind.i64.wrap (l[k].2.tmod 8)))).readers.length : Int) := by rw [hn]
                          refine tr_skip ?_
                          refine pe_block_normal ?_
                          rw [hact]
                          refine pe_then_mid (pe_st hC ?_ ?_ rfl)
                          · try dsimp only
                            first | refine SubF.cons rfl ?_ | (refine SubF.ent rfl ?_ ?_; · first | exact Ent.refl _ | exact entI (by omega))
                            first | refine SubF.cons rfl ?_ | (refine SubF.ent rfl ?_ ?_; · first | exact Ent.refl _ | exact entI (by omega))
                            first | refine SubF.cons rfl ?_ | (refine SubF.ent rfl ?_ ?_; · first | exact Ent.refl _ | exact entI (by omega))
                            first | refine SubF.cons rfl ?_ | (refine SubF.ent rfl ?_ ?_; · first | exact Ent.refl _ | exact entI (by omega))
                            first | refine SubF.cons rfl ?_ | (refine SubF.ent rfl ?_ ?_; · first | exact Ent.refl _ | exact entI (by omega))
                            first | refine SubF.cons rfl ?_ | (refine SubF.ent rfl ?_ ?_; · first | exact Ent.refl _ | exact entI (by omega))
                            first | refine SubF.cons rfl ?_ | (refine SubF.ent rfl ?_ ?_; · first | exact Ent.refl _ | exact entI (by omega))
                            first | refine SubF.cons rfl ?_ | (refine SubF.ent rfl ?_ ?_; · first | exact Ent.refl _ | exact entI (by omega))
                            first | refine SubF.cons rfl ?_ | (refine SubF.ent rfl ?_ ?_; · first | exact Ent.refl _ | exact entI (by omega))
                            exact SubF.nil
                          · try dsimp only
                            repeat (first | exact SubL.nil | refine SubL.cons rfl ?_)
                    · (try simp only [Bool.and_eq_true, Bool.or_eq_true, Bool.and_eq_false_iff, Bool.or_eq_false_iff, decide_eq_true_eq, decide_eq_false_iff_not, Bool.not_eq_true', Bool.not_eq_false', ne_eq, Decidable.not_not, Int.not_lt, Int.not_le] at h100)
                      have hact : actF s (l[k].1.tmod 4) (IntKind.i64.wrap (l[k].2.tmod 8)) = runlockF s (IntKind.i64.wrap (l[k].2.tmod 8)) := by unfold actF; rw [if_neg h63, if_neg h84, if_neg h100]
                      refine tr_seq ?_
                      refine tr_region (fun N21 hN => ?_)
                      first | refine lx (op_bload (m := 8) rfl rfl ag24 sz24) rfl ?_ | refine lx (op_bload_part (m := 8) rfl rfl ag24 sz24 rfl rfl) rfl ?_
                      refine lx (op_move rfl) rfl ?_
                      first | refine lx (op_call (l := [(Go.Operand.tmp 49), (Go.Operand.tmp 50)]) (runlock_ok s _ (by omega)) (.cons rfl (.cons rfl .nil)) fn22) rfl ?_ | refine lx (op_call (l := [(Go.Operand.tmp 49), (Go.Operand.tmp 50)]) (runlock_ok s _ (by omega)) (.ent rfl (by repeat (first | exact Ent.refl _ | exact Ents.nil | exact Ent.nil _ _ | exact Ent.row _ _ _ _ | exact Ent.func _ | refine Ents.cons ?_ ?_ | refine Ent.tup ?_ | refine Ent.agg ?_ | refine Ent.cells ?_ | exact Ent.of_eq rfl)) (.ent rfl (by repeat (first | exact Ent.refl _ | exact Ents.nil | exact Ent.nil _ _ | exact Ent.row _ _ _ _ | exact Ent.func _ | refine Ents.cons ?_ ?_ | refine Ent.tup ?_ | refine Ent.agg ?_ | refine Ent.cells ?_ | exact Ent.of_eq rfl)) .nil)) fn22) rfl ?_
                      refine lx (op_move rfl) rfl ?_
                      refine lx (op_extract rfl rfl) rfl ?_
                      refine lx (op_extract rfl rfl) rfl ?_
                      first | refine lxr (op_store_all (m := 13) rfl rfl rfl (.agg rfl) sz24 rfl) rfl ?_ | refine lxr (op_store (m := 13) rfl rfl rfl (.agg rfl) sz24 rfl rfl rfl) rfl ?_
                      refine lx (op_assign rfl) rfl ?_
                      refine lx_end ⟨by kernel_rfl, ?_⟩
                      refine pe_then_normal ?_
                      refine tr_sub hC (.cons (t := 0) rfl (.cons (t := 1) rfl (.cons (t := 6) rfl (.cons (t := 8) rfl (.cons (t := 9) rfl (.cons (t := 10) rfl (.cons (t := 11) rfl (.cons (t := 13) rfl (.cons (t := 14) rfl .nil))))))))) (.cons (t := 6) rfl (.cons (t := 8) rfl (.cons (t := 13) rfl .nil))) rfl ?_
                      refine tr_seq ?_
                      refine tr_seq ?_
                      refine tr_region (fun N22 hN => ?_)
                      refine lx (op_move rfl) rfl ?_
                      refine lx (op_eql rfl rfl) rfl ?_
                      refine lx (op_move rfl) rfl ?_
                      refine lx (op_gtr rfl rfl) rfl ?_
                      refine lx (op_neq_bool bo4 rfl rfl) rfl ?_
                      refine lx_end ⟨by kernel_rfl, ?_⟩
                      refine pe_then_normal ?_
                      refine tr_sub hC (.cons (t := 0) rfl (.cons (t := 1) rfl (.cons (t := 6) rfl (.cons (t := 8) rfl (.cons (t := 9) rfl (.cons (t := 10) rfl (.cons (t := 11) rfl (.cons (t := 13) rfl (.cons (t := 14) rfl (.cons (t := 58) rfl .nil)))))))))) (.cons (t := 6) rfl (.cons (t := 8) rfl (.cons (t := 13) rfl .nil))) rfl ?_
                      refine tr_cond rfl (fun h58 => ?_) (fun h58 => ?_)
                      · exact absurd h58 (by rw [runlock_test hI hg]; simp)
                      · (try simp only [Bool.and_eq_true, Bool.or_eq_true, Bool.and_eq_false_iff, Bool.or_eq_false_iff, decide_eq_true_eq, decide_eq_false_iff_not, Bool.not_eq_true', Bool.not_eq_false', ne_eq, Decidable.not_not, Int.not_lt, Int.not_le] at h58)
                        refine tr_skip ?_
                        refine pe_then_normal ?_
                        refine tr_sub hC (.cons (t := 0) rfl (.cons (t := 1) rfl (.cons (t := 6) rfl (.cons (t := 8) rfl (.cons (t := 9) rfl (.cons (t := 10) rfl (.cons (t := 11) rfl (.cons (t := 13) rfl (.cons (t := 14) rfl .nil))))))))) (.cons (t := 6) rfl (.cons (t := 8) rfl (.cons (t := 13) rfl .nil))) rfl ?_
                        refine tr_seq ?_
                        refine tr_region (fun N24 hN => ?_)
                        refine lx (op_move rfl) rfl ?_
                        refine lx (op_eql rfl rfl) rfl ?_
                        refine lx_end ⟨by kernel_rfl, ?_⟩
                        refine pe_then_normal ?_
                        refine tr_sub hC (.cons (t := 0) rfl (.cons (t := 1) rfl (.cons (t := 6) rfl (.cons (t := 8) rfl (.cons (t := 9) rfl (.cons (t := 10) rfl (.cons (t := 11) rfl (.cons (t := 13) rfl (.cons (t := 14) rfl (.cons (t := 60) rfl .nil)))))))))) (.cons (t := 6) rfl (.cons (t := 8) rfl (.cons (t := 13) rfl .nil))) rfl ?_
                        refine tr_cond rfl (fun h60 => ?_) (fun h60 => ?_)
                        · (try simp only [Bool.and_eq_true, Bool.or_eq_true, Bool.and_eq_false_iff, Bool.or_eq_false_iff, decide_eq_true_eq, decide_eq_false_iff_not, Bool.not_eq_true', Bool.not_eq_false', ne_eq, Decidable.not_not, Int.not_lt, Int.not_le] at h60)
                          have e := (runlock_next hI hg).2.1 h60
                          have hle := own_le s
                          have e9 : own s = own (nxt s (runlockF s (IntKind.i64.wrap (l[k].2.tmod 8)))) := by omega
                          have e10 : (s.readers.length : Int) - 1 = ((nxt s (runlockF s (IntKind.i64.wrap (l[k].2.tmod 8)))).readers.length : Int) := by omega
                          refine tr_region (fun N25 hN => ?_)
                          refine lx (op_move rfl) rfl ?_
                          refine lx (op_sub rfl rfl (by omega)) rfl ?_
                          refine lx (op_assign rfl) rfl ?_
                          refine lx_end ⟨by kernel_rfl, ?_⟩
                          refine pe_block_normal ?_
                          rw [hact]
                          refine pe_then_mid (pe_st hC ?_ ?_ rfl)
                          · try dsimp only
                            first | refine SubF.cons rfl ?_ | (refine SubF.ent rfl ?_ ?_; · first | exact Ent.refl _ | exact entI (by omega))
                            first | refine SubF.cons rfl ?_ | (refine SubF.ent rfl ?_ ?_; · first | exact Ent.refl _ | exact entI (by omega))
                            first | refine SubF.cons rfl ?_ | (refine SubF.ent rfl ?_ ?_; · first | exact Ent.refl _ | exact entI (by omega))
                            first | refine SubF.cons rfl ?_ | (refine SubF.ent rfl ?_ ?_; · first | exact Ent.refl _ | exact entI (by omega))
                            first | refine SubF.cons rfl ?_ | (refine SubF.ent rfl ?_ ?_; · first | exact Ent.refl _ | exact entI (by omega))
                            first | refine SubF.cons rfl ?_ | (refine SubF.ent rfl ?_ ?_; · first | exact Ent.refl _ | exact entI (by omega))
                            first | refine SubF.cons rfl ?_ | (refine SubF.ent rfl ?_ ?_; · first | exact Ent.refl _ | exact entI (by omega))
                            first | refine SubF.cons rfl ?_ | (refine SubF.ent rfl ?_ ?_; · first | exact Ent.refl _ | exact entI (by omega))
                            first | refine SubF.cons rfl ?_ | (refine SubF.ent rfl ?_ ?_; · first | exact Ent.refl _ | exact entI (by omega))
                            exact SubF.nil
                          · try dsimp only
                            repeat (first | exact SubL.nil | refine SubL.cons rfl ?_)
                        · (try simp only [Bool.and_eq_true, Bool.or_eq_true, Bool.and_eq_false_iff, Bool.or_eq_false_iff, decide_eq_true_eq, decide_eq_false_iff_not, Bool.not_eq_true', Bool.not_eq_false', ne_eq, Decidable.not_not, Int.not_lt, Int.not_le] at h60)
                          have hn := nxt_no (s := s) (r := runlockF s (IntKind.i64.wrap (l[k].2.tmod 8))) h60
                          have e9 : own s = own (nxt s (runlockF s (IntKind.i64.wrap (l[k].2.tmod 8)))) := by rw [hn]
                          have e10 : (s.readers.length : Int) = ((nxt s (runlockF s (IntKind.i64.wrap (l[k].2.tmod 8)))).readers.length : Int) := by rw [hn]
                          refine tr_skip ?_
                          refine pe_block_normal ?_
                          rw [hact]
                          refine pe_then_mid (pe_st hC ?_ ?_ rfl)
                          · try dsimp only
                            first | refine SubF.cons rfl ?_ | (refine SubF.ent rfl ?_ ?_; · first | exact Ent.refl _ | exact entI (by omega))
                            first | refine SubF.cons rfl ?_ | (refine SubF.ent rfl ?_ ?_; · first | exact Ent.refl _ | exact entI (by omega))
                            first | refine SubF.cons rfl ?_ | (refine SubF.ent rfl ?_ ?_; · first | exact Ent.refl _ | exact entI (by omega))
                            first | refine SubF.cons rfl ?_ | (refine SubF.ent rfl ?_ ?_; · first | exact Ent.refl _ | exact entI (by omega))
                            first | refine SubF.cons rfl ?_ | (refine SubF.ent rfl ?_ ?_; · first | exact Ent.refl _ | exact entI (by omega))
                            first | refine SubF.cons rfl ?_ | (refine SubF.ent rfl ?_ ?_; · first | exact Ent.refl _ | exact entI (by omega))
                            first | refine SubF.cons rfl ?_ | (refine SubF.ent rfl ?_ ?_; · first | exact Ent.refl _ | exact entI (by omega))
                            first | refine SubF.cons rfl ?_ | (refine SubF.ent rfl ?_ ?_; · first | exact Ent.refl _ | exact entI (by omega))
                            first | refine SubF.cons rfl ?_ | (refine SubF.ent rfl ?_ ?_; · first | exact Ent.refl _ | exact entI (by omega))
                            exact SubF.nil
                          · try dsimp only
                            repeat (first | exact SubL.nil | refine SubL.cons rfl ?_)
              · obtain ⟨hI2, hlen2⟩ := act_next hI (l[k].1.tmod 4) hg
                refine tr_seq ?_
                refine tr_seq ?_
                refine tr_region (fun N44 hN => ?_)
                refine lx (op_move rfl) rfl ?_
                refine lx (op_eql rfl rfl) rfl ?_
                refine lx_end ⟨by kernel_rfl, ?_⟩
                refine pe_then_normal ?_
                refine tr_sub hC (.cons (t := 0) rfl (.cons (t := 1) rfl (.cons (t := 6) rfl (.cons (t := 8) rfl (.cons (t := 9) rfl (.cons (t := 10) rfl (.cons (t := 11) rfl (.cons (t := 13) rfl (.cons (t := 121) rfl .nil))))))))) (.cons (t := 6) rfl (.cons (t := 8) rfl (.cons (t := 13) rfl .nil))) rfl ?_
                refine tr_join [(0, eqP (.bool b)), (1, slP ap 2 l), (6, ptrP (N8, 6) 0), (8, ptrP (N11, 8) 0), (9, eqP (.int .i64 (own (nxt s (actF s (l[k].1.tmod 4) (IntKind.i64.wrap (l[k].2.tmod 8))))))), (10, eqP (.int .i64 ((nxt s (actF s (l[k].1.tmod 4) (IntKind.i64.wrap (l[k].2.tmod 8)))).readers.length : Int))), (11, eqP (.int .i64 (k : Int)))] [(6, some ((N8, 6), blk 24 (fresh b).ps)), (8, some ((N11, 8), blk 24 (nxt s (actF s (l[k].1.tmod 4) (IntKind.i64.wrap (l[k].2.tmod 8)))).ps))] ?_ ?_
                · refine tr_cond rfl (fun h121 => ?_) (fun h121 => ?_)
                  · (try simp only [Bool.and_eq_true, Bool.or_eq_true, Bool.and_eq_false_iff, Bool.or_eq_false_iff, decide_eq_true_eq, decide_eq_false_iff_not, Bool.not_eq_true', Bool.not_eq_false', ne_eq, Decidable.not_not, Int.not_lt, Int.not_le] at h121)
                    have hn := nxt_ok (s := s) h121
                    refine tr_region (fun N45 hN => ?_)
                    first | refine lx (op_bload (m := 13) rfl rfl ag24 sz24) rfl ?_ | refine lx (op_bload_part (m := 13) rfl rfl ag24 sz24 rfl rfl) rfl ?_
                    first | refine lxr (op_store_all (m := 8) rfl rfl rfl (.agg rfl) sz24 rfl) rfl ?_ | refine lxr (op_store (m := 8) rfl rfl rfl (.agg rfl) sz24 rfl rfl rfl) rfl ?_
                    refine lx_end ⟨by kernel_rfl, ?_⟩
                    rw [hn]
                    refine pe_then_mid (pe_st hC ?_ ?_ rfl)
                    · try dsimp only
                      first | refine SubF.cons rfl ?_ | (refine SubF.ent rfl ?_ ?_; · exact Ent.refl _)
                      first | refine SubF.cons rfl ?_ | (refine SubF.ent rfl ?_ ?_; · exact Ent.refl _)
                      first | refine SubF.cons rfl ?_ | (refine SubF.ent rfl ?_ ?_; · exact Ent.refl _)
                      first | refine SubF.cons rfl ?_ | (refine SubF.ent rfl ?_ ?_; · exact Ent.refl _)
                      first | refine SubF.cons rfl ?_ | (refine SubF.ent rfl ?_ ?_; · exact Ent.refl _)
                      first | refine SubF.cons rfl ?_ | (refine SubF.ent rfl ?_ ?_; · exact Ent.refl _)
                      first | refine SubF.cons rfl ?_ | (refine SubF.ent rfl ?_ ?_; · exact Ent.refl _)
                      exact SubF.nil
                    · try dsimp only
                      repeat (first | exact SubL.nil | refine SubL.cons rfl ?_)
                  · (try simp only [Bool.and_eq_true, Bool.or_eq_true, Bool.and_eq_false_iff, Bool.or_eq_false_iff, decide_eq_true_eq, decide_eq_false_iff_not, Bool.not_eq_true', Bool.not_eq_false', ne_eq, Decidable.not_not, Int.not_lt, Int.not_le] at h121)
                    have hn := nxt_no (s := s) h121
                    refine tr_skip ?_
                    rw [hn]
                    refine pe_then_mid (pe_st hC ?_ ?_ rfl)
                    · try dsimp only
                      first | refine SubF.cons rfl ?_ | (refine SubF.ent rfl ?_ ?_; · exact Ent.refl _)
                      first | refine SubF.cons rfl ?_ | (refine SubF.ent rfl ?_ ?_; · exact Ent.refl _)
                      first | refine SubF.cons rfl ?_ | (refine SubF.ent rfl ?_ ?_; · exact Ent.refl _)
                      first | refine SubF.cons rfl ?_ | (refine SubF.ent rfl ?_ ?_; · exact Ent.refl _)
                      first | refine SubF.cons rfl ?_ | (refine SubF.ent rfl ?_ ?_; · exact Ent.refl _)
                      first | refine SubF.cons rfl ?_ | (refine SubF.ent rfl ?_ ?_; · exact Ent.refl _)
                      first | refine SubF.cons rfl ?_ | (refine SubF.ent rfl ?_ ?_; · exact Ent.refl _)
                      exact SubF.nil
                    · try dsimp only
                      repeat (first | exact SubL.nil | refine SubL.cons rfl ?_)
                · refine tr_seq ?_
                  refine tr_region (fun N46 hN => ?_)
                  first | refine lx (op_bload (m := 8) rfl rfl ag24 sz24) rfl ?_ | refine lx (op_bload_part (m := 8) rfl rfl ag24 sz24 rfl rfl) rfl ?_
                  first | refine lx (op_call (l := [(Go.Operand.tmp 123)]) (valid_ok (nxt s (actF s (l[k].1.tmod 4) (IntKind.i64.wrap (l[k].2.tmod 8)))) (by omega)) (.cons rfl .nil) fn14) rfl ?_ | refine lx (op_call (l := [(Go.Operand.tmp 123)]) (valid_ok (nxt s (actF s (l[k].1.tmod 4) (IntKind.i64.wrap (l[k].2.tmod 8)))) (by omega)) (.ent rfl (by repeat (first | exact Ent.refl _ | exact Ents.nil | exact Ent.nil _ _ | exact Ent.row _ _ _ _ | exact Ent.func _ | refine Ents.cons ?_ ?_ | refine Ent.tup ?_ | refine Ent.agg ?_ | refine Ent.cells ?_ | exact Ent.of_eq rfl)) .nil) fn14) rfl ?_
                  first | refine lx (op_not rfl) rfl ?_ | refine lx (op_not_b rfl) rfl ?_
                  refine lx (op_move rfl) rfl ?_
                  refine lxs rfl rfl rfl guard_eq (.cons (t := 8) rfl (fun _ => Ent.refl _) .nil) (op_fieldAddr rfl fl24_4 sz22) rfl ?_
                  refine lxs rfl rfl rfl guard_eq (.cons (t := 127) rfl (fun h => entW h) .nil) (op_bload_one (m := 8) rfl rfl ag22 rfl) rfl ?_
                  first | refine lxs rfl rfl rfl guard_eq (.cons (t := 128) rfl (fun h => entW h) .nil) (op_len rfl el22) rfl ?_ | refine lxs rfl rfl rfl guard_eq (.cons (t := 128) rfl (fun h => entW h) .nil) (op_len_row rfl el22) rfl ?_ | refine lxs rfl rfl rfl guard_eq (.cons (t := 128) rfl (fun h => entW h) .nil) (op_len_mv rfl el22) rfl ?_
                  refine lxs rfl rfl rfl guard_eq (.cons (t := 10) rfl (fun _ => Ent.refl _) .nil) (op_move rfl) rfl ?_
                  refine lxs rfl rfl rfl guard_eq (.cons (t := 129) rfl (fun h => entW h) (.cons (t := 130) rfl (fun h => entW h) .nil)) (op_neq rfl rfl) rfl ?_
                  refine lx (op_pick_or rfl rfl) rfl ?_
                  refine lx (op_move rfl) rfl ?_
                  refine lxs rfl rfl rfl guard_eq (.cons (t := 8) rfl (fun _ => Ent.refl _) .nil) (op_fieldAddr rfl fl24_3 sz3) rfl ?_
                  refine lxs rfl rfl rfl guard_eq (.cons (t := 134) rfl (fun h => entW h) .nil) (op_bload_one (m := 8) rfl rfl ag3 rfl) rfl ?_
                  refine lxs rfl rfl rfl guard_eq (.cons (t := 135) rfl (fun h => entW h) .nil) (op_geq rfl rfl) rfl ?_
                  refine lxs rfl rfl rfl guard_eq (.cons (t := 9) rfl (fun _ => Ent.refl _) .nil) (op_move rfl) rfl ?_
                  refine lxs rfl rfl rfl guard_eq (.cons (t := 137) rfl (fun h => entW h) .nil) (op_eql rfl rfl) rfl ?_
                  refine lxs rfl rfl rfl guard_eq (.cons (t := 136) rfl (fun h => entW h) (.cons (t := 138) rfl (fun h => entW h) .nil)) (op_neq_bool bo4 rfl rfl) rfl ?_
                  refine lx (op_pick_or rfl rfl) rfl ?_
                  refine lx (op_move rfl) rfl ?_
                  refine lxs rfl rfl rfl guard_eq (.cons (t := 9) rfl (fun _ => Ent.refl _) .nil) (op_move rfl) rfl ?_
                  refine lxs rfl rfl rfl guard_eq (.cons (t := 142) rfl (fun h => entW h) .nil) (op_eql rfl rfl) rfl ?_
                  refine lxs rfl rfl rfl guard_eq (.cons (t := 143) rfl (fun h => entW h) .nil) (op_move rfl) rfl ?_
                  refine lxs rfl rfl rfl guard_w (.cons (t := 10) rfl (fun _ => Ent.refl _) .nil) (op_move rfl) rfl ?_
                  refine lxs rfl rfl rfl guard_w (.cons (t := 145) rfl (fun h => entW h) .nil) (op_eql rfl rfl) rfl ?_
                  refine lxs rfl rfl rfl guard_eq (.cons (t := 144) rfl (fun h => entW h) (.cons (t := 146) rfl (fun h => entS h) .nil)) (op_pick_and rfl rfl) rfl ?_
                  refine lxs rfl rfl rfl guard_eq (.cons (t := 147) rfl (fun h => entW h) .nil) (op_move rfl) rfl ?_
                  first | refine lxs rfl rfl rfl guard_w (.cons (t := 8) rfl (fun _ => Ent.refl _) .nil) (op_bload (m := 8) rfl rfl ag24 sz24) rfl ?_ | refine lxs rfl rfl rfl guard_w (.cons (t := 8) rfl (fun _ => Ent.refl _) .nil) (op_bload_part (m := 8) rfl rfl ag24 sz24 rfl rfl) rfl ?_
                  first | refine lxs rfl rfl rfl guard_w (.cons (t := 6) rfl (fun _ => Ent.refl _) .nil) (op_bload (m := 6) rfl rfl ag24 sz24) rfl ?_ | refine lxs rfl rfl rfl guard_w (.cons (t := 6) rfl (fun _ => Ent.refl _) .nil) (op_bload_part (m := 6) rfl rfl ag24 sz24 rfl rfl) rfl ?_
                  first | refine lxs rfl rfl rfl guard_w (.cons (t := 149) rfl (fun h => entW h) (.cons (t := 150) rfl (fun h => entW h) .nil)) (op_call (l := [(Go.Operand.tmp 149), (Go.Operand.tmp 150)]) (same_ok (nxt s (actF s (l[k].1.tmod 4) (IntKind.i64.wrap (l[k].2.tmod 8)))) _ (by omega)) (.cons rfl (.cons rfl .nil)) fn13) rfl ?_ | refine lxs rfl rfl rfl guard_w (.cons (t := 149) rfl (fun h => entW h) (.cons (t := 150) rfl (fun h => entW h) .nil)) (op_call (l := [(Go.Operand.tmp 149), (Go.Operand.tmp 150)]) (same_ok (nxt s (actF s (l[k].1.tmod 4) (IntKind.i64.wrap (l[k].2.tmod 8)))) _ (by omega)) (.ent rfl (by repeat (first | exact Ent.refl _ | exact Ents.nil | exact Ent.nil _ _ | exact Ent.row _ _ _ _ | exact Ent.func _ | refine Ents.cons ?_ ?_ | refine Ent.tup ?_ | refine Ent.agg ?_ | refine Ent.cells ?_ | exact Ent.of_eq rfl)) (.ent rfl (by repeat (first | exact Ent.refl _ | exact Ents.nil | exact Ent.nil _ _ | exact Ent.row _ _ _ _ | exact Ent.func _ | refine Ents.cons ?_ ?_ | refine Ent.tup ?_ | refine Ent.agg ?_ | refine Ent.cells ?_ | exact Ent.of_eq rfl)) .nil)) fn13) rfl ?_
                  first | refine lxs rfl rfl rfl guard_w (.cons (t := 151) rfl (fun h => entW h) .nil) (op_not rfl) rfl ?_ | refine lxs rfl rfl rfl guard_w (.cons (t := 151) rfl (fun h => entW h) .nil) (op_not_b rfl) rfl ?_
                  refine lxs rfl rfl rfl guard_eq (.cons (t := 148) rfl (fun h => entW h) (.cons (t := 152) rfl (fun h => entS h) .nil)) (op_pick_and rfl rfl) rfl ?_
                  refine lx (op_pick_or rfl rfl) rfl ?_
                  refine lx_end ⟨by kernel_rfl, ?_⟩
                  refine pe_then_normal ?_
                  refine tr_sub hC (.cons (t := 0) rfl (.cons (t := 1) rfl (.cons (t := 6) rfl (.cons (t := 8) rfl (.cons (t := 9) rfl (.cons (t := 10) rfl (.cons (t := 11) rfl (.cons (t := 154) rfl .nil)))))))) (.cons (t := 6) rfl (.cons (t := 8) rfl .nil)) rfl ?_
                  refine tr_cond rfl (fun h154 => ?_) (fun h154 => ?_)
                  · exact absurd h154 (by rw [last_test hI2]; decide)
                  · (try simp only [Bool.and_eq_true, Bool.or_eq_true, Bool.and_eq_false_iff, Bool.or_eq_false_iff, decide_eq_true_eq, decide_eq_false_iff_not, Bool.not_eq_true', Bool.not_eq_false', ne_eq, Decidable.not_not, Int.not_lt, Int.not_le] at h154)
                    refine tr_skip ?_
                    refine pe_block_normal ?_
                    refine pe_then_normal ?_
                    refine tr_sub hC (.cons (t := 0) rfl (.cons (t := 1) rfl (.cons (t := 6) rfl (.cons (t := 8) rfl (.cons (t := 9) rfl (.cons (t := 10) rfl (.cons (t := 11) rfl .nil))))))) (.cons (t := 6) rfl (.cons (t := 8) rfl .nil)) rfl ?_
                    refine tr_region (fun N16 hN => ?_)
                    refine lx (op_move rfl) rfl ?_
                    refine lx (op_add rfl rfl (by omega)) rfl ?_
                    refine lx (op_assign rfl) rfl ?_
                    refine lx_end ⟨by kernel_rfl, ?_⟩
                    refine pe_round (⟨(k + 1, (nxt s (actF s (l[k].1.tmod 4) (IntKind.i64.wrap (l[k].2.tmod 8))))), by dsimp only; omega, hI2, by dsimp only; omega⟩) (by dsimp only; omega) (pe_st hC ?_ ?_ rfl)
                    · try dsimp only
                      first | refine SubF.cons rfl ?_ | (refine SubF.ent rfl ?_ ?_; · first | exact Ent.refl _ | exact entI rfl | exact entI (by omega))
                      first | refine SubF.cons rfl ?_ | (refine SubF.ent rfl ?_ ?_; · first | exact Ent.refl _ | exact entI rfl | exact entI (by omega))
                      first | refine SubF.cons rfl ?_ | (refine SubF.ent rfl ?_ ?_; · first | exact Ent.refl _ | exact entI rfl | exact entI (by omega))
                      first | refine SubF.cons rfl ?_ | (refine SubF.ent rfl ?_ ?_; · first | exact Ent.refl _ | exact entI rfl | exact entI (by omega))
                      first | refine SubF.cons rfl ?_ | (refine SubF.ent rfl ?_ ?_; · first | exact Ent.refl _ | exact entI rfl | exact entI (by omega))
                      first | refine SubF.cons rfl ?_ | (refine SubF.ent rfl ?_ ?_; · first | exact Ent.refl _ | exact entI rfl | exact entI (by omega))
                      first | refine SubF.cons rfl ?_ | (refine SubF.ent rfl ?_ ?_; · first | exact Ent.refl _ | exact entI rfl | exact entI (by omega))
                      exact SubF.nil
                    · try dsimp only
                      repeat (first | exact SubL.nil | refine SubL.cons rfl ?_)
            · (try simp only [Bool.and_eq_true, Bool.or_eq_true, Bool.and_eq_false_iff, Bool.or_eq_false_iff, decide_eq_true_eq, decide_eq_false_iff_not, Bool.not_eq_true', Bool.not_eq_false', ne_eq, Decidable.not_not, Int.not_lt, Int.not_le] at h32)
              refine tr_exit ?_
              refine pe_then_exit ?_
              refine pe_then_exit ?_
              refine pe_block_eq ?_
              refine pe_then_normal ?_
              refine tr_sub hC .nil .nil rfl ?_
              refine tr_seq ?_
              refine tr_region (fun N48 hN => ?_)
              refine lx (op_assign rfl) rfl ?_
              refine lx_end ⟨by kernel_rfl, ?_⟩
              refine pe_then_normal ?_
              refine tr_sub hC (.cons (t := 4) rfl .nil) .nil rfl ?_
              refine tr_ret ?_
              refine pe_ret1 rfl hO rfl (.tmp rfl .nil) ?_
              repeat (first | exact Ent.refl _ | exact Ents.nil | exact Ent.nil _ _ | exact Ent.row _ _ _ _ | exact Ent.func _ | refine Ents.cons ?_ ?_ | refine Ent.tup ?_ | refine Ent.agg ?_ | refine Ent.cells ?_ | exact Ent.of_eq rfl)

end Go.Proofs.Ytopnkekmbohgoaa
