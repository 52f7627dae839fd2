/- Parts of a proof that share one text: WrWalk9, WrWalk10, WrWalk11, WrAwake, AlConvB. -/
import Derived.Test.YtgdhogmghffbaaaWdd
import Derived.Test.YtgdhogmghffbaaaWdb
import Derived.Lib.UnsafeStr
set_option linter.unusedVariables false
set_option linter.unusedSimpArgs false

set_option linter.unusedVariables false
set_option linter.unusedSimpArgs false
namespace Go.Proofs.Ytgdhogmghffbaaa
open Go.AL Go.Wr Go.RowKit
theorem by23 : bytesB Try.prog 23 = some 32 := by kernel_rfl
theorem eqR (a b : RF) : EqLaw Try.prog 23 (rv a) (rv b) (decide (a = b)) := (eqLaw_flat (ls := [.i .i64, .i .i64, .s]) (by kernel_rfl) (by kernel_rfl) (by kernel_rfl) rfl rfl).to (decide_eq_decide.mpr (rv_inj a b))
theorem from_ok (e : RE) (hb : BdR 4000000 e) : FnP Try.prog 18 [aggP e.ps] (aggP e.to.ps) := by
  have hbs := hb.sent
  have hbe := hb.early
  refine fn_pure' Try.func18 rfl Try.ntmps18 rfl ?_
  intro σ0 M ex Rf R hC hO
  simp only [frameOf, tokOf]
  refine tr_seq ?_
  refine tr_region (fun N0 hN => ?_)
  refine lxn (op_box (m := 1) (k := 1) rfl (.agg rfl) (by first | exact hC.low _ (by decide) | rfl)) rfl ?_
  refine lxn (op_alloc (m := 2) (k := 2) (ps := [eqP (.int .i64 0), eqP (.int .i64 0), eqP (.slice none 0 0), eqP (.int .i64 0), eqP (.slice none 0 0)]) ze46 rfl rfl (by first | exact hC.low _ (by decide) | rfl)) rfl ?_
  refine lx_end ⟨by kernel_rfl, ?_⟩
  refine pe_then_normal ?_
  refine tr_sub hC (.cons (t := 1) rfl (.cons (t := 2) rfl .nil)) (.cons (t := 1) rfl (.cons (t := 2) rfl .nil)) rfl ?_
  refine tr_seq ?_
  refine tr_region (fun N1 hN => ?_)
  refine lx (op_fieldAddr rfl fl41_0 sz3) rfl ?_
  refine lx (op_bload_one (m := 1) rfl rfl ag3 rfl) rfl ?_
  refine lx (op_fieldAddr rfl fl41_1 sz3) rfl ?_
  refine lx (op_bload_one (m := 1) rfl rfl ag3 rfl) rfl ?_
  refine lx (op_fieldAddr rfl fl41_2 sz3) rfl ?_
  refine lx (op_bload_one (m := 1) rfl rfl ag3 rfl) rfl ?_
  refine lx (op_build (qs := [_, _, _, _, _]) (parts := [(0, (Go.Operand.tmp 9)), (1, (Go.Operand.tmp 11)), (3, (Go.Operand.tmp 13))]) ze46 rfl rfl fs46 (.cons rfl (.one (by (first | exact One.eq rfl | exact One.mv _ _ _ _ _ | exact One.cl _ _ _ | exact One.map _ | exact One.sl _ _ _ | exact One.row _ _ _ _ | exact One.msl _ _ _ _ | exact One.ptr _ _ | exact One.b _ | exact One.cells _))) fl46_0 sz3 rfl (.cons rfl (.one (by (first | exact One.eq rfl | exact One.mv _ _ _ _ _ | exact One.cl _ _ _ | exact One.map _ | exact One.sl _ _ _ | exact One.row _ _ _ _ | exact One.msl _ _ _ _ | exact One.ptr _ _ | exact One.b _ | exact One.cells _))) fl46_1 sz3 rfl (.cons rfl (.one (by (first | exact One.eq rfl | exact One.mv _ _ _ _ _ | exact One.cl _ _ _ | exact One.map _ | exact One.sl _ _ _ | exact One.row _ _ _ _ | exact One.msl _ _ _ _ | exact One.ptr _ _ | exact One.b _ | exact One.cells _))) fl46_3 sz3 rfl .nil))) rfl rfl) rfl ?_
  refine lxn (op_alloc (m := 3) (k := 3) (ps := [eqP (.int .i64 0), eqP (.int .i64 0), eqP (.slice none 0 0), eqP (.int .i64 0), eqP (.slice none 0 0)]) ze46 rfl rfl (by first | exact hC.low _ (by decide) | rfl)) rfl ?_
  refine lxr (op_store_all (m := 3) rfl rfl rfl (.agg rfl) sz46 rfl) rfl ?_
  refine lx_end ⟨by kernel_rfl, ?_⟩
  refine pe_then_normal ?_
  refine tr_sub hC (.cons (t := 1) rfl (.cons (t := 2) rfl (.cons (t := 3) rfl .nil))) (.cons (t := 1) rfl (.cons (t := 2) rfl (.cons (t := 3) rfl .nil))) rfl ?_
  refine tr_seq ?_
  refine tr_seq ?_
  refine tr_region (fun N2 hN => ?_)
  refine lx (op_fieldAddr rfl fl41_3 sz38) rfl ?_
  refine lx (op_bload_one (m := 1) rfl rfl ag38 rfl) rfl ?_
  first | refine lx (op_len rfl el38) rfl ?_ | refine lx (op_len_row rfl el38) rfl ?_ | refine lx (op_len_mv rfl el38) rfl ?_ | refine lx (op_len_nil rfl el38) rfl ?_
  refine lx (op_move rfl) rfl ?_
  refine lx_end ⟨by kernel_rfl, ?_⟩
  refine pe_then_normal ?_
  refine tr_sub hC (.cons (t := 1) rfl (.cons (t := 2) rfl (.cons (t := 3) rfl (.cons (t := 16) rfl (.cons (t := 17) rfl (.cons (t := 18) rfl .nil)))))) (.cons (t := 1) rfl (.cons (t := 2) rfl (.cons (t := 3) rfl .nil))) rfl ?_
  refine tr_block ?_
  refine tr_nilbox byS 1 25 3 2 600 rfl rfl (by first | exact hC.low _ (by decide) | rfl) (fun idN => ?_)
  try dsimp only [List.set]
  refine tr_loopK (α := {zz : Nat × (List (List Int)) × AL.Id // zz.1 ≤ e.sent.length ∧ zz.2.1 = (e.sent.map byL).take zz.1}) (⟨(0, [], idN), Nat.zero_le _, rfl⟩) (fun zz => [(18, eqP (.int .i64 (zz.1.1 : Int)))]) (fun zz => [(3, some ((N1, 3), blk 46 [eqP (.int .i64 e.window), eqP (.int .i64 e.base), rowP zz.1.2.2 byS 1 zz.1.2.1, eqP (.int .i64 e.got), eqP (.slice none 0 0)])), (600, some (zz.1.2.2, tail 25 1 (zz.1.2.1.length * 1)))]) (fun zz => e.sent.length - zz.1.1) hC (.cons (t := 1) rfl (.cons (t := 2) rfl (.cons (t := 3) rfl (.cons (t := 16) rfl (.cons (t := 17) rfl .nil))))) (.cons (t := 1) rfl (.cons (t := 2) rfl .nil)) rfl ?_ ?_ (fun zz => ?_)
  · try dsimp only [List.cons_append, List.nil_append]
    first | refine SubF.cons rfl ?_ | (refine SubF.ent rfl ?_ ?_; · repeat (first | exact Ents.nil | refine Ents.cons ?_ ?_ | refine Ent.tup ?_ | refine Ent.agg ?_ | exact Ent.row _ _ _ _ | exact Ent.nil _ _ | exact Ent.func _ | exact Ent.refl _ | exact Ent.of_eq rfl | refine Ent.cells ?_))
    exact SubF.nil
  · try dsimp only [List.cons_append, List.nil_append]
    repeat (first | exact SubL.nil | refine SubL.cons rfl ?_)
  · obtain ⟨⟨k, xs, i⟩, hk1, hxs⟩ := zz
    try dsimp only at hk1
    try dsimp only at hxs
    dsimp only [List.cons_append, List.nil_append]
    refine tr_seq ?_
    refine tr_region (fun N3 hN => ?_)
    refine lx (op_lss rfl rfl) rfl ?_
    refine lx_end ⟨by kernel_rfl, ?_⟩
    refine pe_then_normal ?_
    refine tr_sub hC (.cons (t := 1) rfl (.cons (t := 2) rfl (.cons (t := 3) rfl (.cons (t := 16) rfl (.cons (t := 17) rfl (.cons (t := 18) rfl (.cons (t := 19) rfl .nil))))))) (.cons (t := 3) rfl (.cons (t := 600) rfl (.cons (t := 1) rfl (.cons (t := 2) rfl .nil)))) rfl ?_
    refine tr_seq ?_
    refine tr_cond rfl (fun h19 => ?_) (fun h19 => ?_)
    · (try simp only [Bool.and_eq_true, Bool.or_eq_true, Bool.and_eq_false_iff, Bool.or_eq_false_iff, decide_eq_true_eq, decide_eq_false_iff_not, Bool.not_eq_true', Bool.not_eq_false', List.length_map, ne_eq, Decidable.not_not, Int.not_lt, Int.not_le] at h19)
      have hxl : xs.length ≤ k := by rw [hxs, List.length_take]; omega
      have hsz := hb.each _ (List.getElem_mem (by omega : k < e.sent.length))
      refine tr_skip ?_
      refine pe_then_normal ?_
      refine tr_sub hC (.cons (t := 1) rfl (.cons (t := 2) rfl (.cons (t := 3) rfl (.cons (t := 16) rfl (.cons (t := 17) rfl (.cons (t := 18) rfl .nil)))))) (.cons (t := 3) rfl (.cons (t := 600) rfl (.cons (t := 1) rfl (.cons (t := 2) rfl .nil)))) rfl ?_
      refine tr_seq ?_
      refine tr_block ?_
      refine tr_seq ?_
      refine tr_region (fun N4 hN => ?_)
      refine lx (op_index rfl rfl el38 sz9 rfl (List.getElem?_eq_getElem (by omega : k < e.sent.length))) rfl ?_
      first | refine lx (op_load_one rfl ag9 rfl) rfl ?_ | refine lx (op_bload_one (m := 3) rfl rfl ag9 rfl) rfl ?_ | refine lx (op_bload_one (m := 600) rfl rfl ag9 rfl) rfl ?_ | refine lx (op_bload_one (m := 1) rfl rfl ag9 rfl) rfl ?_ | refine lx (op_bload_one (m := 2) rfl rfl ag9 rfl) rfl ?_
      refine lx (op_assign rfl) rfl ?_
      refine lx_end ⟨by kernel_rfl, ?_⟩
      refine pe_then_normal ?_
      refine tr_sub hC (.cons (t := 1) rfl (.cons (t := 2) rfl (.cons (t := 3) rfl (.cons (t := 5) rfl (.cons (t := 16) rfl (.cons (t := 17) rfl (.cons (t := 18) rfl .nil))))))) (.cons (t := 3) rfl (.cons (t := 600) rfl (.cons (t := 1) rfl (.cons (t := 2) rfl .nil)))) rfl ?_
      refine tr_region (fun N5 hN => ?_)
      refine lx (op_fieldAddr rfl fl46_2 sz43) rfl ?_
      refine lx (op_bload_one (m := 3) rfl rfl ag43 rfl) rfl ?_
      refine lx (op_move rfl) rfl ?_
      refine lx (op_str_bytes rfl st9 (elem_of el25) ik5 (by omega)) rfl ?_
      refine lx (op_buildSlice (f := byS) (xs := [byL (e.sent[k]'(by omega))]) (l := [(0, (Go.Operand.tmp 25))]) ze25 rfl rfl (by decide) el43 sz25 byS_len (.cons rfl (.one (by (first | exact One.eq rfl | exact One.mv _ _ _ _ _ | exact One.cl _ _ _ | exact One.map _ | exact One.sl _ _ _ | exact One.row _ _ _ _ | exact One.msl _ _ _ _ | exact One.ptr _ _ | exact One.b _ | exact One.cells _))) .nil) rfl (by decide)) rfl ?_
      refine lxr (op_append (m := 600) (m' := 600) (kk := 27) rfl rfl rfl (.inl rfl) el43 ze25 sz25 by25 rfl byS_len (by rw [List.length_singleton]; omega) (by rw [List.length_singleton]; omega)) rfl ?_
      refine lx (op_fieldAddr rfl fl46_2 sz43) rfl ?_
      refine lxr (op_store (m := 3) (rs := [_, _, _, _, _]) rfl rfl rfl (.one (by (first | exact One.eq rfl | exact One.mv _ _ _ _ _ | exact One.cl _ _ _ | exact One.map _ | exact One.sl _ _ _ | exact One.row _ _ _ _ | exact One.msl _ _ _ _ | exact One.ptr _ _ | exact One.b _ | exact One.cells _))) sz43 rfl rfl rfl) rfl ?_
      refine lx_end ⟨by kernel_rfl, ?_⟩
      refine pe_block_normal ?_
      refine pe_then_normal ?_
      refine tr_sub hC (.cons (t := 1) rfl (.cons (t := 2) rfl (.cons (t := 3) rfl (.cons (t := 16) rfl (.cons (t := 17) rfl (.cons (t := 18) rfl .nil)))))) (.cons (t := 3) rfl (.cons (t := 1) rfl (.cons (t := 2) rfl (.cons (t := 600) rfl .nil)))) rfl ?_
      refine tr_region (fun N6 hN => ?_)
      refine lx (op_add rfl rfl (by omega)) rfl ?_
      refine lx (op_move rfl) rfl ?_
      refine lx_end ⟨by kernel_rfl, ?_⟩
      refine pe_round (⟨(k + 1, xs ++ [byL (e.sent[k]'(by omega))], (N5, 27)), by dsimp only; omega, by dsimp only; rw [hxs, map_take_at (by omega)]⟩) (by dsimp only; omega) (pe_st hC ?_ ?_ rfl)
      · try dsimp only [List.cons_append, List.nil_append]
        first | refine SubF.cons rfl ?_ | (refine SubF.ent rfl ?_ ?_; · repeat (first | exact Ents.nil | refine Ents.cons ?_ ?_ | refine Ent.tup ?_ | refine Ent.agg ?_ | exact Ent.row _ _ _ _ | exact Ent.nil _ _ | exact Ent.func _ | exact Ent.refl _ | exact Ent.of_eq rfl | refine Ent.cells ?_))
        first | refine SubF.cons rfl ?_ | (refine SubF.ent rfl ?_ ?_; · repeat (first | exact Ents.nil | refine Ents.cons ?_ ?_ | refine Ent.tup ?_ | refine Ent.agg ?_ | exact Ent.row _ _ _ _ | exact Ent.nil _ _ | exact Ent.func _ | exact Ent.refl _ | exact Ent.of_eq rfl | refine Ent.cells ?_))
        first | refine SubF.cons rfl ?_ | (refine SubF.ent rfl ?_ ?_; · repeat (first | exact Ents.nil | refine Ents.cons ?_ ?_ | refine Ent.tup ?_ | refine Ent.agg ?_ | exact Ent.row _ _ _ _ | exact Ent.nil _ _ | exact Ent.func _ | exact Ent.refl _ | exact Ent.of_eq rfl | refine Ent.cells ?_))
        first | refine SubF.cons rfl ?_ | (refine SubF.ent rfl ?_ ?_; · repeat (first | exact Ents.nil | refine Ents.cons ?_ ?_ | refine Ent.tup ?_ | refine Ent.agg ?_ | exact Ent.row _ _ _ _ | exact Ent.nil _ _ | exact Ent.func _ | exact Ent.refl _ | exact Ent.of_eq rfl | refine Ent.cells ?_))
        first | refine SubF.cons rfl ?_ | (refine SubF.ent rfl ?_ ?_; · repeat (first | exact Ents.nil | refine Ents.cons ?_ ?_ | refine Ent.tup ?_ | refine Ent.agg ?_ | exact Ent.row _ _ _ _ | exact Ent.nil _ _ | exact Ent.func _ | exact Ent.refl _ | exact Ent.of_eq rfl | refine Ent.cells ?_))
        first | refine SubF.cons rfl ?_ | (refine SubF.ent rfl ?_ ?_; · repeat (first | exact Ents.nil | refine Ents.cons ?_ ?_ | refine Ent.tup ?_ | refine Ent.agg ?_ | exact Ent.row _ _ _ _ | exact Ent.nil _ _ | exact Ent.func _ | exact Ent.refl _ | exact Ent.of_eq rfl | refine Ent.cells ?_))
        exact SubF.nil
      · try dsimp only [List.cons_append, List.nil_append]
        repeat (first | exact SubL.nil | refine SubL.cons rfl ?_)
    · (try simp only [Bool.and_eq_true, Bool.or_eq_true, Bool.and_eq_false_iff, Bool.or_eq_false_iff, decide_eq_true_eq, decide_eq_false_iff_not, Bool.not_eq_true', Bool.not_eq_false', List.length_map, ne_eq, Decidable.not_not, Int.not_lt, Int.not_le] at h19)
      have hfin : xs = e.sent.map byL := by rw [hxs, List.take_of_length_le (by first | omega | (rw [List.length_map]; omega))]
      refine tr_exit ?_
      refine pe_then_exit ?_
      refine pe_then_exit ?_
      refine pe_block_eq ?_
      refine pe_then_normal ?_
      refine tr_sub hC (.cons (t := 1) rfl (.cons (t := 2) rfl (.cons (t := 3) rfl .nil))) (.cons (t := 3) rfl (.cons (t := 600) rfl (.cons (t := 1) rfl (.cons (t := 2) rfl .nil)))) rfl ?_
      refine tr_weakTok (m := 3) (qs := [eqP (.int .i64 e.window), eqP (.int .i64 e.base), slP byS 1 (e.sent.map byL), eqP (.int .i64 e.got), eqP (.slice none 0 0)]) rfl ?_ ?_
      · repeat (first | exact Ents.nil | refine Ents.cons ?_ ?_ | exact Ent.refl _ | exact Ent.row _ _ _ _ | exact Ent.nil _ _ | exact Ent.trans (Ent.row _ _ _ _) (Ent.of_eq (by rw [hfin])))
      refine tr_seq ?_
      refine tr_seq ?_
      refine tr_region (fun N7 hN => ?_)
      refine lx (op_fieldAddr rfl fl41_4 sz39) rfl ?_
      refine lx (op_bload_one (m := 1) rfl rfl ag39 rfl) rfl ?_
      first | refine lx (op_len rfl el39) rfl ?_ | refine lx (op_len_row rfl el39) rfl ?_ | refine lx (op_len_mv rfl el39) rfl ?_ | refine lx (op_len_nil rfl el39) rfl ?_
      refine lx (op_move rfl) rfl ?_
      refine lx_end ⟨by kernel_rfl, ?_⟩
      refine pe_then_normal ?_
      refine tr_sub hC (.cons (t := 2) rfl (.cons (t := 3) rfl (.cons (t := 31) rfl (.cons (t := 32) rfl (.cons (t := 33) rfl .nil))))) (.cons (t := 3) rfl (.cons (t := 600) rfl (.cons (t := 2) rfl .nil))) rfl ?_
      refine tr_block ?_
      refine tr_nilbox WF.ps 3 27 3 4 601 rfl rfl (by first | exact hC.low _ (by decide) | rfl) (fun idN => ?_)
      try dsimp only [List.set]
      refine tr_loopK (α := {zz : Nat × (List WF) × AL.Id // zz.1 ≤ e.early.length ∧ zz.2.1 = (e.early.map RF.to).take zz.1}) (⟨(0, [], idN), Nat.zero_le _, rfl⟩) (fun zz => [(33, eqP (.int .i64 (zz.1.1 : Int)))]) (fun zz => [(3, some ((N1, 3), blk 46 [eqP (.int .i64 e.window), eqP (.int .i64 e.base), slP byS 1 (e.sent.map byL), eqP (.int .i64 e.got), rowP zz.1.2.2 WF.ps 3 zz.1.2.1])), (601, some (zz.1.2.2, tail 27 3 (zz.1.2.1.length * 3)))]) (fun zz => e.early.length - zz.1.1) hC (.cons (t := 2) rfl (.cons (t := 3) rfl (.cons (t := 31) rfl (.cons (t := 32) rfl .nil)))) (.cons (t := 600) rfl (.cons (t := 2) rfl .nil)) rfl ?_ ?_ (fun zz => ?_)
      · try dsimp only [List.cons_append, List.nil_append]
        first | refine SubF.cons rfl ?_ | (refine SubF.ent rfl ?_ ?_; · repeat (first | exact Ents.nil | refine Ents.cons ?_ ?_ | refine Ent.tup ?_ | refine Ent.agg ?_ | exact Ent.row _ _ _ _ | exact Ent.nil _ _ | exact Ent.func _ | exact Ent.refl _ | exact Ent.of_eq rfl | refine Ent.cells ?_))
        exact SubF.nil
      · try dsimp only [List.cons_append, List.nil_append]
        repeat (first | exact SubL.nil | refine SubL.cons rfl ?_)
      · obtain ⟨⟨k, xs, i⟩, hk1, hxs⟩ := zz
        try dsimp only at hk1
        try dsimp only at hxs
        dsimp only [List.cons_append, List.nil_append]
        refine tr_seq ?_
        refine tr_region (fun N8 hN => ?_)
        refine lx (op_lss rfl rfl) rfl ?_
        refine lx_end ⟨by kernel_rfl, ?_⟩
        refine pe_then_normal ?_
        refine tr_sub hC (.cons (t := 2) rfl (.cons (t := 3) rfl (.cons (t := 31) rfl (.cons (t := 32) rfl (.cons (t := 33) rfl (.cons (t := 34) rfl .nil)))))) (.cons (t := 3) rfl (.cons (t := 601) rfl (.cons (t := 600) rfl (.cons (t := 2) rfl .nil)))) rfl ?_
        refine tr_seq ?_
        refine tr_cond rfl (fun h34 => ?_) (fun h34 => ?_)
        · (try simp only [Bool.and_eq_true, Bool.or_eq_true, Bool.and_eq_false_iff, Bool.or_eq_false_iff, decide_eq_true_eq, decide_eq_false_iff_not, Bool.not_eq_true', Bool.not_eq_false', List.length_map, ne_eq, Decidable.not_not, Int.not_lt, Int.not_le] at h34)
          have hxl : xs.length ≤ k := by rw [hxs, List.length_take]; omega
          have hsz := hb.data _ (List.getElem_mem (by omega : k < e.early.length))
          refine tr_skip ?_
          refine pe_then_normal ?_
          refine tr_sub hC (.cons (t := 2) rfl (.cons (t := 3) rfl (.cons (t := 31) rfl (.cons (t := 32) rfl (.cons (t := 33) rfl .nil))))) (.cons (t := 3) rfl (.cons (t := 601) rfl (.cons (t := 600) rfl (.cons (t := 2) rfl .nil)))) rfl ?_
          refine tr_seq ?_
          refine tr_block ?_
          refine tr_seq ?_
          refine tr_region (fun N9 hN => ?_)
          refine lx (op_index rfl rfl el39 sz23 rfl (List.getElem?_eq_getElem (by omega : k < e.early.length))) rfl ?_
          first | refine lx (op_load_all rfl ag23 sz23) rfl ?_ | refine lx (op_load_agg rfl ag23 sz23 rfl) rfl ?_ | refine lx (op_bload (m := 3) rfl rfl ag23 sz23) rfl ?_ | refine lx (op_bload (m := 601) rfl rfl ag23 sz23) rfl ?_ | refine lx (op_bload (m := 600) rfl rfl ag23 sz23) rfl ?_ | refine lx (op_bload (m := 2) rfl rfl ag23 sz23) rfl ?_ | refine lx (op_bload_part (m := 3) (qs := [_, _, _]) rfl rfl ag23 sz23 rfl rfl) rfl ?_ | refine lx (op_bload_part (m := 601) (qs := [_, _, _]) rfl rfl ag23 sz23 rfl rfl) rfl ?_ | refine lx (op_bload_part (m := 600) (qs := [_, _, _]) rfl rfl ag23 sz23 rfl rfl) rfl ?_ | refine lx (op_bload_part (m := 2) (qs := [_, _, _]) rfl rfl ag23 sz23 rfl rfl) rfl ?_
          refine lxn (op_alloc (m := 7) (k := 7) (ps := [eqP (.int .i64 0), eqP (.int .i64 0), eqP (.string ⟨#[]⟩)]) ze23 rfl rfl (by first | exact hC.low _ (by decide) | rfl)) rfl ?_
          refine lxr (op_store_all (m := 7) rfl rfl rfl (.agg rfl) sz23 rfl) rfl ?_
          refine lx_end ⟨by kernel_rfl, ?_⟩
          refine pe_then_normal ?_
          refine tr_sub hC (.cons (t := 2) rfl (.cons (t := 3) rfl (.cons (t := 7) rfl (.cons (t := 31) rfl (.cons (t := 32) rfl (.cons (t := 33) rfl .nil)))))) (.cons (t := 3) rfl (.cons (t := 601) rfl (.cons (t := 600) rfl (.cons (t := 2) rfl (.cons (t := 7) rfl .nil))))) rfl ?_
          refine tr_region (fun N10 hN => ?_)
          refine lx (op_fieldAddr rfl fl46_4 sz44) rfl ?_
          refine lx (op_bload_one (m := 3) rfl rfl ag44 rfl) rfl ?_
          refine lx (op_fieldAddr rfl fl23_0 sz3) rfl ?_
          refine lx (op_bload_one (m := 7) rfl rfl ag3 rfl) rfl ?_
          refine lx (op_fieldAddr rfl fl23_1 sz3) rfl ?_
          refine lx (op_bload_one (m := 7) rfl rfl ag3 rfl) rfl ?_
          refine lx (op_fieldAddr rfl fl23_2 sz9) rfl ?_
          refine lx (op_bload_one (m := 7) rfl rfl ag9 rfl) rfl ?_
          refine lx (op_str_bytes rfl st9 (elem_of el25) ik5 (by omega)) rfl ?_
          refine lx (op_build (qs := [_, _, _]) (parts := [(0, (Go.Operand.tmp 40)), (1, (Go.Operand.tmp 42)), (2, (Go.Operand.tmp 45))]) ze27 rfl rfl fs27 (.cons rfl (.one (by (first | exact One.eq rfl | exact One.mv _ _ _ _ _ | exact One.cl _ _ _ | exact One.map _ | exact One.sl _ _ _ | exact One.row _ _ _ _ | exact One.msl _ _ _ _ | exact One.ptr _ _ | exact One.b _ | exact One.cells _))) fl27_0 sz3 rfl (.cons rfl (.one (by (first | exact One.eq rfl | exact One.mv _ _ _ _ _ | exact One.cl _ _ _ | exact One.map _ | exact One.sl _ _ _ | exact One.row _ _ _ _ | exact One.msl _ _ _ _ | exact One.ptr _ _ | exact One.b _ | exact One.cells _))) fl27_1 sz3 rfl (.cons rfl (.one (by (first | exact One.eq rfl | exact One.mv _ _ _ _ _ | exact One.cl _ _ _ | exact One.map _ | exact One.sl _ _ _ | exact One.row _ _ _ _ | exact One.msl _ _ _ _ | exact One.ptr _ _ | exact One.b _ | exact One.cells _))) fl27_2 sz25 rfl .nil))) rfl rfl) rfl ?_
          refine lx (op_buildSlice (f := WF.ps) (xs := [RF.to (e.early[k]'(by omega))]) (l := [(0, (Go.Operand.tmp 46))]) ze27 rfl rfl (by decide) el44 sz27 WF.len (.cons rfl (.agg rfl) .nil) rfl (by decide)) rfl ?_
          refine lxr (op_append (m := 601) (m' := 601) (kk := 48) rfl rfl rfl (.inl rfl) el44 ze27 sz27 by27 rfl WF.len (by rw [List.length_singleton]; omega) (by rw [List.length_singleton]; omega)) rfl ?_
          refine lx (op_fieldAddr rfl fl46_4 sz44) rfl ?_
          refine lxr (op_store (m := 3) (rs := [_, _, _, _, _]) rfl rfl rfl (.one (by (first | exact One.eq rfl | exact One.mv _ _ _ _ _ | exact One.cl _ _ _ | exact One.map _ | exact One.sl _ _ _ | exact One.row _ _ _ _ | exact One.msl _ _ _ _ | exact One.ptr _ _ | exact One.b _ | exact One.cells _))) sz44 rfl rfl rfl) rfl ?_
          refine lx_end ⟨by kernel_rfl, ?_⟩
          refine pe_block_normal ?_
          refine pe_then_normal ?_
          refine tr_sub hC (.cons (t := 2) rfl (.cons (t := 3) rfl (.cons (t := 31) rfl (.cons (t := 32) rfl (.cons (t := 33) rfl .nil))))) (.cons (t := 3) rfl (.cons (t := 600) rfl (.cons (t := 2) rfl (.cons (t := 601) rfl .nil)))) rfl ?_
          refine tr_region (fun N11 hN => ?_)
          refine lx (op_add rfl rfl (by omega)) rfl ?_
          refine lx (op_move rfl) rfl ?_
          refine lx_end ⟨by kernel_rfl, ?_⟩
          refine pe_round (⟨(k + 1, xs ++ [RF.to (e.early[k]'(by omega))], (N10, 48)), by dsimp only; omega, by dsimp only; rw [hxs, map_take_at (by omega)]⟩) (by dsimp only; omega) (pe_st hC ?_ ?_ rfl)
          · try dsimp only [List.cons_append, List.nil_append]
            first | refine SubF.cons rfl ?_ | (refine SubF.ent rfl ?_ ?_; · repeat (first | exact Ents.nil | refine Ents.cons ?_ ?_ | refine Ent.tup ?_ | refine Ent.agg ?_ | exact Ent.row _ _ _ _ | exact Ent.nil _ _ | exact Ent.func _ | exact Ent.refl _ | exact Ent.of_eq rfl | refine Ent.cells ?_))
            first | refine SubF.cons rfl ?_ | (refine SubF.ent rfl ?_ ?_; · repeat (first | exact Ents.nil | refine Ents.cons ?_ ?_ | refine Ent.tup ?_ | refine Ent.agg ?_ | exact Ent.row _ _ _ _ | exact Ent.nil _ _ | exact Ent.func _ | exact Ent.refl _ | exact Ent.of_eq rfl | refine Ent.cells ?_))
            first | refine SubF.cons rfl ?_ | (refine SubF.ent rfl ?_ ?_; · repeat (first | exact Ents.nil | refine Ents.cons ?_ ?_ | refine Ent.tup ?_ | refine Ent.agg ?_ | exact Ent.row _ _ _ _ | exact Ent.nil _ _ | exact Ent.func _ | exact Ent.refl _ | exact Ent.of_eq rfl | refine Ent.cells ?_))
            first | refine SubF.cons rfl ?_ | (refine SubF.ent rfl ?_ ?_; · repeat (first | exact Ents.nil | refine Ents.cons ?_ ?_ | refine Ent.tup ?_ | refine Ent.agg ?_ | exact Ent.row _ _ _ _ | exact Ent.nil _ _ | exact Ent.func _ | exact Ent.refl _ | exact Ent.of_eq rfl | refine Ent.cells ?_))
            first | refine SubF.cons rfl ?_ | (refine SubF.ent rfl ?_ ?_; · repeat (first | exact Ents.nil | refine Ents.cons ?_ ?_ | refine Ent.tup ?_ | refine Ent.agg ?_ | exact Ent.row _ _ _ _ | exact Ent.nil _ _ | exact Ent.func _ | exact Ent.refl _ | exact Ent.of_eq rfl | refine Ent.cells ?_))
            exact SubF.nil
          · try dsimp only [List.cons_append, List.nil_append]
            repeat (first | exact SubL.nil | refine SubL.cons rfl ?_)
        · (try simp only [Bool.and_eq_true, Bool.or_eq_true, Bool.and_eq_false_iff, Bool.or_eq_false_iff, decide_eq_true_eq, decide_eq_false_iff_not, Bool.not_eq_true', Bool.not_eq_false', List.length_map, ne_eq, Decidable.not_not, Int.not_lt, Int.not_le] at h34)
          have hfin : xs = e.early.map RF.to := by rw [hxs, List.take_of_length_le (by first | omega | (rw [List.length_map]; omega))]
          refine tr_exit ?_
          refine pe_then_exit ?_
          refine pe_then_exit ?_
          refine pe_block_eq ?_
          refine pe_then_normal ?_
          refine tr_sub hC (.cons (t := 2) rfl (.cons (t := 3) rfl .nil)) (.cons (t := 3) rfl (.cons (t := 601) rfl (.cons (t := 600) rfl (.cons (t := 2) rfl .nil)))) rfl ?_
          refine tr_weakTok (m := 3) (qs := [eqP (.int .i64 e.window), eqP (.int .i64 e.base), slP byS 1 (e.sent.map byL), eqP (.int .i64 e.got), slP WF.ps 3 (e.early.map RF.to)]) rfl ?_ ?_
          · repeat (first | exact Ents.nil | refine Ents.cons ?_ ?_ | exact Ent.refl _ | exact Ent.row _ _ _ _ | exact Ent.nil _ _ | exact Ent.trans (Ent.row _ _ _ _) (Ent.of_eq (by rw [hfin])))
          refine tr_seq ?_
          refine tr_region (fun N12 hN => ?_)
          refine lx (op_bload (m := 3) rfl rfl ag46 sz46) rfl ?_
          refine lxr (op_store_all (m := 2) rfl rfl rfl (.agg rfl) sz46 rfl) rfl ?_
          refine lx_end ⟨by kernel_rfl, ?_⟩
          refine pe_then_normal ?_
          refine tr_sub hC (.cons (t := 2) rfl .nil) (.cons (t := 601) rfl (.cons (t := 600) rfl (.cons (t := 2) rfl .nil))) rfl ?_
          refine tr_ret ?_
          refine pe_ret1 rfl hO rfl (.cell (m := 2) rfl rfl ag46 sz46 .nil) ?_
          repeat (first | exact Ents.nil | refine Ents.cons ?_ ?_ | refine Ent.tup ?_ | refine Ent.agg ?_ | exact Ent.row _ _ _ _ | exact Ent.nil _ _ | exact Ent.func _ | exact Ent.refl _ | exact Ent.of_eq rfl | refine Ent.cells ?_)
theorem to_ok (e : WE) (hs : e.sent.length ≤ 4000000) (he : e.early.length ≤ 4000000) : FnP Try.prog 21 [aggP e.ps] (aggP e.to.ps) := by
  refine fn_pure' Try.func21 rfl Try.ntmps21 rfl ?_
  intro σ0 M ex Rf R hC hO
  simp only [frameOf, tokOf]
  refine tr_seq ?_
  refine tr_region (fun N0 hN => ?_)
  refine lxn (op_box (m := 1) (k := 1) rfl (.agg rfl) (by first | exact hC.low _ (by decide) | rfl)) rfl ?_
  refine lxn (op_alloc (m := 2) (k := 2) (ps := [eqP (.int .i64 0), eqP (.int .i64 0), eqP (.int .i64 0), eqP (.slice none 0 0), eqP (.slice none 0 0)]) ze41 rfl rfl (by first | exact hC.low _ (by decide) | rfl)) rfl ?_
  refine lx_end ⟨by kernel_rfl, ?_⟩
  refine pe_then_normal ?_
  refine tr_sub hC (.cons (t := 1) rfl (.cons (t := 2) rfl .nil)) (.cons (t := 1) rfl (.cons (t := 2) rfl .nil)) rfl ?_
  refine tr_seq ?_
  refine tr_region (fun N1 hN => ?_)
  refine lx (op_fieldAddr rfl fl46_0 sz3) rfl ?_
  refine lx (op_bload_one (m := 1) rfl rfl ag3 rfl) rfl ?_
  refine lx (op_fieldAddr rfl fl46_1 sz3) rfl ?_
  refine lx (op_bload_one (m := 1) rfl rfl ag3 rfl) rfl ?_
  refine lx (op_fieldAddr rfl fl46_3 sz3) rfl ?_
  refine lx (op_bload_one (m := 1) rfl rfl ag3 rfl) rfl ?_
  refine lx (op_build (qs := [_, _, _, _, _]) (parts := [(0, (Go.Operand.tmp 9)), (1, (Go.Operand.tmp 11)), (2, (Go.Operand.tmp 13))]) ze41 rfl rfl fs41 (.cons rfl (.one (by (first | exact One.eq rfl | exact One.mv _ _ _ _ _ | exact One.cl _ _ _ | exact One.map _ | exact One.sl _ _ _ | exact One.row _ _ _ _ | exact One.msl _ _ _ _ | exact One.ptr _ _ | exact One.b _ | exact One.cells _))) fl41_0 sz3 rfl (.cons rfl (.one (by (first | exact One.eq rfl | exact One.mv _ _ _ _ _ | exact One.cl _ _ _ | exact One.map _ | exact One.sl _ _ _ | exact One.row _ _ _ _ | exact One.msl _ _ _ _ | exact One.ptr _ _ | exact One.b _ | exact One.cells _))) fl41_1 sz3 rfl (.cons rfl (.one (by (first | exact One.eq rfl | exact One.mv _ _ _ _ _ | exact One.cl _ _ _ | exact One.map _ | exact One.sl _ _ _ | exact One.row _ _ _ _ | exact One.msl _ _ _ _ | exact One.ptr _ _ | exact One.b _ | exact One.cells _))) fl41_2 sz3 rfl .nil))) rfl rfl) rfl ?_
  refine lxn (op_alloc (m := 3) (k := 3) (ps := [eqP (.int .i64 0), eqP (.int .i64 0), eqP (.int .i64 0), eqP (.slice none 0 0), eqP (.slice none 0 0)]) ze41 rfl rfl (by first | exact hC.low _ (by decide) | rfl)) rfl ?_
  refine lxr (op_store_all (m := 3) rfl rfl rfl (.agg rfl) sz41 rfl) rfl ?_
  refine lx_end ⟨by kernel_rfl, ?_⟩
  refine pe_then_normal ?_
  refine tr_sub hC (.cons (t := 1) rfl (.cons (t := 2) rfl (.cons (t := 3) rfl .nil))) (.cons (t := 1) rfl (.cons (t := 2) rfl (.cons (t := 3) rfl .nil))) rfl ?_
  refine tr_seq ?_
  refine tr_seq ?_
  refine tr_region (fun N2 hN => ?_)
  refine lx (op_fieldAddr rfl fl46_2 sz43) rfl ?_
  refine lx (op_bload_one (m := 1) rfl rfl ag43 rfl) rfl ?_
  first | refine lx (op_len rfl el43) rfl ?_ | refine lx (op_len_row rfl el43) rfl ?_ | refine lx (op_len_mv rfl el43) rfl ?_ | refine lx (op_len_nil rfl el43) rfl ?_
  refine lx (op_move rfl) rfl ?_
  refine lx_end ⟨by kernel_rfl, ?_⟩
  refine pe_then_normal ?_
  refine tr_sub hC (.cons (t := 1) rfl (.cons (t := 2) rfl (.cons (t := 3) rfl (.cons (t := 16) rfl (.cons (t := 17) rfl (.cons (t := 18) rfl .nil)))))) (.cons (t := 1) rfl (.cons (t := 2) rfl (.cons (t := 3) rfl .nil))) rfl ?_
  refine tr_block ?_
  refine tr_nilbox stP 1 9 3 3 600 rfl rfl (by first | exact hC.low _ (by decide) | rfl) (fun idN => ?_)
  try dsimp only [List.set]
  refine tr_loopK (α := {zz : Nat × (List ByteArray) × AL.Id // zz.1 ≤ e.sent.length ∧ zz.2.1 = (e.sent.map strB).take zz.1}) (⟨(0, [], idN), Nat.zero_le _, rfl⟩) (fun zz => [(18, eqP (.int .i64 (zz.1.1 : Int)))]) (fun zz => [(3, some ((N1, 3), blk 41 [eqP (.int .i64 e.window), eqP (.int .i64 e.base), eqP (.int .i64 e.got), rowP zz.1.2.2 stP 1 zz.1.2.1, eqP (.slice none 0 0)])), (600, some (zz.1.2.2, tail 9 1 (zz.1.2.1.length * 1)))]) (fun zz => e.sent.length - zz.1.1) hC (.cons (t := 1) rfl (.cons (t := 2) rfl (.cons (t := 3) rfl (.cons (t := 16) rfl (.cons (t := 17) rfl .nil))))) (.cons (t := 1) rfl (.cons (t := 2) rfl .nil)) rfl ?_ ?_ (fun zz => ?_)
  · try dsimp only [List.cons_append, List.nil_append]
    first | refine SubF.cons rfl ?_ | (refine SubF.ent rfl ?_ ?_; · repeat (first | exact Ents.nil | refine Ents.cons ?_ ?_ | refine Ent.tup ?_ | refine Ent.agg ?_ | exact Ent.row _ _ _ _ | exact Ent.nil _ _ | exact Ent.func _ | exact Ent.refl _ | exact Ent.of_eq rfl | refine Ent.cells ?_))
    exact SubF.nil
  · try dsimp only [List.cons_append, List.nil_append]
    repeat (first | exact SubL.nil | refine SubL.cons rfl ?_)
  · obtain ⟨⟨k, xs, i⟩, hk1, hxs⟩ := zz
    try dsimp only at hk1
    try dsimp only at hxs
    dsimp only [List.cons_append, List.nil_append]
    refine tr_seq ?_
    refine tr_region (fun N3 hN => ?_)
    refine lx (op_lss rfl rfl) rfl ?_
    refine lx_end ⟨by kernel_rfl, ?_⟩
    refine pe_then_normal ?_
    refine tr_sub hC (.cons (t := 1) rfl (.cons (t := 2) rfl (.cons (t := 3) rfl (.cons (t := 16) rfl (.cons (t := 17) rfl (.cons (t := 18) rfl (.cons (t := 19) rfl .nil))))))) (.cons (t := 3) rfl (.cons (t := 600) rfl (.cons (t := 1) rfl (.cons (t := 2) rfl .nil)))) rfl ?_
    refine tr_seq ?_
    refine tr_cond rfl (fun h19 => ?_) (fun h19 => ?_)
    · (try simp only [Bool.and_eq_true, Bool.or_eq_true, Bool.and_eq_false_iff, Bool.or_eq_false_iff, decide_eq_true_eq, decide_eq_false_iff_not, Bool.not_eq_true', Bool.not_eq_false', List.length_map, ne_eq, Decidable.not_not, Int.not_lt, Int.not_le] at h19)
      have hxl : xs.length ≤ k := by rw [hxs, List.length_take]; omega
      refine tr_skip ?_
      refine pe_then_normal ?_
      refine tr_sub hC (.cons (t := 1) rfl (.cons (t := 2) rfl (.cons (t := 3) rfl (.cons (t := 16) rfl (.cons (t := 17) rfl (.cons (t := 18) rfl .nil)))))) (.cons (t := 3) rfl (.cons (t := 600) rfl (.cons (t := 1) rfl (.cons (t := 2) rfl .nil)))) rfl ?_
      refine tr_seq ?_
      refine tr_block ?_
      refine tr_seq ?_
      refine tr_region (fun N4 hN => ?_)
      refine lx (op_index rfl rfl el43 sz25 rfl (List.getElem?_eq_getElem (by omega : k < e.sent.length))) rfl ?_
      first | refine lx (op_load_one rfl ag25 rfl) rfl ?_ | refine lx (op_bload_one (m := 3) rfl rfl ag25 rfl) rfl ?_ | refine lx (op_bload_one (m := 600) rfl rfl ag25 rfl) rfl ?_ | refine lx (op_bload_one (m := 1) rfl rfl ag25 rfl) rfl ?_ | refine lx (op_bload_one (m := 2) rfl rfl ag25 rfl) rfl ?_
      refine lx (op_assign rfl) rfl ?_
      refine lx_end ⟨by kernel_rfl, ?_⟩
      refine pe_then_normal ?_
      refine tr_sub hC (.cons (t := 1) rfl (.cons (t := 2) rfl (.cons (t := 3) rfl (.cons (t := 5) rfl (.cons (t := 16) rfl (.cons (t := 17) rfl (.cons (t := 18) rfl .nil))))))) (.cons (t := 3) rfl (.cons (t := 600) rfl (.cons (t := 1) rfl (.cons (t := 2) rfl .nil)))) rfl ?_
      refine tr_region (fun N5 hN => ?_)
      refine lx (op_fieldAddr rfl fl41_3 sz38) rfl ?_
      refine lx (op_bload_one (m := 3) rfl rfl ag38 rfl) rfl ?_
      refine lx (op_move rfl) rfl ?_
      refine lx (op_bytes_str rfl (elem_of el25) st9 ik5) rfl ?_
      refine lx (op_buildSlice (f := stP) (xs := [strB (e.sent[k]'(by omega))]) (l := [(0, (Go.Operand.tmp 25))]) ze9 rfl rfl (by decide) el38 sz9 stP_len (.cons rfl (.one (by (first | exact One.eq rfl | exact One.mv _ _ _ _ _ | exact One.cl _ _ _ | exact One.map _ | exact One.sl _ _ _ | exact One.row _ _ _ _ | exact One.msl _ _ _ _ | exact One.ptr _ _ | exact One.b _ | exact One.cells _))) .nil) rfl (by decide)) rfl ?_
      refine lxr (op_append (m := 600) (m' := 600) (kk := 27) rfl rfl rfl (.inl rfl) el38 ze9 sz9 by9 rfl stP_len (by rw [List.length_singleton]; omega) (by rw [List.length_singleton]; omega)) rfl ?_
      refine lx (op_fieldAddr rfl fl41_3 sz38) rfl ?_
      refine lxr (op_store (m := 3) (rs := [_, _, _, _, _]) rfl rfl rfl (.one (by (first | exact One.eq rfl | exact One.mv _ _ _ _ _ | exact One.cl _ _ _ | exact One.map _ | exact One.sl _ _ _ | exact One.row _ _ _ _ | exact One.msl _ _ _ _ | exact One.ptr _ _ | exact One.b _ | exact One.cells _))) sz38 rfl rfl rfl) rfl ?_
      refine lx_end ⟨by kernel_rfl, ?_⟩
      refine pe_block_normal ?_
      refine pe_then_normal ?_
      refine tr_sub hC (.cons (t := 1) rfl (.cons (t := 2) rfl (.cons (t := 3) rfl (.cons (t := 16) rfl (.cons (t := 17) rfl (.cons (t := 18) rfl .nil)))))) (.cons (t := 3) rfl (.cons (t := 1) rfl (.cons (t := 2) rfl (.cons (t := 600) rfl .nil)))) rfl ?_
      refine tr_region (fun N6 hN => ?_)
      refine lx (op_add rfl rfl (by omega)) rfl ?_
      refine lx (op_move rfl) rfl ?_
      refine lx_end ⟨by kernel_rfl, ?_⟩
      refine pe_round (⟨(k + 1, xs ++ [strB (e.sent[k]'(by omega))], (N5, 27)), by dsimp only; omega, by dsimp only; rw [hxs, map_take_at (by omega)]⟩) (by dsimp only; omega) (pe_st hC ?_ ?_ rfl)
      · try dsimp only [List.cons_append, List.nil_append]
        first | refine SubF.cons rfl ?_ | (refine SubF.ent rfl ?_ ?_; · repeat (first | exact Ents.nil | refine Ents.cons ?_ ?_ | refine Ent.tup ?_ | refine Ent.agg ?_ | exact Ent.row _ _ _ _ | exact Ent.nil _ _ | exact Ent.func _ | exact Ent.refl _ | exact Ent.of_eq rfl | refine Ent.cells ?_))
        first | refine SubF.cons rfl ?_ | (refine SubF.ent rfl ?_ ?_; · repeat (first | exact Ents.nil | refine Ents.cons ?_ ?_ | refine Ent.tup ?_ | refine Ent.agg ?_ | exact Ent.row _ _ _ _ | exact Ent.nil _ _ | exact Ent.func _ | exact Ent.refl _ | exact Ent.of_eq rfl | refine Ent.cells ?_))
        first | refine SubF.cons rfl ?_ | (refine SubF.ent rfl ?_ ?_; · repeat (first | exact Ents.nil | refine Ents.cons ?_ ?_ | refine Ent.tup ?_ | refine Ent.agg ?_ | exact Ent.row _ _ _ _ | exact Ent.nil _ _ | exact Ent.func _ | exact Ent.refl _ | exact Ent.of_eq rfl | refine Ent.cells ?_))
        first | refine SubF.cons rfl ?_ | (refine SubF.ent rfl ?_ ?_; · repeat (first | exact Ents.nil | refine Ents.cons ?_ ?_ | refine Ent.tup ?_ | refine Ent.agg ?_ | exact Ent.row _ _ _ _ | exact Ent.nil _ _ | exact Ent.func _ | exact Ent.refl _ | exact Ent.of_eq rfl | refine Ent.cells ?_))
        first | refine SubF.cons rfl ?_ | (refine SubF.ent rfl ?_ ?_; · repeat (first | exact Ents.nil | refine Ents.cons ?_ ?_ | refine Ent.tup ?_ | refine Ent.agg ?_ | exact Ent.row _ _ _ _ | exact Ent.nil _ _ | exact Ent.func _ | exact Ent.refl _ | exact Ent.of_eq rfl | refine Ent.cells ?_))
        first | refine SubF.cons rfl ?_ | (refine SubF.ent rfl ?_ ?_; · repeat (first | exact Ents.nil | refine Ents.cons ?_ ?_ | refine Ent.tup ?_ | refine Ent.agg ?_ | exact Ent.row _ _ _ _ | exact Ent.nil _ _ | exact Ent.func _ | exact Ent.refl _ | exact Ent.of_eq rfl | refine Ent.cells ?_))
        exact SubF.nil
      · try dsimp only [List.cons_append, List.nil_append]
        repeat (first | exact SubL.nil | refine SubL.cons rfl ?_)
    · (try simp only [Bool.and_eq_true, Bool.or_eq_true, Bool.and_eq_false_iff, Bool.or_eq_false_iff, decide_eq_true_eq, decide_eq_false_iff_not, Bool.not_eq_true', Bool.not_eq_false', List.length_map, ne_eq, Decidable.not_not, Int.not_lt, Int.not_le] at h19)
      have hfin : xs = e.sent.map strB := by rw [hxs, List.take_of_length_le (by first | omega | (rw [List.length_map]; omega))]
      refine tr_exit ?_
      refine pe_then_exit ?_
      refine pe_then_exit ?_
      refine pe_block_eq ?_
      refine pe_then_normal ?_
      refine tr_sub hC (.cons (t := 1) rfl (.cons (t := 2) rfl (.cons (t := 3) rfl .nil))) (.cons (t := 3) rfl (.cons (t := 600) rfl (.cons (t := 1) rfl (.cons (t := 2) rfl .nil)))) rfl ?_
      refine tr_weakTok (m := 3) (qs := [eqP (.int .i64 e.window), eqP (.int .i64 e.base), eqP (.int .i64 e.got), slP stP 1 (e.sent.map strB), eqP (.slice none 0 0)]) rfl ?_ ?_
      · repeat (first | exact Ents.nil | refine Ents.cons ?_ ?_ | exact Ent.refl _ | exact Ent.row _ _ _ _ | exact Ent.nil _ _ | exact Ent.trans (Ent.row _ _ _ _) (Ent.of_eq (by rw [hfin])))
      refine tr_seq ?_
      refine tr_seq ?_
      refine tr_region (fun N7 hN => ?_)
      refine lx (op_fieldAddr rfl fl46_4 sz44) rfl ?_
      refine lx (op_bload_one (m := 1) rfl rfl ag44 rfl) rfl ?_
      first | refine lx (op_len rfl el44) rfl ?_ | refine lx (op_len_row rfl el44) rfl ?_ | refine lx (op_len_mv rfl el44) rfl ?_ | refine lx (op_len_nil rfl el44) rfl ?_
      refine lx (op_move rfl) rfl ?_
      refine lx_end ⟨by kernel_rfl, ?_⟩
      refine pe_then_normal ?_
      refine tr_sub hC (.cons (t := 2) rfl (.cons (t := 3) rfl (.cons (t := 31) rfl (.cons (t := 32) rfl (.cons (t := 33) rfl .nil))))) (.cons (t := 3) rfl (.cons (t := 600) rfl (.cons (t := 2) rfl .nil))) rfl ?_
      refine tr_block ?_
      refine tr_nilbox RF.ps 3 23 3 4 601 rfl rfl (by first | exact hC.low _ (by decide) | rfl) (fun idN => ?_)
      try dsimp only [List.set]
      refine tr_loopK (α := {zz : Nat × (List RF) × AL.Id // zz.1 ≤ e.early.length ∧ zz.2.1 = (e.early.map WF.to).take zz.1}) (⟨(0, [], idN), Nat.zero_le _, rfl⟩) (fun zz => [(33, eqP (.int .i64 (zz.1.1 : Int)))]) (fun zz => [(3, some ((N1, 3), blk 41 [eqP (.int .i64 e.window), eqP (.int .i64 e.base), eqP (.int .i64 e.got), slP stP 1 (e.sent.map strB), rowP zz.1.2.2 RF.ps 3 zz.1.2.1])), (601, some (zz.1.2.2, tail 23 3 (zz.1.2.1.length * 3)))]) (fun zz => e.early.length - zz.1.1) hC (.cons (t := 2) rfl (.cons (t := 3) rfl (.cons (t := 31) rfl (.cons (t := 32) rfl .nil)))) (.cons (t := 600) rfl (.cons (t := 2) rfl .nil)) rfl ?_ ?_ (fun zz => ?_)
      · try dsimp only [List.cons_append, List.nil_append]
        first | refine SubF.cons rfl ?_ | (refine SubF.ent rfl ?_ ?_; · repeat (first | exact Ents.nil | refine Ents.cons ?_ ?_ | refine Ent.tup ?_ | refine Ent.agg ?_ | exact Ent.row _ _ _ _ | exact Ent.nil _ _ | exact Ent.func _ | exact Ent.refl _ | exact Ent.of_eq rfl | refine Ent.cells ?_))
        exact SubF.nil
      · try dsimp only [List.cons_append, List.nil_append]
        repeat (first | exact SubL.nil | refine SubL.cons rfl ?_)
      · obtain ⟨⟨k, xs, i⟩, hk1, hxs⟩ := zz
        try dsimp only at hk1
        try dsimp only at hxs
        dsimp only [List.cons_append, List.nil_append]
        refine tr_seq ?_
        refine tr_region (fun N8 hN => ?_)
        refine lx (op_lss rfl rfl) rfl ?_
        refine lx_end ⟨by kernel_rfl, ?_⟩
        refine pe_then_normal ?_
        refine tr_sub hC (.cons (t := 2) rfl (.cons (t := 3) rfl (.cons (t := 31) rfl (.cons (t := 32) rfl (.cons (t := 33) rfl (.cons (t := 34) rfl .nil)))))) (.cons (t := 3) rfl (.cons (t := 601) rfl (.cons (t := 600) rfl (.cons (t := 2) rfl .nil)))) rfl ?_
        refine tr_seq ?_
        refine tr_cond rfl (fun h34 => ?_) (fun h34 => ?_)
        · (try simp only [Bool.and_eq_true, Bool.or_eq_true, Bool.and_eq_false_iff, Bool.or_eq_false_iff, decide_eq_true_eq, decide_eq_false_iff_not, Bool.not_eq_true', Bool.not_eq_false', List.length_map, ne_eq, Decidable.not_not, Int.not_lt, Int.not_le] at h34)
          have hxl : xs.length ≤ k := by rw [hxs, List.length_take]; omega
          refine tr_skip ?_
          refine pe_then_normal ?_
          refine tr_sub hC (.cons (t := 2) rfl (.cons (t := 3) rfl (.cons (t := 31) rfl (.cons (t := 32) rfl (.cons (t := 33) rfl .nil))))) (.cons (t := 3) rfl (.cons (t := 601) rfl (.cons (t := 600) rfl (.cons (t := 2) rfl .nil)))) rfl ?_
          refine tr_seq ?_
          refine tr_block ?_
          refine tr_seq ?_
          refine tr_region (fun N9 hN => ?_)
          refine lx (op_index rfl rfl el44 sz27 rfl (List.getElem?_eq_getElem (by omega : k < e.early.length))) rfl ?_
          first | refine lx (op_load_all rfl ag27 sz27) rfl ?_ | refine lx (op_load_agg rfl ag27 sz27 rfl) rfl ?_ | refine lx (op_bload (m := 3) rfl rfl ag27 sz27) rfl ?_ | refine lx (op_bload (m := 601) rfl rfl ag27 sz27) rfl ?_ | refine lx (op_bload (m := 600) rfl rfl ag27 sz27) rfl ?_ | refine lx (op_bload (m := 2) rfl rfl ag27 sz27) rfl ?_ | refine lx (op_bload_part (m := 3) (qs := [_, _, _]) rfl rfl ag27 sz27 rfl rfl) rfl ?_ | refine lx (op_bload_part (m := 601) (qs := [_, _, _]) rfl rfl ag27 sz27 rfl rfl) rfl ?_ | refine lx (op_bload_part (m := 600) (qs := [_, _, _]) rfl rfl ag27 sz27 rfl rfl) rfl ?_ | refine lx (op_bload_part (m := 2) (qs := [_, _, _]) rfl rfl ag27 sz27 rfl rfl) rfl ?_
          refine lxn (op_alloc (m := 7) (k := 7) (ps := [eqP (.int .i64 0), eqP (.int .i64 0), eqP (.slice none 0 0)]) ze27 rfl rfl (by first | exact hC.low _ (by decide) | rfl)) rfl ?_
          refine lxr (op_store_all (m := 7) rfl rfl rfl (.agg rfl) sz27 rfl) rfl ?_
          refine lx_end ⟨by kernel_rfl, ?_⟩
          refine pe_then_normal ?_
          refine tr_sub hC (.cons (t := 2) rfl (.cons (t := 3) rfl (.cons (t := 7) rfl (.cons (t := 31) rfl (.cons (t := 32) rfl (.cons (t := 33) rfl .nil)))))) (.cons (t := 3) rfl (.cons (t := 601) rfl (.cons (t := 600) rfl (.cons (t := 2) rfl (.cons (t := 7) rfl .nil))))) rfl ?_
          refine tr_region (fun N10 hN => ?_)
          refine lx (op_fieldAddr rfl fl41_4 sz39) rfl ?_
          refine lx (op_bload_one (m := 3) rfl rfl ag39 rfl) rfl ?_
          refine lx (op_fieldAddr rfl fl27_0 sz3) rfl ?_
          refine lx (op_bload_one (m := 7) rfl rfl ag3 rfl) rfl ?_
          refine lx (op_fieldAddr rfl fl27_1 sz3) rfl ?_
          refine lx (op_bload_one (m := 7) rfl rfl ag3 rfl) rfl ?_
          refine lx (op_fieldAddr rfl fl27_2 sz25) rfl ?_
          refine lx (op_bload_one (m := 7) rfl rfl ag25 rfl) rfl ?_
          refine lx (op_bytes_str rfl (elem_of el25) st9 ik5) rfl ?_
          refine lx (op_build (qs := [_, _, _]) (parts := [(0, (Go.Operand.tmp 40)), (1, (Go.Operand.tmp 42)), (2, (Go.Operand.tmp 45))]) ze23 rfl rfl fs23 (.cons rfl (.one (by (first | exact One.eq rfl | exact One.mv _ _ _ _ _ | exact One.cl _ _ _ | exact One.map _ | exact One.sl _ _ _ | exact One.row _ _ _ _ | exact One.msl _ _ _ _ | exact One.ptr _ _ | exact One.b _ | exact One.cells _))) fl23_0 sz3 rfl (.cons rfl (.one (by (first | exact One.eq rfl | exact One.mv _ _ _ _ _ | exact One.cl _ _ _ | exact One.map _ | exact One.sl _ _ _ | exact One.row _ _ _ _ | exact One.msl _ _ _ _ | exact One.ptr _ _ | exact One.b _ | exact One.cells _))) fl23_1 sz3 rfl (.cons rfl (.one (by (first | exact One.eq rfl | exact One.mv _ _ _ _ _ | exact One.cl _ _ _ | exact One.map _ | exact One.sl _ _ _ | exact One.row _ _ _ _ | exact One.msl _ _ _ _ | exact One.ptr _ _ | exact One.b _ | exact One.cells _))) fl23_2 sz9 rfl .nil))) rfl rfl) rfl ?_
          refine lx (op_buildSlice (f := RF.ps) (xs := [WF.to (e.early[k]'(by omega))]) (l := [(0, (Go.Operand.tmp 46))]) ze23 rfl rfl (by decide) el39 sz23 RF.len (.cons rfl (.agg rfl) .nil) rfl (by decide)) rfl ?_
          refine lxr (op_append (m := 601) (m' := 601) (kk := 48) rfl rfl rfl (.inl rfl) el39 ze23 sz23 by23 rfl RF.len (by rw [List.length_singleton]; omega) (by rw [List.length_singleton]; omega)) rfl ?_
          refine lx (op_fieldAddr rfl fl41_4 sz39) rfl ?_
          refine lxr (op_store (m := 3) (rs := [_, _, _, _, _]) rfl rfl rfl (.one (by (first | exact One.eq rfl | exact One.mv _ _ _ _ _ | exact One.cl _ _ _ | exact One.map _ | exact One.sl _ _ _ | exact One.row _ _ _ _ | exact One.msl _ _ _ _ | exact One.ptr _ _ | exact One.b _ | exact One.cells _))) sz39 rfl rfl rfl) rfl ?_
          refine lx_end ⟨by kernel_rfl, ?_⟩
          refine pe_block_normal ?_
          refine pe_then_normal ?_
          refine tr_sub hC (.cons (t := 2) rfl (.cons (t := 3) rfl (.cons (t := 31) rfl (.cons (t := 32) rfl (.cons (t := 33) rfl .nil))))) (.cons (t := 3) rfl (.cons (t := 600) rfl (.cons (t := 2) rfl (.cons (t := 601) rfl .nil)))) rfl ?_
          refine tr_region (fun N11 hN => ?_)
          refine lx (op_add rfl rfl (by omega)) rfl ?_
          refine lx (op_move rfl) rfl ?_
          refine lx_end ⟨by kernel_rfl, ?_⟩
          refine pe_round (⟨(k + 1, xs ++ [WF.to (e.early[k]'(by omega))], (N10, 48)), by dsimp only; omega, by dsimp only; rw [hxs, map_take_at (by omega)]⟩) (by dsimp only; omega) (pe_st hC ?_ ?_ rfl)
          · try dsimp only [List.cons_append, List.nil_append]
            first | refine SubF.cons rfl ?_ | (refine SubF.ent rfl ?_ ?_; · repeat (first | exact Ents.nil | refine Ents.cons ?_ ?_ | refine Ent.tup ?_ | refine Ent.agg ?_ | exact Ent.row _ _ _ _ | exact Ent.nil _ _ | exact Ent.func _ | exact Ent.refl _ | exact Ent.of_eq rfl | refine Ent.cells ?_))
            first | refine SubF.cons rfl ?_ | (refine SubF.ent rfl ?_ ?_; · repeat (first | exact Ents.nil | refine Ents.cons ?_ ?_ | refine Ent.tup ?_ | refine Ent.agg ?_ | exact Ent.row _ _ _ _ | exact Ent.nil _ _ | exact Ent.func _ | exact Ent.refl _ | exact Ent.of_eq rfl | refine Ent.cells ?_))
            first | refine SubF.cons rfl ?_ | (refine SubF.ent rfl ?_ ?_; · repeat (first | exact Ents.nil | refine Ents.cons ?_ ?_ | refine Ent.tup ?_ | refine Ent.agg ?_ | exact Ent.row _ _ _ _ | exact Ent.nil _ _ | exact Ent.func _ | exact Ent.refl _ | exact Ent.of_eq rfl | refine Ent.cells ?_))
            first | refine SubF.cons rfl ?_ | (refine SubF.ent rfl ?_ ?_; · repeat (first | exact Ents.nil | refine Ents.cons ?_ ?_ | refine Ent.tup ?_ | refine Ent.agg ?_ | exact Ent.row _ _ _ _ | exact Ent.nil _ _ | exact Ent.func _ | exact Ent.refl _ | exact Ent.of_eq rfl | refine Ent.cells ?_))
            first | refine SubF.cons rfl ?_ | (refine SubF.ent rfl ?_ ?_; · repeat (first | exact Ents.nil | refine Ents.cons ?_ ?_ | refine Ent.tup ?_ | refine Ent.agg ?_ | exact Ent.row _ _ _ _ | exact Ent.nil _ _ | exact Ent.func _ | exact Ent.refl _ | exact Ent.of_eq rfl | refine Ent.cells ?_))
            exact SubF.nil
          · try dsimp only [List.cons_append, List.nil_append]
            repeat (first | exact SubL.nil | refine SubL.cons rfl ?_)
        · (try simp only [Bool.and_eq_true, Bool.or_eq_true, Bool.and_eq_false_iff, Bool.or_eq_false_iff, decide_eq_true_eq, decide_eq_false_iff_not, Bool.not_eq_true', Bool.not_eq_false', List.length_map, ne_eq, Decidable.not_not, Int.not_lt, Int.not_le] at h34)
          have hfin : xs = e.early.map WF.to := by rw [hxs, List.take_of_length_le (by first | omega | (rw [List.length_map]; omega))]
          refine tr_exit ?_
          refine pe_then_exit ?_
          refine pe_then_exit ?_
          refine pe_block_eq ?_
          refine pe_then_normal ?_
          refine tr_sub hC (.cons (t := 2) rfl (.cons (t := 3) rfl .nil)) (.cons (t := 3) rfl (.cons (t := 601) rfl (.cons (t := 600) rfl (.cons (t := 2) rfl .nil)))) rfl ?_
          refine tr_weakTok (m := 3) (qs := [eqP (.int .i64 e.window), eqP (.int .i64 e.base), eqP (.int .i64 e.got), slP stP 1 (e.sent.map strB), slP RF.ps 3 (e.early.map WF.to)]) rfl ?_ ?_
          · repeat (first | exact Ents.nil | refine Ents.cons ?_ ?_ | exact Ent.refl _ | exact Ent.row _ _ _ _ | exact Ent.nil _ _ | exact Ent.trans (Ent.row _ _ _ _) (Ent.of_eq (by rw [hfin])))
          refine tr_seq ?_
          refine tr_region (fun N12 hN => ?_)
          refine lx (op_bload (m := 3) rfl rfl ag41 sz41) rfl ?_
          refine lxr (op_store_all (m := 2) rfl rfl rfl (.agg rfl) sz41 rfl) rfl ?_
          refine lx_end ⟨by kernel_rfl, ?_⟩
          refine pe_then_normal ?_
          refine tr_sub hC (.cons (t := 2) rfl .nil) (.cons (t := 601) rfl (.cons (t := 600) rfl (.cons (t := 2) rfl .nil))) rfl ?_
          refine tr_ret ?_
          refine pe_ret1 rfl hO rfl (.cell (m := 2) rfl rfl ag41 sz41 .nil) ?_
          repeat (first | exact Ents.nil | refine Ents.cons ?_ ?_ | refine Ent.tup ?_ | refine Ent.agg ?_ | exact Ent.row _ _ _ _ | exact Ent.nil _ _ | exact Ent.func _ | exact Ent.refl _ | exact Ent.of_eq rfl | refine Ent.cells ?_)
theorem same_ok (a b : RE) (hs : a.sent.length ≤ 4000000) (he : a.early.length ≤ 4000000) : FnP Try.prog 20 [aggP a.ps, aggP b.ps] (eqP (.bool (decide (a = b)))) := by
  refine fn_pure' Try.func20 rfl Try.ntmps20 rfl ?_
  intro σ0 M ex Rf R hC hO
  simp only [frameOf, tokOf]
  refine tr_seq ?_
  refine tr_region (fun N0 hN => ?_)
  refine lxn (op_box (m := 2) (k := 2) rfl (.agg rfl) (by first | exact hC.low _ (by decide) | rfl)) rfl ?_
  refine lxn (op_box (m := 3) (k := 3) rfl (.agg rfl) (by first | exact hC.low _ (by decide) | rfl)) rfl ?_
  refine lx (op_assign rfl) rfl ?_
  refine lx_end ⟨by kernel_rfl, ?_⟩
  refine pe_then_normal ?_
  refine tr_sub hC (.cons (t := 2) rfl (.cons (t := 3) rfl .nil)) (.cons (t := 2) rfl (.cons (t := 3) rfl .nil)) rfl ?_
  refine tr_seq ?_
  refine tr_seq ?_
  refine tr_region (fun N1 hN => ?_)
  refine lx (op_fieldAddr rfl fl41_0 sz3) rfl ?_
  refine lx (op_bload_one (m := 2) rfl rfl ag3 rfl) rfl ?_
  refine lx (op_fieldAddr rfl fl41_0 sz3) rfl ?_
  refine lx (op_bload_one (m := 3) rfl rfl ag3 rfl) rfl ?_
  refine lx (op_neq rfl rfl) rfl ?_
  refine lx (op_move rfl) rfl ?_
  refine lxs rfl rfl rfl guard_eq (.cons (t := 2) rfl (fun _ => Ent.refl _) .nil) (op_fieldAddr rfl fl41_1 sz3) rfl ?_
  refine lxs rfl rfl rfl guard_eq (.cons (t := 13) rfl (fun h => entW h) .nil) (op_bload_one (m := 2) rfl rfl ag3 rfl) rfl ?_
  refine lxs rfl rfl rfl guard_eq (.cons (t := 3) rfl (fun _ => Ent.refl _) .nil) (op_fieldAddr rfl fl41_1 sz3) rfl ?_
  refine lxs rfl rfl rfl guard_eq (.cons (t := 15) rfl (fun h => entW h) .nil) (op_bload_one (m := 3) rfl rfl ag3 rfl) rfl ?_
  refine lxs rfl rfl rfl guard_eq (.cons (t := 14) rfl (fun h => entW h) (.cons (t := 16) rfl (fun h => entW h) .nil)) (op_neq rfl rfl) rfl ?_
  refine lx (op_pick_or rfl rfl) rfl ?_
  refine lx (op_move rfl) rfl ?_
  refine lxs rfl rfl rfl guard_eq (.cons (t := 2) rfl (fun _ => Ent.refl _) .nil) (op_fieldAddr rfl fl41_2 sz3) rfl ?_
  refine lxs rfl rfl rfl guard_eq (.cons (t := 20) rfl (fun h => entW h) .nil) (op_bload_one (m := 2) rfl rfl ag3 rfl) rfl ?_
  refine lxs rfl rfl rfl guard_eq (.cons (t := 3) rfl (fun _ => Ent.refl _) .nil) (op_fieldAddr rfl fl41_2 sz3) rfl ?_
  refine lxs rfl rfl rfl guard_eq (.cons (t := 22) rfl (fun h => entW h) .nil) (op_bload_one (m := 3) rfl rfl ag3 rfl) rfl ?_
  refine lxs rfl rfl rfl guard_eq (.cons (t := 21) rfl (fun h => entW h) (.cons (t := 23) rfl (fun h => entW h) .nil)) (op_neq rfl rfl) rfl ?_
  refine lx (op_pick_or rfl rfl) rfl ?_
  refine lx (op_move rfl) rfl ?_
  refine lxs rfl rfl rfl guard_eq (.cons (t := 2) rfl (fun _ => Ent.refl _) .nil) (op_fieldAddr rfl fl41_3 sz38) rfl ?_
  refine lxs rfl rfl rfl guard_eq (.cons (t := 27) rfl (fun h => entW h) .nil) (op_bload_one (m := 2) rfl rfl ag38 rfl) rfl ?_
  first | refine lxs rfl rfl rfl guard_eq (.cons (t := 28) rfl (fun h => entW h) .nil) (op_len rfl el38) rfl ?_ | refine lxs rfl rfl rfl guard_eq (.cons (t := 28) rfl (fun h => entW h) .nil) (op_len_row rfl el38) rfl ?_ | refine lxs rfl rfl rfl guard_eq (.cons (t := 28) rfl (fun h => entW h) .nil) (op_len_mv rfl el38) rfl ?_ | refine lxs rfl rfl rfl guard_eq (.cons (t := 28) rfl (fun h => entW h) .nil) (op_len_nil rfl el38) rfl ?_
  refine lxs rfl rfl rfl guard_eq (.cons (t := 3) rfl (fun _ => Ent.refl _) .nil) (op_fieldAddr rfl fl41_3 sz38) rfl ?_
  refine lxs rfl rfl rfl guard_eq (.cons (t := 30) rfl (fun h => entW h) .nil) (op_bload_one (m := 3) rfl rfl ag38 rfl) rfl ?_
  first | refine lxs rfl rfl rfl guard_eq (.cons (t := 31) rfl (fun h => entW h) .nil) (op_len rfl el38) rfl ?_ | refine lxs rfl rfl rfl guard_eq (.cons (t := 31) rfl (fun h => entW h) .nil) (op_len_row rfl el38) rfl ?_ | refine lxs rfl rfl rfl guard_eq (.cons (t := 31) rfl (fun h => entW h) .nil) (op_len_mv rfl el38) rfl ?_ | refine lxs rfl rfl rfl guard_eq (.cons (t := 31) rfl (fun h => entW h) .nil) (op_len_nil rfl el38) rfl ?_
  refine lxs rfl rfl rfl guard_eq (.cons (t := 29) rfl (fun h => entW h) (.cons (t := 32) rfl (fun h => entW h) .nil)) (op_neq rfl rfl) rfl ?_
  refine lx (op_pick_or rfl rfl) rfl ?_
  refine lx (op_move rfl) rfl ?_
  refine lxs rfl rfl rfl guard_eq (.cons (t := 2) rfl (fun _ => Ent.refl _) .nil) (op_fieldAddr rfl fl41_4 sz39) rfl ?_
  refine lxs rfl rfl rfl guard_eq (.cons (t := 36) rfl (fun h => entW h) .nil) (op_bload_one (m := 2) rfl rfl ag39 rfl) rfl ?_
  first | refine lxs rfl rfl rfl guard_eq (.cons (t := 37) rfl (fun h => entW h) .nil) (op_len rfl el39) rfl ?_ | refine lxs rfl rfl rfl guard_eq (.cons (t := 37) rfl (fun h => entW h) .nil) (op_len_row rfl el39) rfl ?_ | refine lxs rfl rfl rfl guard_eq (.cons (t := 37) rfl (fun h => entW h) .nil) (op_len_mv rfl el39) rfl ?_ | refine lxs rfl rfl rfl guard_eq (.cons (t := 37) rfl (fun h => entW h) .nil) (op_len_nil rfl el39) rfl ?_
  refine lxs rfl rfl rfl guard_eq (.cons (t := 3) rfl (fun _ => Ent.refl _) .nil) (op_fieldAddr rfl fl41_4 sz39) rfl ?_
  refine lxs rfl rfl rfl guard_eq (.cons (t := 39) rfl (fun h => entW h) .nil) (op_bload_one (m := 3) rfl rfl ag39 rfl) rfl ?_
  first | refine lxs rfl rfl rfl guard_eq (.cons (t := 40) rfl (fun h => entW h) .nil) (op_len rfl el39) rfl ?_ | refine lxs rfl rfl rfl guard_eq (.cons (t := 40) rfl (fun h => entW h) .nil) (op_len_row rfl el39) rfl ?_ | refine lxs rfl rfl rfl guard_eq (.cons (t := 40) rfl (fun h => entW h) .nil) (op_len_mv rfl el39) rfl ?_ | refine lxs rfl rfl rfl guard_eq (.cons (t := 40) rfl (fun h => entW h) .nil) (op_len_nil rfl el39) rfl ?_
  refine lxs rfl rfl rfl guard_eq (.cons (t := 38) rfl (fun h => entW h) (.cons (t := 41) rfl (fun h => entW h) .nil)) (op_neq rfl rfl) rfl ?_
  refine lx (op_pick_or rfl rfl) rfl ?_
  refine lx_end ⟨by kernel_rfl, ?_⟩
  refine pe_then_normal ?_
  refine tr_sub hC (.cons (t := 2) rfl (.cons (t := 3) rfl (.cons (t := 43) rfl .nil))) (.cons (t := 2) rfl (.cons (t := 3) rfl .nil)) rfl ?_
  refine tr_cond rfl (fun h43 => ?_) (fun h43 => ?_)
  · have hne := re_ne1 h43
    refine tr_seq ?_
    refine tr_region (fun N2 hN => ?_)
    refine lx (op_assign rfl) rfl ?_
    refine lx_end ⟨by kernel_rfl, ?_⟩
    refine pe_then_normal ?_
    refine tr_sub hC (.cons (t := 4) rfl .nil) .nil rfl ?_
    refine tr_ret ?_
    refine pe_then_ret ?_
    refine pe_ret1 rfl hO rfl (.tmp rfl .nil) ?_
    exact entB (decide_eq_false hne).symm
  · have hhd := re_ne2 h43
    have hl1 := hhd.2.2.2.1
    have hl2 := hhd.2.2.2.2
    refine tr_skip ?_
    refine pe_then_normal ?_
    refine tr_sub hC (.cons (t := 2) rfl (.cons (t := 3) rfl .nil)) (.cons (t := 2) rfl (.cons (t := 3) rfl .nil)) rfl ?_
    refine tr_seq ?_
    refine tr_seq ?_
    refine tr_region (fun N3 hN => ?_)
    refine lx (op_fieldAddr rfl fl41_3 sz38) rfl ?_
    refine lx (op_bload_one (m := 2) rfl rfl ag38 rfl) rfl ?_
    first | refine lx (op_len rfl el38) rfl ?_ | refine lx (op_len_row rfl el38) rfl ?_ | refine lx (op_len_mv rfl el38) rfl ?_ | refine lx (op_len_nil rfl el38) rfl ?_
    refine lx (op_move rfl) rfl ?_
    refine lx_end ⟨by kernel_rfl, ?_⟩
    refine pe_then_normal ?_
    refine tr_sub hC (.cons (t := 2) rfl (.cons (t := 3) rfl (.cons (t := 46) rfl (.cons (t := 47) rfl .nil)))) (.cons (t := 2) rfl (.cons (t := 3) rfl .nil)) rfl ?_
    refine tr_block ?_
    refine tr_loopK (α := {zz : Nat // zz ≤ a.sent.length ∧ a.sent.take zz = b.sent.take zz}) (⟨(0), Nat.zero_le _, by simp⟩) (fun zz => [(47, eqP (.int .i64 (zz.1 : Int)))]) (fun zz => []) (fun zz => a.sent.length - zz.1) hC (.cons (t := 2) rfl (.cons (t := 3) rfl (.cons (t := 46) rfl .nil))) (.cons (t := 2) rfl (.cons (t := 3) rfl .nil)) rfl ?_ ?_ (fun zz => ?_)
    · try dsimp only [List.cons_append, List.nil_append]
      first | refine SubF.cons rfl ?_ | (refine SubF.ent rfl ?_ ?_; · repeat (first | exact Ents.nil | refine Ents.cons ?_ ?_ | refine Ent.tup ?_ | refine Ent.agg ?_ | exact Ent.row _ _ _ _ | exact Ent.nil _ _ | exact Ent.func _ | exact Ent.refl _ | exact Ent.of_eq rfl | refine Ent.cells ?_))
      exact SubF.nil
    · try dsimp only [List.cons_append, List.nil_append]
      repeat (first | exact SubL.nil | refine SubL.cons rfl ?_)
    · obtain ⟨k, hk1, hk2⟩ := zz
      dsimp only [List.cons_append, List.nil_append]
      refine tr_seq ?_
      refine tr_region (fun N4 hN => ?_)
      refine lx (op_lss rfl rfl) rfl ?_
      refine lx_end ⟨by kernel_rfl, ?_⟩
      refine pe_then_normal ?_
      refine tr_sub hC (.cons (t := 2) rfl (.cons (t := 3) rfl (.cons (t := 46) rfl (.cons (t := 47) rfl (.cons (t := 48) rfl .nil))))) (.cons (t := 2) rfl (.cons (t := 3) rfl .nil)) rfl ?_
      refine tr_seq ?_
      refine tr_cond rfl (fun h48 => ?_) (fun h48 => ?_)
      · (try simp only [Bool.and_eq_true, Bool.or_eq_true, Bool.and_eq_false_iff, Bool.or_eq_false_iff, decide_eq_true_eq, decide_eq_false_iff_not, Bool.not_eq_true', Bool.not_eq_false', List.length_map, ne_eq, Decidable.not_not, Int.not_lt, Int.not_le] at h48)
        refine tr_skip ?_
        refine pe_then_normal ?_
        refine tr_sub hC (.cons (t := 2) rfl (.cons (t := 3) rfl (.cons (t := 46) rfl (.cons (t := 47) rfl .nil)))) (.cons (t := 2) rfl (.cons (t := 3) rfl .nil)) rfl ?_
        refine tr_seq ?_
        refine tr_block ?_
        refine tr_seq ?_
        refine tr_region (fun N5 hN => ?_)
        refine lx (op_move rfl) rfl ?_
        refine lx (op_assign rfl) rfl ?_
        refine lx_end ⟨by kernel_rfl, ?_⟩
        refine pe_then_normal ?_
        refine tr_sub hC (.cons (t := 2) rfl (.cons (t := 3) rfl (.cons (t := 5) rfl (.cons (t := 46) rfl (.cons (t := 47) rfl .nil))))) (.cons (t := 2) rfl (.cons (t := 3) rfl .nil)) rfl ?_
        refine tr_seq ?_
        refine tr_drawn mixed (fun N6 hN => ?_)
        refine lx (op_fieldAddr rfl fl41_3 sz38) rfl ?_
        refine lx (op_bload_one (m := 2) rfl rfl ag38 rfl) rfl ?_
        refine lx (op_move rfl) rfl ?_
        refine lx (op_index rfl rfl el38 sz9 rfl (List.getElem?_eq_getElem (by omega : k < a.sent.length))) rfl ?_
        first | refine lx (op_load_one rfl ag9 rfl) rfl ?_ | refine lx (op_bload_one (m := 2) rfl rfl ag9 rfl) rfl ?_ | refine lx (op_bload_one (m := 3) rfl rfl ag9 rfl) rfl ?_
        refine lx (op_fieldAddr rfl fl41_3 sz38) rfl ?_
        refine lx (op_bload_one (m := 3) rfl rfl ag38 rfl) rfl ?_
        refine lx (op_move rfl) rfl ?_
        refine lx (op_index rfl rfl el38 sz9 rfl (List.getElem?_eq_getElem (by omega : k < b.sent.length))) rfl ?_
        first | refine lx (op_load_one rfl ag9 rfl) rfl ?_ | refine lx (op_bload_one (m := 2) rfl rfl ag9 rfl) rfl ?_ | refine lx (op_bload_one (m := 3) rfl rfl ag9 rfl) rfl ?_
        refine lx (op_neq_str st9 rfl rfl) rfl ?_
        refine lx_end ⟨by kernel_rfl, ?_⟩
        refine pe_then_normal ?_
        refine tr_sub hC (.cons (t := 2) rfl (.cons (t := 3) rfl (.cons (t := 46) rfl (.cons (t := 47) rfl (.cons (t := 60) rfl .nil))))) (.cons (t := 2) rfl (.cons (t := 3) rfl .nil)) rfl ?_
        refine tr_cond rfl (fun h60 => ?_) (fun h60 => ?_)
        · have hne2 := ne_at (by omega) (by omega) (str_ne h60)
          have hne : a ≠ b := fun e => by rw [e] at hne2; simp at hne2
          refine tr_seq ?_
          refine tr_region (fun N7 hN => ?_)
          refine lx (op_assign rfl) rfl ?_
          refine lx_end ⟨by kernel_rfl, ?_⟩
          refine pe_then_normal ?_
          refine tr_sub hC (.cons (t := 4) rfl .nil) .nil rfl ?_
          refine tr_ret ?_
          refine pe_block_ret ?_
          refine pe_then_ret ?_
          refine pe_then_ret ?_
          refine pe_block_ret ?_
          refine pe_then_ret ?_
          refine pe_ret1 rfl hO rfl (.tmp rfl .nil) ?_
          exact entB (decide_eq_false hne).symm
        · have hes := str_eq h60
          refine tr_skip ?_
          refine pe_block_normal ?_
          refine pe_then_normal ?_
          refine tr_sub hC (.cons (t := 2) rfl (.cons (t := 3) rfl (.cons (t := 46) rfl (.cons (t := 47) rfl .nil)))) (.cons (t := 2) rfl (.cons (t := 3) rfl .nil)) rfl ?_
          refine tr_region (fun N8 hN => ?_)
          refine lx (op_add rfl rfl (by omega)) rfl ?_
          refine lx (op_move rfl) rfl ?_
          refine lx_end ⟨by kernel_rfl, ?_⟩
          refine pe_round (⟨(k + 1), by omega, take_step hk2 (by omega) (by omega) hes⟩) (by dsimp only; omega) (pe_st hC ?_ ?_ rfl)
          · try dsimp only [List.cons_append, List.nil_append]
            first | refine SubF.cons rfl ?_ | (refine SubF.ent rfl ?_ ?_; · repeat (first | exact Ents.nil | refine Ents.cons ?_ ?_ | refine Ent.tup ?_ | refine Ent.agg ?_ | exact Ent.row _ _ _ _ | exact Ent.nil _ _ | exact Ent.func _ | exact Ent.refl _ | exact Ent.of_eq rfl | refine Ent.cells ?_))
            first | refine SubF.cons rfl ?_ | (refine SubF.ent rfl ?_ ?_; · repeat (first | exact Ents.nil | refine Ents.cons ?_ ?_ | refine Ent.tup ?_ | refine Ent.agg ?_ | exact Ent.row _ _ _ _ | exact Ent.nil _ _ | exact Ent.func _ | exact Ent.refl _ | exact Ent.of_eq rfl | refine Ent.cells ?_))
            first | refine SubF.cons rfl ?_ | (refine SubF.ent rfl ?_ ?_; · repeat (first | exact Ents.nil | refine Ents.cons ?_ ?_ | refine Ent.tup ?_ | refine Ent.agg ?_ | exact Ent.row _ _ _ _ | exact Ent.nil _ _ | exact Ent.func _ | exact Ent.refl _ | exact Ent.of_eq rfl | refine Ent.cells ?_))
            first | refine SubF.cons rfl ?_ | (refine SubF.ent rfl ?_ ?_; · repeat (first | exact Ents.nil | refine Ents.cons ?_ ?_ | refine Ent.tup ?_ | refine Ent.agg ?_ | exact Ent.row _ _ _ _ | exact Ent.nil _ _ | exact Ent.func _ | exact Ent.refl _ | exact Ent.of_eq rfl | refine Ent.cells ?_))
            exact SubF.nil
          · try dsimp only [List.cons_append, List.nil_append]
            repeat (first | exact SubL.nil | refine SubL.cons rfl ?_)
      · (try simp only [Bool.and_eq_true, Bool.or_eq_true, Bool.and_eq_false_iff, Bool.or_eq_false_iff, decide_eq_true_eq, decide_eq_false_iff_not, Bool.not_eq_true', Bool.not_eq_false', List.length_map, ne_eq, Decidable.not_not, Int.not_lt, Int.not_le] at h48)
        have hss := take_end hk2 (by omega) (by omega)
        refine tr_exit ?_
        refine pe_then_exit ?_
        refine pe_then_exit ?_
        refine pe_block_eq ?_
        refine pe_then_normal ?_
        refine tr_sub hC (.cons (t := 2) rfl (.cons (t := 3) rfl .nil)) (.cons (t := 2) rfl (.cons (t := 3) rfl .nil)) rfl ?_
        refine tr_seq ?_
        refine tr_seq ?_
        refine tr_region (fun N9 hN => ?_)
        refine lx (op_fieldAddr rfl fl41_4 sz39) rfl ?_
        refine lx (op_bload_one (m := 2) rfl rfl ag39 rfl) rfl ?_
        first | refine lx (op_len rfl el39) rfl ?_ | refine lx (op_len_row rfl el39) rfl ?_ | refine lx (op_len_mv rfl el39) rfl ?_ | refine lx (op_len_nil rfl el39) rfl ?_
        refine lx (op_move rfl) rfl ?_
        refine lx_end ⟨by kernel_rfl, ?_⟩
        refine pe_then_normal ?_
        refine tr_sub hC (.cons (t := 2) rfl (.cons (t := 3) rfl (.cons (t := 64) rfl (.cons (t := 65) rfl .nil)))) (.cons (t := 2) rfl (.cons (t := 3) rfl .nil)) rfl ?_
        refine tr_block ?_
        refine tr_loopK (α := {zz : Nat // zz ≤ a.early.length ∧ a.early.take zz = b.early.take zz}) (⟨(0), Nat.zero_le _, by simp⟩) (fun zz => [(65, eqP (.int .i64 (zz.1 : Int)))]) (fun zz => []) (fun zz => a.early.length - zz.1) hC (.cons (t := 2) rfl (.cons (t := 3) rfl (.cons (t := 64) rfl .nil))) (.cons (t := 2) rfl (.cons (t := 3) rfl .nil)) rfl ?_ ?_ (fun zz => ?_)
        · try dsimp only [List.cons_append, List.nil_append]
          first | refine SubF.cons rfl ?_ | (refine SubF.ent rfl ?_ ?_; · repeat (first | exact Ents.nil | refine Ents.cons ?_ ?_ | refine Ent.tup ?_ | refine Ent.agg ?_ | exact Ent.row _ _ _ _ | exact Ent.nil _ _ | exact Ent.func _ | exact Ent.refl _ | exact Ent.of_eq rfl | refine Ent.cells ?_))
          exact SubF.nil
        · try dsimp only [List.cons_append, List.nil_append]
          repeat (first | exact SubL.nil | refine SubL.cons rfl ?_)
        · obtain ⟨j, hj1, hj2⟩ := zz
          dsimp only [List.cons_append, List.nil_append]
          refine tr_seq ?_
          refine tr_region (fun N10 hN => ?_)
          refine lx (op_lss rfl rfl) rfl ?_
          refine lx_end ⟨by kernel_rfl, ?_⟩
          refine pe_then_normal ?_
          refine tr_sub hC (.cons (t := 2) rfl (.cons (t := 3) rfl (.cons (t := 64) rfl (.cons (t := 65) rfl (.cons (t := 66) rfl .nil))))) (.cons (t := 2) rfl (.cons (t := 3) rfl .nil)) rfl ?_
          refine tr_seq ?_
          refine tr_cond rfl (fun h66 => ?_) (fun h66 => ?_)
          · (try simp only [Bool.and_eq_true, Bool.or_eq_true, Bool.and_eq_false_iff, Bool.or_eq_false_iff, decide_eq_true_eq, decide_eq_false_iff_not, Bool.not_eq_true', Bool.not_eq_false', List.length_map, ne_eq, Decidable.not_not, Int.not_lt, Int.not_le] at h66)
            refine tr_skip ?_
            refine pe_then_normal ?_
            refine tr_sub hC (.cons (t := 2) rfl (.cons (t := 3) rfl (.cons (t := 64) rfl (.cons (t := 65) rfl .nil)))) (.cons (t := 2) rfl (.cons (t := 3) rfl .nil)) rfl ?_
            refine tr_seq ?_
            refine tr_block ?_
            refine tr_seq ?_
            refine tr_region (fun N11 hN => ?_)
            refine lx (op_move rfl) rfl ?_
            refine lx (op_assign rfl) rfl ?_
            refine lx_end ⟨by kernel_rfl, ?_⟩
            refine pe_then_normal ?_
            refine tr_sub hC (.cons (t := 2) rfl (.cons (t := 3) rfl (.cons (t := 6) rfl (.cons (t := 64) rfl (.cons (t := 65) rfl .nil))))) (.cons (t := 2) rfl (.cons (t := 3) rfl .nil)) rfl ?_
            refine tr_seq ?_
            refine tr_drawn mixed (fun N12 hN => ?_)
            refine lx (op_fieldAddr rfl fl41_4 sz39) rfl ?_
            refine lx (op_bload_one (m := 2) rfl rfl ag39 rfl) rfl ?_
            refine lx (op_move rfl) rfl ?_
            refine lx (op_index rfl rfl el39 sz23 rfl (List.getElem?_eq_getElem (by omega : j < a.early.length))) rfl ?_
            first | refine lx (op_load_all rfl ag23 sz23) rfl ?_ | refine lx (op_load_agg rfl ag23 sz23 rfl) rfl ?_ | refine lx (op_bload (m := 2) rfl rfl ag23 sz23) rfl ?_ | refine lx (op_bload (m := 3) rfl rfl ag23 sz23) rfl ?_ | refine lx (op_bload_part (m := 2) (qs := [_, _, _]) rfl rfl ag23 sz23 rfl rfl) rfl ?_ | refine lx (op_bload_part (m := 3) (qs := [_, _, _]) rfl rfl ag23 sz23 rfl rfl) rfl ?_
            refine lx (op_fieldAddr rfl fl41_4 sz39) rfl ?_
            refine lx (op_bload_one (m := 3) rfl rfl ag39 rfl) rfl ?_
            refine lx (op_move rfl) rfl ?_
            refine lx (op_index rfl rfl el39 sz23 rfl (List.getElem?_eq_getElem (by omega : j < b.early.length))) rfl ?_
            first | refine lx (op_load_all rfl ag23 sz23) rfl ?_ | refine lx (op_load_agg rfl ag23 sz23 rfl) rfl ?_ | refine lx (op_bload (m := 2) rfl rfl ag23 sz23) rfl ?_ | refine lx (op_bload (m := 3) rfl rfl ag23 sz23) rfl ?_ | refine lx (op_bload_part (m := 2) (qs := [_, _, _]) rfl rfl ag23 sz23 rfl rfl) rfl ?_ | refine lx (op_bload_part (m := 3) (qs := [_, _, _]) rfl rfl ag23 sz23 rfl rfl) rfl ?_
            refine lx (op_neq_agg rfl rfl (eqR _ _)) rfl ?_
            refine lx_end ⟨by kernel_rfl, ?_⟩
            refine pe_then_normal ?_
            refine tr_sub hC (.cons (t := 2) rfl (.cons (t := 3) rfl (.cons (t := 64) rfl (.cons (t := 65) rfl (.cons (t := 78) rfl .nil))))) (.cons (t := 2) rfl (.cons (t := 3) rfl .nil)) rfl ?_
            refine tr_cond rfl (fun h78 => ?_) (fun h78 => ?_)
            · (try simp only [Bool.and_eq_true, Bool.or_eq_true, Bool.and_eq_false_iff, Bool.or_eq_false_iff, decide_eq_true_eq, decide_eq_false_iff_not, Bool.not_eq_true', Bool.not_eq_false', List.length_map, ne_eq, Decidable.not_not, Int.not_lt, Int.not_le] at h78)
              have hne2 := ne_at (by omega) (by omega) h78
              have hne : a ≠ b := fun e => by rw [e] at hne2; simp at hne2
              refine tr_seq ?_
              refine tr_region (fun N13 hN => ?_)
              refine lx (op_assign rfl) rfl ?_
              refine lx_end ⟨by kernel_rfl, ?_⟩
              refine pe_then_normal ?_
              refine tr_sub hC (.cons (t := 4) rfl .nil) .nil rfl ?_
              refine tr_ret ?_
              refine pe_block_ret ?_
              refine pe_then_ret ?_
              refine pe_then_ret ?_
              refine pe_block_ret ?_
              refine pe_then_ret ?_
              refine pe_ret1 rfl hO rfl (.tmp rfl .nil) ?_
              exact entB (decide_eq_false hne).symm
            · (try simp only [Bool.and_eq_true, Bool.or_eq_true, Bool.and_eq_false_iff, Bool.or_eq_false_iff, decide_eq_true_eq, decide_eq_false_iff_not, Bool.not_eq_true', Bool.not_eq_false', List.length_map, ne_eq, Decidable.not_not, Int.not_lt, Int.not_le] at h78)
              refine tr_skip ?_
              refine pe_block_normal ?_
              refine pe_then_normal ?_
              refine tr_sub hC (.cons (t := 2) rfl (.cons (t := 3) rfl (.cons (t := 64) rfl (.cons (t := 65) rfl .nil)))) (.cons (t := 2) rfl (.cons (t := 3) rfl .nil)) rfl ?_
              refine tr_region (fun N14 hN => ?_)
              refine lx (op_add rfl rfl (by omega)) rfl ?_
              refine lx (op_move rfl) rfl ?_
              refine lx_end ⟨by kernel_rfl, ?_⟩
              refine pe_round (⟨(j + 1), by omega, take_step hj2 (by omega) (by omega) h78⟩) (by dsimp only; omega) (pe_st hC ?_ ?_ rfl)
              · try dsimp only [List.cons_append, List.nil_append]
                first | refine SubF.cons rfl ?_ | (refine SubF.ent rfl ?_ ?_; · repeat (first | exact Ents.nil | refine Ents.cons ?_ ?_ | refine Ent.tup ?_ | refine Ent.agg ?_ | exact Ent.row _ _ _ _ | exact Ent.nil _ _ | exact Ent.func _ | exact Ent.refl _ | exact Ent.of_eq rfl | refine Ent.cells ?_))
                first | refine SubF.cons rfl ?_ | (refine SubF.ent rfl ?_ ?_; · repeat (first | exact Ents.nil | refine Ents.cons ?_ ?_ | refine Ent.tup ?_ | refine Ent.agg ?_ | exact Ent.row _ _ _ _ | exact Ent.nil _ _ | exact Ent.func _ | exact Ent.refl _ | exact Ent.of_eq rfl | refine Ent.cells ?_))
                first | refine SubF.cons rfl ?_ | (refine SubF.ent rfl ?_ ?_; · repeat (first | exact Ents.nil | refine Ents.cons ?_ ?_ | refine Ent.tup ?_ | refine Ent.agg ?_ | exact Ent.row _ _ _ _ | exact Ent.nil _ _ | exact Ent.func _ | exact Ent.refl _ | exact Ent.of_eq rfl | refine Ent.cells ?_))
                first | refine SubF.cons rfl ?_ | (refine SubF.ent rfl ?_ ?_; · repeat (first | exact Ents.nil | refine Ents.cons ?_ ?_ | refine Ent.tup ?_ | refine Ent.agg ?_ | exact Ent.row _ _ _ _ | exact Ent.nil _ _ | exact Ent.func _ | exact Ent.refl _ | exact Ent.of_eq rfl | refine Ent.cells ?_))
                exact SubF.nil
              · try dsimp only [List.cons_append, List.nil_append]
                repeat (first | exact SubL.nil | refine SubL.cons rfl ?_)
          · (try simp only [Bool.and_eq_true, Bool.or_eq_true, Bool.and_eq_false_iff, Bool.or_eq_false_iff, decide_eq_true_eq, decide_eq_false_iff_not, Bool.not_eq_true', Bool.not_eq_false', List.length_map, ne_eq, Decidable.not_not, Int.not_lt, Int.not_le] at h66)
            have hee := take_end hj2 (by omega) (by omega)
            refine tr_exit ?_
            refine pe_then_exit ?_
            refine pe_then_exit ?_
            refine pe_block_eq ?_
            refine pe_then_normal ?_
            refine tr_sub hC .nil .nil rfl ?_
            refine tr_seq ?_
            refine tr_region (fun N15 hN => ?_)
            refine lx (op_assign rfl) rfl ?_
            refine lx_end ⟨by kernel_rfl, ?_⟩
            refine pe_then_normal ?_
            refine tr_sub hC (.cons (t := 4) rfl .nil) .nil rfl ?_
            refine tr_ret ?_
            refine pe_ret1 rfl hO rfl (.tmp rfl .nil) ?_
            exact entB (decide_eq_true (re_of hhd hss hee)).symm
end Go.Proofs.Ytgdhogmghffbaaa


set_option linter.unusedVariables false
set_option linter.unusedSimpArgs false
namespace Go.Proofs.Ytgdhogmghffbaaa
open Go.AL Go.Wr Go.RowKit
theorem fn44 : fnB Try.prog 44 = true := by kernel_rfl
theorem fn45 : fnB Try.prog 45 = true := by kernel_rfl
theorem fn47 : fnB Try.prog 47 = true := by kernel_rfl
theorem ik87 : Try.prog.underlying 87 = some (.int .u64) := by kernel_rfl
theorem us87 : (Try.prog.underlying 87).isSome = true := by kernel_rfl
theorem nan_ok (x : Int) : FnP Try.prog 47 [eqP (.int .i64 x)] (eqP (.bool false)) := by
  refine fn_pure' Try.func47 rfl Try.ntmps47 rfl ?_
  intro σ0 M ex Rf R hC hO
  simp only [frameOf, tokOf]
  refine tr_seq ?_
  refine tr_region (fun N0 hN => ?_)
  refine lx (op_assign rfl) rfl ?_
  refine lx_end ⟨by kernel_rfl, ?_⟩
  refine pe_then_normal ?_
  refine tr_sub hC (.cons (t := 0) rfl .nil) .nil rfl ?_
  refine tr_seq ?_
  refine tr_region (fun N1 hN => ?_)
  refine lx (op_move rfl) rfl ?_
  refine lx (op_move rfl) rfl ?_
  refine lx (op_neq rfl rfl) rfl ?_
  refine lx (op_assign rfl) rfl ?_
  refine lx_end ⟨by kernel_rfl, ?_⟩
  refine pe_then_normal ?_
  refine tr_sub hC (.cons (t := 2) rfl .nil) .nil rfl ?_
  refine tr_ret ?_
  refine pe_ret1 rfl hO rfl (.tmp rfl .nil) ?_
  exact entB (by simp)
theorem cmp_ok (a b : Int) : FnP Try.prog 45 [eqP (.int .i64 a), eqP (.int .i64 b)] (eqP (.int .i64 (cmpI a b))) := by
  refine fn_pure' Try.func45 rfl Try.ntmps45 rfl ?_
  intro σ0 M ex Rf R hC hO
  simp only [frameOf, tokOf]
  refine tr_seq ?_
  refine tr_region (fun N0 hN => ?_)
  refine lx (op_assign rfl) rfl ?_
  refine lx_end ⟨by kernel_rfl, ?_⟩
  refine pe_then_normal ?_
  refine tr_sub hC (.cons (t := 0) rfl (.cons (t := 1) rfl .nil)) .nil rfl ?_
  refine tr_seq ?_
  refine tr_region (fun N1 hN => ?_)
  refine lx (op_move rfl) rfl ?_
  first | refine lx (op_call (l := [(Go.Operand.tmp 7)]) (nan_ok a) (.cons rfl .nil) fn47) rfl ?_ | refine lx (op_call (l := [(Go.Operand.tmp 7)]) (nan_ok a) (.ent rfl (by repeat (first | exact Ents.nil | refine Ents.cons ?_ ?_ | refine Ent.tup ?_ | refine Ent.agg ?_ | exact Ent.row _ _ _ _ | exact Ent.nil _ _ | exact Ent.func _ | exact Ent.refl _ | exact Ent.of_eq rfl | refine Ent.cells ?_)) .nil) fn47) rfl ?_
  refine lx (op_assign rfl) rfl ?_
  refine lx_end ⟨by kernel_rfl, ?_⟩
  refine pe_then_normal ?_
  refine tr_sub hC (.cons (t := 0) rfl (.cons (t := 1) rfl (.cons (t := 5) rfl .nil))) .nil rfl ?_
  refine tr_seq ?_
  refine tr_region (fun N2 hN => ?_)
  refine lx (op_move rfl) rfl ?_
  first | refine lx (op_call (l := [(Go.Operand.tmp 9)]) (nan_ok b) (.cons rfl .nil) fn47) rfl ?_ | refine lx (op_call (l := [(Go.Operand.tmp 9)]) (nan_ok b) (.ent rfl (by repeat (first | exact Ents.nil | refine Ents.cons ?_ ?_ | refine Ent.tup ?_ | refine Ent.agg ?_ | exact Ent.row _ _ _ _ | exact Ent.nil _ _ | exact Ent.func _ | exact Ent.refl _ | exact Ent.of_eq rfl | refine Ent.cells ?_)) .nil) fn47) rfl ?_
  refine lx (op_assign rfl) rfl ?_
  refine lx_end ⟨by kernel_rfl, ?_⟩
  refine pe_then_normal ?_
  refine tr_sub hC (.cons (t := 0) rfl (.cons (t := 1) rfl (.cons (t := 5) rfl (.cons (t := 6) rfl .nil)))) .nil rfl ?_
  refine tr_seq ?_
  refine tr_seq ?_
  refine tr_region (fun N3 hN => ?_)
  refine lx (op_move rfl) rfl ?_
  refine lx_end ⟨by kernel_rfl, ?_⟩
  refine pe_then_normal ?_
  refine tr_sub hC (.cons (t := 0) rfl (.cons (t := 1) rfl (.cons (t := 6) rfl (.cons (t := 11) rfl .nil)))) .nil rfl ?_
  refine tr_cond rfl (fun h11 => ?_) (fun h11 => ?_)
  · exact absurd h11 (by decide)
  · (try simp only [Bool.and_eq_true, Bool.or_eq_true, Bool.and_eq_false_iff, Bool.or_eq_false_iff, decide_eq_true_eq, decide_eq_false_iff_not, Bool.not_eq_true', Bool.not_eq_false', List.length_map, ne_eq, Decidable.not_not, Int.not_lt, Int.not_le] at h11)
    refine tr_skip ?_
    refine pe_then_normal ?_
    refine tr_sub hC (.cons (t := 0) rfl (.cons (t := 1) rfl (.cons (t := 6) rfl .nil))) .nil rfl ?_
    refine tr_seq ?_
    refine tr_seq ?_
    refine tr_region (fun N7 hN => ?_)
    refine lx (op_move rfl) rfl ?_
    refine lx_end ⟨by kernel_rfl, ?_⟩
    refine pe_then_normal ?_
    refine tr_sub hC (.cons (t := 0) rfl (.cons (t := 1) rfl (.cons (t := 13) rfl .nil))) .nil rfl ?_
    refine tr_cond rfl (fun h13 => ?_) (fun h13 => ?_)
    · exact absurd h13 (by decide)
    · (try simp only [Bool.and_eq_true, Bool.or_eq_true, Bool.and_eq_false_iff, Bool.or_eq_false_iff, decide_eq_true_eq, decide_eq_false_iff_not, Bool.not_eq_true', Bool.not_eq_false', List.length_map, ne_eq, Decidable.not_not, Int.not_lt, Int.not_le] at h13)
      refine tr_skip ?_
      refine pe_then_normal ?_
      refine tr_sub hC (.cons (t := 0) rfl (.cons (t := 1) rfl .nil)) .nil rfl ?_
      refine tr_seq ?_
      refine tr_seq ?_
      refine tr_region (fun N9 hN => ?_)
      refine lx (op_move rfl) rfl ?_
      refine lx (op_move rfl) rfl ?_
      refine lx (op_lss rfl rfl) rfl ?_
      refine lx_end ⟨by kernel_rfl, ?_⟩
      refine pe_then_normal ?_
      refine tr_sub hC (.cons (t := 0) rfl (.cons (t := 1) rfl (.cons (t := 16) rfl .nil))) .nil rfl ?_
      refine tr_cond rfl (fun h16 => ?_) (fun h16 => ?_)
      · (try simp only [Bool.and_eq_true, Bool.or_eq_true, Bool.and_eq_false_iff, Bool.or_eq_false_iff, decide_eq_true_eq, decide_eq_false_iff_not, Bool.not_eq_true', Bool.not_eq_false', List.length_map, ne_eq, Decidable.not_not, Int.not_lt, Int.not_le] at h16)
        have h : cmpI a b = -1 := by unfold cmpI; rw [if_pos h16]
        refine tr_seq ?_
        refine tr_region (fun N10 hN => ?_)
        refine lx (op_assign rfl) rfl ?_
        refine lx_end ⟨by kernel_rfl, ?_⟩
        refine pe_then_normal ?_
        refine tr_sub hC (.cons (t := 4) rfl .nil) .nil rfl ?_
        refine tr_ret ?_
        refine pe_then_ret ?_
        refine pe_ret1 rfl hO rfl (.tmp rfl .nil) ?_
        exact entI h.symm
      · (try simp only [Bool.and_eq_true, Bool.or_eq_true, Bool.and_eq_false_iff, Bool.or_eq_false_iff, decide_eq_true_eq, decide_eq_false_iff_not, Bool.not_eq_true', Bool.not_eq_false', List.length_map, ne_eq, Decidable.not_not, Int.not_lt, Int.not_le] at h16)
        refine tr_skip ?_
        refine pe_then_normal ?_
        refine tr_sub hC (.cons (t := 0) rfl (.cons (t := 1) rfl .nil)) .nil rfl ?_
        refine tr_seq ?_
        refine tr_seq ?_
        refine tr_region (fun N11 hN => ?_)
        refine lx (op_move rfl) rfl ?_
        refine lx (op_move rfl) rfl ?_
        refine lx (op_gtr rfl rfl) rfl ?_
        refine lx_end ⟨by kernel_rfl, ?_⟩
        refine pe_then_normal ?_
        refine tr_sub hC (.cons (t := 19) rfl .nil) .nil rfl ?_
        refine tr_cond rfl (fun h19 => ?_) (fun h19 => ?_)
        · (try simp only [Bool.and_eq_true, Bool.or_eq_true, Bool.and_eq_false_iff, Bool.or_eq_false_iff, decide_eq_true_eq, decide_eq_false_iff_not, Bool.not_eq_true', Bool.not_eq_false', List.length_map, ne_eq, Decidable.not_not, Int.not_lt, Int.not_le] at h19)
          have h : cmpI a b = 1 := by unfold cmpI; rw [if_neg (by omega), if_pos h19]
          refine tr_seq ?_
          refine tr_region (fun N12 hN => ?_)
          refine lx (op_assign rfl) rfl ?_
          refine lx_end ⟨by kernel_rfl, ?_⟩
          refine pe_then_normal ?_
          refine tr_sub hC (.cons (t := 4) rfl .nil) .nil rfl ?_
          refine tr_ret ?_
          refine pe_then_ret ?_
          refine pe_ret1 rfl hO rfl (.tmp rfl .nil) ?_
          exact entI h.symm
        · (try simp only [Bool.and_eq_true, Bool.or_eq_true, Bool.and_eq_false_iff, Bool.or_eq_false_iff, decide_eq_true_eq, decide_eq_false_iff_not, Bool.not_eq_true', Bool.not_eq_false', List.length_map, ne_eq, Decidable.not_not, Int.not_lt, Int.not_le] at h19)
          have h : cmpI a b = 0 := by unfold cmpI; rw [if_neg (by omega), if_neg (by omega)]
          refine tr_skip ?_
          refine pe_then_normal ?_
          refine tr_sub hC .nil .nil rfl ?_
          refine tr_seq ?_
          refine tr_region (fun N13 hN => ?_)
          refine lx (op_assign rfl) rfl ?_
          refine lx_end ⟨by kernel_rfl, ?_⟩
          refine pe_then_normal ?_
          refine tr_sub hC (.cons (t := 4) rfl .nil) .nil rfl ?_
          refine tr_ret ?_
          refine pe_ret1 rfl hO rfl (.tmp rfl .nil) ?_
          exact entI h.symm
theorem scmp_ok (o : WF) (x : Int) : FnP Try.prog 44 [aggP o.ps, eqP (.int .i64 x)] (eqP (.int .i64 (cmpI o.seq x))) := by
  refine fn_pure' Try.func44 rfl Try.ntmps44 rfl ?_
  intro σ0 M ex Rf R hC hO
  simp only [frameOf, tokOf]
  refine tr_seq ?_
  refine tr_region (fun N0 hN => ?_)
  refine lxn (op_box (m := 2) (k := 2) rfl (.agg rfl) (by first | exact hC.low _ (by decide) | rfl)) rfl ?_
  refine lx (op_assign rfl) rfl ?_
  refine lx_end ⟨by kernel_rfl, ?_⟩
  refine pe_then_normal ?_
  refine tr_sub hC (.cons (t := 1) rfl (.cons (t := 2) rfl .nil)) (.cons (t := 2) rfl .nil) rfl ?_
  refine tr_seq ?_
  refine tr_region (fun N1 hN => ?_)
  refine lx (op_fieldAddr rfl fl27_0 sz3) rfl ?_
  refine lx (op_bload_one (m := 2) rfl rfl ag3 rfl) rfl ?_
  refine lx (op_move rfl) rfl ?_
  first | refine lx (op_call (l := [(Go.Operand.tmp 6), (Go.Operand.tmp 7)]) (cmp_ok o.seq x) (.cons rfl (.cons rfl .nil)) fn45) rfl ?_ | refine lx (op_call (l := [(Go.Operand.tmp 6), (Go.Operand.tmp 7)]) (cmp_ok o.seq x) (.ent rfl (by repeat (first | exact Ents.nil | refine Ents.cons ?_ ?_ | refine Ent.tup ?_ | refine Ent.agg ?_ | exact Ent.row _ _ _ _ | exact Ent.nil _ _ | exact Ent.func _ | exact Ent.refl _ | exact Ent.of_eq rfl | refine Ent.cells ?_)) (.ent rfl (by repeat (first | exact Ents.nil | refine Ents.cons ?_ ?_ | refine Ent.tup ?_ | refine Ent.agg ?_ | exact Ent.row _ _ _ _ | exact Ent.nil _ _ | exact Ent.func _ | exact Ent.refl _ | exact Ent.of_eq rfl | refine Ent.cells ?_)) .nil)) fn45) rfl ?_
  refine lx (op_assign rfl) rfl ?_
  refine lx_end ⟨by kernel_rfl, ?_⟩
  refine pe_then_normal ?_
  refine tr_sub hC (.cons (t := 4) rfl .nil) .nil rfl ?_
  refine tr_ret ?_
  refine pe_ret1 rfl hO rfl (.tmp rfl .nil) ?_
  repeat (first | exact Ents.nil | refine Ents.cons ?_ ?_ | refine Ent.tup ?_ | refine Ent.agg ?_ | exact Ent.row _ _ _ _ | exact Ent.nil _ _ | exact Ent.func _ | exact Ent.refl _ | exact Ent.of_eq rfl | refine Ent.cells ?_)
theorem bsearch_own (id : AL.Id) (xs : List WF) (x : Int) (hs : Srt xs) (hx : xs.length ≤ 4000000) : FnOK Try.prog 43 [mvP id 3 0 xs.length xs.length, eqP (.int .i64 x), clP 44 [] []] [(id, blkX 3 27 (xs.flatMap WF.ps))] 0 (fun ι => tupP [eqP (.int .i64 (pos xs x : Int)), eqP (.bool (fnd xs x))]) (fun ι => [(id, blkX 3 27 (xs.flatMap WF.ps))]) := by
  refine fn_ownN Try.func43 rfl Try.ntmps43 rfl ?_
  intro σ0 M Rf R hC hO
  simp only [frameOf, tokOf]
  refine tr_seq ?_
  refine tr_region (fun N0 hN => ?_)
  refine lx (op_assign rfl) rfl ?_
  refine lx (op_assign rfl) rfl ?_
  refine lx_end ⟨by kernel_rfl, ?_⟩
  refine pe_then_normal ?_
  refine tr_sub hC (.cons (t := 0) rfl (.cons (t := 1) rfl (.cons (t := 2) rfl .nil))) (.cons (t := 0) rfl .nil) rfl ?_
  refine tr_seq ?_
  refine tr_region (fun N1 hN => ?_)
  refine lx (op_move rfl) rfl ?_
  first | refine lx (op_len rfl el44) rfl ?_ | refine lx (op_len_row rfl el44) rfl ?_ | refine lx (op_len_mv rfl el44) rfl ?_ | refine lx (op_len_nil rfl el44) rfl ?_
  refine lx (op_assign rfl) rfl ?_
  refine lx_end ⟨by kernel_rfl, ?_⟩
  refine pe_then_normal ?_
  refine tr_sub hC (.cons (t := 0) rfl (.cons (t := 1) rfl (.cons (t := 2) rfl (.cons (t := 8) rfl .nil)))) (.cons (t := 0) rfl .nil) rfl ?_
  refine tr_seq ?_
  refine tr_region (fun N2 hN => ?_)
  refine lx (op_move rfl) rfl ?_
  refine lx (op_assign rfl) rfl ?_
  refine lx (op_assign rfl) rfl ?_
  refine lx_end ⟨by kernel_rfl, ?_⟩
  refine pe_then_normal ?_
  refine tr_sub hC (.cons (t := 0) rfl (.cons (t := 1) rfl (.cons (t := 2) rfl (.cons (t := 8) rfl (.cons (t := 9) rfl (.cons (t := 10) rfl .nil)))))) (.cons (t := 0) rfl .nil) rfl ?_
  refine tr_seq ?_
  refine tr_block ?_
  refine tr_loopK (α := {zz : Nat × Nat // zz.1 ≤ zz.2 ∧ zz.2 ≤ xs.length ∧ (∀ o ∈ xs.take zz.1, o.seq < x) ∧ (∀ o ∈ xs.drop zz.2, x ≤ o.seq)}) (⟨(0, xs.length), Nat.zero_le _, Nat.le_refl _, by simp, by simp⟩) (fun zz => [(9, eqP (.int .i64 (zz.1.1 : Int))), (10, eqP (.int .i64 (zz.1.2 : Int)))]) (fun zz => []) (fun zz => zz.1.2 - zz.1.1) hC (.cons (t := 0) rfl (.cons (t := 1) rfl (.cons (t := 2) rfl (.cons (t := 8) rfl .nil)))) (.cons (t := 0) rfl .nil) rfl ?_ ?_ (fun zz => ?_)
  · try dsimp only [List.cons_append, List.nil_append]
    first | refine SubF.cons rfl ?_ | (refine SubF.ent rfl ?_ ?_; · repeat (first | exact Ents.nil | refine Ents.cons ?_ ?_ | refine Ent.tup ?_ | refine Ent.agg ?_ | exact Ent.row _ _ _ _ | exact Ent.nil _ _ | exact Ent.func _ | exact Ent.refl _ | exact Ent.of_eq rfl | refine Ent.cells ?_))
    first | refine SubF.cons rfl ?_ | (refine SubF.ent rfl ?_ ?_; · repeat (first | exact Ents.nil | refine Ents.cons ?_ ?_ | refine Ent.tup ?_ | refine Ent.agg ?_ | exact Ent.row _ _ _ _ | exact Ent.nil _ _ | exact Ent.func _ | exact Ent.refl _ | exact Ent.of_eq rfl | refine Ent.cells ?_))
    exact SubF.nil
  · try dsimp only [List.cons_append, List.nil_append]
    repeat (first | exact SubL.nil | refine SubL.cons rfl ?_)
  · obtain ⟨⟨i, j⟩, hij, hj, hi1, hi2⟩ := zz
    try dsimp only at hij
    try dsimp only at hj
    try dsimp only at hi1
    try dsimp only at hi2
    dsimp only [List.cons_append, List.nil_append]
    refine tr_seq ?_
    refine tr_seq ?_
    refine tr_region (fun N3 hN => ?_)
    refine lx (op_move rfl) rfl ?_
    refine lx (op_move rfl) rfl ?_
    refine lx (op_lss rfl rfl) rfl ?_
    refine lx_end ⟨by kernel_rfl, ?_⟩
    refine pe_then_normal ?_
    refine tr_sub hC (.cons (t := 0) rfl (.cons (t := 1) rfl (.cons (t := 2) rfl (.cons (t := 8) rfl (.cons (t := 9) rfl (.cons (t := 10) rfl (.cons (t := 17) rfl .nil))))))) (.cons (t := 0) rfl .nil) rfl ?_
    refine tr_cond rfl (fun h17 => ?_) (fun h17 => ?_)
    · (try simp only [Bool.and_eq_true, Bool.or_eq_true, Bool.and_eq_false_iff, Bool.or_eq_false_iff, decide_eq_true_eq, decide_eq_false_iff_not, Bool.not_eq_true', Bool.not_eq_false', List.length_map, ne_eq, Decidable.not_not, Int.not_lt, Int.not_le] at h17)
      refine tr_skip ?_
      refine pe_then_normal ?_
      refine tr_sub hC (.cons (t := 0) rfl (.cons (t := 1) rfl (.cons (t := 2) rfl (.cons (t := 8) rfl (.cons (t := 9) rfl (.cons (t := 10) rfl .nil)))))) (.cons (t := 0) rfl .nil) rfl ?_
      refine tr_block ?_
      refine tr_seq ?_
      refine tr_region (fun N4 hN => ?_)
      refine lx (op_move rfl) rfl ?_
      refine lx (op_move rfl) rfl ?_
      refine lx (op_add rfl rfl (by omega)) rfl ?_
      refine lx (op_convert rfl us3 ik87) rfl ?_
      refine lx (op_shr rfl rfl rfl) rfl ?_
      refine lx (op_convert rfl us87 ik3) rfl ?_
      refine lx (op_assign rfl) rfl ?_
      refine lx_end ⟨by kernel_rfl, ?_⟩
      refine pe_then_normal ?_
      refine tr_sub hC (.cons (t := 0) rfl (.cons (t := 1) rfl (.cons (t := 2) rfl (.cons (t := 8) rfl (.cons (t := 9) rfl (.cons (t := 10) rfl (.cons (t := 11) rfl .nil))))))) (.cons (t := 0) rfl .nil) rfl ?_
      refine tr_sub hC (.cons (t := 0) rfl (.cons (t := 1) rfl (.cons (t := 2) rfl (.cons (t := 8) rfl (.cons (t := 9) rfl (.cons (t := 10) rfl (.ent (t := 11) rfl ((show Ent _ (eqP (.int .i64 (((i + j) / 2 : Nat) : Int))) from entI (half (by omega)))) .nil))))))) (.cons (t := 0) rfl .nil) rfl ?_
      refine tr_seq ?_
      refine tr_region (fun N5 hN => ?_)
      refine lx (op_move rfl) rfl ?_
      refine lx (op_move rfl) rfl ?_
      refine lx (op_move rfl) rfl ?_
      refine lx (op_index_mv rfl rfl el44 sz27 rfl (by omega)) rfl ?_
      refine lx (op_tload (m := 0) (j := (i + j) / 2) (fo := 0) rfl rfl ag27 sz27 WF.len (by omega) (List.getElem?_eq_getElem (by omega : (i + j) / 2 < xs.length)) rfl rfl) rfl ?_
      refine lx (op_move rfl) rfl ?_
      first | refine lx (op_callV (l := [(Go.Operand.tmp 28), (Go.Operand.tmp 29)]) rfl (scmp_ok (xs[(i + j) / 2]'(by omega)) x) (.cons rfl (.cons rfl .nil)) fn44) rfl ?_ | refine lx (op_callV (l := [(Go.Operand.tmp 28), (Go.Operand.tmp 29)]) rfl (scmp_ok (xs[(i + j) / 2]'(by omega)) x) (.ent rfl (by repeat (first | exact Ents.nil | refine Ents.cons ?_ ?_ | refine Ent.tup ?_ | refine Ent.agg ?_ | exact Ent.row _ _ _ _ | exact Ent.nil _ _ | exact Ent.func _ | exact Ent.refl _ | exact Ent.of_eq rfl | refine Ent.cells ?_)) (.ent rfl (by repeat (first | exact Ents.nil | refine Ents.cons ?_ ?_ | refine Ent.tup ?_ | refine Ent.agg ?_ | exact Ent.row _ _ _ _ | exact Ent.nil _ _ | exact Ent.func _ | exact Ent.refl _ | exact Ent.of_eq rfl | refine Ent.cells ?_)) .nil)) fn44) rfl ?_
      refine lx (op_lss rfl rfl) rfl ?_
      refine lx_end ⟨by kernel_rfl, ?_⟩
      refine pe_then_normal ?_
      refine tr_sub hC (.cons (t := 0) rfl (.cons (t := 1) rfl (.cons (t := 2) rfl (.cons (t := 8) rfl (.cons (t := 9) rfl (.cons (t := 10) rfl (.cons (t := 11) rfl (.cons (t := 31) rfl .nil)))))))) (.cons (t := 0) rfl .nil) rfl ?_
      refine tr_cond rfl (fun h31 => ?_) (fun h31 => ?_)
      · (try simp only [Bool.and_eq_true, Bool.or_eq_true, Bool.and_eq_false_iff, Bool.or_eq_false_iff, decide_eq_true_eq, decide_eq_false_iff_not, Bool.not_eq_true', Bool.not_eq_false', List.length_map, ne_eq, Decidable.not_not, Int.not_lt, Int.not_le] at h31)
        have hst := lo_step hs (by omega : (i + j) / 2 < xs.length) (cmp_lt h31)
        refine tr_region (fun N6 hN => ?_)
        refine lx (op_move rfl) rfl ?_
        refine lx (op_add rfl rfl (by omega)) rfl ?_
        refine lx (op_assign rfl) rfl ?_
        refine lx_end ⟨by kernel_rfl, ?_⟩
        refine pe_block_normal ?_
        refine pe_round (⟨((i + j) / 2 + 1, j), by dsimp only; omega, by dsimp only; omega, hst, hi2⟩) (by dsimp only; omega) (pe_st hC ?_ ?_ rfl)
        · try dsimp only [List.cons_append, List.nil_append]
          first | refine SubF.cons rfl ?_ | (refine SubF.ent rfl ?_ ?_; · repeat (first | exact Ents.nil | refine Ents.cons ?_ ?_ | refine Ent.tup ?_ | refine Ent.agg ?_ | exact Ent.row _ _ _ _ | exact Ent.nil _ _ | exact Ent.func _ | exact Ent.refl _ | exact Ent.of_eq rfl | refine Ent.cells ?_))
          first | refine SubF.cons rfl ?_ | (refine SubF.ent rfl ?_ ?_; · repeat (first | exact Ents.nil | refine Ents.cons ?_ ?_ | refine Ent.tup ?_ | refine Ent.agg ?_ | exact Ent.row _ _ _ _ | exact Ent.nil _ _ | exact Ent.func _ | exact Ent.refl _ | exact Ent.of_eq rfl | refine Ent.cells ?_))
          first | refine SubF.cons rfl ?_ | (refine SubF.ent rfl ?_ ?_; · repeat (first | exact Ents.nil | refine Ents.cons ?_ ?_ | refine Ent.tup ?_ | refine Ent.agg ?_ | exact Ent.row _ _ _ _ | exact Ent.nil _ _ | exact Ent.func _ | exact Ent.refl _ | exact Ent.of_eq rfl | refine Ent.cells ?_))
          first | refine SubF.cons rfl ?_ | (refine SubF.ent rfl ?_ ?_; · repeat (first | exact Ents.nil | refine Ents.cons ?_ ?_ | refine Ent.tup ?_ | refine Ent.agg ?_ | exact Ent.row _ _ _ _ | exact Ent.nil _ _ | exact Ent.func _ | exact Ent.refl _ | exact Ent.of_eq rfl | refine Ent.cells ?_))
          first | refine SubF.cons rfl ?_ | (refine SubF.ent rfl ?_ ?_; · repeat (first | exact Ents.nil | refine Ents.cons ?_ ?_ | refine Ent.tup ?_ | refine Ent.agg ?_ | exact Ent.row _ _ _ _ | exact Ent.nil _ _ | exact Ent.func _ | exact Ent.refl _ | exact Ent.of_eq rfl | refine Ent.cells ?_))
          first | refine SubF.cons rfl ?_ | (refine SubF.ent rfl ?_ ?_; · repeat (first | exact Ents.nil | refine Ents.cons ?_ ?_ | refine Ent.tup ?_ | refine Ent.agg ?_ | exact Ent.row _ _ _ _ | exact Ent.nil _ _ | exact Ent.func _ | exact Ent.refl _ | exact Ent.of_eq rfl | refine Ent.cells ?_))
          exact SubF.nil
        · try dsimp only [List.cons_append, List.nil_append]
          repeat (first | exact SubL.nil | refine SubL.cons rfl ?_)
      · (try simp only [Bool.and_eq_true, Bool.or_eq_true, Bool.and_eq_false_iff, Bool.or_eq_false_iff, decide_eq_true_eq, decide_eq_false_iff_not, Bool.not_eq_true', Bool.not_eq_false', List.length_map, ne_eq, Decidable.not_not, Int.not_lt, Int.not_le] at h31)
        have hst := hi_step hs (by omega : (i + j) / 2 < xs.length) (cmp_ge h31)
        refine tr_region (fun N7 hN => ?_)
        refine lx (op_move rfl) rfl ?_
        refine lx (op_assign rfl) rfl ?_
        refine lx_end ⟨by kernel_rfl, ?_⟩
        refine pe_block_normal ?_
        refine pe_round (⟨(i, (i + j) / 2), by dsimp only; omega, by dsimp only; omega, hi1, hst⟩) (by dsimp only; omega) (pe_st hC ?_ ?_ rfl)
        · try dsimp only [List.cons_append, List.nil_append]
          first | refine SubF.cons rfl ?_ | (refine SubF.ent rfl ?_ ?_; · repeat (first | exact Ents.nil | refine Ents.cons ?_ ?_ | refine Ent.tup ?_ | refine Ent.agg ?_ | exact Ent.row _ _ _ _ | exact Ent.nil _ _ | exact Ent.func _ | exact Ent.refl _ | exact Ent.of_eq rfl | refine Ent.cells ?_))
          first | refine SubF.cons rfl ?_ | (refine SubF.ent rfl ?_ ?_; · repeat (first | exact Ents.nil | refine Ents.cons ?_ ?_ | refine Ent.tup ?_ | refine Ent.agg ?_ | exact Ent.row _ _ _ _ | exact Ent.nil _ _ | exact Ent.func _ | exact Ent.refl _ | exact Ent.of_eq rfl | refine Ent.cells ?_))
          first | refine SubF.cons rfl ?_ | (refine SubF.ent rfl ?_ ?_; · repeat (first | exact Ents.nil | refine Ents.cons ?_ ?_ | refine Ent.tup ?_ | refine Ent.agg ?_ | exact Ent.row _ _ _ _ | exact Ent.nil _ _ | exact Ent.func _ | exact Ent.refl _ | exact Ent.of_eq rfl | refine Ent.cells ?_))
          first | refine SubF.cons rfl ?_ | (refine SubF.ent rfl ?_ ?_; · repeat (first | exact Ents.nil | refine Ents.cons ?_ ?_ | refine Ent.tup ?_ | refine Ent.agg ?_ | exact Ent.row _ _ _ _ | exact Ent.nil _ _ | exact Ent.func _ | exact Ent.refl _ | exact Ent.of_eq rfl | refine Ent.cells ?_))
          first | refine SubF.cons rfl ?_ | (refine SubF.ent rfl ?_ ?_; · repeat (first | exact Ents.nil | refine Ents.cons ?_ ?_ | refine Ent.tup ?_ | refine Ent.agg ?_ | exact Ent.row _ _ _ _ | exact Ent.nil _ _ | exact Ent.func _ | exact Ent.refl _ | exact Ent.of_eq rfl | refine Ent.cells ?_))
          first | refine SubF.cons rfl ?_ | (refine SubF.ent rfl ?_ ?_; · repeat (first | exact Ents.nil | refine Ents.cons ?_ ?_ | refine Ent.tup ?_ | refine Ent.agg ?_ | exact Ent.row _ _ _ _ | exact Ent.nil _ _ | exact Ent.func _ | exact Ent.refl _ | exact Ent.of_eq rfl | refine Ent.cells ?_))
          exact SubF.nil
        · try dsimp only [List.cons_append, List.nil_append]
          repeat (first | exact SubL.nil | refine SubL.cons rfl ?_)
    · (try simp only [Bool.and_eq_true, Bool.or_eq_true, Bool.and_eq_false_iff, Bool.or_eq_false_iff, decide_eq_true_eq, decide_eq_false_iff_not, Bool.not_eq_true', Bool.not_eq_false', List.length_map, ne_eq, Decidable.not_not, Int.not_lt, Int.not_le] at h17)
      obtain rfl : i = j := by omega
      have hps := pos_at hj hi1 hi2
      refine tr_exit ?_
      refine pe_then_exit ?_
      refine pe_then_exit ?_
      refine pe_block_eq ?_
      refine pe_then_normal ?_
      refine tr_sub hC (.cons (t := 0) rfl (.cons (t := 1) rfl (.cons (t := 2) rfl (.cons (t := 8) rfl (.cons (t := 9) rfl .nil))))) (.cons (t := 0) rfl .nil) rfl ?_
      refine tr_seq ?_
      refine tr_region (fun N8 hN => ?_)
      refine lx (op_move rfl) rfl ?_
      refine lx (op_move rfl) rfl ?_
      refine lx (op_move rfl) rfl ?_
      refine lx (op_lss rfl rfl) rfl ?_
      refine lxc (op_move rfl) rfl (fun h39 => ?_) (fun h39 => ?_)
      · (try simp only [Bool.and_eq_true, Bool.or_eq_true, Bool.and_eq_false_iff, Bool.or_eq_false_iff, decide_eq_true_eq, decide_eq_false_iff_not, Bool.not_eq_true', Bool.not_eq_false', List.length_map, ne_eq, Decidable.not_not, Int.not_lt, Int.not_le] at h39)
        have hil : i < xs.length := by omega
        have hfd := fnd_at hs hil hi1 hi2
        refine lxg rfl rfl rfl (op_move rfl) rfl ?_
        refine lxg rfl rfl rfl (op_move rfl) rfl ?_
        refine lxg rfl rfl rfl (op_move rfl) rfl ?_
        refine lxg rfl rfl rfl (op_index_mv rfl rfl el44 sz27 rfl (by omega)) rfl ?_
        refine lxg rfl rfl rfl (op_tload (m := 0) (j := i) (fo := 0) rfl rfl ag27 sz27 WF.len (by omega) (List.getElem?_eq_getElem (by omega : i < xs.length)) rfl rfl) rfl ?_
        refine lxg rfl rfl rfl (op_move rfl) rfl ?_
        first | refine lxg rfl rfl rfl (op_callV (l := [(Go.Operand.tmp 44), (Go.Operand.tmp 45)]) rfl (scmp_ok (xs[i]'(by omega)) x) (.cons rfl (.cons rfl .nil)) fn44) rfl ?_ | refine lxg rfl rfl rfl (op_callV (l := [(Go.Operand.tmp 44), (Go.Operand.tmp 45)]) rfl (scmp_ok (xs[i]'(by omega)) x) (.ent rfl (by repeat (first | exact Ents.nil | refine Ents.cons ?_ ?_ | refine Ent.tup ?_ | refine Ent.agg ?_ | exact Ent.row _ _ _ _ | exact Ent.nil _ _ | exact Ent.func _ | exact Ent.refl _ | exact Ent.of_eq rfl | refine Ent.cells ?_)) (.ent rfl (by repeat (first | exact Ents.nil | refine Ents.cons ?_ ?_ | refine Ent.tup ?_ | refine Ent.agg ?_ | exact Ent.row _ _ _ _ | exact Ent.nil _ _ | exact Ent.func _ | exact Ent.refl _ | exact Ent.of_eq rfl | refine Ent.cells ?_)) .nil)) fn44) rfl ?_
        refine lxg rfl rfl rfl (op_eql rfl rfl) rfl ?_
        refine lx (op_pick_t rfl rfl) rfl ?_
        refine lx (op_assign rfl) rfl ?_
        refine lx (op_assign rfl) rfl ?_
        refine lx_end ⟨by kernel_rfl, ?_⟩
        refine pe_then_normal ?_
        refine tr_sub hC (.cons (t := 6) rfl (.cons (t := 7) rfl .nil)) (.cons (t := 0) rfl .nil) rfl ?_
        refine tr_ret ?_
        refine pe_ownT' (rs := [.tmp 6, .tmp 7]) [0] rfl rfl hO rfl (.tmp rfl (.tmp rfl .nil)) .nil rfl rfl rfl ?_
        intro τ ι hs
        refine ⟨?_, ?_⟩
        · rw [hps, hfd]
          exact fun v h => h
        · exact (.kept rfl rfl (fun b o h => h) .nil)
      · (try simp only [Bool.and_eq_true, Bool.or_eq_true, Bool.and_eq_false_iff, Bool.or_eq_false_iff, decide_eq_true_eq, decide_eq_false_iff_not, Bool.not_eq_true', Bool.not_eq_false', List.length_map, ne_eq, Decidable.not_not, Int.not_lt, Int.not_le] at h39)
        have hfd := fnd_no (by omega) hi1
        refine lx_skip rfl rfl rfl (by first | exact notThe_bool rfl | exact notThe_undef) rfl ?_
        refine lx_skip rfl rfl rfl (by first | exact notThe_bool rfl | exact notThe_undef) rfl ?_
        refine lx_skip rfl rfl rfl (by first | exact notThe_bool rfl | exact notThe_undef) rfl ?_
        refine lx_skip rfl rfl rfl (by first | exact notThe_bool rfl | exact notThe_undef) rfl ?_
        refine lx_skip rfl rfl rfl (by first | exact notThe_bool rfl | exact notThe_undef) rfl ?_
        refine lx_skip rfl rfl rfl (by first | exact notThe_bool rfl | exact notThe_undef) rfl ?_
        refine lx_skip rfl rfl rfl (by first | exact notThe_bool rfl | exact notThe_undef) rfl ?_
        refine lx_skip rfl rfl rfl (by first | exact notThe_bool rfl | exact notThe_undef) rfl ?_
        refine lx (op_pick_f rfl rfl) rfl ?_
        refine lx (op_assign rfl) rfl ?_
        refine lx (op_assign rfl) rfl ?_
        refine lx_end ⟨by kernel_rfl, ?_⟩
        refine pe_then_normal ?_
        refine tr_sub hC (.cons (t := 6) rfl (.cons (t := 7) rfl .nil)) (.cons (t := 0) rfl .nil) rfl ?_
        refine tr_ret ?_
        refine pe_ownT' (rs := [.tmp 6, .tmp 7]) [0] rfl rfl hO rfl (.tmp rfl (.tmp rfl .nil)) .nil rfl rfl rfl ?_
        intro τ ι hs
        refine ⟨?_, ?_⟩
        · rw [hps, hfd]
          exact fun v h => h
        · exact (.kept rfl rfl (fun b o h => h) .nil)
theorem insert_ok (id idv : AL.Id) (xs : List WF) (i : Nat) (v : WF) (hi : i ≤ xs.length) (hx : xs.length ≤ 4000000) : FnOK Try.prog 46 [mvP id 3 0 xs.length xs.length, eqP (.int .i64 (i : Int)), rowP idv WF.ps 3 [v]] [(id, blkX 3 27 (xs.flatMap WF.ps)), (idv, tail 27 3 (([v] : List WF).length * 3))] 1 (fun ι => mvP (ι 0) 3 0 (xs.length + 1) (xs.length + 1)) (fun ι => [(ι 0, blkX 3 27 ((insL xs i v).flatMap WF.ps))]) := by
  have hv1 : ([v] : List WF).length = 1 := rfl
  refine fn_ownN Try.func46 rfl Try.ntmps46 rfl ?_
  intro σ0 M Rf R hC hO
  simp only [frameOf, tokOf]
  refine tr_seq ?_
  refine tr_region (fun N0 hN => ?_)
  refine lx (op_assign rfl) rfl ?_
  refine lx_end ⟨by kernel_rfl, ?_⟩
  refine pe_then_normal ?_
  refine tr_sub hC (.cons (t := 0) rfl (.cons (t := 1) rfl (.cons (t := 2) rfl .nil))) (.cons (t := 0) rfl (.cons (t := 1) rfl .nil)) rfl ?_
  refine tr_seq ?_
  refine tr_region (fun N1 hN => ?_)
  refine lx (op_move rfl) rfl ?_
  refine lx (op_move rfl) rfl ?_
  refine lx (op_mslice_l rfl rfl el44 sz27 rfl (by omega)) rfl ?_
  refine lx_end ⟨by kernel_rfl, ?_⟩
  refine pe_then_normal ?_
  refine tr_sub hC (.cons (t := 0) rfl (.cons (t := 1) rfl (.cons (t := 2) rfl .nil))) (.cons (t := 0) rfl (.cons (t := 1) rfl .nil)) rfl ?_
  refine tr_seq ?_
  refine tr_region (fun N2 hN => ?_)
  refine lx (op_move rfl) rfl ?_
  first | refine lx (op_len rfl el44) rfl ?_ | refine lx (op_len_row rfl el44) rfl ?_ | refine lx (op_len_mv rfl el44) rfl ?_ | refine lx (op_len_nil rfl el44) rfl ?_
  refine lx (op_assign rfl) rfl ?_
  refine lx_end ⟨by kernel_rfl, ?_⟩
  refine pe_then_normal ?_
  refine tr_sub hC (.cons (t := 0) rfl (.cons (t := 1) rfl (.cons (t := 2) rfl (.cons (t := 7) rfl .nil)))) (.cons (t := 0) rfl (.cons (t := 1) rfl .nil)) rfl ?_
  refine tr_seq ?_
  refine tr_seq ?_
  refine tr_region (fun N3 hN => ?_)
  refine lx (op_move rfl) rfl ?_
  refine lx (op_eql rfl rfl) rfl ?_
  refine lx_end ⟨by kernel_rfl, ?_⟩
  refine pe_then_normal ?_
  refine tr_sub hC (.cons (t := 0) rfl (.cons (t := 1) rfl (.cons (t := 2) rfl (.cons (t := 7) rfl (.cons (t := 16) rfl .nil))))) (.cons (t := 0) rfl (.cons (t := 1) rfl .nil)) rfl ?_
  refine tr_cond rfl (fun h16 => ?_) (fun h16 => ?_)
  · (try simp only [Bool.and_eq_true, Bool.or_eq_true, Bool.and_eq_false_iff, Bool.or_eq_false_iff, decide_eq_true_eq, decide_eq_false_iff_not, Bool.not_eq_true', Bool.not_eq_false', List.length_map, ne_eq, Decidable.not_not, Int.not_lt, Int.not_le] at h16)
    exact absurd h16 (by simp)
  · (try simp only [Bool.and_eq_true, Bool.or_eq_true, Bool.and_eq_false_iff, Bool.or_eq_false_iff, decide_eq_true_eq, decide_eq_false_iff_not, Bool.not_eq_true', Bool.not_eq_false', List.length_map, ne_eq, Decidable.not_not, Int.not_lt, Int.not_le] at h16)
    refine tr_skip ?_
    refine pe_then_normal ?_
    refine tr_sub hC (.cons (t := 0) rfl (.cons (t := 1) rfl (.cons (t := 2) rfl (.cons (t := 7) rfl .nil)))) (.cons (t := 0) rfl (.cons (t := 1) rfl .nil)) rfl ?_
    refine tr_seq ?_
    refine tr_region (fun N5 hN => ?_)
    refine lx (op_move rfl) rfl ?_
    first | refine lx (op_len rfl el44) rfl ?_ | refine lx (op_len_row rfl el44) rfl ?_ | refine lx (op_len_mv rfl el44) rfl ?_ | refine lx (op_len_nil rfl el44) rfl ?_
    refine lx (op_assign rfl) rfl ?_
    refine lx_end ⟨by kernel_rfl, ?_⟩
    refine pe_then_normal ?_
    refine tr_sub hC (.cons (t := 0) rfl (.cons (t := 1) rfl (.cons (t := 2) rfl (.cons (t := 7) rfl (.cons (t := 8) rfl .nil))))) (.cons (t := 0) rfl (.cons (t := 1) rfl .nil)) rfl ?_
    refine tr_seq ?_
    refine tr_seq ?_
    refine tr_region (fun N6 hN => ?_)
    refine lx (op_move rfl) rfl ?_
    refine lx (op_move rfl) rfl ?_
    refine lx (op_eql rfl rfl) rfl ?_
    refine lx_end ⟨by kernel_rfl, ?_⟩
    refine pe_then_normal ?_
    refine tr_sub hC (.cons (t := 0) rfl (.cons (t := 1) rfl (.cons (t := 2) rfl (.cons (t := 7) rfl (.cons (t := 8) rfl (.cons (t := 22) rfl .nil)))))) (.cons (t := 0) rfl (.cons (t := 1) rfl .nil)) rfl ?_
    refine tr_cond rfl (fun h22 => ?_) (fun h22 => ?_)
    · (try simp only [Bool.and_eq_true, Bool.or_eq_true, Bool.and_eq_false_iff, Bool.or_eq_false_iff, decide_eq_true_eq, decide_eq_false_iff_not, Bool.not_eq_true', Bool.not_eq_false', List.length_map, ne_eq, Decidable.not_not, Int.not_lt, Int.not_le] at h22)
      obtain rfl : i = xs.length := by omega
      refine tr_sub hC (.cons (t := 0) rfl (.cons (t := 1) rfl (.ent (t := 2) rfl (Ent.row _ _ _ _) (.cons (t := 7) rfl (.cons (t := 8) rfl (.cons (t := 22) rfl .nil)))))) (.cons (t := 0) rfl (.cons (t := 1) rfl .nil)) rfl ?_
      refine tr_seq ?_
      refine tr_region (fun N7 hN => ?_)
      refine lx (op_move rfl) rfl ?_
      refine lx (op_move rfl) rfl ?_
      refine lxr (op_append_t (m := 0) (m' := 0) (kk := 25) (f := WF.ps) rfl rfl rfl (.inl rfl) el44 ze27 sz27 by27 rfl (by decide) WF.len (by simp; omega) (by simp; omega)) rfl ?_
      refine lx (op_assign rfl) rfl ?_
      refine lx_end ⟨by kernel_rfl, ?_⟩
      refine pe_then_normal ?_
      refine tr_sub hC (.cons (t := 6) rfl .nil) (.cons (t := 1) rfl (.cons (t := 0) rfl .nil)) rfl ?_
      refine tr_ret ?_
      refine pe_then_ret ?_
      refine pe_ownS' [0] rfl hO rfl (.tmp rfl .nil) (.cons (m := 0) rfl (RenR.blk _ _ _) .nil) rfl rfl rfl ?_
      intro τ ι hs'
      refine ⟨?_, ?_⟩
      · exact mv_ren' (hs' 0 _ rfl).1 (hs' 0 _ rfl).2 (by first | omega | (simp; done) | (simp; omega)) (by first | omega | (simp; done) | (simp; omega))
      · exact (.moved rfl (by rw [← insL_end]; exact fun b o h => h) .nil)
    · (try simp only [Bool.and_eq_true, Bool.or_eq_true, Bool.and_eq_false_iff, Bool.or_eq_false_iff, decide_eq_true_eq, decide_eq_false_iff_not, Bool.not_eq_true', Bool.not_eq_false', List.length_map, ne_eq, Decidable.not_not, Int.not_lt, Int.not_le] at h22)
      have hlt : i < xs.length := by omega
      refine tr_skip ?_
      refine pe_then_normal ?_
      refine tr_sub hC (.cons (t := 0) rfl (.cons (t := 1) rfl (.cons (t := 2) rfl (.cons (t := 7) rfl (.cons (t := 8) rfl .nil))))) (.cons (t := 0) rfl (.cons (t := 1) rfl .nil)) rfl ?_
      refine tr_room2 0 700 rfl (fun z hz1 hz2 hz3 => ?_)
      refine tr_seq ?_
      refine tr_seq ?_
      refine tr_region (fun N8 hN => ?_)
      refine lx (op_move rfl) rfl ?_
      refine lx (op_move rfl) rfl ?_
      refine lx (op_add rfl rfl (by omega)) rfl ?_
      refine lx (op_move rfl) rfl ?_
      refine lx (op_cap_z 700 rfl rfl el44) rfl ?_
      refine lx (op_gtr rfl rfl) rfl ?_
      refine lx_end ⟨by kernel_rfl, ?_⟩
      refine pe_then_normal ?_
      refine tr_sub hC (.cons (t := 0) rfl (.cons (t := 1) rfl (.cons (t := 2) rfl (.cons (t := 7) rfl (.cons (t := 8) rfl (.cons (t := 31) rfl (.cons (t := 700) rfl .nil))))))) (.cons (t := 0) rfl (.cons (t := 1) rfl .nil)) rfl ?_
      refine tr_cond rfl (fun h31 => ?_) (fun h31 => ?_)
      · (try simp only [Bool.and_eq_true, Bool.or_eq_true, Bool.and_eq_false_iff, Bool.or_eq_false_iff, decide_eq_true_eq, decide_eq_false_iff_not, Bool.not_eq_true', Bool.not_eq_false', List.length_map, ne_eq, Decidable.not_not, Int.not_lt, Int.not_le] at h31)
        have hgr : z < xs.length + 1 := by omega
        refine tr_seq ?_
        refine tr_region (fun N9 hN => ?_)
        refine lx (op_move rfl) rfl ?_
        refine lx (op_move rfl) rfl ?_
        refine lx (op_mslice_h rfl rfl el44 sz27 rfl (by omega)) rfl ?_
        refine lx (op_move rfl) rfl ?_
        refine lx (op_move rfl) rfl ?_
        refine lx (op_add rfl rfl (by omega)) rfl ?_
        refine lx (op_move rfl) rfl ?_
        refine lx (op_sub rfl rfl (by omega)) rfl ?_
        refine lxn (op_append_zeros_t (m := 0) (m' := 40) (kk := 40) (u := 700) (f := WF.ps) (cz := xs.length + 1 - i) WF0 rfl rfl (by omega) (by omega) rfl (by omega) rfl (by first | exact hC.low _ (by decide) | rfl) (by omega) WF.len (by repeat (first | exact Ents.nil | refine Ents.cons ?_ ?_ | refine Ent.tup ?_ | refine Ent.agg ?_ | exact Ent.row _ _ _ _ | exact Ent.nil _ _ | exact Ent.func _ | exact Ent.refl _ | exact Ent.of_eq rfl | refine Ent.cells ?_)) el44 ik3 ze27 sz27 by27 rfl rfl rfl (by omega) (by omega)) rfl ?_
        refine lx (op_assign rfl) rfl ?_
        refine lx_end ⟨by kernel_rfl, ?_⟩
        refine pe_then_normal ?_
        refine tr_sub hC (.cons (t := 0) rfl (.cons (t := 1) rfl (.cons (t := 2) rfl (.cons (t := 7) rfl (.cons (t := 9) rfl (.cons (t := 700) rfl .nil)))))) (.cons (t := 0) rfl (.cons (t := 1) rfl (.cons (t := 40) rfl .nil))) rfl ?_
        refine tr_sub hC (.cons (t := 0) rfl (.cons (t := 1) rfl (.ent (t := 2) rfl (Ent.row _ _ _ _) (.cons (t := 7) rfl (.cons (t := 9) rfl (.cons (t := 700) rfl .nil)))))) (.cons (t := 0) rfl (.cons (t := 1) rfl (.cons (t := 40) rfl .nil))) rfl ?_
        refine tr_seq ?_
        refine tr_region (fun N10 hN => ?_)
        refine lx (op_move rfl) rfl ?_
        refine lx (op_move rfl) rfl ?_
        refine lx (op_mslice_l rfl rfl el44 sz27 rfl (by omega)) rfl ?_
        refine lx (op_move rfl) rfl ?_
        refine lxr (op_copy_sl (m := 40) (f := WF.ps) rfl rfl rfl el44 sz27 (by decide) WF.len (by simp) (by simp; omega) (by first | omega | (simp [spl]; omega))) rfl ?_
        refine lx_end ⟨by kernel_rfl, ?_⟩
        refine pe_then_normal ?_
        refine tr_sub hC (.cons (t := 0) rfl (.cons (t := 1) rfl (.cons (t := 7) rfl (.cons (t := 9) rfl (.cons (t := 700) rfl .nil))))) (.cons (t := 0) rfl (.cons (t := 1) rfl (.cons (t := 40) rfl .nil))) rfl ?_
        refine tr_seq ?_
        refine tr_drawn mixed (fun N11 hN => ?_)
        refine lx (op_move rfl) rfl ?_
        refine lx (op_move rfl) rfl ?_
        refine lx (op_move rfl) rfl ?_
        refine lx (op_add rfl rfl (by omega)) rfl ?_
        refine lx (op_mslice_l rfl rfl el44 sz27 (lo := i + 1) (by omega) (by omega)) rfl ?_
        refine lx (op_move rfl) rfl ?_
        refine lx (op_move rfl) rfl ?_
        refine lx (op_mslice_l rfl rfl el44 sz27 rfl (by omega)) rfl ?_
        refine lxr (op_copy_two (m := 40) (m2 := 0) (f := WF.ps) (cnt := xs.length - i) rfl rfl rfl rfl el44 sz27 (by decide) WF.len (by omega) (by show min _ _ = _; omega) (by simp [spl]; omega) (by omega)) rfl ?_
        refine lx_end ⟨by kernel_rfl, ?_⟩
        refine pe_then_normal ?_
        refine tr_sub hC (.cons (t := 9) rfl (.cons (t := 700) rfl .nil)) (.cons (t := 0) rfl (.cons (t := 1) rfl (.cons (t := 40) rfl .nil))) rfl ?_
        refine tr_seq ?_
        refine tr_region (fun N12 hN => ?_)
        refine lx (op_move rfl) rfl ?_
        refine lx (op_assign rfl) rfl ?_
        refine lx_end ⟨by kernel_rfl, ?_⟩
        refine pe_then_normal ?_
        refine tr_sub hC (.cons (t := 6) rfl (.cons (t := 700) rfl .nil)) (.cons (t := 0) rfl (.cons (t := 1) rfl (.cons (t := 40) rfl .nil))) rfl ?_
        refine tr_ret ?_
        refine pe_then_ret ?_
        refine pe_ownS' [40] rfl hO rfl (.tmp rfl .nil) (.cons (m := 40) rfl (RenR.blk _ _ _) .nil) rfl rfl rfl ?_
        intro τ ι hs'
        refine ⟨?_, ?_⟩
        · exact mv_ren' (hs' 0 _ rfl).1 (hs' 0 _ rfl).2 (by first | omega | (simp; done) | (simp; omega)) (by first | omega | (simp; done) | (simp; omega))
        · exact (.moved rfl (by rw [← insL_grow2 (d := WF0) hlt rfl]; exact fun b o h => h) .nil)
      · (try simp only [Bool.and_eq_true, Bool.or_eq_true, Bool.and_eq_false_iff, Bool.or_eq_false_iff, decide_eq_true_eq, decide_eq_false_iff_not, Bool.not_eq_true', Bool.not_eq_false', List.length_map, ne_eq, Decidable.not_not, Int.not_lt, Int.not_le] at h31)
        have hro : xs.length + 1 ≤ z := by omega
        refine tr_skip ?_
        refine pe_then_normal ?_
        refine tr_sub hC (.cons (t := 0) rfl (.cons (t := 1) rfl (.cons (t := 2) rfl (.cons (t := 7) rfl (.cons (t := 8) rfl (.cons (t := 700) rfl .nil)))))) (.cons (t := 0) rfl (.cons (t := 1) rfl .nil)) rfl ?_
        refine tr_seq ?_
        refine tr_region (fun N13 hN => ?_)
        refine lx (op_move rfl) rfl ?_
        refine lx (op_move rfl) rfl ?_
        refine lx (op_move rfl) rfl ?_
        refine lx (op_add rfl rfl (by omega)) rfl ?_
        refine lx (op_mslice_xh (hi := xs.length + 1) rfl rfl el44 sz27 (by omega) (by omega)) rfl ?_
        refine lx (op_assign rfl) rfl ?_
        refine lx_end ⟨by kernel_rfl, ?_⟩
        refine pe_then_normal ?_
        refine tr_sub hC (.cons (t := 0) rfl (.cons (t := 1) rfl (.cons (t := 2) rfl (.cons (t := 7) rfl (.cons (t := 8) rfl (.cons (t := 700) rfl .nil)))))) (.cons (t := 0) rfl (.cons (t := 1) rfl .nil)) rfl ?_
        refine tr_seq ?_
        refine tr_seq ?_
        refine tr_region (fun N14 hN => ?_)
        refine lx (op_move rfl) rfl ?_
        refine lx (op_move rfl) rfl ?_
        refine lx (op_move rfl) rfl ?_
        refine lx (op_move rfl) rfl ?_
        refine lx (op_add rfl rfl (by omega)) rfl ?_
        refine lx (op_mslice_l rfl rfl el44 sz27 (lo := i + 1) (by omega) (by omega)) rfl ?_
        refine lx (op_overlaps (tS := 44) (tR := 4) (ma := 1) (mb := 0) Try.func48 ⟨⟨rfl, rfl⟩, by kernel_rfl⟩ (by kernel_rfl) rfl rfl rfl rfl rfl rfl (by omega) (by decide) el44 sz27) rfl ?_
        first | refine lx (op_not rfl) rfl ?_ | refine lx (op_not_b rfl) rfl ?_
        refine lx_end ⟨by kernel_rfl, ?_⟩
        refine pe_then_normal ?_
        refine tr_sub hC (.cons (t := 0) rfl (.cons (t := 1) rfl (.cons (t := 2) rfl (.cons (t := 7) rfl (.cons (t := 8) rfl (.cons (t := 68) rfl (.cons (t := 700) rfl .nil))))))) (.cons (t := 0) rfl (.cons (t := 1) rfl .nil)) rfl ?_
        refine tr_cond rfl (fun h68 => ?_) (fun h68 => ?_)
        · (try simp only [Bool.and_eq_true, Bool.or_eq_true, Bool.and_eq_false_iff, Bool.or_eq_false_iff, decide_eq_true_eq, decide_eq_false_iff_not, Bool.not_eq_true', Bool.not_eq_false', List.length_map, ne_eq, Decidable.not_not, Int.not_lt, Int.not_le] at h68)
          refine tr_seq ?_
          refine tr_drawn mixed (fun N15 hN => ?_)
          refine lx (op_move rfl) rfl ?_
          refine lx (op_move rfl) rfl ?_
          refine lx (op_move rfl) rfl ?_
          refine lx (op_add rfl rfl (by omega)) rfl ?_
          refine lx (op_mslice_l rfl rfl el44 sz27 (lo := i + 1) (by omega) (by omega)) rfl ?_
          refine lx (op_move rfl) rfl ?_
          refine lx (op_move rfl) rfl ?_
          refine lx (op_mslice_l rfl rfl el44 sz27 rfl (by omega)) rfl ?_
          refine lxr (op_copy_in (m := 0) (f := WF.ps) (cnt := xs.length - i) rfl rfl rfl el44 sz27 (by decide) WF.len (by omega) (by show min _ _ = _; omega) (by omega) (by omega)) rfl ?_
          refine lx_end ⟨by kernel_rfl, ?_⟩
          refine pe_then_normal ?_
          refine tr_sub hC (.cons (t := 0) rfl (.cons (t := 1) rfl (.cons (t := 2) rfl (.cons (t := 700) rfl .nil)))) (.cons (t := 0) rfl (.cons (t := 1) rfl .nil)) rfl ?_
          refine tr_sub hC (.cons (t := 0) rfl (.cons (t := 1) rfl (.ent (t := 2) rfl (Ent.row _ _ _ _) (.cons (t := 700) rfl .nil)))) (.cons (t := 0) rfl (.cons (t := 1) rfl .nil)) rfl ?_
          refine tr_seq ?_
          refine tr_region (fun N16 hN => ?_)
          refine lx (op_move rfl) rfl ?_
          refine lx (op_move rfl) rfl ?_
          refine lx (op_mslice_l rfl rfl el44 sz27 rfl (by omega)) rfl ?_
          refine lx (op_move rfl) rfl ?_
          refine lxr (op_copy_sl (m := 0) (f := WF.ps) rfl rfl rfl el44 sz27 (by decide) WF.len (by simp) (by simp; omega) (by first | omega | (simp [spl]; omega))) rfl ?_
          refine lx_end ⟨by kernel_rfl, ?_⟩
          refine pe_then_normal ?_
          refine tr_sub hC (.cons (t := 0) rfl (.cons (t := 700) rfl .nil)) (.cons (t := 0) rfl (.cons (t := 1) rfl .nil)) rfl ?_
          refine tr_seq ?_
          refine tr_region (fun N17 hN => ?_)
          refine lx (op_move rfl) rfl ?_
          refine lx (op_assign rfl) rfl ?_
          refine lx_end ⟨by kernel_rfl, ?_⟩
          refine pe_then_normal ?_
          refine tr_sub hC (.cons (t := 6) rfl (.cons (t := 700) rfl .nil)) (.cons (t := 0) rfl (.cons (t := 1) rfl .nil)) rfl ?_
          refine tr_ret ?_
          refine pe_then_ret ?_
          refine pe_ownS' [0] rfl hO rfl (.tmp rfl .nil) (.cons (m := 0) rfl (RenR.blk _ _ _) .nil) rfl rfl rfl ?_
          intro τ ι hs'
          refine ⟨?_, ?_⟩
          · exact mv_ren' (hs' 0 _ rfl).1 (hs' 0 _ rfl).2 (by first | omega | (simp; done) | (simp; omega)) (by first | omega | (simp; done) | (simp; omega))
          · exact (.moved rfl (by rw [← insL_in2 hlt]; exact fun b o h => h) .nil)
        · exact absurd h68 (by decide)
end Go.Proofs.Ytgdhogmghffbaaa


set_option linter.unusedVariables false
set_option linter.unusedSimpArgs false
namespace Go.Proofs.Ytgdhogmghffbaaa
open Go.AL Go.Wr Go.RowKit
theorem fn12 : fnB Try.prog 12 = true := by kernel_rfl
theorem fn43 : fnB Try.prog 43 = true := by kernel_rfl
theorem fn46 : fnB Try.prog 46 = true := by kernel_rfl
set_option maxHeartbeats 2000000 in
theorem Receive_ok (e : WE) (b : List Int) (hb : isB b) (hl : b.length ≤ 1000000) : FnP Try.prog 30 [aggP e.ps, slP byP 1 b] (tupP [aggP (recvF e b).1.ps, slP byS 1 (recvF e b).2.1, eqP (.int .i64 (recvF e b).2.2)]) := by
  obtain ⟨f, hf⟩ : ∃ f, f = (decodeF b).1 := ⟨_, rfl⟩
  obtain ⟨c, hcc⟩ : ∃ c, c = (decodeF b).2 := ⟨_, rfl⟩
  obtain ⟨l, hl1⟩ : ∃ l, l = early1 e f := ⟨_, rfl⟩
  refine fn_pure' Try.func30 rfl Try.ntmps30 rfl ?_
  intro σ0 M ex Rf R hC hO
  simp only [frameOf, tokOf]
  refine tr_seq ?_
  refine tr_region (fun N0 hN => ?_)
  refine lxn (op_box (m := 2) (k := 2) rfl (.agg rfl) (by first | exact hC.low _ (by decide) | rfl)) rfl ?_
  refine lxn (op_alloc (m := 4) (k := 4) (ps := [eqP (.int .i64 0), eqP (.int .i64 0), eqP (.slice none 0 0), eqP (.int .i64 0), eqP (.slice none 0 0)]) ze46 rfl rfl (by first | exact hC.low _ (by decide) | rfl)) rfl ?_
  refine lx (op_assign rfl) rfl ?_
  refine lx (op_assign rfl) rfl ?_
  refine lx_end ⟨by kernel_rfl, ?_⟩
  refine pe_then_normal ?_
  refine tr_sub hC (.cons (t := 1) rfl (.cons (t := 2) rfl (.cons (t := 4) rfl .nil))) (.cons (t := 2) rfl (.cons (t := 4) rfl .nil)) rfl ?_
  refine tr_seq ?_
  refine tr_seq ?_
  refine tr_region (fun N1 hN => ?_)
  refine lx (op_bload (m := 2) rfl rfl ag46 sz46) rfl ?_
  first | refine lx (op_call (l := [(Go.Operand.tmp 13)]) (Valid_ok e) (.cons rfl .nil) fn22) rfl ?_ | refine lx (op_call (l := [(Go.Operand.tmp 13)]) (Valid_ok e) (.ent rfl (by repeat (first | exact Ents.nil | refine Ents.cons ?_ ?_ | refine Ent.tup ?_ | refine Ent.agg ?_ | exact Ent.row _ _ _ _ | exact Ent.nil _ _ | exact Ent.func _ | exact Ent.refl _ | exact Ent.of_eq rfl | refine Ent.cells ?_)) .nil) fn22) rfl ?_
  first | refine lx (op_not rfl) rfl ?_ | refine lx (op_not_b rfl) rfl ?_
  refine lx_end ⟨by kernel_rfl, ?_⟩
  refine pe_then_normal ?_
  refine tr_sub hC (.cons (t := 1) rfl (.cons (t := 2) rfl (.cons (t := 4) rfl (.cons (t := 15) rfl .nil)))) (.cons (t := 2) rfl (.cons (t := 4) rfl .nil)) rfl ?_
  refine tr_cond rfl (fun h15 => ?_) (fun h15 => ?_)
  · have hv : validF e = false := by simpa using h15
    have h := recv_1 (b := b) hv
    refine tr_seq ?_
    refine tr_region (fun N2 hN => ?_)
    refine lx (op_bload (m := 2) rfl rfl ag46 sz46) rfl ?_
    refine lxr (op_store_all (m := 4) rfl rfl rfl (.agg rfl) sz46 rfl) rfl ?_
    refine lx (op_assign rfl) rfl ?_
    refine lx (op_assign rfl) rfl ?_
    refine lx_end ⟨by kernel_rfl, ?_⟩
    refine pe_then_normal ?_
    refine tr_sub hC (.cons (t := 4) rfl (.cons (t := 5) rfl (.cons (t := 6) rfl .nil))) (.cons (t := 4) rfl .nil) rfl ?_
    refine tr_ret ?_
    refine pe_then_ret ?_
    refine pe_retN (rs := [.cell 4 46, .tmp 5, .tmp 6]) rfl rfl hO rfl (.cell (m := 4) rfl rfl ag46 sz46 (.tmp rfl (.tmp rfl .nil))) ?_
    rw [h]
    repeat (first | exact Ents.nil | refine Ents.cons ?_ ?_ | refine Ent.tup ?_ | refine Ent.agg ?_ | exact Ent.row _ _ _ _ | exact Ent.nil _ _ | exact Ent.func _ | exact Ent.refl _ | exact Ent.of_eq rfl | refine Ent.cells ?_)
  · have hv : validF e = true := by simpa using h15
    have hh := valid_head hv
    unfold headOK at hh
    have hbd := valid_bd hv
    have hsrt : Srt e.early := (early_mem _ _ (valid_early hv)).2.1
    refine tr_skip ?_
    refine pe_then_normal ?_
    refine tr_sub hC (.cons (t := 1) rfl (.cons (t := 2) rfl (.cons (t := 4) rfl .nil))) (.cons (t := 2) rfl (.cons (t := 4) rfl .nil)) rfl ?_
    refine tr_seq ?_
    refine tr_region (fun N3 hN => ?_)
    refine lx (op_move rfl) rfl ?_
    first | refine lx (OpJ.ent (op_call (l := [(Go.Operand.tmp 18)]) (Decode_ok b hb hl) (.cons rfl .nil) fn12) (show Ent _ (tupP [aggP f.ps, eqP (.int .i64 c)]) from (by rw [hf, hcc]; exact Ent.refl _))) rfl ?_ | refine lx (OpJ.ent (op_call (l := [(Go.Operand.tmp 18)]) (Decode_ok b hb hl) (.ent rfl (by repeat (first | exact Ents.nil | refine Ents.cons ?_ ?_ | refine Ent.tup ?_ | refine Ent.agg ?_ | exact Ent.row _ _ _ _ | exact Ent.nil _ _ | exact Ent.func _ | exact Ent.refl _ | exact Ent.of_eq rfl | refine Ent.cells ?_)) .nil) fn12) (show Ent _ (tupP [aggP f.ps, eqP (.int .i64 c)]) from (by rw [hf, hcc]; exact Ent.refl _))) rfl ?_
    refine lx (op_move rfl) rfl ?_
    refine lx (op_extract rfl rfl) rfl ?_
    refine lx (op_extract rfl rfl) rfl ?_
    refine lxn (op_alloc (m := 7) (k := 7) (ps := [eqP (.int .i64 0), eqP (.int .i64 0), eqP (.slice none 0 0)]) ze27 rfl rfl (by first | exact hC.low _ (by decide) | rfl)) rfl ?_
    refine lxr (op_store_all (m := 7) rfl rfl rfl (.agg rfl) sz27 rfl) rfl ?_
    refine lx (op_assign rfl) rfl ?_
    refine lx_end ⟨by kernel_rfl, ?_⟩
    refine pe_then_normal ?_
    refine tr_sub hC (.cons (t := 2) rfl (.cons (t := 4) rfl (.cons (t := 7) rfl (.cons (t := 8) rfl .nil)))) (.cons (t := 2) rfl (.cons (t := 4) rfl (.cons (t := 7) rfl .nil))) rfl ?_
    refine tr_seq ?_
    refine tr_seq ?_
    refine tr_region (fun N4 hN => ?_)
    refine lx (op_move rfl) rfl ?_
    refine lx (op_neq rfl rfl) rfl ?_
    refine lx_end ⟨by kernel_rfl, ?_⟩
    refine pe_then_normal ?_
    refine tr_sub hC (.cons (t := 2) rfl (.cons (t := 4) rfl (.cons (t := 7) rfl (.cons (t := 8) rfl (.cons (t := 23) rfl .nil))))) (.cons (t := 2) rfl (.cons (t := 4) rfl (.cons (t := 7) rfl .nil))) rfl ?_
    refine tr_cond rfl (fun h23 => ?_) (fun h23 => ?_)
    · (try simp only [Bool.and_eq_true, Bool.or_eq_true, Bool.and_eq_false_iff, Bool.or_eq_false_iff, decide_eq_true_eq, decide_eq_false_iff_not, Bool.not_eq_true', Bool.not_eq_false', List.length_map, ne_eq, Decidable.not_not, Int.not_lt, Int.not_le] at h23)
      have h : recvF e b = (e, [], c) := by rw [hcc]; exact recv_2 hv (by rw [← hcc]; exact h23)
      refine tr_seq ?_
      refine tr_region (fun N5 hN => ?_)
      refine lx (op_bload (m := 2) rfl rfl ag46 sz46) rfl ?_
      refine lx (op_move rfl) rfl ?_
      refine lxr (op_store_all (m := 4) rfl rfl rfl (.agg rfl) sz46 rfl) rfl ?_
      refine lx (op_assign rfl) rfl ?_
      refine lx (op_assign rfl) rfl ?_
      refine lx_end ⟨by kernel_rfl, ?_⟩
      refine pe_then_normal ?_
      refine tr_sub hC (.cons (t := 4) rfl (.cons (t := 5) rfl (.cons (t := 6) rfl .nil))) (.cons (t := 4) rfl .nil) rfl ?_
      refine tr_ret ?_
      refine pe_then_ret ?_
      refine pe_retN (rs := [.cell 4 46, .tmp 5, .tmp 6]) rfl rfl hO rfl (.cell (m := 4) rfl rfl ag46 sz46 (.tmp rfl (.tmp rfl .nil))) ?_
      rw [h]
      repeat (first | exact Ents.nil | refine Ents.cons ?_ ?_ | refine Ent.tup ?_ | refine Ent.agg ?_ | exact Ent.row _ _ _ _ | exact Ent.nil _ _ | exact Ent.func _ | exact Ent.refl _ | exact Ent.of_eq rfl | refine Ent.cells ?_)
    · (try simp only [Bool.and_eq_true, Bool.or_eq_true, Bool.and_eq_false_iff, Bool.or_eq_false_iff, decide_eq_true_eq, decide_eq_false_iff_not, Bool.not_eq_true', Bool.not_eq_false', List.length_map, ne_eq, Decidable.not_not, Int.not_lt, Int.not_le] at h23)
      have hre : recvF e b = recvE e f := by rw [hf]; exact recv_e hv (by rw [← hcc]; exact h23)
      have hfo : frOK f := by rw [hf]; exact (dec_ok (by rw [← hcc]; exact h23)).1
      unfold frOK at hfo
      have hll : l.length ≤ 17 := by rw [hl1]; exact early1_len hbd
      have hbs := hbd.sent
      refine tr_skip ?_
      refine pe_then_normal ?_
      refine tr_sub hC (.cons (t := 2) rfl (.cons (t := 4) rfl (.cons (t := 7) rfl .nil))) (.cons (t := 2) rfl (.cons (t := 4) rfl (.cons (t := 7) rfl .nil))) rfl ?_
      refine tr_seq ?_
      refine tr_seq ?_
      refine tr_region (fun N6 hN => ?_)
      refine lx (op_fieldAddr rfl fl27_1 sz3) rfl ?_
      refine lx (op_bload_one (m := 7) rfl rfl ag3 rfl) rfl ?_
      refine lx (op_fieldAddr rfl fl46_1 sz3) rfl ?_
      refine lx (op_bload_one (m := 2) rfl rfl ag3 rfl) rfl ?_
      refine lx (op_fieldAddr rfl fl46_2 sz43) rfl ?_
      refine lx (op_bload_one (m := 2) rfl rfl ag43 rfl) rfl ?_
      first | refine lx (op_len rfl el43) rfl ?_ | refine lx (op_len_row rfl el43) rfl ?_ | refine lx (op_len_mv rfl el43) rfl ?_ | refine lx (op_len_nil rfl el43) rfl ?_
      refine lx (op_add rfl rfl (by omega)) rfl ?_
      refine lx (op_gtr rfl rfl) rfl ?_
      refine lx (op_move rfl) rfl ?_
      refine lxs rfl rfl rfl guard_eq (.cons (t := 7) rfl (fun _ => Ent.refl _) .nil) (op_fieldAddr rfl fl27_0 sz3) rfl ?_
      refine lxs rfl rfl rfl guard_eq (.cons (t := 36) rfl (fun h => entW h) .nil) (op_bload_one (m := 7) rfl rfl ag3 rfl) rfl ?_
      refine lxs rfl rfl rfl guard_eq (.cons (t := 2) rfl (fun _ => Ent.refl _) .nil) (op_fieldAddr rfl fl46_3 sz3) rfl ?_
      refine lxs rfl rfl rfl guard_eq (.cons (t := 38) rfl (fun h => entW h) .nil) (op_bload_one (m := 2) rfl rfl ag3 rfl) rfl ?_
      refine lxs rfl rfl rfl guard_eq (.cons (t := 2) rfl (fun _ => Ent.refl _) .nil) (op_fieldAddr rfl fl46_0 sz3) rfl ?_
      refine lxs rfl rfl rfl guard_eq (.cons (t := 40) rfl (fun h => entW h) .nil) (op_bload_one (m := 2) rfl rfl ag3 rfl) rfl ?_
      refine lxs rfl rfl rfl guard_eq (.cons (t := 39) rfl (fun h => entW h) (.cons (t := 41) rfl (fun h => entW h) .nil)) (op_add rfl rfl (by omega)) rfl ?_
      refine lxs rfl rfl rfl guard_eq (.cons (t := 42) rfl (fun h => entW h) .nil) (op_min rfl rfl) rfl ?_
      refine lxs rfl rfl rfl guard_eq (.cons (t := 37) rfl (fun h => entW h) (.cons (t := 43) rfl (fun h => entW h) .nil)) (op_gtr rfl rfl) rfl ?_
      refine lx (op_pick_or rfl rfl) rfl ?_
      refine lx_end ⟨by kernel_rfl, ?_⟩
      refine pe_then_normal ?_
      refine tr_sub hC (.cons (t := 2) rfl (.cons (t := 4) rfl (.cons (t := 7) rfl (.cons (t := 45) rfl .nil)))) (.cons (t := 2) rfl (.cons (t := 4) rfl (.cons (t := 7) rfl .nil))) rfl ?_
      refine tr_cond rfl (fun h45 => ?_) (fun h45 => ?_)
      · (try simp only [Bool.and_eq_true, Bool.or_eq_true, Bool.and_eq_false_iff, Bool.or_eq_false_iff, decide_eq_true_eq, decide_eq_false_iff_not, Bool.not_eq_true', Bool.not_eq_false', List.length_map, ne_eq, Decidable.not_not, Int.not_lt, Int.not_le] at h45)
        have h := recvE_3 (e := e) (f := f) (by unfold hiF; omega)
        rw [← hre] at h
        refine tr_seq ?_
        refine tr_region (fun N7 hN => ?_)
        refine lx (op_bload (m := 2) rfl rfl ag46 sz46) rfl ?_
        refine lxr (op_store_all (m := 4) rfl rfl rfl (.agg rfl) sz46 rfl) rfl ?_
        refine lx (op_assign rfl) rfl ?_
        refine lx (op_assign rfl) rfl ?_
        refine lx_end ⟨by kernel_rfl, ?_⟩
        refine pe_then_normal ?_
        refine tr_sub hC (.cons (t := 4) rfl (.cons (t := 5) rfl (.cons (t := 6) rfl .nil))) (.cons (t := 4) rfl .nil) rfl ?_
        refine tr_ret ?_
        refine pe_then_ret ?_
        refine pe_retN (rs := [.cell 4 46, .tmp 5, .tmp 6]) rfl rfl hO rfl (.cell (m := 4) rfl rfl ag46 sz46 (.tmp rfl (.tmp rfl .nil))) ?_
        rw [h]
        repeat (first | exact Ents.nil | refine Ents.cons ?_ ?_ | refine Ent.tup ?_ | refine Ent.agg ?_ | exact Ent.row _ _ _ _ | exact Ent.nil _ _ | exact Ent.func _ | exact Ent.refl _ | exact Ent.of_eq rfl | refine Ent.cells ?_)
      · (try simp only [Bool.and_eq_true, Bool.or_eq_true, Bool.and_eq_false_iff, Bool.or_eq_false_iff, decide_eq_true_eq, decide_eq_false_iff_not, Bool.not_eq_true', Bool.not_eq_false', List.length_map, ne_eq, Decidable.not_not, Int.not_lt, Int.not_le] at h45)
        have hin : ¬ (f.ack > e.base + (e.sent.length : Int) ∨ f.seq > hiF e) := by unfold hiF; omega
        refine tr_skip ?_
        refine pe_then_normal ?_
        refine tr_sub hC (.cons (t := 2) rfl (.cons (t := 4) rfl (.cons (t := 7) rfl .nil))) (.cons (t := 2) rfl (.cons (t := 4) rfl (.cons (t := 7) rfl .nil))) rfl ?_
        refine tr_seq ?_
        refine tr_region (fun N8 hN => ?_)
        refine lx (op_bload (m := 2) rfl rfl ag46 sz46) rfl ?_
        first | refine lx_any rfl (op_callG2 (l := [(Go.Operand.tmp 47)]) (add := [(601, ((N8, 100480), blkX 3 27 (e.early.flatMap WF.ps)))]) (ks := [100480]) (φ := aggP [eqP (.int .i64 e.window), eqP (.int .i64 e.base), slP byS 1 e.sent, eqP (.int .i64 e.got), mvP (N8, 100480) 3 0 e.early.length e.early.length]) .nil (clone_recv e hbd) (.cons rfl .nil) fn42 rfl rfl rfl (.new (by first | exact hC.low _ (by decide) | rfl) .nil) rfl) (dOK_spec rfl) ?_ | refine lx_any rfl (op_callG2 (l := [(Go.Operand.tmp 47)]) (add := [(601, ((N8, 100480), blkX 3 27 (e.early.flatMap WF.ps)))]) (ks := [100480]) (φ := aggP [eqP (.int .i64 e.window), eqP (.int .i64 e.base), slP byS 1 e.sent, eqP (.int .i64 e.got), mvP (N8, 100480) 3 0 e.early.length e.early.length]) .nil (clone_recv e hbd) (.ent rfl (by repeat (first | exact Ents.nil | refine Ents.cons ?_ ?_ | refine Ent.tup ?_ | refine Ent.agg ?_ | exact Ent.row _ _ _ _ | exact Ent.nil _ _ | exact Ent.func _ | exact Ent.refl _ | exact Ent.of_eq rfl | refine Ent.cells ?_)) .nil) fn42 rfl rfl rfl (.new (by first | exact hC.low _ (by decide) | rfl) .nil) rfl) (dOK_spec rfl) ?_
        refine lxr (op_store_all (m := 2) rfl rfl rfl (.agg rfl) sz46 rfl) rfl ?_
        refine lx_end ⟨by kernel_rfl, ?_⟩
        refine pe_then_normal ?_
        refine tr_sub hC (.cons (t := 2) rfl (.cons (t := 4) rfl (.cons (t := 7) rfl .nil))) (.cons (t := 2) rfl (.cons (t := 4) rfl (.cons (t := 7) rfl (.cons (t := 601) rfl .nil)))) rfl ?_
        refine tr_seq ?_
        refine tr_seq ?_
        refine tr_region (fun N9 hN => ?_)
        refine lx (op_fieldAddr rfl fl27_1 sz3) rfl ?_
        refine lx (op_bload_one (m := 7) rfl rfl ag3 rfl) rfl ?_
        refine lx (op_fieldAddr rfl fl46_1 sz3) rfl ?_
        refine lx (op_bload_one (m := 2) rfl rfl ag3 rfl) rfl ?_
        refine lx (op_sub rfl rfl (by omega)) rfl ?_
        refine lx (op_assign rfl) rfl ?_
        refine lx_end ⟨by kernel_rfl, ?_⟩
        refine pe_then_normal ?_
        refine tr_sub hC (.cons (t := 2) rfl (.cons (t := 4) rfl (.cons (t := 7) rfl (.cons (t := 9) rfl .nil)))) (.cons (t := 2) rfl (.cons (t := 4) rfl (.cons (t := 7) rfl (.cons (t := 601) rfl .nil)))) rfl ?_
        refine tr_seq ?_
        refine tr_region (fun N10 hN => ?_)
        refine lx (op_move rfl) rfl ?_
        refine lx (op_gtr rfl rfl) rfl ?_
        refine lx_end ⟨by kernel_rfl, ?_⟩
        refine pe_then_normal ?_
        refine tr_sub hC (.cons (t := 2) rfl (.cons (t := 4) rfl (.cons (t := 7) rfl (.cons (t := 9) rfl (.cons (t := 55) rfl .nil))))) (.cons (t := 2) rfl (.cons (t := 4) rfl (.cons (t := 7) rfl (.cons (t := 601) rfl .nil)))) rfl ?_
        refine tr_cond rfl (fun h55 => ?_) (fun h55 => ?_)
        · (try simp only [Bool.and_eq_true, Bool.or_eq_true, Bool.and_eq_false_iff, Bool.or_eq_false_iff, decide_eq_true_eq, decide_eq_false_iff_not, Bool.not_eq_true', Bool.not_eq_false', List.length_map, ne_eq, Decidable.not_not, Int.not_lt, Int.not_le] at h55)
          have hsF := sentF_t (e := e) h55
          have hbF := baseF_t (e := e) h55
          refine tr_drawn mixed (fun N11 hN => ?_)
          refine lx (op_fieldAddr rfl fl46_2 sz43) rfl ?_
          refine lx (op_bload_one (m := 2) rfl rfl ag43 rfl) rfl ?_
          refine lx (op_move rfl) rfl ?_
          refine lx (op_slice_l rfl rfl el43 sz25 (by omega : f.ack - e.base = (((f.ack - e.base).toNat : Nat) : Int)) (by omega)) rfl ?_
          refine lx (op_fieldAddr rfl fl27_1 sz3) rfl ?_
          refine lx (op_bload_one (m := 7) rfl rfl ag3 rfl) rfl ?_
          refine lx (op_fieldAddr rfl fl46_2 sz43) rfl ?_
          refine lxr (op_store (m := 2) (rs := [_, _, _, _, _]) rfl rfl rfl (.one (by (first | exact One.eq rfl | exact One.mv _ _ _ _ _ | exact One.cl _ _ _ | exact One.map _ | exact One.sl _ _ _ | exact One.row _ _ _ _ | exact One.msl _ _ _ _ | exact One.ptr _ _ | exact One.b _ | exact One.cells _))) sz43 rfl rfl rfl) rfl ?_
          refine lx (op_fieldAddr rfl fl46_1 sz3) rfl ?_
          refine lxr (op_store (m := 2) (rs := [_, _, _, _, _]) rfl rfl rfl (.one (by (first | exact One.eq rfl | exact One.mv _ _ _ _ _ | exact One.cl _ _ _ | exact One.map _ | exact One.sl _ _ _ | exact One.row _ _ _ _ | exact One.msl _ _ _ _ | exact One.ptr _ _ | exact One.b _ | exact One.cells _))) sz3 rfl rfl rfl) rfl ?_
          refine lx_end ⟨by kernel_rfl, ?_⟩
          refine pe_then_normal ?_
          refine tr_sub hC (.cons (t := 2) rfl (.cons (t := 4) rfl (.cons (t := 7) rfl .nil))) (.cons (t := 2) rfl (.cons (t := 4) rfl (.cons (t := 7) rfl (.cons (t := 601) rfl .nil)))) rfl ?_
          refine tr_seq ?_
          refine tr_seq ?_
          refine tr_region (fun N12 hN => ?_)
          refine lx (op_fieldAddr rfl fl27_0 sz3) rfl ?_
          refine lx (op_bload_one (m := 7) rfl rfl ag3 rfl) rfl ?_
          refine lx (op_fieldAddr rfl fl46_3 sz3) rfl ?_
          refine lx (op_bload_one (m := 2) rfl rfl ag3 rfl) rfl ?_
          refine lx (op_leq rfl rfl) rfl ?_
          refine lx_end ⟨by kernel_rfl, ?_⟩
          refine pe_then_normal ?_
          refine tr_sub hC (.cons (t := 2) rfl (.cons (t := 4) rfl (.cons (t := 7) rfl (.cons (t := 68) rfl .nil)))) (.cons (t := 2) rfl (.cons (t := 4) rfl (.cons (t := 7) rfl (.cons (t := 601) rfl .nil)))) rfl ?_
          refine tr_cond rfl (fun h68 => ?_) (fun h68 => ?_)
          · (try simp only [Bool.and_eq_true, Bool.or_eq_true, Bool.and_eq_false_iff, Bool.or_eq_false_iff, decide_eq_true_eq, decide_eq_false_iff_not, Bool.not_eq_true', Bool.not_eq_false', List.length_map, ne_eq, Decidable.not_not, Int.not_lt, Int.not_le] at h68)
            have h := recvE_4 hin h68
            rw [hsF, hbF, ← hre] at h
            refine tr_bound 0 (m := 601) rfl ?_
            refine tr_freeze (m := 601) rfl (.ent (t := 0) rfl FEnt.frz_bound (.cons (t := 2) rfl (.cons (t := 4) rfl (.cons (t := 7) rfl (.cons (t := 68) rfl .nil))))) ?_
            refine tr_thaw (t := 0) (n := 2) (qs' := [eqP (.int .i64 e.window), eqP (.int .i64 f.ack), slP byS 1 (e.sent.drop (f.ack - e.base).toNat), eqP (.int .i64 e.got), slP WF.ps 3 e.early]) rfl (.cons (t := 2) rfl (.cons (t := 4) rfl (.cons (t := 7) rfl (.cons (t := 68) rfl .nil)))) rfl (.cons (.of (Ent.refl _)) (.cons (.of (Ent.refl _)) (.cons (.of (Ent.refl _)) (.cons (.of (Ent.refl _)) (.cons (FEnt.mv rfl ⟨[], by simp⟩ WF.len) .nil))))) ?_
            refine tr_seq ?_
            refine tr_region (fun N13 hN => ?_)
            refine lx (op_bload (m := 2) rfl rfl ag46 sz46) rfl ?_
            refine lxr (op_store_all (m := 4) rfl rfl rfl (.agg rfl) sz46 rfl) rfl ?_
            refine lx (op_assign rfl) rfl ?_
            refine lx (op_assign rfl) rfl ?_
            refine lx_end ⟨by kernel_rfl, ?_⟩
            refine pe_then_normal ?_
            refine tr_sub hC (.cons (t := 4) rfl (.cons (t := 5) rfl (.cons (t := 6) rfl .nil))) (.cons (t := 4) rfl .nil) rfl ?_
            refine tr_ret ?_
            refine pe_then_ret ?_
            refine pe_retN (rs := [.cell 4 46, .tmp 5, .tmp 6]) rfl rfl hO rfl (.cell (m := 4) rfl rfl ag46 sz46 (.tmp rfl (.tmp rfl .nil))) ?_
            rw [h]
            repeat (first | exact Ents.nil | refine Ents.cons ?_ ?_ | refine Ent.tup ?_ | refine Ent.agg ?_ | exact Ent.row _ _ _ _ | exact Ent.nil _ _ | exact Ent.func _ | exact Ent.refl _ | exact Ent.of_eq rfl | refine Ent.cells ?_)
          · (try simp only [Bool.and_eq_true, Bool.or_eq_true, Bool.and_eq_false_iff, Bool.or_eq_false_iff, decide_eq_true_eq, decide_eq_false_iff_not, Bool.not_eq_true', Bool.not_eq_false', List.length_map, ne_eq, Decidable.not_not, Int.not_lt, Int.not_le] at h68)
            have h68 : ¬ f.seq ≤ e.got := by omega
            refine tr_skip ?_
            refine pe_then_normal ?_
            refine tr_sub hC (.cons (t := 2) rfl (.cons (t := 4) rfl (.cons (t := 7) rfl .nil))) (.cons (t := 2) rfl (.cons (t := 4) rfl (.cons (t := 7) rfl (.cons (t := 601) rfl .nil)))) rfl ?_
            refine tr_seq ?_
            refine tr_region (fun N14 hN => ?_)
            refine lx (op_fieldAddr rfl fl46_4 sz44) rfl ?_
            refine lx (op_bload_one (m := 2) rfl rfl ag44 rfl) rfl ?_
            refine lx (op_fieldAddr rfl fl27_0 sz3) rfl ?_
            refine lx (op_bload_one (m := 7) rfl rfl ag3 rfl) rfl ?_
            first | refine lx_any rfl (op_callG2 (l := [(Go.Operand.tmp 72), (Go.Operand.tmp 74), (Go.Operand.func 44)]) (add := [(601, ((N8, 100480), blkX 3 27 (e.early.flatMap WF.ps)))]) (ks := []) (φ := tupP [eqP (.int .i64 ((pos e.early f.seq) : Int)), eqP (.bool (fnd e.early f.seq))]) (.cons (m := 601) rfl .nil) (bsearch_own (N8, 100480) e.early f.seq hsrt (Nat.le_trans hbd.early (by decide))) (.cons rfl (.cons rfl (.cons rfl .nil))) fn43 rfl rfl rfl (.old rfl .nil) rfl) (dOK_spec rfl) ?_ | refine lx_any rfl (op_callG2 (l := [(Go.Operand.tmp 72), (Go.Operand.tmp 74), (Go.Operand.func 44)]) (add := [(601, ((N8, 100480), blkX 3 27 (e.early.flatMap WF.ps)))]) (ks := []) (φ := tupP [eqP (.int .i64 ((pos e.early f.seq) : Int)), eqP (.bool (fnd e.early f.seq))]) (.cons (m := 601) rfl .nil) (bsearch_own (N8, 100480) e.early f.seq hsrt (Nat.le_trans hbd.early (by decide))) (.ent rfl (by repeat (first | exact Ents.nil | refine Ents.cons ?_ ?_ | refine Ent.tup ?_ | refine Ent.agg ?_ | exact Ent.row _ _ _ _ | exact Ent.nil _ _ | exact Ent.func _ | exact Ent.refl _ | exact Ent.of_eq rfl | refine Ent.cells ?_)) (.ent rfl (by repeat (first | exact Ents.nil | refine Ents.cons ?_ ?_ | refine Ent.tup ?_ | refine Ent.agg ?_ | exact Ent.row _ _ _ _ | exact Ent.nil _ _ | exact Ent.func _ | exact Ent.refl _ | exact Ent.of_eq rfl | refine Ent.cells ?_)) (.ent rfl (by repeat (first | exact Ents.nil | refine Ents.cons ?_ ?_ | refine Ent.tup ?_ | refine Ent.agg ?_ | exact Ent.row _ _ _ _ | exact Ent.nil _ _ | exact Ent.func _ | exact Ent.refl _ | exact Ent.of_eq rfl | refine Ent.cells ?_)) .nil))) fn43 rfl rfl rfl (.old rfl .nil) rfl) (dOK_spec rfl) ?_
            refine lx (op_move rfl) rfl ?_
            refine lx (op_extract rfl rfl) rfl ?_
            refine lx (op_extract rfl rfl) rfl ?_
            refine lx (op_assign rfl) rfl ?_
            refine lx (op_assign rfl) rfl ?_
            refine lx_end ⟨by kernel_rfl, ?_⟩
            refine pe_then_normal ?_
            refine tr_sub hC (.cons (t := 2) rfl (.cons (t := 4) rfl (.cons (t := 7) rfl (.cons (t := 10) rfl (.cons (t := 11) rfl .nil))))) (.cons (t := 2) rfl (.cons (t := 4) rfl (.cons (t := 7) rfl (.cons (t := 601) rfl .nil)))) rfl ?_
            refine tr_seq ?_
            refine tr_seq ?_
            refine tr_region (fun N15 hN => ?_)
            refine lx (op_move rfl) rfl ?_
            first | refine lx (op_not rfl) rfl ?_ | refine lx (op_not_b rfl) rfl ?_
            refine lx_end ⟨by kernel_rfl, ?_⟩
            refine pe_then_normal ?_
            refine tr_sub hC (.cons (t := 2) rfl (.cons (t := 4) rfl (.cons (t := 7) rfl (.cons (t := 10) rfl (.cons (t := 79) rfl .nil))))) (.cons (t := 2) rfl (.cons (t := 4) rfl (.cons (t := 7) rfl (.cons (t := 601) rfl .nil)))) rfl ?_
            refine tr_cond rfl (fun h79 => ?_) (fun h79 => ?_)
            · (try simp only [Bool.and_eq_true, Bool.or_eq_true, Bool.and_eq_false_iff, Bool.or_eq_false_iff, decide_eq_true_eq, decide_eq_false_iff_not, Bool.not_eq_true', Bool.not_eq_false', List.length_map, ne_eq, Decidable.not_not, Int.not_lt, Int.not_le] at h79)
              have hp : l = insL e.early (pos e.early f.seq) ⟨f.seq, 0, f.data⟩ := by rw [hl1]; exact add_no (by simpa using h79)
              refine tr_seq ?_
              refine tr_region (fun N16 hN => ?_)
              refine lx (op_fieldAddr rfl fl27_1 sz3) rfl ?_
              refine lxr (op_store (m := 7) (rs := [_, _, _]) rfl rfl rfl (.one (by (first | exact One.eq rfl | exact One.mv _ _ _ _ _ | exact One.cl _ _ _ | exact One.map _ | exact One.sl _ _ _ | exact One.row _ _ _ _ | exact One.msl _ _ _ _ | exact One.ptr _ _ | exact One.b _ | exact One.cells _))) sz3 rfl rfl rfl) rfl ?_
              refine lx_end ⟨by kernel_rfl, ?_⟩
              refine pe_then_normal ?_
              refine tr_sub hC (.cons (t := 2) rfl (.cons (t := 4) rfl (.cons (t := 7) rfl (.cons (t := 10) rfl .nil)))) (.cons (t := 2) rfl (.cons (t := 4) rfl (.cons (t := 7) rfl (.cons (t := 601) rfl .nil)))) rfl ?_
              refine tr_region (fun N17 hN => ?_)
              refine lx (op_fieldAddr rfl fl46_4 sz44) rfl ?_
              refine lx (op_bload_one (m := 2) rfl rfl ag44 rfl) rfl ?_
              refine lx (op_move rfl) rfl ?_
              refine lx (op_bload (m := 7) rfl rfl ag27 sz27) rfl ?_
              refine lxn (op_buildRow (m' := 85) (kk := 85) (f := WF.ps) (xs := [⟨f.seq, 0, f.data⟩]) (l := [(0, (Go.Operand.tmp 84))]) ze27 rfl rfl (by decide) el44 sz27 WF.len (.cons rfl (.agg rfl) .nil) rfl (by decide) (by first | exact hC.low _ (by decide) | rfl)) rfl ?_
              first | refine lx_any rfl (op_callG2 (l := [(Go.Operand.tmp 82), (Go.Operand.tmp 83), (Go.Operand.tmp 85)]) (add := [(601, ((N17, 100860), blkX 3 27 ((insL e.early (pos e.early f.seq) ⟨f.seq, 0, f.data⟩).flatMap WF.ps)))]) (ks := [100860]) (φ := mvP (N17, 100860) 3 0 (e.early.length + 1) (e.early.length + 1)) (.cons (m := 601) rfl (.cons (m := 85) rfl .nil)) (insert_ok (N8, 100480) (N17, 85) e.early (pos e.early f.seq) ⟨f.seq, 0, f.data⟩ pos_le (Nat.le_trans hbd.early (by decide))) (.cons rfl (.cons rfl (.cons rfl .nil))) fn46 rfl rfl rfl (.old rfl .nil) rfl) (dOK_spec rfl) ?_ | refine lx_any rfl (op_callG2 (l := [(Go.Operand.tmp 82), (Go.Operand.tmp 83), (Go.Operand.tmp 85)]) (add := [(601, ((N17, 100860), blkX 3 27 ((insL e.early (pos e.early f.seq) ⟨f.seq, 0, f.data⟩).flatMap WF.ps)))]) (ks := [100860]) (φ := mvP (N17, 100860) 3 0 (e.early.length + 1) (e.early.length + 1)) (.cons (m := 601) rfl (.cons (m := 85) rfl .nil)) (insert_ok (N8, 100480) (N17, 85) e.early (pos e.early f.seq) ⟨f.seq, 0, f.data⟩ pos_le (Nat.le_trans hbd.early (by decide))) (.ent rfl (by repeat (first | exact Ents.nil | refine Ents.cons ?_ ?_ | refine Ent.tup ?_ | refine Ent.agg ?_ | exact Ent.row _ _ _ _ | exact Ent.nil _ _ | exact Ent.func _ | exact Ent.refl _ | exact Ent.of_eq rfl | refine Ent.cells ?_)) (.ent rfl (by repeat (first | exact Ents.nil | refine Ents.cons ?_ ?_ | refine Ent.tup ?_ | refine Ent.agg ?_ | exact Ent.row _ _ _ _ | exact Ent.nil _ _ | exact Ent.func _ | exact Ent.refl _ | exact Ent.of_eq rfl | refine Ent.cells ?_)) (.ent rfl (by repeat (first | exact Ents.nil | refine Ents.cons ?_ ?_ | refine Ent.tup ?_ | refine Ent.agg ?_ | exact Ent.row _ _ _ _ | exact Ent.nil _ _ | exact Ent.func _ | exact Ent.refl _ | exact Ent.of_eq rfl | refine Ent.cells ?_)) .nil))) fn46 rfl rfl rfl (.old rfl .nil) rfl) (dOK_spec rfl) ?_
              refine lx (op_fieldAddr rfl fl46_4 sz44) rfl ?_
              refine lxr (op_store (m := 2) (rs := [_, _, _, _, _]) rfl rfl rfl (.one (by (first | exact One.eq rfl | exact One.mv _ _ _ _ _ | exact One.cl _ _ _ | exact One.map _ | exact One.sl _ _ _ | exact One.row _ _ _ _ | exact One.msl _ _ _ _ | exact One.ptr _ _ | exact One.b _ | exact One.cells _))) sz44 rfl rfl rfl) rfl ?_
              refine lx_end ⟨by kernel_rfl, ?_⟩
              refine pe_then_normal ?_
              refine tr_sub hC (.cons (t := 2) rfl (.cons (t := 4) rfl .nil)) (.cons (t := 2) rfl (.cons (t := 4) rfl (.cons (t := 601) rfl .nil))) rfl ?_
              refine tr_bound 0 (m := 601) rfl ?_
              refine tr_freeze (m := 601) rfl (.ent (t := 0) rfl FEnt.frz_bound (.cons (t := 2) rfl (.cons (t := 4) rfl .nil))) ?_
              refine tr_thaw (t := 0) (n := 2) (qs' := [eqP (.int .i64 e.window), eqP (.int .i64 f.ack), slP byS 1 (e.sent.drop (f.ack - e.base).toNat), eqP (.int .i64 (e.got + ((0 : Nat) : Int))), slP WF.ps 3 (l.drop 0)]) rfl (.cons (t := 2) rfl (.cons (t := 4) rfl .nil)) rfl (.cons (.of (Ent.refl _)) (.cons (.of (Ent.refl _)) (.cons (.of (Ent.refl _)) (.cons (.of (entI (by simp))) (.cons (FEnt.mv (by rw [List.drop_zero, hp]; try rw [insL_len pos_le]) ⟨[], by rw [List.drop_zero, hp]; simp⟩ WF.len) .nil))))) ?_
              refine tr_seq ?_
              refine tr_region (fun N18 hN => ?_)
              refine lx (op_assign rfl) rfl ?_
              refine lx_end ⟨by kernel_rfl, ?_⟩
              refine pe_then_normal ?_
              refine tr_sub hC (.cons (t := 2) rfl (.cons (t := 4) rfl (.cons (t := 12) rfl .nil))) (.cons (t := 2) rfl (.cons (t := 4) rfl .nil)) rfl ?_
              refine tr_seq ?_
              refine tr_block ?_
              refine tr_nilrow byS 1 25 12 600 rfl (by first | exact hC.low _ (by decide) | rfl) (fun idN => ?_)
              refine tr_loopK (α := {zz : Nat × (List (List Int)) × AL.Id // zz.1 ≤ l.length ∧ zz.2.1 = (l.take zz.1).map WF.data ∧ dlv e.got l = dlv (e.got + (zz.1 : Int)) (l.drop zz.1) + zz.1}) (⟨(0, [], idN), Nat.zero_le _, rfl, by simp⟩) (fun zz => [(12, rowP zz.1.2.2 byS 1 zz.1.2.1)]) (fun zz => [(2, some ((N0, 2), blk 46 [eqP (.int .i64 e.window), eqP (.int .i64 f.ack), slP byS 1 (e.sent.drop (f.ack - e.base).toNat), eqP (.int .i64 (e.got + (zz.1.1 : Int))), slP WF.ps 3 (l.drop zz.1.1)])), (600, some (zz.1.2.2, tail 25 1 (zz.1.2.1.length * 1)))]) (fun zz => l.length - zz.1.1) hC (.cons (t := 2) rfl (.cons (t := 4) rfl .nil)) (.cons (t := 4) rfl .nil) rfl ?_ ?_ (fun zz => ?_)
              · try dsimp only [List.cons_append, List.nil_append]
                first | refine SubF.cons rfl ?_ | (refine SubF.ent rfl ?_ ?_; · repeat (first | exact Ents.nil | refine Ents.cons ?_ ?_ | refine Ent.tup ?_ | refine Ent.agg ?_ | exact Ent.row _ _ _ _ | exact Ent.nil _ _ | exact Ent.func _ | exact Ent.refl _ | exact Ent.of_eq rfl | refine Ent.cells ?_))
                exact SubF.nil
              · try dsimp only [List.cons_append, List.nil_append]
                repeat (first | exact SubL.nil | refine SubL.cons rfl ?_)
              · obtain ⟨⟨q, xs, i⟩, hq, hxs, hd⟩ := zz
                try dsimp only at hq
                try dsimp only at hxs
                try dsimp only at hd
                dsimp only [List.cons_append, List.nil_append]
                refine tr_seq ?_
                refine tr_seq ?_
                refine tr_drawn mixed (fun N19 hN => ?_)
                refine lx (op_fieldAddr rfl fl46_4 sz44) rfl ?_
                refine lx (op_bload_one (m := 2) rfl rfl ag44 rfl) rfl ?_
                first | refine lx (op_len rfl el44) rfl ?_ | refine lx (op_len_row rfl el44) rfl ?_ | refine lx (op_len_mv rfl el44) rfl ?_ | refine lx (op_len_nil rfl el44) rfl ?_
                refine lx (op_gtr rfl rfl) rfl ?_
                refine lx (op_move rfl) rfl ?_
                refine lxs rfl rfl rfl guard_eq (.cons (t := 2) rfl (fun _ => Ent.refl _) .nil) (op_fieldAddr rfl fl46_4 sz44) rfl ?_
                refine lxs rfl rfl rfl guard_eq (.cons (t := 93) rfl (fun h => entW h) .nil) (op_bload_one (m := 2) rfl rfl ag44 rfl) rfl ?_
                refine lxsc (rd := [(94, slP WF.ps 3 (l.drop q))]) (φ := cellsP (l.getD q WF0).ps) rfl rfl rfl guard_eq (.cons (t := 94) rfl (fun h => entW h) .nil) (fun hgd => ?_) rfl rfl ?_
                · have hql : q < l.length := by
                    simp at hgd
                    omega
                  exact op_index rfl rfl el44 sz27 rfl (drop0_at hql)
                first | refine lxs rfl rfl rfl guard_eq (.cons (t := 95) rfl (fun h => entW h) .nil) (op_fieldAddr rfl fl27_0 sz3) rfl ?_ | refine lxs rfl rfl rfl guard_eq (.cons (t := 95) rfl (fun h => entW h) .nil) (op_fieldCells rfl fl27_0 sz3) rfl ?_
                first | refine lxs rfl rfl rfl guard_eq (.cons (t := 96) rfl (fun h => entW h) .nil) (op_load_one rfl ag3 rfl) rfl ?_ | refine lxs rfl rfl rfl guard_eq (.cons (t := 96) rfl (fun h => entW h) .nil) (op_bload_one (m := 2) rfl rfl ag3 rfl) rfl ?_ | refine lxs rfl rfl rfl guard_eq (.cons (t := 96) rfl (fun h => entW h) .nil) (op_bload_one (m := 600) rfl rfl ag3 rfl) rfl ?_ | refine lxs rfl rfl rfl guard_eq (.cons (t := 96) rfl (fun h => entW h) .nil) (op_bload_one (m := 4) rfl rfl ag3 rfl) rfl ?_
                refine lxs rfl rfl rfl guard_eq (.cons (t := 2) rfl (fun _ => Ent.refl _) .nil) (op_fieldAddr rfl fl46_3 sz3) rfl ?_
                refine lxs rfl rfl rfl guard_eq (.cons (t := 98) rfl (fun h => entW h) .nil) (op_bload_one (m := 2) rfl rfl ag3 rfl) rfl ?_
                refine lxs rfl rfl rfl guard_eq (.cons (t := 99) rfl (fun h => entW h) .nil) (op_add rfl rfl (by omega)) rfl ?_
                refine lxs rfl rfl rfl guard_eq (.cons (t := 97) rfl (fun h => entW h) (.cons (t := 100) rfl (fun h => entW h) .nil)) (op_eql rfl rfl) rfl ?_
                refine lx (op_pick_and rfl rfl) rfl ?_
                refine lx_end ⟨by kernel_rfl, ?_⟩
                refine pe_then_normal ?_
                refine tr_sub hC (.cons (t := 2) rfl (.cons (t := 4) rfl (.cons (t := 12) rfl (.cons (t := 102) rfl .nil)))) (.cons (t := 2) rfl (.cons (t := 600) rfl (.cons (t := 4) rfl .nil))) rfl ?_
                refine tr_cond rfl (fun h102 => ?_) (fun h102 => ?_)
                · (try simp only [Bool.and_eq_true, Bool.or_eq_true, Bool.and_eq_false_iff, Bool.or_eq_false_iff, decide_eq_true_eq, decide_eq_false_iff_not, Bool.not_eq_true', Bool.not_eq_false', List.length_map, ne_eq, Decidable.not_not, Int.not_lt, Int.not_le] at h102)
                  have hql : q < l.length := by have := h102.1; rw [List.length_drop] at this; omega
                  have hst := dlv_step hql (g := e.got + (q : Int)) (by rw [← getD_at hql]; exact h102.2)
                  rw [show e.got + (q : Int) + 1 = e.got + ((q + 1 : Nat) : Int) by omega] at hst
                  have hxl : xs.length ≤ 17 := by rw [hxs, List.length_map, List.length_take]; omega
                  refine tr_skip ?_
                  refine pe_then_normal ?_
                  refine tr_sub hC (.cons (t := 2) rfl (.cons (t := 4) rfl (.cons (t := 12) rfl .nil))) (.cons (t := 2) rfl (.cons (t := 600) rfl (.cons (t := 4) rfl .nil))) rfl ?_
                  refine tr_block ?_
                  refine tr_seq ?_
                  refine tr_region (fun N20 hN => ?_)
                  refine lx (op_move rfl) rfl ?_
                  refine lx (op_fieldAddr rfl fl46_4 sz44) rfl ?_
                  refine lx (op_bload_one (m := 2) rfl rfl ag44 rfl) rfl ?_
                  refine lx (op_index rfl rfl el44 sz27 rfl (drop0_at hql)) rfl ?_
                  first | refine lx (op_fieldAddr rfl fl27_2 sz25) rfl ?_ | refine lx (op_fieldCells rfl fl27_2 sz25) rfl ?_
                  first | refine lx (op_load_one rfl ag25 rfl) rfl ?_ | refine lx (op_bload_one (m := 2) rfl rfl ag25 rfl) rfl ?_ | refine lx (op_bload_one (m := 600) rfl rfl ag25 rfl) rfl ?_ | refine lx (op_bload_one (m := 4) rfl rfl ag25 rfl) rfl ?_
                  refine lx (op_buildSlice (f := byS) (xs := [(l.getD q WF0).data]) (l := [(0, (Go.Operand.tmp 108))]) ze25 rfl rfl (by decide) el43 sz25 byS_len (.cons rfl (.one (by (first | exact One.eq rfl | exact One.mv _ _ _ _ _ | exact One.cl _ _ _ | exact One.map _ | exact One.sl _ _ _ | exact One.row _ _ _ _ | exact One.msl _ _ _ _ | exact One.ptr _ _ | exact One.b _ | exact One.cells _))) .nil) rfl (by decide)) rfl ?_
                  refine lxr (op_append (m := 600) (m' := 600) (kk := 110) rfl rfl rfl (.inl rfl) el43 ze25 sz25 by25 rfl byS_len (by rw [List.length_singleton]; omega) (by rw [List.length_singleton]; omega)) rfl ?_
                  refine lx (op_assign rfl) rfl ?_
                  refine lx_end ⟨by kernel_rfl, ?_⟩
                  refine pe_then_normal ?_
                  refine tr_sub hC (.cons (t := 2) rfl (.cons (t := 4) rfl (.cons (t := 12) rfl .nil))) (.cons (t := 2) rfl (.cons (t := 4) rfl (.cons (t := 600) rfl .nil))) rfl ?_
                  refine tr_seq ?_
                  refine tr_region (fun N21 hN => ?_)
                  refine lx (op_fieldAddr rfl fl46_3 sz3) rfl ?_
                  refine lx (op_bload_one (m := 2) rfl rfl ag3 rfl) rfl ?_
                  refine lx (OpJ.ent (op_add rfl rfl (by omega)) (show Ent _ (eqP (.int .i64 (e.got + ((q + 1 : Nat) : Int)))) from (by exact entI (by omega)))) rfl ?_
                  refine lx (op_fieldAddr rfl fl46_3 sz3) rfl ?_
                  refine lxr (op_store (m := 2) (rs := [_, _, _, _, _]) rfl rfl rfl (.one (by (first | exact One.eq rfl | exact One.mv _ _ _ _ _ | exact One.cl _ _ _ | exact One.map _ | exact One.sl _ _ _ | exact One.row _ _ _ _ | exact One.msl _ _ _ _ | exact One.ptr _ _ | exact One.b _ | exact One.cells _))) sz3 rfl rfl rfl) rfl ?_
                  refine lx_end ⟨by kernel_rfl, ?_⟩
                  refine pe_then_normal ?_
                  refine tr_sub hC (.cons (t := 2) rfl (.cons (t := 4) rfl (.cons (t := 12) rfl .nil))) (.cons (t := 2) rfl (.cons (t := 4) rfl (.cons (t := 600) rfl .nil))) rfl ?_
                  refine tr_region (fun N22 hN => ?_)
                  refine lx (op_fieldAddr rfl fl46_4 sz44) rfl ?_
                  refine lx (op_bload_one (m := 2) rfl rfl ag44 rfl) rfl ?_
                  refine lx (OpJ.ent (op_slice_l rfl rfl el44 sz27 (lo := 1) rfl (by rw [List.length_drop]; omega)) (show Ent _ (slP WF.ps 3 (l.drop (q + 1))) from (by exact Ent.of_eq (by rw [List.drop_drop])))) rfl ?_
                  refine lx (op_fieldAddr rfl fl46_4 sz44) rfl ?_
                  refine lxr (op_store (m := 2) (rs := [_, _, _, _, _]) rfl rfl rfl (.one (by (first | exact One.eq rfl | exact One.mv _ _ _ _ _ | exact One.cl _ _ _ | exact One.map _ | exact One.sl _ _ _ | exact One.row _ _ _ _ | exact One.msl _ _ _ _ | exact One.ptr _ _ | exact One.b _ | exact One.cells _))) sz44 rfl rfl rfl) rfl ?_
                  refine lx_end ⟨by kernel_rfl, ?_⟩
                  refine pe_block_normal ?_
                  refine pe_round (⟨(q + 1, xs ++ [(l.getD q WF0).data], (N20, 110)), by dsimp only; omega, by dsimp only; rw [hxs]; exact data_step hql, by dsimp only; rw [hd, hst]; omega⟩) (by dsimp only; omega) (pe_st hC ?_ ?_ rfl)
                  · try dsimp only [List.cons_append, List.nil_append]
                    first | refine SubF.cons rfl ?_ | (refine SubF.ent rfl ?_ ?_; · repeat (first | exact Ents.nil | refine Ents.cons ?_ ?_ | refine Ent.tup ?_ | refine Ent.agg ?_ | exact Ent.row _ _ _ _ | exact Ent.nil _ _ | exact Ent.func _ | exact Ent.refl _ | exact Ent.of_eq rfl | refine Ent.cells ?_))
                    first | refine SubF.cons rfl ?_ | (refine SubF.ent rfl ?_ ?_; · repeat (first | exact Ents.nil | refine Ents.cons ?_ ?_ | refine Ent.tup ?_ | refine Ent.agg ?_ | exact Ent.row _ _ _ _ | exact Ent.nil _ _ | exact Ent.func _ | exact Ent.refl _ | exact Ent.of_eq rfl | refine Ent.cells ?_))
                    first | refine SubF.cons rfl ?_ | (refine SubF.ent rfl ?_ ?_; · repeat (first | exact Ents.nil | refine Ents.cons ?_ ?_ | refine Ent.tup ?_ | refine Ent.agg ?_ | exact Ent.row _ _ _ _ | exact Ent.nil _ _ | exact Ent.func _ | exact Ent.refl _ | exact Ent.of_eq rfl | refine Ent.cells ?_))
                    exact SubF.nil
                  · try dsimp only [List.cons_append, List.nil_append]
                    repeat (first | exact SubL.nil | refine SubL.cons rfl ?_)
                · have hstop : dlv (e.got + (q : Int)) (l.drop q) = 0 := by
                    rcases Nat.lt_or_ge q l.length with hql | hql
                    · refine dlv_stop hql ?_
                      rw [← getD_at hql]
                      have hqd : 0 < ((l.drop q).length : Int) := by rw [List.length_drop]; omega
                      intro hh
                      have : (decide (((l.drop q).length : Int) > 0) && decide ((l.getD q WF0).seq = e.got + (q : Int) + 1)) = true := by rw [decide_eq_true hqd, decide_eq_true hh]; rfl
                      exact absurd (h102.symm.trans this) (by decide)
                    · exact dlv_end hql
                  have h := recvE_5 hin h68 (n := q) (by rw [← hl1, hd, hstop]; omega)
                  rw [hsF, hbF, ← hl1, ← hre] at h
                  rw [← hxs] at h
                  refine tr_exit ?_
                  refine pe_then_exit ?_
                  refine pe_then_exit ?_
                  refine pe_block_eq ?_
                  refine pe_then_normal ?_
                  refine tr_sub hC (.cons (t := 2) rfl (.cons (t := 4) rfl (.cons (t := 12) rfl .nil))) (.cons (t := 2) rfl (.cons (t := 600) rfl (.cons (t := 4) rfl .nil))) rfl ?_
                  refine tr_seq ?_
                  refine tr_region (fun N23 hN => ?_)
                  refine lx (op_bload (m := 2) rfl rfl ag46 sz46) rfl ?_
                  refine lx (op_move rfl) rfl ?_
                  refine lxr (op_store_all (m := 4) rfl rfl rfl (.agg rfl) sz46 rfl) rfl ?_
                  refine lx (op_assign rfl) rfl ?_
                  refine lx (op_assign rfl) rfl ?_
                  refine lx_end ⟨by kernel_rfl, ?_⟩
                  refine pe_then_normal ?_
                  refine tr_sub hC (.cons (t := 4) rfl (.cons (t := 5) rfl (.cons (t := 6) rfl .nil))) (.cons (t := 600) rfl (.cons (t := 4) rfl .nil)) rfl ?_
                  refine tr_ret ?_
                  refine pe_retN (rs := [.cell 4 46, .tmp 5, .tmp 6]) rfl rfl hO rfl (.cell (m := 4) rfl rfl ag46 sz46 (.tmp rfl (.tmp rfl .nil))) ?_
                  rw [h]
                  repeat (first | exact Ents.nil | refine Ents.cons ?_ ?_ | refine Ent.tup ?_ | refine Ent.agg ?_ | exact Ent.row _ _ _ _ | exact Ent.nil _ _ | exact Ent.func _ | exact Ent.refl _ | exact Ent.of_eq rfl | refine Ent.cells ?_)
            · (try simp only [Bool.and_eq_true, Bool.or_eq_true, Bool.and_eq_false_iff, Bool.or_eq_false_iff, decide_eq_true_eq, decide_eq_false_iff_not, Bool.not_eq_true', Bool.not_eq_false', List.length_map, ne_eq, Decidable.not_not, Int.not_lt, Int.not_le] at h79)
              have hp : l = e.early := by rw [hl1]; exact add_yes (by simpa using h79)
              refine tr_skip ?_
              refine pe_then_normal ?_
              refine tr_sub hC (.cons (t := 2) rfl (.cons (t := 4) rfl .nil)) (.cons (t := 2) rfl (.cons (t := 4) rfl (.cons (t := 601) rfl .nil))) rfl ?_
              refine tr_bound 0 (m := 601) rfl ?_
              refine tr_freeze (m := 601) rfl (.ent (t := 0) rfl FEnt.frz_bound (.cons (t := 2) rfl (.cons (t := 4) rfl .nil))) ?_
              refine tr_thaw (t := 0) (n := 2) (qs' := [eqP (.int .i64 e.window), eqP (.int .i64 f.ack), slP byS 1 (e.sent.drop (f.ack - e.base).toNat), eqP (.int .i64 (e.got + ((0 : Nat) : Int))), slP WF.ps 3 (l.drop 0)]) rfl (.cons (t := 2) rfl (.cons (t := 4) rfl .nil)) rfl (.cons (.of (Ent.refl _)) (.cons (.of (Ent.refl _)) (.cons (.of (Ent.refl _)) (.cons (.of (entI (by simp))) (.cons (FEnt.mv (by rw [List.drop_zero, hp]; try rw [insL_len pos_le]) ⟨[], by rw [List.drop_zero, hp]; simp⟩ WF.len) .nil))))) ?_
              refine tr_seq ?_
              refine tr_region (fun N18 hN => ?_)
              refine lx (op_assign rfl) rfl ?_
              refine lx_end ⟨by kernel_rfl, ?_⟩
              refine pe_then_normal ?_
              refine tr_sub hC (.cons (t := 2) rfl (.cons (t := 4) rfl (.cons (t := 12) rfl .nil))) (.cons (t := 2) rfl (.cons (t := 4) rfl .nil)) rfl ?_
              refine tr_seq ?_
              refine tr_block ?_
              refine tr_nilrow byS 1 25 12 600 rfl (by first | exact hC.low _ (by decide) | rfl) (fun idN => ?_)
              refine tr_loopK (α := {zz : Nat × (List (List Int)) × AL.Id // zz.1 ≤ l.length ∧ zz.2.1 = (l.take zz.1).map WF.data ∧ dlv e.got l = dlv (e.got + (zz.1 : Int)) (l.drop zz.1) + zz.1}) (⟨(0, [], idN), Nat.zero_le _, rfl, by simp⟩) (fun zz => [(12, rowP zz.1.2.2 byS 1 zz.1.2.1)]) (fun zz => [(2, some ((N0, 2), blk 46 [eqP (.int .i64 e.window), eqP (.int .i64 f.ack), slP byS 1 (e.sent.drop (f.ack - e.base).toNat), eqP (.int .i64 (e.got + (zz.1.1 : Int))), slP WF.ps 3 (l.drop zz.1.1)])), (600, some (zz.1.2.2, tail 25 1 (zz.1.2.1.length * 1)))]) (fun zz => l.length - zz.1.1) hC (.cons (t := 2) rfl (.cons (t := 4) rfl .nil)) (.cons (t := 4) rfl .nil) rfl ?_ ?_ (fun zz => ?_)
              · try dsimp only [List.cons_append, List.nil_append]
                first | refine SubF.cons rfl ?_ | (refine SubF.ent rfl ?_ ?_; · repeat (first | exact Ents.nil | refine Ents.cons ?_ ?_ | refine Ent.tup ?_ | refine Ent.agg ?_ | exact Ent.row _ _ _ _ | exact Ent.nil _ _ | exact Ent.func _ | exact Ent.refl _ | exact Ent.of_eq rfl | refine Ent.cells ?_))
                exact SubF.nil
              · try dsimp only [List.cons_append, List.nil_append]
                repeat (first | exact SubL.nil | refine SubL.cons rfl ?_)
              · obtain ⟨⟨q, xs, i⟩, hq, hxs, hd⟩ := zz
                try dsimp only at hq
                try dsimp only at hxs
                try dsimp only at hd
                dsimp only [List.cons_append, List.nil_append]
                refine tr_seq ?_
                refine tr_seq ?_
                refine tr_drawn mixed (fun N19 hN => ?_)
                refine lx (op_fieldAddr rfl fl46_4 sz44) rfl ?_
                refine lx (op_bload_one (m := 2) rfl rfl ag44 rfl) rfl ?_
                first | refine lx (op_len rfl el44) rfl ?_ | refine lx (op_len_row rfl el44) rfl ?_ | refine lx (op_len_mv rfl el44) rfl ?_ | refine lx (op_len_nil rfl el44) rfl ?_
                refine lx (op_gtr rfl rfl) rfl ?_
                refine lx (op_move rfl) rfl ?_
                refine lxs rfl rfl rfl guard_eq (.cons (t := 2) rfl (fun _ => Ent.refl _) .nil) (op_fieldAddr rfl fl46_4 sz44) rfl ?_
                refine lxs rfl rfl rfl guard_eq (.cons (t := 93) rfl (fun h => entW h) .nil) (op_bload_one (m := 2) rfl rfl ag44 rfl) rfl ?_
                refine lxsc (rd := [(94, slP WF.ps 3 (l.drop q))]) (φ := cellsP (l.getD q WF0).ps) rfl rfl rfl guard_eq (.cons (t := 94) rfl (fun h => entW h) .nil) (fun hgd => ?_) rfl rfl ?_
                · have hql : q < l.length := by
                    simp at hgd
                    omega
                  exact op_index rfl rfl el44 sz27 rfl (drop0_at hql)
                first | refine lxs rfl rfl rfl guard_eq (.cons (t := 95) rfl (fun h => entW h) .nil) (op_fieldAddr rfl fl27_0 sz3) rfl ?_ | refine lxs rfl rfl rfl guard_eq (.cons (t := 95) rfl (fun h => entW h) .nil) (op_fieldCells rfl fl27_0 sz3) rfl ?_
                first | refine lxs rfl rfl rfl guard_eq (.cons (t := 96) rfl (fun h => entW h) .nil) (op_load_one rfl ag3 rfl) rfl ?_ | refine lxs rfl rfl rfl guard_eq (.cons (t := 96) rfl (fun h => entW h) .nil) (op_bload_one (m := 2) rfl rfl ag3 rfl) rfl ?_ | refine lxs rfl rfl rfl guard_eq (.cons (t := 96) rfl (fun h => entW h) .nil) (op_bload_one (m := 600) rfl rfl ag3 rfl) rfl ?_ | refine lxs rfl rfl rfl guard_eq (.cons (t := 96) rfl (fun h => entW h) .nil) (op_bload_one (m := 4) rfl rfl ag3 rfl) rfl ?_
                refine lxs rfl rfl rfl guard_eq (.cons (t := 2) rfl (fun _ => Ent.refl _) .nil) (op_fieldAddr rfl fl46_3 sz3) rfl ?_
                refine lxs rfl rfl rfl guard_eq (.cons (t := 98) rfl (fun h => entW h) .nil) (op_bload_one (m := 2) rfl rfl ag3 rfl) rfl ?_
                refine lxs rfl rfl rfl guard_eq (.cons (t := 99) rfl (fun h => entW h) .nil) (op_add rfl rfl (by omega)) rfl ?_
                refine lxs rfl rfl rfl guard_eq (.cons (t := 97) rfl (fun h => entW h) (.cons (t := 100) rfl (fun h => entW h) .nil)) (op_eql rfl rfl) rfl ?_
                refine lx (op_pick_and rfl rfl) rfl ?_
                refine lx_end ⟨by kernel_rfl, ?_⟩
                refine pe_then_normal ?_
                refine tr_sub hC (.cons (t := 2) rfl (.cons (t := 4) rfl (.cons (t := 12) rfl (.cons (t := 102) rfl .nil)))) (.cons (t := 2) rfl (.cons (t := 600) rfl (.cons (t := 4) rfl .nil))) rfl ?_
                refine tr_cond rfl (fun h102 => ?_) (fun h102 => ?_)
                · (try simp only [Bool.and_eq_true, Bool.or_eq_true, Bool.and_eq_false_iff, Bool.or_eq_false_iff, decide_eq_true_eq, decide_eq_false_iff_not, Bool.not_eq_true', Bool.not_eq_false', List.length_map, ne_eq, Decidable.not_not, Int.not_lt, Int.not_le] at h102)
                  have hql : q < l.length := by have := h102.1; rw [List.length_drop] at this; omega
                  have hst := dlv_step hql (g := e.got + (q : Int)) (by rw [← getD_at hql]; exact h102.2)
                  rw [show e.got + (q : Int) + 1 = e.got + ((q + 1 : Nat) : Int) by omega] at hst
                  have hxl : xs.length ≤ 17 := by rw [hxs, List.length_map, List.length_take]; omega
                  refine tr_skip ?_
                  refine pe_then_normal ?_
                  refine tr_sub hC (.cons (t := 2) rfl (.cons (t := 4) rfl (.cons (t := 12) rfl .nil))) (.cons (t := 2) rfl (.cons (t := 600) rfl (.cons (t := 4) rfl .nil))) rfl ?_
                  refine tr_block ?_
                  refine tr_seq ?_
                  refine tr_region (fun N20 hN => ?_)
                  refine lx (op_move rfl) rfl ?_
                  refine lx (op_fieldAddr rfl fl46_4 sz44) rfl ?_
                  refine lx (op_bload_one (m := 2) rfl rfl ag44 rfl) rfl ?_
                  refine lx (op_index rfl rfl el44 sz27 rfl (drop0_at hql)) rfl ?_
                  first | refine lx (op_fieldAddr rfl fl27_2 sz25) rfl ?_ | refine lx (op_fieldCells rfl fl27_2 sz25) rfl ?_
                  first | refine lx (op_load_one rfl ag25 rfl) rfl ?_ | refine lx (op_bload_one (m := 2) rfl rfl ag25 rfl) rfl ?_ | refine lx (op_bload_one (m := 600) rfl rfl ag25 rfl) rfl ?_ | refine lx (op_bload_one (m := 4) rfl rfl ag25 rfl) rfl ?_
                  refine lx (op_buildSlice (f := byS) (xs := [(l.getD q WF0).data]) (l := [(0, (Go.Operand.tmp 108))]) ze25 rfl rfl (by decide) el43 sz25 byS_len (.cons rfl (.one (by (first | exact One.eq rfl | exact One.mv _ _ _ _ _ | exact One.cl _ _ _ | exact One.map _ | exact One.sl _ _ _ | exact One.row _ _ _ _ | exact One.msl _ _ _ _ | exact One.ptr _ _ | exact One.b _ | exact One.cells _))) .nil) rfl (by decide)) rfl ?_
                  refine lxr (op_append (m := 600) (m' := 600) (kk := 110) rfl rfl rfl (.inl rfl) el43 ze25 sz25 by25 rfl byS_len (by rw [List.length_singleton]; omega) (by rw [List.length_singleton]; omega)) rfl ?_
                  refine lx (op_assign rfl) rfl ?_
                  refine lx_end ⟨by kernel_rfl, ?_⟩
                  refine pe_then_normal ?_
                  refine tr_sub hC (.cons (t := 2) rfl (.cons (t := 4) rfl (.cons (t := 12) rfl .nil))) (.cons (t := 2) rfl (.cons (t := 4) rfl (.cons (t := 600) rfl .nil))) rfl ?_
                  refine tr_seq ?_
                  refine tr_region (fun N21 hN => ?_)
                  refine lx (op_fieldAddr rfl fl46_3 sz3) rfl ?_
                  refine lx (op_bload_one (m := 2) rfl rfl ag3 rfl) rfl ?_
                  refine lx (OpJ.ent (op_add rfl rfl (by omega)) (show Ent _ (eqP (.int .i64 (e.got + ((q + 1 : Nat) : Int)))) from (by exact entI (by omega)))) rfl ?_
                  refine lx (op_fieldAddr rfl fl46_3 sz3) rfl ?_
                  refine lxr (op_store (m := 2) (rs := [_, _, _, _, _]) rfl rfl rfl (.one (by (first | exact One.eq rfl | exact One.mv _ _ _ _ _ | exact One.cl _ _ _ | exact One.map _ | exact One.sl _ _ _ | exact One.row _ _ _ _ | exact One.msl _ _ _ _ | exact One.ptr _ _ | exact One.b _ | exact One.cells _))) sz3 rfl rfl rfl) rfl ?_
                  refine lx_end ⟨by kernel_rfl, ?_⟩
                  refine pe_then_normal ?_
                  refine tr_sub hC (.cons (t := 2) rfl (.cons (t := 4) rfl (.cons (t := 12) rfl .nil))) (.cons (t := 2) rfl (.cons (t := 4) rfl (.cons (t := 600) rfl .nil))) rfl ?_
                  refine tr_region (fun N22 hN => ?_)
                  refine lx (op_fieldAddr rfl fl46_4 sz44) rfl ?_
                  refine lx (op_bload_one (m := 2) rfl rfl ag44 rfl) rfl ?_
                  refine lx (OpJ.ent (op_slice_l rfl rfl el44 sz27 (lo := 1) rfl (by rw [List.length_drop]; omega)) (show Ent _ (slP WF.ps 3 (l.drop (q + 1))) from (by exact Ent.of_eq (by rw [List.drop_drop])))) rfl ?_
                  refine lx (op_fieldAddr rfl fl46_4 sz44) rfl ?_
                  refine lxr (op_store (m := 2) (rs := [_, _, _, _, _]) rfl rfl rfl (.one (by (first | exact One.eq rfl | exact One.mv _ _ _ _ _ | exact One.cl _ _ _ | exact One.map _ | exact One.sl _ _ _ | exact One.row _ _ _ _ | exact One.msl _ _ _ _ | exact One.ptr _ _ | exact One.b _ | exact One.cells _))) sz44 rfl rfl rfl) rfl ?_
                  refine lx_end ⟨by kernel_rfl, ?_⟩
                  refine pe_block_normal ?_
                  refine pe_round (⟨(q + 1, xs ++ [(l.getD q WF0).data], (N20, 110)), by dsimp only; omega, by dsimp only; rw [hxs]; exact data_step hql, by dsimp only; rw [hd, hst]; omega⟩) (by dsimp only; omega) (pe_st hC ?_ ?_ rfl)
                  · try dsimp only [List.cons_append, List.nil_append]
                    first | refine SubF.cons rfl ?_ | (refine SubF.ent rfl ?_ ?_; · repeat (first | exact Ents.nil | refine Ents.cons ?_ ?_ | refine Ent.tup ?_ | refine Ent.agg ?_ | exact Ent.row _ _ _ _ | exact Ent.nil _ _ | exact Ent.func _ | exact Ent.refl _ | exact Ent.of_eq rfl | refine Ent.cells ?_))
                    first | refine SubF.cons rfl ?_ | (refine SubF.ent rfl ?_ ?_; · repeat (first | exact Ents.nil | refine Ents.cons ?_ ?_ | refine Ent.tup ?_ | refine Ent.agg ?_ | exact Ent.row _ _ _ _ | exact Ent.nil _ _ | exact Ent.func _ | exact Ent.refl _ | exact Ent.of_eq rfl | refine Ent.cells ?_))
                    first | refine SubF.cons rfl ?_ | (refine SubF.ent rfl ?_ ?_; · repeat (first | exact Ents.nil | refine Ents.cons ?_ ?_ | refine Ent.tup ?_ | refine Ent.agg ?_ | exact Ent.row _ _ _ _ | exact Ent.nil _ _ | exact Ent.func _ | exact Ent.refl _ | exact Ent.of_eq rfl | refine Ent.cells ?_))
                    exact SubF.nil
                  · try dsimp only [List.cons_append, List.nil_append]
                    repeat (first | exact SubL.nil | refine SubL.cons rfl ?_)
                · have hstop : dlv (e.got + (q : Int)) (l.drop q) = 0 := by
                    rcases Nat.lt_or_ge q l.length with hql | hql
                    · refine dlv_stop hql ?_
                      rw [← getD_at hql]
                      have hqd : 0 < ((l.drop q).length : Int) := by rw [List.length_drop]; omega
                      intro hh
                      have : (decide (((l.drop q).length : Int) > 0) && decide ((l.getD q WF0).seq = e.got + (q : Int) + 1)) = true := by rw [decide_eq_true hqd, decide_eq_true hh]; rfl
                      exact absurd (h102.symm.trans this) (by decide)
                    · exact dlv_end hql
                  have h := recvE_5 hin h68 (n := q) (by rw [← hl1, hd, hstop]; omega)
                  rw [hsF, hbF, ← hl1, ← hre] at h
                  rw [← hxs] at h
                  refine tr_exit ?_
                  refine pe_then_exit ?_
                  refine pe_then_exit ?_
                  refine pe_block_eq ?_
                  refine pe_then_normal ?_
                  refine tr_sub hC (.cons (t := 2) rfl (.cons (t := 4) rfl (.cons (t := 12) rfl .nil))) (.cons (t := 2) rfl (.cons (t := 600) rfl (.cons (t := 4) rfl .nil))) rfl ?_
                  refine tr_seq ?_
                  refine tr_region (fun N23 hN => ?_)
                  refine lx (op_bload (m := 2) rfl rfl ag46 sz46) rfl ?_
                  refine lx (op_move rfl) rfl ?_
                  refine lxr (op_store_all (m := 4) rfl rfl rfl (.agg rfl) sz46 rfl) rfl ?_
                  refine lx (op_assign rfl) rfl ?_
                  refine lx (op_assign rfl) rfl ?_
                  refine lx_end ⟨by kernel_rfl, ?_⟩
                  refine pe_then_normal ?_
                  refine tr_sub hC (.cons (t := 4) rfl (.cons (t := 5) rfl (.cons (t := 6) rfl .nil))) (.cons (t := 600) rfl (.cons (t := 4) rfl .nil)) rfl ?_
                  refine tr_ret ?_
                  refine pe_retN (rs := [.cell 4 46, .tmp 5, .tmp 6]) rfl rfl hO rfl (.cell (m := 4) rfl rfl ag46 sz46 (.tmp rfl (.tmp rfl .nil))) ?_
                  rw [h]
                  repeat (first | exact Ents.nil | refine Ents.cons ?_ ?_ | refine Ent.tup ?_ | refine Ent.agg ?_ | exact Ent.row _ _ _ _ | exact Ent.nil _ _ | exact Ent.func _ | exact Ent.refl _ | exact Ent.of_eq rfl | refine Ent.cells ?_)
        · (try simp only [Bool.and_eq_true, Bool.or_eq_true, Bool.and_eq_false_iff, Bool.or_eq_false_iff, decide_eq_true_eq, decide_eq_false_iff_not, Bool.not_eq_true', Bool.not_eq_false', List.length_map, ne_eq, Decidable.not_not, Int.not_lt, Int.not_le] at h55)
          have hsF := sentF_f (e := e) (a := f.ack) (by omega)
          have hbF := baseF_f (e := e) (a := f.ack) (by omega)
          refine tr_skip ?_
          refine pe_then_normal ?_
          refine tr_sub hC (.cons (t := 2) rfl (.cons (t := 4) rfl (.cons (t := 7) rfl .nil))) (.cons (t := 2) rfl (.cons (t := 4) rfl (.cons (t := 7) rfl (.cons (t := 601) rfl .nil)))) rfl ?_
          refine tr_seq ?_
          refine tr_seq ?_
          refine tr_region (fun N12 hN => ?_)
          refine lx (op_fieldAddr rfl fl27_0 sz3) rfl ?_
          refine lx (op_bload_one (m := 7) rfl rfl ag3 rfl) rfl ?_
          refine lx (op_fieldAddr rfl fl46_3 sz3) rfl ?_
          refine lx (op_bload_one (m := 2) rfl rfl ag3 rfl) rfl ?_
          refine lx (op_leq rfl rfl) rfl ?_
          refine lx_end ⟨by kernel_rfl, ?_⟩
          refine pe_then_normal ?_
          refine tr_sub hC (.cons (t := 2) rfl (.cons (t := 4) rfl (.cons (t := 7) rfl (.cons (t := 68) rfl .nil)))) (.cons (t := 2) rfl (.cons (t := 4) rfl (.cons (t := 7) rfl (.cons (t := 601) rfl .nil)))) rfl ?_
          refine tr_cond rfl (fun h68 => ?_) (fun h68 => ?_)
          · (try simp only [Bool.and_eq_true, Bool.or_eq_true, Bool.and_eq_false_iff, Bool.or_eq_false_iff, decide_eq_true_eq, decide_eq_false_iff_not, Bool.not_eq_true', Bool.not_eq_false', List.length_map, ne_eq, Decidable.not_not, Int.not_lt, Int.not_le] at h68)
            have h := recvE_4 hin h68
            rw [hsF, hbF, ← hre] at h
            refine tr_bound 0 (m := 601) rfl ?_
            refine tr_freeze (m := 601) rfl (.ent (t := 0) rfl FEnt.frz_bound (.cons (t := 2) rfl (.cons (t := 4) rfl (.cons (t := 7) rfl (.cons (t := 68) rfl .nil))))) ?_
            refine tr_thaw (t := 0) (n := 2) (qs' := [eqP (.int .i64 e.window), eqP (.int .i64 e.base), slP byS 1 e.sent, eqP (.int .i64 e.got), slP WF.ps 3 e.early]) rfl (.cons (t := 2) rfl (.cons (t := 4) rfl (.cons (t := 7) rfl (.cons (t := 68) rfl .nil)))) rfl (.cons (.of (Ent.refl _)) (.cons (.of (Ent.refl _)) (.cons (.of (Ent.refl _)) (.cons (.of (Ent.refl _)) (.cons (FEnt.mv rfl ⟨[], by simp⟩ WF.len) .nil))))) ?_
            refine tr_seq ?_
            refine tr_region (fun N13 hN => ?_)
            refine lx (op_bload (m := 2) rfl rfl ag46 sz46) rfl ?_
            refine lxr (op_store_all (m := 4) rfl rfl rfl (.agg rfl) sz46 rfl) rfl ?_
            refine lx (op_assign rfl) rfl ?_
            refine lx (op_assign rfl) rfl ?_
            refine lx_end ⟨by kernel_rfl, ?_⟩
            refine pe_then_normal ?_
            refine tr_sub hC (.cons (t := 4) rfl (.cons (t := 5) rfl (.cons (t := 6) rfl .nil))) (.cons (t := 4) rfl .nil) rfl ?_
            refine tr_ret ?_
            refine pe_then_ret ?_
            refine pe_retN (rs := [.cell 4 46, .tmp 5, .tmp 6]) rfl rfl hO rfl (.cell (m := 4) rfl rfl ag46 sz46 (.tmp rfl (.tmp rfl .nil))) ?_
            rw [h]
            repeat (first | exact Ents.nil | refine Ents.cons ?_ ?_ | refine Ent.tup ?_ | refine Ent.agg ?_ | exact Ent.row _ _ _ _ | exact Ent.nil _ _ | exact Ent.func _ | exact Ent.refl _ | exact Ent.of_eq rfl | refine Ent.cells ?_)
          · (try simp only [Bool.and_eq_true, Bool.or_eq_true, Bool.and_eq_false_iff, Bool.or_eq_false_iff, decide_eq_true_eq, decide_eq_false_iff_not, Bool.not_eq_true', Bool.not_eq_false', List.length_map, ne_eq, Decidable.not_not, Int.not_lt, Int.not_le] at h68)
            have h68 : ¬ f.seq ≤ e.got := by omega
            refine tr_skip ?_
            refine pe_then_normal ?_
            refine tr_sub hC (.cons (t := 2) rfl (.cons (t := 4) rfl (.cons (t := 7) rfl .nil))) (.cons (t := 2) rfl (.cons (t := 4) rfl (.cons (t := 7) rfl (.cons (t := 601) rfl .nil)))) rfl ?_
            refine tr_seq ?_
            refine tr_region (fun N14 hN => ?_)
            refine lx (op_fieldAddr rfl fl46_4 sz44) rfl ?_
            refine lx (op_bload_one (m := 2) rfl rfl ag44 rfl) rfl ?_
            refine lx (op_fieldAddr rfl fl27_0 sz3) rfl ?_
            refine lx (op_bload_one (m := 7) rfl rfl ag3 rfl) rfl ?_
            first | refine lx_any rfl (op_callG2 (l := [(Go.Operand.tmp 72), (Go.Operand.tmp 74), (Go.Operand.func 44)]) (add := [(601, ((N8, 100480), blkX 3 27 (e.early.flatMap WF.ps)))]) (ks := []) (φ := tupP [eqP (.int .i64 ((pos e.early f.seq) : Int)), eqP (.bool (fnd e.early f.seq))]) (.cons (m := 601) rfl .nil) (bsearch_own (N8, 100480) e.early f.seq hsrt (Nat.le_trans hbd.early (by decide))) (.cons rfl (.cons rfl (.cons rfl .nil))) fn43 rfl rfl rfl (.old rfl .nil) rfl) (dOK_spec rfl) ?_ | refine lx_any rfl (op_callG2 (l := [(Go.Operand.tmp 72), (Go.Operand.tmp 74), (Go.Operand.func 44)]) (add := [(601, ((N8, 100480), blkX 3 27 (e.early.flatMap WF.ps)))]) (ks := []) (φ := tupP [eqP (.int .i64 ((pos e.early f.seq) : Int)), eqP (.bool (fnd e.early f.seq))]) (.cons (m := 601) rfl .nil) (bsearch_own (N8, 100480) e.early f.seq hsrt (Nat.le_trans hbd.early (by decide))) (.ent rfl (by repeat (first | exact Ents.nil | refine Ents.cons ?_ ?_ | refine Ent.tup ?_ | refine Ent.agg ?_ | exact Ent.row _ _ _ _ | exact Ent.nil _ _ | exact Ent.func _ | exact Ent.refl _ | exact Ent.of_eq rfl | refine Ent.cells ?_)) (.ent rfl (by repeat (first | exact Ents.nil | refine Ents.cons ?_ ?_ | refine Ent.tup ?_ | refine Ent.agg ?_ | exact Ent.row _ _ _ _ | exact Ent.nil _ _ | exact Ent.func _ | exact Ent.refl _ | exact Ent.of_eq rfl | refine Ent.cells ?_)) (.ent rfl (by repeat (first | exact Ents.nil | refine Ents.cons ?_ ?_ | refine Ent.tup ?_ | refine Ent.agg ?_ | exact Ent.row _ _ _ _ | exact Ent.nil _ _ | exact Ent.func _ | exact Ent.refl _ | exact Ent.of_eq rfl | refine Ent.cells ?_)) .nil))) fn43 rfl rfl rfl (.old rfl .nil) rfl) (dOK_spec rfl) ?_
            refine lx (op_move rfl) rfl ?_
            refine lx (op_extract rfl rfl) rfl ?_
            refine lx (op_extract rfl rfl) rfl ?_
            refine lx (op_assign rfl) rfl ?_
            refine lx (op_assign rfl) rfl ?_
            refine lx_end ⟨by kernel_rfl, ?_⟩
            refine pe_then_normal ?_
            refine tr_sub hC (.cons (t := 2) rfl (.cons (t := 4) rfl (.cons (t := 7) rfl (.cons (t := 10) rfl (.cons (t := 11) rfl .nil))))) (.cons (t := 2) rfl (.cons (t := 4) rfl (.cons (t := 7) rfl (.cons (t := 601) rfl .nil)))) rfl ?_
            refine tr_seq ?_
            refine tr_seq ?_
            refine tr_region (fun N15 hN => ?_)
            refine lx (op_move rfl) rfl ?_
            first | refine lx (op_not rfl) rfl ?_ | refine lx (op_not_b rfl) rfl ?_
            refine lx_end ⟨by kernel_rfl, ?_⟩
            refine pe_then_normal ?_
            refine tr_sub hC (.cons (t := 2) rfl (.cons (t := 4) rfl (.cons (t := 7) rfl (.cons (t := 10) rfl (.cons (t := 79) rfl .nil))))) (.cons (t := 2) rfl (.cons (t := 4) rfl (.cons (t := 7) rfl (.cons (t := 601) rfl .nil)))) rfl ?_
            refine tr_cond rfl (fun h79 => ?_) (fun h79 => ?_)
            · (try simp only [Bool.and_eq_true, Bool.or_eq_true, Bool.and_eq_false_iff, Bool.or_eq_false_iff, decide_eq_true_eq, decide_eq_false_iff_not, Bool.not_eq_true', Bool.not_eq_false', List.length_map, ne_eq, Decidable.not_not, Int.not_lt, Int.not_le] at h79)
              have hp : l = insL e.early (pos e.early f.seq) ⟨f.seq, 0, f.data⟩ := by rw [hl1]; exact add_no (by simpa using h79)
              refine tr_seq ?_
              refine tr_region (fun N16 hN => ?_)
              refine lx (op_fieldAddr rfl fl27_1 sz3) rfl ?_
              refine lxr (op_store (m := 7) (rs := [_, _, _]) rfl rfl rfl (.one (by (first | exact One.eq rfl | exact One.mv _ _ _ _ _ | exact One.cl _ _ _ | exact One.map _ | exact One.sl _ _ _ | exact One.row _ _ _ _ | exact One.msl _ _ _ _ | exact One.ptr _ _ | exact One.b _ | exact One.cells _))) sz3 rfl rfl rfl) rfl ?_
              refine lx_end ⟨by kernel_rfl, ?_⟩
              refine pe_then_normal ?_
              refine tr_sub hC (.cons (t := 2) rfl (.cons (t := 4) rfl (.cons (t := 7) rfl (.cons (t := 10) rfl .nil)))) (.cons (t := 2) rfl (.cons (t := 4) rfl (.cons (t := 7) rfl (.cons (t := 601) rfl .nil)))) rfl ?_
              refine tr_region (fun N17 hN => ?_)
              refine lx (op_fieldAddr rfl fl46_4 sz44) rfl ?_
              refine lx (op_bload_one (m := 2) rfl rfl ag44 rfl) rfl ?_
              refine lx (op_move rfl) rfl ?_
              refine lx (op_bload (m := 7) rfl rfl ag27 sz27) rfl ?_
              refine lxn (op_buildRow (m' := 85) (kk := 85) (f := WF.ps) (xs := [⟨f.seq, 0, f.data⟩]) (l := [(0, (Go.Operand.tmp 84))]) ze27 rfl rfl (by decide) el44 sz27 WF.len (.cons rfl (.agg rfl) .nil) rfl (by decide) (by first | exact hC.low _ (by decide) | rfl)) rfl ?_
              first | refine lx_any rfl (op_callG2 (l := [(Go.Operand.tmp 82), (Go.Operand.tmp 83), (Go.Operand.tmp 85)]) (add := [(601, ((N17, 100860), blkX 3 27 ((insL e.early (pos e.early f.seq) ⟨f.seq, 0, f.data⟩).flatMap WF.ps)))]) (ks := [100860]) (φ := mvP (N17, 100860) 3 0 (e.early.length + 1) (e.early.length + 1)) (.cons (m := 601) rfl (.cons (m := 85) rfl .nil)) (insert_ok (N8, 100480) (N17, 85) e.early (pos e.early f.seq) ⟨f.seq, 0, f.data⟩ pos_le (Nat.le_trans hbd.early (by decide))) (.cons rfl (.cons rfl (.cons rfl .nil))) fn46 rfl rfl rfl (.old rfl .nil) rfl) (dOK_spec rfl) ?_ | refine lx_any rfl (op_callG2 (l := [(Go.Operand.tmp 82), (Go.Operand.tmp 83), (Go.Operand.tmp 85)]) (add := [(601, ((N17, 100860), blkX 3 27 ((insL e.early (pos e.early f.seq) ⟨f.seq, 0, f.data⟩).flatMap WF.ps)))]) (ks := [100860]) (φ := mvP (N17, 100860) 3 0 (e.early.length + 1) (e.early.length + 1)) (.cons (m := 601) rfl (.cons (m := 85) rfl .nil)) (insert_ok (N8, 100480) (N17, 85) e.early (pos e.early f.seq) ⟨f.seq, 0, f.data⟩ pos_le (Nat.le_trans hbd.early (by decide))) (.ent rfl (by repeat (first | exact Ents.nil | refine Ents.cons ?_ ?_ | refine Ent.tup ?_ | refine Ent.agg ?_ | exact Ent.row _ _ _ _ | exact Ent.nil _ _ | exact Ent.func _ | exact Ent.refl _ | exact Ent.of_eq rfl | refine Ent.cells ?_)) (.ent rfl (by repeat (first | exact Ents.nil | refine Ents.cons ?_ ?_ | refine Ent.tup ?_ | refine Ent.agg ?_ | exact Ent.row _ _ _ _ | exact Ent.nil _ _ | exact Ent.func _ | exact Ent.refl _ | exact Ent.of_eq rfl | refine Ent.cells ?_)) (.ent rfl (by repeat (first | exact Ents.nil | refine Ents.cons ?_ ?_ | refine Ent.tup ?_ | refine Ent.agg ?_ | exact Ent.row _ _ _ _ | exact Ent.nil _ _ | exact Ent.func _ | exact Ent.refl _ | exact Ent.of_eq rfl | refine Ent.cells ?_)) .nil))) fn46 rfl rfl rfl (.old rfl .nil) rfl) (dOK_spec rfl) ?_
              refine lx (op_fieldAddr rfl fl46_4 sz44) rfl ?_
              refine lxr (op_store (m := 2) (rs := [_, _, _, _, _]) rfl rfl rfl (.one (by (first | exact One.eq rfl | exact One.mv _ _ _ _ _ | exact One.cl _ _ _ | exact One.map _ | exact One.sl _ _ _ | exact One.row _ _ _ _ | exact One.msl _ _ _ _ | exact One.ptr _ _ | exact One.b _ | exact One.cells _))) sz44 rfl rfl rfl) rfl ?_
              refine lx_end ⟨by kernel_rfl, ?_⟩
              refine pe_then_normal ?_
              refine tr_sub hC (.cons (t := 2) rfl (.cons (t := 4) rfl .nil)) (.cons (t := 2) rfl (.cons (t := 4) rfl (.cons (t := 601) rfl .nil))) rfl ?_
              refine tr_bound 0 (m := 601) rfl ?_
              refine tr_freeze (m := 601) rfl (.ent (t := 0) rfl FEnt.frz_bound (.cons (t := 2) rfl (.cons (t := 4) rfl .nil))) ?_
              refine tr_thaw (t := 0) (n := 2) (qs' := [eqP (.int .i64 e.window), eqP (.int .i64 e.base), slP byS 1 e.sent, eqP (.int .i64 (e.got + ((0 : Nat) : Int))), slP WF.ps 3 (l.drop 0)]) rfl (.cons (t := 2) rfl (.cons (t := 4) rfl .nil)) rfl (.cons (.of (Ent.refl _)) (.cons (.of (Ent.refl _)) (.cons (.of (Ent.refl _)) (.cons (.of (entI (by simp))) (.cons (FEnt.mv (by rw [List.drop_zero, hp]; try rw [insL_len pos_le]) ⟨[], by rw [List.drop_zero, hp]; simp⟩ WF.len) .nil))))) ?_
              refine tr_seq ?_
              refine tr_region (fun N18 hN => ?_)
              refine lx (op_assign rfl) rfl ?_
              refine lx_end ⟨by kernel_rfl, ?_⟩
              refine pe_then_normal ?_
              refine tr_sub hC (.cons (t := 2) rfl (.cons (t := 4) rfl (.cons (t := 12) rfl .nil))) (.cons (t := 2) rfl (.cons (t := 4) rfl .nil)) rfl ?_
              refine tr_seq ?_
              refine tr_block ?_
              refine tr_nilrow byS 1 25 12 600 rfl (by first | exact hC.low _ (by decide) | rfl) (fun idN => ?_)
              refine tr_loopK (α := {zz : Nat × (List (List Int)) × AL.Id // zz.1 ≤ l.length ∧ zz.2.1 = (l.take zz.1).map WF.data ∧ dlv e.got l = dlv (e.got + (zz.1 : Int)) (l.drop zz.1) + zz.1}) (⟨(0, [], idN), Nat.zero_le _, rfl, by simp⟩) (fun zz => [(12, rowP zz.1.2.2 byS 1 zz.1.2.1)]) (fun zz => [(2, some ((N0, 2), blk 46 [eqP (.int .i64 e.window), eqP (.int .i64 e.base), slP byS 1 e.sent, eqP (.int .i64 (e.got + (zz.1.1 : Int))), slP WF.ps 3 (l.drop zz.1.1)])), (600, some (zz.1.2.2, tail 25 1 (zz.1.2.1.length * 1)))]) (fun zz => l.length - zz.1.1) hC (.cons (t := 2) rfl (.cons (t := 4) rfl .nil)) (.cons (t := 4) rfl .nil) rfl ?_ ?_ (fun zz => ?_)
              · try dsimp only [List.cons_append, List.nil_append]
                first | refine SubF.cons rfl ?_ | (refine SubF.ent rfl ?_ ?_; · repeat (first | exact Ents.nil | refine Ents.cons ?_ ?_ | refine Ent.tup ?_ | refine Ent.agg ?_ | exact Ent.row _ _ _ _ | exact Ent.nil _ _ | exact Ent.func _ | exact Ent.refl _ | exact Ent.of_eq rfl | refine Ent.cells ?_))
                exact SubF.nil
              · try dsimp only [List.cons_append, List.nil_append]
                repeat (first | exact SubL.nil | refine SubL.cons rfl ?_)
              · obtain ⟨⟨q, xs, i⟩, hq, hxs, hd⟩ := zz
                try dsimp only at hq
                try dsimp only at hxs
                try dsimp only at hd
                dsimp only [List.cons_append, List.nil_append]
                refine tr_seq ?_
                refine tr_seq ?_
                refine tr_drawn mixed (fun N19 hN => ?_)
                refine lx (op_fieldAddr rfl fl46_4 sz44) rfl ?_
                refine lx (op_bload_one (m := 2) rfl rfl ag44 rfl) rfl ?_
                first | refine lx (op_len rfl el44) rfl ?_ | refine lx (op_len_row rfl el44) rfl ?_ | refine lx (op_len_mv rfl el44) rfl ?_ | refine lx (op_len_nil rfl el44) rfl ?_
                refine lx (op_gtr rfl rfl) rfl ?_
                refine lx (op_move rfl) rfl ?_
                refine lxs rfl rfl rfl guard_eq (.cons (t := 2) rfl (fun _ => Ent.refl _) .nil) (op_fieldAddr rfl fl46_4 sz44) rfl ?_
                refine lxs rfl rfl rfl guard_eq (.cons (t := 93) rfl (fun h => entW h) .nil) (op_bload_one (m := 2) rfl rfl ag44 rfl) rfl ?_
                refine lxsc (rd := [(94, slP WF.ps 3 (l.drop q))]) (φ := cellsP (l.getD q WF0).ps) rfl rfl rfl guard_eq (.cons (t := 94) rfl (fun h => entW h) .nil) (fun hgd => ?_) rfl rfl ?_
                · have hql : q < l.length := by
                    simp at hgd
                    omega
                  exact op_index rfl rfl el44 sz27 rfl (drop0_at hql)
                first | refine lxs rfl rfl rfl guard_eq (.cons (t := 95) rfl (fun h => entW h) .nil) (op_fieldAddr rfl fl27_0 sz3) rfl ?_ | refine lxs rfl rfl rfl guard_eq (.cons (t := 95) rfl (fun h => entW h) .nil) (op_fieldCells rfl fl27_0 sz3) rfl ?_
                first | refine lxs rfl rfl rfl guard_eq (.cons (t := 96) rfl (fun h => entW h) .nil) (op_load_one rfl ag3 rfl) rfl ?_ | refine lxs rfl rfl rfl guard_eq (.cons (t := 96) rfl (fun h => entW h) .nil) (op_bload_one (m := 2) rfl rfl ag3 rfl) rfl ?_ | refine lxs rfl rfl rfl guard_eq (.cons (t := 96) rfl (fun h => entW h) .nil) (op_bload_one (m := 600) rfl rfl ag3 rfl) rfl ?_ | refine lxs rfl rfl rfl guard_eq (.cons (t := 96) rfl (fun h => entW h) .nil) (op_bload_one (m := 4) rfl rfl ag3 rfl) rfl ?_
                refine lxs rfl rfl rfl guard_eq (.cons (t := 2) rfl (fun _ => Ent.refl _) .nil) (op_fieldAddr rfl fl46_3 sz3) rfl ?_
                refine lxs rfl rfl rfl guard_eq (.cons (t := 98) rfl (fun h => entW h) .nil) (op_bload_one (m := 2) rfl rfl ag3 rfl) rfl ?_
                refine lxs rfl rfl rfl guard_eq (.cons (t := 99) rfl (fun h => entW h) .nil) (op_add rfl rfl (by omega)) rfl ?_
                refine lxs rfl rfl rfl guard_eq (.cons (t := 97) rfl (fun h => entW h) (.cons (t := 100) rfl (fun h => entW h) .nil)) (op_eql rfl rfl) rfl ?_
                refine lx (op_pick_and rfl rfl) rfl ?_
                refine lx_end ⟨by kernel_rfl, ?_⟩
                refine pe_then_normal ?_
                refine tr_sub hC (.cons (t := 2) rfl (.cons (t := 4) rfl (.cons (t := 12) rfl (.cons (t := 102) rfl .nil)))) (.cons (t := 2) rfl (.cons (t := 600) rfl (.cons (t := 4) rfl .nil))) rfl ?_
                refine tr_cond rfl (fun h102 => ?_) (fun h102 => ?_)
                · (try simp only [Bool.and_eq_true, Bool.or_eq_true, Bool.and_eq_false_iff, Bool.or_eq_false_iff, decide_eq_true_eq, decide_eq_false_iff_not, Bool.not_eq_true', Bool.not_eq_false', List.length_map, ne_eq, Decidable.not_not, Int.not_lt, Int.not_le] at h102)
                  have hql : q < l.length := by have := h102.1; rw [List.length_drop] at this; omega
                  have hst := dlv_step hql (g := e.got + (q : Int)) (by rw [← getD_at hql]; exact h102.2)
                  rw [show e.got + (q : Int) + 1 = e.got + ((q + 1 : Nat) : Int) by omega] at hst
                  have hxl : xs.length ≤ 17 := by rw [hxs, List.length_map, List.length_take]; omega
                  refine tr_skip ?_
                  refine pe_then_normal ?_
                  refine tr_sub hC (.cons (t := 2) rfl (.cons (t := 4) rfl (.cons (t := 12) rfl .nil))) (.cons (t := 2) rfl (.cons (t := 600) rfl (.cons (t := 4) rfl .nil))) rfl ?_
                  refine tr_block ?_
                  refine tr_seq ?_
                  refine tr_region (fun N20 hN => ?_)
                  refine lx (op_move rfl) rfl ?_
                  refine lx (op_fieldAddr rfl fl46_4 sz44) rfl ?_
                  refine lx (op_bload_one (m := 2) rfl rfl ag44 rfl) rfl ?_
                  refine lx (op_index rfl rfl el44 sz27 rfl (drop0_at hql)) rfl ?_
                  first | refine lx (op_fieldAddr rfl fl27_2 sz25) rfl ?_ | refine lx (op_fieldCells rfl fl27_2 sz25) rfl ?_
                  first | refine lx (op_load_one rfl ag25 rfl) rfl ?_ | refine lx (op_bload_one (m := 2) rfl rfl ag25 rfl) rfl ?_ | refine lx (op_bload_one (m := 600) rfl rfl ag25 rfl) rfl ?_ | refine lx (op_bload_one (m := 4) rfl rfl ag25 rfl) rfl ?_
                  refine lx (op_buildSlice (f := byS) (xs := [(l.getD q WF0).data]) (l := [(0, (Go.Operand.tmp 108))]) ze25 rfl rfl (by decide) el43 sz25 byS_len (.cons rfl (.one (by (first | exact One.eq rfl | exact One.mv _ _ _ _ _ | exact One.cl _ _ _ | exact One.map _ | exact One.sl _ _ _ | exact One.row _ _ _ _ | exact One.msl _ _ _ _ | exact One.ptr _ _ | exact One.b _ | exact One.cells _))) .nil) rfl (by decide)) rfl ?_
                  refine lxr (op_append (m := 600) (m' := 600) (kk := 110) rfl rfl rfl (.inl rfl) el43 ze25 sz25 by25 rfl byS_len (by rw [List.length_singleton]; omega) (by rw [List.length_singleton]; omega)) rfl ?_
                  refine lx (op_assign rfl) rfl ?_
                  refine lx_end ⟨by kernel_rfl, ?_⟩
                  refine pe_then_normal ?_
                  refine tr_sub hC (.cons (t := 2) rfl (.cons (t := 4) rfl (.cons (t := 12) rfl .nil))) (.cons (t := 2) rfl (.cons (t := 4) rfl (.cons (t := 600) rfl .nil))) rfl ?_
                  refine tr_seq ?_
                  refine tr_region (fun N21 hN => ?_)
                  refine lx (op_fieldAddr rfl fl46_3 sz3) rfl ?_
                  refine lx (op_bload_one (m := 2) rfl rfl ag3 rfl) rfl ?_
                  refine lx (OpJ.ent (op_add rfl rfl (by omega)) (show Ent _ (eqP (.int .i64 (e.got + ((q + 1 : Nat) : Int)))) from (by exact entI (by omega)))) rfl ?_
                  refine lx (op_fieldAddr rfl fl46_3 sz3) rfl ?_
                  refine lxr (op_store (m := 2) (rs := [_, _, _, _, _]) rfl rfl rfl (.one (by (first | exact One.eq rfl | exact One.mv _ _ _ _ _ | exact One.cl _ _ _ | exact One.map _ | exact One.sl _ _ _ | exact One.row _ _ _ _ | exact One.msl _ _ _ _ | exact One.ptr _ _ | exact One.b _ | exact One.cells _))) sz3 rfl rfl rfl) rfl ?_
                  refine lx_end ⟨by kernel_rfl, ?_⟩
                  refine pe_then_normal ?_
                  refine tr_sub hC (.cons (t := 2) rfl (.cons (t := 4) rfl (.cons (t := 12) rfl .nil))) (.cons (t := 2) rfl (.cons (t := 4) rfl (.cons (t := 600) rfl .nil))) rfl ?_
                  refine tr_region (fun N22 hN => ?_)
                  refine lx (op_fieldAddr rfl fl46_4 sz44) rfl ?_
                  refine lx (op_bload_one (m := 2) rfl rfl ag44 rfl) rfl ?_
                  refine lx (OpJ.ent (op_slice_l rfl rfl el44 sz27 (lo := 1) rfl (by rw [List.length_drop]; omega)) (show Ent _ (slP WF.ps 3 (l.drop (q + 1))) from (by exact Ent.of_eq (by rw [List.drop_drop])))) rfl ?_
                  refine lx (op_fieldAddr rfl fl46_4 sz44) rfl ?_
                  refine lxr (op_store (m := 2) (rs := [_, _, _, _, _]) rfl rfl rfl (.one (by (first | exact One.eq rfl | exact One.mv _ _ _ _ _ | exact One.cl _ _ _ | exact One.map _ | exact One.sl _ _ _ | exact One.row _ _ _ _ | exact One.msl _ _ _ _ | exact One.ptr _ _ | exact One.b _ | exact One.cells _))) sz44 rfl rfl rfl) rfl ?_
                  refine lx_end ⟨by kernel_rfl, ?_⟩
                  refine pe_block_normal ?_
                  refine pe_round (⟨(q + 1, xs ++ [(l.getD q WF0).data], (N20, 110)), by dsimp only; omega, by dsimp only; rw [hxs]; exact data_step hql, by dsimp only; rw [hd, hst]; omega⟩) (by dsimp only; omega) (pe_st hC ?_ ?_ rfl)
                  · try dsimp only [List.cons_append, List.nil_append]
                    first | refine SubF.cons rfl ?_ | (refine SubF.ent rfl ?_ ?_; · repeat (first | exact Ents.nil | refine Ents.cons ?_ ?_ | refine Ent.tup ?_ | refine Ent.agg ?_ | exact Ent.row _ _ _ _ | exact Ent.nil _ _ | exact Ent.func _ | exact Ent.refl _ | exact Ent.of_eq rfl | refine Ent.cells ?_))
                    first | refine SubF.cons rfl ?_ | (refine SubF.ent rfl ?_ ?_; · repeat (first | exact Ents.nil | refine Ents.cons ?_ ?_ | refine Ent.tup ?_ | refine Ent.agg ?_ | exact Ent.row _ _ _ _ | exact Ent.nil _ _ | exact Ent.func _ | exact Ent.refl _ | exact Ent.of_eq rfl | refine Ent.cells ?_))
                    first | refine SubF.cons rfl ?_ | (refine SubF.ent rfl ?_ ?_; · repeat (first | exact Ents.nil | refine Ents.cons ?_ ?_ | refine Ent.tup ?_ | refine Ent.agg ?_ | exact Ent.row _ _ _ _ | exact Ent.nil _ _ | exact Ent.func _ | exact Ent.refl _ | exact Ent.of_eq rfl | refine Ent.cells ?_))
                    exact SubF.nil
                  · try dsimp only [List.cons_append, List.nil_append]
                    repeat (first | exact SubL.nil | refine SubL.cons rfl ?_)
                · have hstop : dlv (e.got + (q : Int)) (l.drop q) = 0 := by
                    rcases Nat.lt_or_ge q l.length with hql | hql
                    · refine dlv_stop hql ?_
                      rw [← getD_at hql]
                      have hqd : 0 < ((l.drop q).length : Int) := by rw [List.length_drop]; omega
                      intro hh
                      have : (decide (((l.drop q).length : Int) > 0) && decide ((l.getD q WF0).seq = e.got + (q : Int) + 1)) = true := by rw [decide_eq_true hqd, decide_eq_true hh]; rfl
                      exact absurd (h102.symm.trans this) (by decide)
                    · exact dlv_end hql
                  have h := recvE_5 hin h68 (n := q) (by rw [← hl1, hd, hstop]; omega)
                  rw [hsF, hbF, ← hl1, ← hre] at h
                  rw [← hxs] at h
                  refine tr_exit ?_
                  refine pe_then_exit ?_
                  refine pe_then_exit ?_
                  refine pe_block_eq ?_
                  refine pe_then_normal ?_
                  refine tr_sub hC (.cons (t := 2) rfl (.cons (t := 4) rfl (.cons (t := 12) rfl .nil))) (.cons (t := 2) rfl (.cons (t := 600) rfl (.cons (t := 4) rfl .nil))) rfl ?_
                  refine tr_seq ?_
                  refine tr_region (fun N23 hN => ?_)
                  refine lx (op_bload (m := 2) rfl rfl ag46 sz46) rfl ?_
                  refine lx (op_move rfl) rfl ?_
                  refine lxr (op_store_all (m := 4) rfl rfl rfl (.agg rfl) sz46 rfl) rfl ?_
                  refine lx (op_assign rfl) rfl ?_
                  refine lx (op_assign rfl) rfl ?_
                  refine lx_end ⟨by kernel_rfl, ?_⟩
                  refine pe_then_normal ?_
                  refine tr_sub hC (.cons (t := 4) rfl (.cons (t := 5) rfl (.cons (t := 6) rfl .nil))) (.cons (t := 600) rfl (.cons (t := 4) rfl .nil)) rfl ?_
                  refine tr_ret ?_
                  refine pe_retN (rs := [.cell 4 46, .tmp 5, .tmp 6]) rfl rfl hO rfl (.cell (m := 4) rfl rfl ag46 sz46 (.tmp rfl (.tmp rfl .nil))) ?_
                  rw [h]
                  repeat (first | exact Ents.nil | refine Ents.cons ?_ ?_ | refine Ent.tup ?_ | refine Ent.agg ?_ | exact Ent.row _ _ _ _ | exact Ent.nil _ _ | exact Ent.func _ | exact Ent.refl _ | exact Ent.of_eq rfl | refine Ent.cells ?_)
            · (try simp only [Bool.and_eq_true, Bool.or_eq_true, Bool.and_eq_false_iff, Bool.or_eq_false_iff, decide_eq_true_eq, decide_eq_false_iff_not, Bool.not_eq_true', Bool.not_eq_false', List.length_map, ne_eq, Decidable.not_not, Int.not_lt, Int.not_le] at h79)
              have hp : l = e.early := by rw [hl1]; exact add_yes (by simpa using h79)
              refine tr_skip ?_
              refine pe_then_normal ?_
              refine tr_sub hC (.cons (t := 2) rfl (.cons (t := 4) rfl .nil)) (.cons (t := 2) rfl (.cons (t := 4) rfl (.cons (t := 601) rfl .nil))) rfl ?_
              refine tr_bound 0 (m := 601) rfl ?_
              refine tr_freeze (m := 601) rfl (.ent (t := 0) rfl FEnt.frz_bound (.cons (t := 2) rfl (.cons (t := 4) rfl .nil))) ?_
              refine tr_thaw (t := 0) (n := 2) (qs' := [eqP (.int .i64 e.window), eqP (.int .i64 e.base), slP byS 1 e.sent, eqP (.int .i64 (e.got + ((0 : Nat) : Int))), slP WF.ps 3 (l.drop 0)]) rfl (.cons (t := 2) rfl (.cons (t := 4) rfl .nil)) rfl (.cons (.of (Ent.refl _)) (.cons (.of (Ent.refl _)) (.cons (.of (Ent.refl _)) (.cons (.of (entI (by simp))) (.cons (FEnt.mv (by rw [List.drop_zero, hp]; try rw [insL_len pos_le]) ⟨[], by rw [List.drop_zero, hp]; simp⟩ WF.len) .nil))))) ?_
              refine tr_seq ?_
              refine tr_region (fun N18 hN => ?_)
              refine lx (op_assign rfl) rfl ?_
              refine lx_end ⟨by kernel_rfl, ?_⟩
              refine pe_then_normal ?_
              refine tr_sub hC (.cons (t := 2) rfl (.cons (t := 4) rfl (.cons (t := 12) rfl .nil))) (.cons (t := 2) rfl (.cons (t := 4) rfl .nil)) rfl ?_
              refine tr_seq ?_
              refine tr_block ?_
              refine tr_nilrow byS 1 25 12 600 rfl (by first | exact hC.low _ (by decide) | rfl) (fun idN => ?_)
              refine tr_loopK (α := {zz : Nat × (List (List Int)) × AL.Id // zz.1 ≤ l.length ∧ zz.2.1 = (l.take zz.1).map WF.data ∧ dlv e.got l = dlv (e.got + (zz.1 : Int)) (l.drop zz.1) + zz.1}) (⟨(0, [], idN), Nat.zero_le _, rfl, by simp⟩) (fun zz => [(12, rowP zz.1.2.2 byS 1 zz.1.2.1)]) (fun zz => [(2, some ((N0, 2), blk 46 [eqP (.int .i64 e.window), eqP (.int .i64 e.base), slP byS 1 e.sent, eqP (.int .i64 (e.got + (zz.1.1 : Int))), slP WF.ps 3 (l.drop zz.1.1)])), (600, some (zz.1.2.2, tail 25 1 (zz.1.2.1.length * 1)))]) (fun zz => l.length - zz.1.1) hC (.cons (t := 2) rfl (.cons (t := 4) rfl .nil)) (.cons (t := 4) rfl .nil) rfl ?_ ?_ (fun zz => ?_)
              · try dsimp only [List.cons_append, List.nil_append]
                first | refine SubF.cons rfl ?_ | (refine SubF.ent rfl ?_ ?_; · repeat (first | exact Ents.nil | refine Ents.cons ?_ ?_ | refine Ent.tup ?_ | refine Ent.agg ?_ | exact Ent.row _ _ _ _ | exact Ent.nil _ _ | exact Ent.func _ | exact Ent.refl _ | exact Ent.of_eq rfl | refine Ent.cells ?_))
                exact SubF.nil
              · try dsimp only [List.cons_append, List.nil_append]
                repeat (first | exact SubL.nil | refine SubL.cons rfl ?_)
              · obtain ⟨⟨q, xs, i⟩, hq, hxs, hd⟩ := zz
                try dsimp only at hq
                try dsimp only at hxs
                try dsimp only at hd
                dsimp only [List.cons_append, List.nil_append]
                refine tr_seq ?_
                refine tr_seq ?_
                refine tr_drawn mixed (fun N19 hN => ?_)
                refine lx (op_fieldAddr rfl fl46_4 sz44) rfl ?_
                refine lx (op_bload_one (m := 2) rfl rfl ag44 rfl) rfl ?_
                first | refine lx (op_len rfl el44) rfl ?_ | refine lx (op_len_row rfl el44) rfl ?_ | refine lx (op_len_mv rfl el44) rfl ?_ | refine lx (op_len_nil rfl el44) rfl ?_
                refine lx (op_gtr rfl rfl) rfl ?_
                refine lx (op_move rfl) rfl ?_
                refine lxs rfl rfl rfl guard_eq (.cons (t := 2) rfl (fun _ => Ent.refl _) .nil) (op_fieldAddr rfl fl46_4 sz44) rfl ?_
                refine lxs rfl rfl rfl guard_eq (.cons (t := 93) rfl (fun h => entW h) .nil) (op_bload_one (m := 2) rfl rfl ag44 rfl) rfl ?_
                refine lxsc (rd := [(94, slP WF.ps 3 (l.drop q))]) (φ := cellsP (l.getD q WF0).ps) rfl rfl rfl guard_eq (.cons (t := 94) rfl (fun h => entW h) .nil) (fun hgd => ?_) rfl rfl ?_
                · have hql : q < l.length := by
                    simp at hgd
                    omega
                  exact op_index rfl rfl el44 sz27 rfl (drop0_at hql)
                first | refine lxs rfl rfl rfl guard_eq (.cons (t := 95) rfl (fun h => entW h) .nil) (op_fieldAddr rfl fl27_0 sz3) rfl ?_ | refine lxs rfl rfl rfl guard_eq (.cons (t := 95) rfl (fun h => entW h) .nil) (op_fieldCells rfl fl27_0 sz3) rfl ?_
                first | refine lxs rfl rfl rfl guard_eq (.cons (t := 96) rfl (fun h => entW h) .nil) (op_load_one rfl ag3 rfl) rfl ?_ | refine lxs rfl rfl rfl guard_eq (.cons (t := 96) rfl (fun h => entW h) .nil) (op_bload_one (m := 2) rfl rfl ag3 rfl) rfl ?_ | refine lxs rfl rfl rfl guard_eq (.cons (t := 96) rfl (fun h => entW h) .nil) (op_bload_one (m := 600) rfl rfl ag3 rfl) rfl ?_ | refine lxs rfl rfl rfl guard_eq (.cons (t := 96) rfl (fun h => entW h) .nil) (op_bload_one (m := 4) rfl rfl ag3 rfl) rfl ?_
                refine lxs rfl rfl rfl guard_eq (.cons (t := 2) rfl (fun _ => Ent.refl _) .nil) (op_fieldAddr rfl fl46_3 sz3) rfl ?_
                refine lxs rfl rfl rfl guard_eq (.cons (t := 98) rfl (fun h => entW h) .nil) (op_bload_one (m := 2) rfl rfl ag3 rfl) rfl ?_
                refine lxs rfl rfl rfl guard_eq (.cons (t := 99) rfl (fun h => entW h) .nil) (op_add rfl rfl (by omega)) rfl ?_
                refine lxs rfl rfl rfl guard_eq (.cons (t := 97) rfl (fun h => entW h) (.cons (t := 100) rfl (fun h => entW h) .nil)) (op_eql rfl rfl) rfl ?_
                refine lx (op_pick_and rfl rfl) rfl ?_
                refine lx_end ⟨by kernel_rfl, ?_⟩
                refine pe_then_normal ?_
                refine tr_sub hC (.cons (t := 2) rfl (.cons (t := 4) rfl (.cons (t := 12) rfl (.cons (t := 102) rfl .nil)))) (.cons (t := 2) rfl (.cons (t := 600) rfl (.cons (t := 4) rfl .nil))) rfl ?_
                refine tr_cond rfl (fun h102 => ?_) (fun h102 => ?_)
                · (try simp only [Bool.and_eq_true, Bool.or_eq_true, Bool.and_eq_false_iff, Bool.or_eq_false_iff, decide_eq_true_eq, decide_eq_false_iff_not, Bool.not_eq_true', Bool.not_eq_false', List.length_map, ne_eq, Decidable.not_not, Int.not_lt, Int.not_le] at h102)
                  have hql : q < l.length := by have := h102.1; rw [List.length_drop] at this; omega
                  have hst := dlv_step hql (g := e.got + (q : Int)) (by rw [← getD_at hql]; exact h102.2)
                  rw [show e.got + (q : Int) + 1 = e.got + ((q + 1 : Nat) : Int) by omega] at hst
                  have hxl : xs.length ≤ 17 := by rw [hxs, List.length_map, List.length_take]; omega
                  refine tr_skip ?_
                  refine pe_then_normal ?_
                  refine tr_sub hC (.cons (t := 2) rfl (.cons (t := 4) rfl (.cons (t := 12) rfl .nil))) (.cons (t := 2) rfl (.cons (t := 600) rfl (.cons (t := 4) rfl .nil))) rfl ?_
                  refine tr_block ?_
                  refine tr_seq ?_
                  refine tr_region (fun N20 hN => ?_)
                  refine lx (op_move rfl) rfl ?_
                  refine lx (op_fieldAddr rfl fl46_4 sz44) rfl ?_
                  refine lx (op_bload_one (m := 2) rfl rfl ag44 rfl) rfl ?_
                  refine lx (op_index rfl rfl el44 sz27 rfl (drop0_at hql)) rfl ?_
                  first | refine lx (op_fieldAddr rfl fl27_2 sz25) rfl ?_ | refine lx (op_fieldCells rfl fl27_2 sz25) rfl ?_
                  first | refine lx (op_load_one rfl ag25 rfl) rfl ?_ | refine lx (op_bload_one (m := 2) rfl rfl ag25 rfl) rfl ?_ | refine lx (op_bload_one (m := 600) rfl rfl ag25 rfl) rfl ?_ | refine lx (op_bload_one (m := 4) rfl rfl ag25 rfl) rfl ?_
                  refine lx (op_buildSlice (f := byS) (xs := [(l.getD q WF0).data]) (l := [(0, (Go.Operand.tmp 108))]) ze25 rfl rfl (by decide) el43 sz25 byS_len (.cons rfl (.one (by (first | exact One.eq rfl | exact One.mv _ _ _ _ _ | exact One.cl _ _ _ | exact One.map _ | exact One.sl _ _ _ | exact One.row _ _ _ _ | exact One.msl _ _ _ _ | exact One.ptr _ _ | exact One.b _ | exact One.cells _))) .nil) rfl (by decide)) rfl ?_
                  refine lxr (op_append (m := 600) (m' := 600) (kk := 110) rfl rfl rfl (.inl rfl) el43 ze25 sz25 by25 rfl byS_len (by rw [List.length_singleton]; omega) (by rw [List.length_singleton]; omega)) rfl ?_
                  refine lx (op_assign rfl) rfl ?_
                  refine lx_end ⟨by kernel_rfl, ?_⟩
                  refine pe_then_normal ?_
                  refine tr_sub hC (.cons (t := 2) rfl (.cons (t := 4) rfl (.cons (t := 12) rfl .nil))) (.cons (t := 2) rfl (.cons (t := 4) rfl (.cons (t := 600) rfl .nil))) rfl ?_
                  refine tr_seq ?_
                  refine tr_region (fun N21 hN => ?_)
                  refine lx (op_fieldAddr rfl fl46_3 sz3) rfl ?_
                  refine lx (op_bload_one (m := 2) rfl rfl ag3 rfl) rfl ?_
                  refine lx (OpJ.ent (op_add rfl rfl (by omega)) (show Ent _ (eqP (.int .i64 (e.got + ((q + 1 : Nat) : Int)))) from (by exact entI (by omega)))) rfl ?_
                  refine lx (op_fieldAddr rfl fl46_3 sz3) rfl ?_
                  refine lxr (op_store (m := 2) (rs := [_, _, _, _, _]) rfl rfl rfl (.one (by (first | exact One.eq rfl | exact One.mv _ _ _ _ _ | exact One.cl _ _ _ | exact One.map _ | exact One.sl _ _ _ | exact One.row _ _ _ _ | exact One.msl _ _ _ _ | exact One.ptr _ _ | exact One.b _ | exact One.cells _))) sz3 rfl rfl rfl) rfl ?_
                  refine lx_end ⟨by kernel_rfl, ?_⟩
                  refine pe_then_normal ?_
                  refine tr_sub hC (.cons (t := 2) rfl (.cons (t := 4) rfl (.cons (t := 12) rfl .nil))) (.cons (t := 2) rfl (.cons (t := 4) rfl (.cons (t := 600) rfl .nil))) rfl ?_
                  refine tr_region (fun N22 hN => ?_)
                  refine lx (op_fieldAddr rfl fl46_4 sz44) rfl ?_
                  refine lx (op_bload_one (m := 2) rfl rfl ag44 rfl) rfl ?_
                  refine lx (OpJ.ent (op_slice_l rfl rfl el44 sz27 (lo := 1) rfl (by rw [List.length_drop]; omega)) (show Ent _ (slP WF.ps 3 (l.drop (q + 1))) from (by exact Ent.of_eq (by rw [List.drop_drop])))) rfl ?_
                  refine lx (op_fieldAddr rfl fl46_4 sz44) rfl ?_
                  refine lxr (op_store (m := 2) (rs := [_, _, _, _, _]) rfl rfl rfl (.one (by (first | exact One.eq rfl | exact One.mv _ _ _ _ _ | exact One.cl _ _ _ | exact One.map _ | exact One.sl _ _ _ | exact One.row _ _ _ _ | exact One.msl _ _ _ _ | exact One.ptr _ _ | exact One.b _ | exact One.cells _))) sz44 rfl rfl rfl) rfl ?_
                  refine lx_end ⟨by kernel_rfl, ?_⟩
                  refine pe_block_normal ?_
                  refine pe_round (⟨(q + 1, xs ++ [(l.getD q WF0).data], (N20, 110)), by dsimp only; omega, by dsimp only; rw [hxs]; exact data_step hql, by dsimp only; rw [hd, hst]; omega⟩) (by dsimp only; omega) (pe_st hC ?_ ?_ rfl)
                  · try dsimp only [List.cons_append, List.nil_append]
                    first | refine SubF.cons rfl ?_ | (refine SubF.ent rfl ?_ ?_; · repeat (first | exact Ents.nil | refine Ents.cons ?_ ?_ | refine Ent.tup ?_ | refine Ent.agg ?_ | exact Ent.row _ _ _ _ | exact Ent.nil _ _ | exact Ent.func _ | exact Ent.refl _ | exact Ent.of_eq rfl | refine Ent.cells ?_))
                    first | refine SubF.cons rfl ?_ | (refine SubF.ent rfl ?_ ?_; · repeat (first | exact Ents.nil | refine Ents.cons ?_ ?_ | refine Ent.tup ?_ | refine Ent.agg ?_ | exact Ent.row _ _ _ _ | exact Ent.nil _ _ | exact Ent.func _ | exact Ent.refl _ | exact Ent.of_eq rfl | refine Ent.cells ?_))
                    first | refine SubF.cons rfl ?_ | (refine SubF.ent rfl ?_ ?_; · repeat (first | exact Ents.nil | refine Ents.cons ?_ ?_ | refine Ent.tup ?_ | refine Ent.agg ?_ | exact Ent.row _ _ _ _ | exact Ent.nil _ _ | exact Ent.func _ | exact Ent.refl _ | exact Ent.of_eq rfl | refine Ent.cells ?_))
                    exact SubF.nil
                  · try dsimp only [List.cons_append, List.nil_append]
                    repeat (first | exact SubL.nil | refine SubL.cons rfl ?_)
                · have hstop : dlv (e.got + (q : Int)) (l.drop q) = 0 := by
                    rcases Nat.lt_or_ge q l.length with hql | hql
                    · refine dlv_stop hql ?_
                      rw [← getD_at hql]
                      have hqd : 0 < ((l.drop q).length : Int) := by rw [List.length_drop]; omega
                      intro hh
                      have : (decide (((l.drop q).length : Int) > 0) && decide ((l.getD q WF0).seq = e.got + (q : Int) + 1)) = true := by rw [decide_eq_true hqd, decide_eq_true hh]; rfl
                      exact absurd (h102.symm.trans this) (by decide)
                    · exact dlv_end hql
                  have h := recvE_5 hin h68 (n := q) (by rw [← hl1, hd, hstop]; omega)
                  rw [hsF, hbF, ← hl1, ← hre] at h
                  rw [← hxs] at h
                  refine tr_exit ?_
                  refine pe_then_exit ?_
                  refine pe_then_exit ?_
                  refine pe_block_eq ?_
                  refine pe_then_normal ?_
                  refine tr_sub hC (.cons (t := 2) rfl (.cons (t := 4) rfl (.cons (t := 12) rfl .nil))) (.cons (t := 2) rfl (.cons (t := 600) rfl (.cons (t := 4) rfl .nil))) rfl ?_
                  refine tr_seq ?_
                  refine tr_region (fun N23 hN => ?_)
                  refine lx (op_bload (m := 2) rfl rfl ag46 sz46) rfl ?_
                  refine lx (op_move rfl) rfl ?_
                  refine lxr (op_store_all (m := 4) rfl rfl rfl (.agg rfl) sz46 rfl) rfl ?_
                  refine lx (op_assign rfl) rfl ?_
                  refine lx (op_assign rfl) rfl ?_
                  refine lx_end ⟨by kernel_rfl, ?_⟩
                  refine pe_then_normal ?_
                  refine tr_sub hC (.cons (t := 4) rfl (.cons (t := 5) rfl (.cons (t := 6) rfl .nil))) (.cons (t := 600) rfl (.cons (t := 4) rfl .nil)) rfl ?_
                  refine tr_ret ?_
                  refine pe_retN (rs := [.cell 4 46, .tmp 5, .tmp 6]) rfl rfl hO rfl (.cell (m := 4) rfl rfl ag46 sz46 (.tmp rfl (.tmp rfl .nil))) ?_
                  rw [h]
                  repeat (first | exact Ents.nil | refine Ents.cons ?_ ?_ | refine Ent.tup ?_ | refine Ent.agg ?_ | exact Ent.row _ _ _ _ | exact Ent.nil _ _ | exact Ent.func _ | exact Ent.refl _ | exact Ent.of_eq rfl | refine Ent.cells ?_)
end Go.Proofs.Ytgdhogmghffbaaa


namespace Go.Wr
open Go.AL
def f1 : WF := ⟨1, 0, [97]⟩
def f2 : WF := ⟨2, 0, [98]⟩
theorem aw_new : newF 2 = (⟨2, 0, [], 0, []⟩, 0) := by rfl
theorem aw_s1 : sendF ⟨2, 0, [], 0, []⟩ [97] = (⟨2, 0, [[97]], 0, []⟩, 0) := by rfl
theorem aw_s2 : sendF ⟨2, 0, [[97]], 0, []⟩ [98] = (⟨2, 0, [[97], [98]], 0, []⟩, 0) := by rfl
theorem aw_s3 : sendF ⟨2, 0, [[97], [98]], 0, []⟩ [99] = (WE0, 11) := by rfl
theorem aw_e1 : encodeF f1 = (dgF f1, 0) := enc_t (by decide)
theorem aw_e2 : encodeF f2 = (dgF f2, 0) := enc_t (by decide)
theorem aw_fr : framesF ⟨2, 0, [[97], [98]], 0, []⟩ = [dgF f1, dgF f2] := by
  have h : framesF ⟨2, 0, [[97], [98]], 0, []⟩ = [(encodeF f1).1, (encodeF f2).1] := by
    rw [frames_3 (by rfl) (by decide)]
    rfl
  rw [h, aw_e1, aw_e2]
theorem aw_body : bodyF f1 = [70, 1, 0, 1, 97] := by
  unfold bodyF f1
  simp only [show (1 : Int).toNat = 1 from rfl, show (0 : Int).toNat = 0 from rfl, show ([97] : List Int).length = 1 from rfl]
  rw [numF_lt (by decide), numF_lt (by decide)]
  rfl
theorem aw_len : (dgF f1).length = 9 := by
  unfold dgF
  rw [sumF_len, aw_body]
  rfl
theorem aw_take : (dgF f1).take 5 = [70, 1, 0, 1, 97] := by
  unfold dgF sumF
  rw [aw_body, List.take_append_of_le_length (by decide)]
  rfl
theorem aw_str : ((strB ((dgF f1).take 5)).toList == (ByteArray.mk #[70, 1, 0, 1, 97]).toList) = true := by
  rw [aw_take, str_beq]
  decide
theorem aw_isB1 : isB (dgF f1) := dgF_isB (by intro x hx; simp [f1] at hx; omega)
theorem aw_isB2 : isB (dgF f2) := dgF_isB (by intro x hx; simp [f2] at hx; omega)
theorem aw_r1 : recvF ⟨2, 0, [], 0, []⟩ (dgF f2) = (⟨2, 0, [], 0, [⟨2, 0, [98]⟩]⟩, [], 0) := by
  have h := dec_enc (f := f2) (by decide)
  rw [recv_e (by rfl) (by rw [h]), h]
  rfl
theorem aw_r2 : recvF ⟨2, 0, [], 0, [⟨2, 0, [98]⟩]⟩ (dgF f1) = (⟨2, 0, [], 2, []⟩, [[97], [98]], 0) := by
  have h := dec_enc (f := f1) (by decide)
  rw [recv_e (by rfl) (by rw [h]), h]
  rfl
theorem aw_dl (f : WF) (h : frOK f) : (dgF f).length ≤ 1000000 := by
  have := enc_len2 (f := f)
  rw [enc_t h] at this
  exact Nat.le_trans this (by decide)
theorem aw_end : ((((decide ((([] : List (List Int)).length : Int) = 0) && decide ((([[97], [98]] : List (List Int)).length : Int) = 2)) && ((strB [97]).toList == (ByteArray.mk #[97]).toList)) && ((strB [98]).toList == (ByteArray.mk #[98]).toList)) && decide ((2 : Int) = 2)) = true := by
  rw [str_beq, str_beq]
  decide
end Go.Wr


namespace Go.AL
open Go.RowKit Go.Lib
theorem freeze_at_old {W : World} {b i : Nat} {j : Nat} (h : j ≠ b) (n : Nat) : (W.freeze ⟨b, i, none⟩ n).heap[j]? = W.heap[j]? := by
  unfold World.freeze
  split
  · rfl
  · simp only [Array.getElem?_modify]
    rw [if_neg (fun e => h e.symm)]
theorem freeze_at_new {W : World} {b i : Nat} {cs : Array Value} {e : TypeId} (ho : W.heap[b]? = some (.cells cs e (0, 0))) : (W.freeze ⟨b, i, none⟩ 1).heap[b]? = some (.cells cs e (i, i + 1)) := by
  unfold World.freeze
  rw [if_neg (by decide)]
  simp only [Array.getElem?_modify, if_pos, ho]
  rfl
theorem freeze_size {W : World} {b i : Nat} (n : Nat) : (W.freeze ⟨b, i, none⟩ n).heap.size = W.heap.size := by
  unfold World.freeze
  split
  · rfl
  · simp
theorem freeze_cell {W : World} {b i : Nat} {cs : Array Value} {e : TypeId} (ho : W.heap[b]? = some (.cells cs e (0, 0))) (a : Addr) : (W.freeze ⟨b, i, none⟩ 1).cell? a = W.cell? a := by
  unfold World.cell?
  by_cases h : a.block = b
  · rw [h, freeze_at_new ho, ho]
  · rw [freeze_at_old h]
theorem updR_del (R : Toks) (rd : List (Nat × Pred)) (use : List (Nat × Id × Res)) (m : Nat) (x : Id × Res) (new : List Nat) (φ : Pred) :
    updR R ⟨rd, use, [(m, x)], [], new, φ⟩ = fun k => if k = m then none else R k := by
  funext k
  by_cases h : k = m
  · subst h; simp [updR]
  · simp [updR, h, Ne.symm h]
section
variable {P : Program} {n N : Nat} {F : Fr} {R : Toks} {d : Option Nat} {T t e : TypeId} {pos : String} {after : Array Edge} {x : Operand}
theorem op_convert_row {xs : List Int} {id : Id} {m : Nat} (hx : opd F x = some (rowP id byP 1 xs)) (hR : R m = some (id, tail e 1 (xs.length * 1))) (hn : Nat.blt 0 xs.length = true) (ht : P.underlying t = some (.slice e)) (he : P.underlying e = some (.int .u8)) :
    OpJ P n N F R ⟨d, .convert t t x, T, pos, after, none⟩ ⟨rdo x (rowP id byP 1 xs), [], [(m, (id, tail e 1 (xs.length * 1)))], [], [], slP byP 1 xs⟩ where
  loc := by
    intro σ W R a K h1 h2 h3 h4 h5 h6 h7 h8 h9 Q
    have hRm := h6 _ (List.mem_cons_self ..)
    have hn : 0 < xs.length := Nat.le_of_ble_eq_true hn
    rcases holds_of hx h4 with ⟨_, hxe⟩ | ⟨b, hv, hb, hc1, hc2, hcs⟩
    · subst hxe
      exact absurd hn (by simp)
    · obtain ⟨hb0, o, ho, cs, rfl, hl, _⟩ := h1.res m id _ hRm b hb
      have hsh : W.shape? b = some (e, cs.length) := by
        unfold World.shape?
        rw [ho]
        simp
      have hrun : (convert t t (.slice (some ⟨b, 0, none⟩) xs.length (σ.z id))).run P W = .ok (.slice (some ⟨b, 0, none⟩) xs.length (σ.z id)) (W.freeze ⟨b, cs.length, none⟩ 1) := by
        simp [convert, run_underlying ht, run_underlying he, markStringish, hsh]
      have hmod : Models σ (fun k => if k = m then none else R k) (W.freeze ⟨b, cs.length, none⟩ 1) := by
        refine ⟨below_freeze h1.base hb0 1, by rw [freeze_size]; exact h1.n0, fun b' i v hv' => by rw [freeze_cell ho]; exact h1.imm b' i v hv', fun n' id' r hn' b' hb' => ?_, fun n' m' x' y' b' hnm hx' hy' => ?_, fun n' x' hx' => ?_, h1.fin⟩
        · split at hn'
          · cases hn'
          · rename_i hne
            obtain ⟨g1, o', g2, g3⟩ := h1.res n' id' r hn' b' hb'
            refine ⟨g1, o', ?_, g3⟩
            rw [freeze_at_old]
            · exact g2
            · rintro rfl
              exact h1.sep n' m _ _ _ hne hn' hRm hb' hb
        · split at hx'
          · cases hx'
          · split at hy'
            · cases hy'
            · exact h1.sep n' m' x' y' b' hnm hx' hy'
        · split at hx'
          · cases hx'
          · exact h1.used n' x' hx'
      refine wp_value (v := .slice (some ⟨b, 0, none⟩) xs.length (σ.z id)) (W' := W.freeze ⟨b, cs.length, none⟩ 1) ?_ (h9 σ _ _ (Le.refl σ) (fun _ _ _ => rfl) (hmod.congr (updR_del ..)) ?_)
      · simp only [execOp, hv, Sem.run_bind, hrun, Result.andThen_ok, Sem.run_pure]
      · exact ⟨_, _, rfl, hc1, hc2, fun _ => ⟨b, 0, rfl, fun i z hz => by rw [Nat.zero_add]; exact hcs i z hz⟩⟩
  rd := rd_of hx
  use := by simp
  del := by simpa using hR
  add := by simp
end
end Go.AL
