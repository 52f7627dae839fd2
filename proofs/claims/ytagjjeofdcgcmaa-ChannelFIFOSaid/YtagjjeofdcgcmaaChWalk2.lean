/- Walks of the functions of layer 17: copies -/
import Derived.Test.YtagjjeofdcgcmaaChWalk
set_option linter.unusedVariables false
set_option linter.unusedSimpArgs false
namespace Go.Proofs.Ytagjjeofdcgcmaa
open Go.AL Go.Ch Go.RowKit
theorem ag25 : aggB Try.prog 25 = some false := by kernel_rfl
theorem ag26 : aggB Try.prog 26 = some false := by kernel_rfl
theorem ag28 : aggB Try.prog 28 = some true := by kernel_rfl
theorem el78 : elemB Try.prog 78 = some 26 := by kernel_rfl
theorem fl28_1 : fldB Try.prog 28 1 = some (1, 25) := by kernel_rfl
theorem fl28_4 : fldB Try.prog 28 4 = some (4, 25) := by kernel_rfl
theorem fl28_8 : fldB Try.prog 28 8 = some (8, 26) := by kernel_rfl
theorem fl28_9 : fldB Try.prog 28 9 = some (9, 26) := by kernel_rfl
theorem fn48 : fnB Try.prog 48 = true := by kernel_rfl
theorem fn51 : fnB Try.prog 51 = true := by kernel_rfl
theorem fn53 : fnB Try.prog 53 = true := by kernel_rfl
theorem fn56 : fnB Try.prog 56 = true := by kernel_rfl
theorem fn57 : fnB Try.prog 57 = true := by kernel_rfl
theorem fn58 : fnB Try.prog 58 = true := by kernel_rfl
theorem fn59 : fnB Try.prog 59 = true := by kernel_rfl
theorem fn60 : fnB Try.prog 60 = true := by kernel_rfl
theorem fs33 : sizesB Try.prog 33 = true := by kernel_rfl
theorem sz25 : sizeB Try.prog 25 = some 1 := by kernel_rfl
theorem sz26 : sizeB Try.prog 26 = some 1 := by kernel_rfl
theorem sz28 : sizeB Try.prog 28 = some 10 := by kernel_rfl
theorem ze28 : zeroB Try.prog 28 = some (some (.agg #[.int .i64 0, .slice none 0 0, .bool false, .int .i64 0, .slice none 0 0, .bool false, .int .i64 0, .int .i64 0, .slice none 0 0, .slice none 0 0])) := by kernel_rfl
theorem concat_ok (ls : List (List Wt)) (hl : ls.length ≤ 1000) (hx : ls.flatten.length ≤ 1000000) : FnP Try.prog 54 [slP lp 1 ls] (slP wp 5 ls.flatten) := by
  refine fn_pure' Try.func54 rfl Try.ntmps54 rfl ?_
  intro σ0 M ex Rf R hC hO
  simp only [frameOf, tokOf]
  refine tr_seq ?_
  refine tr_region (fun N0 hN => ?_)
  refine lx (op_assign rfl) rfl ?_
  refine lx_end ⟨by kernel_rfl, ?_⟩
  refine pe_then_normal ?_
  refine tr_sub hC (.cons (t := 0) rfl .nil) .nil rfl ?_
  refine tr_seq ?_
  refine tr_region (fun N1 hN => ?_)
  refine lx (op_assign rfl) rfl ?_
  refine lx_end ⟨by kernel_rfl, ?_⟩
  refine pe_then_normal ?_
  refine tr_sub hC (.cons (t := 0) rfl (.cons (t := 3) rfl .nil)) .nil rfl ?_
  refine tr_seq ?_
  refine tr_seq ?_
  refine tr_region (fun N2 hN => ?_)
  refine lx (op_move rfl) rfl ?_
  first | refine lx (op_len rfl el78) rfl ?_ | refine lx (op_len_row rfl el78) rfl ?_ | refine lx (op_len_mv rfl el78) rfl ?_ | refine lx (op_len_nil rfl el78) rfl ?_
  refine lx (op_move rfl) rfl ?_
  refine lx_end ⟨by kernel_rfl, ?_⟩
  refine pe_then_normal ?_
  refine tr_sub hC (.cons (t := 0) rfl (.cons (t := 3) rfl (.cons (t := 9) rfl (.cons (t := 10) rfl (.cons (t := 11) rfl .nil))))) .nil rfl ?_
  refine tr_block ?_
  refine tr_loopK (α := {zz : Nat × Nat // zz.1 ≤ ls.length ∧ zz.2 = (ls.take zz.1).flatten.length}) (⟨(0, 0), Nat.zero_le _, rfl⟩) (fun zz => [(3, eqP (.int .i64 (zz.1.2 : Int))), (11, eqP (.int .i64 (zz.1.1 : Int)))]) (fun zz => []) (fun zz => ls.length - zz.1.1) hC (.cons (t := 0) rfl (.cons (t := 9) rfl (.cons (t := 10) rfl .nil))) .nil rfl ?_ ?_ (fun zz => ?_)
  · try dsimp only [List.cons_append, List.nil_append]
    first | refine SubF.cons rfl ?_ | (refine SubF.ent rfl ?_ ?_; · repeat (first | exact Ents.nil | refine Ents.cons ?_ ?_ | refine Ent.tup ?_ | refine Ent.agg ?_ | exact Ent.row _ _ _ _ | exact Ent.nil _ _ | exact Ent.func _ | exact Ent.refl _ | exact Ent.of_eq rfl | refine Ent.cells ?_))
    first | refine SubF.cons rfl ?_ | (refine SubF.ent rfl ?_ ?_; · repeat (first | exact Ents.nil | refine Ents.cons ?_ ?_ | refine Ent.tup ?_ | refine Ent.agg ?_ | exact Ent.row _ _ _ _ | exact Ent.nil _ _ | exact Ent.func _ | exact Ent.refl _ | exact Ent.of_eq rfl | refine Ent.cells ?_))
    exact SubF.nil
  · try dsimp only [List.cons_append, List.nil_append]
    repeat (first | exact SubL.nil | refine SubL.cons rfl ?_)
  · obtain ⟨⟨k, n⟩, hk1, hn⟩ := zz
    try dsimp only at hk1
    try dsimp only at hn
    dsimp only [List.cons_append, List.nil_append]
    refine tr_seq ?_
    refine tr_region (fun N3 hN => ?_)
    refine lx (op_lss rfl rfl) rfl ?_
    refine lx_end ⟨by kernel_rfl, ?_⟩
    refine pe_then_normal ?_
    refine tr_sub hC (.cons (t := 0) rfl (.cons (t := 3) rfl (.cons (t := 9) rfl (.cons (t := 10) rfl (.cons (t := 11) rfl (.cons (t := 12) rfl .nil)))))) .nil rfl ?_
    refine tr_seq ?_
    refine tr_cond rfl (fun h12 => ?_) (fun h12 => ?_)
    · (try simp only [Bool.and_eq_true, Bool.or_eq_true, Bool.and_eq_false_iff, Bool.or_eq_false_iff, decide_eq_true_eq, decide_eq_false_iff_not, Bool.not_eq_true', Bool.not_eq_false', List.length_map, ne_eq, Decidable.not_not, Int.not_lt, Int.not_le] at h12)
      have hfl := flat_take_at (by omega : k < ls.length)
      have hle := flat_take_le ls (k + 1)
      refine tr_skip ?_
      refine pe_then_normal ?_
      refine tr_sub hC (.cons (t := 0) rfl (.cons (t := 3) rfl (.cons (t := 9) rfl (.cons (t := 10) rfl (.cons (t := 11) rfl .nil))))) .nil rfl ?_
      refine tr_seq ?_
      refine tr_block ?_
      refine tr_seq ?_
      refine tr_region (fun N4 hN => ?_)
      refine lx (op_index rfl rfl el78 sz26 rfl (List.getElem?_eq_getElem (by omega : k < ls.length))) rfl ?_
      refine lx (op_load_one rfl ag26 rfl) rfl ?_
      refine lx (op_assign rfl) rfl ?_
      refine lx_end ⟨by kernel_rfl, ?_⟩
      refine pe_then_normal ?_
      refine tr_sub hC (.cons (t := 0) rfl (.cons (t := 3) rfl (.cons (t := 5) rfl (.cons (t := 9) rfl (.cons (t := 10) rfl (.cons (t := 11) rfl .nil)))))) .nil rfl ?_
      refine tr_seq ?_
      refine tr_region (fun N5 hN => ?_)
      refine lx (op_move rfl) rfl ?_
      refine lx (op_move rfl) rfl ?_
      first | refine lx (op_len rfl el26) rfl ?_ | refine lx (op_len_row rfl el26) rfl ?_ | refine lx (op_len_mv rfl el26) rfl ?_ | refine lx (op_len_nil rfl el26) rfl ?_
      refine lx (op_add rfl rfl (by rw [hfl, List.length_append] at hle; omega)) rfl ?_
      refine lx (op_assign rfl) rfl ?_
      refine lx_end ⟨by kernel_rfl, ?_⟩
      refine pe_then_normal ?_
      refine tr_sub hC (.cons (t := 0) rfl (.cons (t := 3) rfl (.cons (t := 9) rfl (.cons (t := 10) rfl (.cons (t := 11) rfl .nil))))) .nil rfl ?_
      refine tr_seq ?_
      refine tr_region (fun N6 hN => ?_)
      refine lx (op_move rfl) rfl ?_
      refine lx (op_lss rfl rfl) rfl ?_
      refine lx_end ⟨by kernel_rfl, ?_⟩
      refine pe_then_normal ?_
      refine tr_sub hC (.cons (t := 0) rfl (.cons (t := 3) rfl (.cons (t := 9) rfl (.cons (t := 10) rfl (.cons (t := 11) rfl (.cons (t := 20) rfl .nil)))))) .nil rfl ?_
      refine tr_cond rfl (fun h20 => ?_) (fun h20 => ?_)
      · (try simp only [Bool.and_eq_true, Bool.or_eq_true, Bool.and_eq_false_iff, Bool.or_eq_false_iff, decide_eq_true_eq, decide_eq_false_iff_not, Bool.not_eq_true', Bool.not_eq_false', List.length_map, ne_eq, Decidable.not_not, Int.not_lt, Int.not_le] at h20)
        omega
      · (try simp only [Bool.and_eq_true, Bool.or_eq_true, Bool.and_eq_false_iff, Bool.or_eq_false_iff, decide_eq_true_eq, decide_eq_false_iff_not, Bool.not_eq_true', Bool.not_eq_false', List.length_map, ne_eq, Decidable.not_not, Int.not_lt, Int.not_le] at h20)
        refine tr_skip ?_
        refine pe_block_normal ?_
        refine pe_then_normal ?_
        refine tr_sub hC (.cons (t := 0) rfl (.cons (t := 3) rfl (.cons (t := 9) rfl (.cons (t := 10) rfl (.cons (t := 11) rfl .nil))))) .nil rfl ?_
        refine tr_region (fun N8 hN => ?_)
        refine lx (op_add rfl rfl (by omega)) rfl ?_
        refine lx (op_move rfl) rfl ?_
        refine lx_end ⟨by kernel_rfl, ?_⟩
        refine pe_round (⟨(k + 1, n + ls[k].length), by dsimp only; omega, by dsimp only; rw [hfl, List.length_append, hn]⟩) (by dsimp only; omega) (pe_st hC ?_ ?_ rfl)
        · try dsimp only [List.cons_append, List.nil_append]
          first | refine SubF.cons rfl ?_ | (refine SubF.ent rfl ?_ ?_; · repeat (first | exact Ents.nil | refine Ents.cons ?_ ?_ | refine Ent.tup ?_ | refine Ent.agg ?_ | exact Ent.row _ _ _ _ | exact Ent.nil _ _ | exact Ent.func _ | exact Ent.refl _ | exact Ent.of_eq rfl | refine Ent.cells ?_))
          first | refine SubF.cons rfl ?_ | (refine SubF.ent rfl ?_ ?_; · repeat (first | exact Ents.nil | refine Ents.cons ?_ ?_ | refine Ent.tup ?_ | refine Ent.agg ?_ | exact Ent.row _ _ _ _ | exact Ent.nil _ _ | exact Ent.func _ | exact Ent.refl _ | exact Ent.of_eq rfl | refine Ent.cells ?_))
          first | refine SubF.cons rfl ?_ | (refine SubF.ent rfl ?_ ?_; · repeat (first | exact Ents.nil | refine Ents.cons ?_ ?_ | refine Ent.tup ?_ | refine Ent.agg ?_ | exact Ent.row _ _ _ _ | exact Ent.nil _ _ | exact Ent.func _ | exact Ent.refl _ | exact Ent.of_eq rfl | refine Ent.cells ?_))
          first | refine SubF.cons rfl ?_ | (refine SubF.ent rfl ?_ ?_; · repeat (first | exact Ents.nil | refine Ents.cons ?_ ?_ | refine Ent.tup ?_ | refine Ent.agg ?_ | exact Ent.row _ _ _ _ | exact Ent.nil _ _ | exact Ent.func _ | exact Ent.refl _ | exact Ent.of_eq rfl | refine Ent.cells ?_))
          first | refine SubF.cons rfl ?_ | (refine SubF.ent rfl ?_ ?_; · repeat (first | exact Ents.nil | refine Ents.cons ?_ ?_ | refine Ent.tup ?_ | refine Ent.agg ?_ | exact Ent.row _ _ _ _ | exact Ent.nil _ _ | exact Ent.func _ | exact Ent.refl _ | exact Ent.of_eq rfl | refine Ent.cells ?_))
          exact SubF.nil
        · try dsimp only [List.cons_append, List.nil_append]
          repeat (first | exact SubL.nil | refine SubL.cons rfl ?_)
    · (try simp only [Bool.and_eq_true, Bool.or_eq_true, Bool.and_eq_false_iff, Bool.or_eq_false_iff, decide_eq_true_eq, decide_eq_false_iff_not, Bool.not_eq_true', Bool.not_eq_false', List.length_map, ne_eq, Decidable.not_not, Int.not_lt, Int.not_le] at h12)
      have hk3 : k = ls.length := by omega
      refine tr_exit ?_
      refine pe_then_exit ?_
      refine pe_then_exit ?_
      refine pe_block_eq ?_
      refine pe_then_normal ?_
      refine tr_sub hC (.cons (t := 0) rfl (.cons (t := 3) rfl .nil)) .nil rfl ?_
      refine tr_seq ?_
      refine tr_region (fun N9 hN => ?_)
      refine lx (op_move rfl) rfl ?_
      first | refine lxn (op_callG (del := []) (add := [(24, ((N9, 24), tail 33 5 0))]) (ks := [24]) (grow_ok n (by rw [hn]; exact len_le_of_eq rfl (Nat.le_trans (flat_take_le ls k) hx))) (.cons rfl (.cons rfl .nil)) fn58 rfl rfl rfl (by intro x hx; cases hx) (fun x hx => .inl (by cases hx with | head => exact hC.low 24 (by decide) | tail _ h => cases h))) rfl ?_ | refine lxn (op_callG (del := []) (add := [(24, ((N9, 24), tail 33 5 0))]) (ks := [24]) (grow_ok n (by rw [hn]; exact len_le_of_eq rfl (Nat.le_trans (flat_take_le ls k) hx))) (.ent rfl (by repeat (first | exact Ents.nil | refine Ents.cons ?_ ?_ | refine Ent.tup ?_ | refine Ent.agg ?_ | exact Ent.row _ _ _ _ | exact Ent.nil _ _ | exact Ent.func _ | exact Ent.refl _ | exact Ent.of_eq rfl | refine Ent.cells ?_)) (.ent rfl (by repeat (first | exact Ents.nil | refine Ents.cons ?_ ?_ | refine Ent.tup ?_ | refine Ent.agg ?_ | exact Ent.row _ _ _ _ | exact Ent.nil _ _ | exact Ent.func _ | exact Ent.refl _ | exact Ent.of_eq rfl | refine Ent.cells ?_)) .nil)) fn58 rfl rfl rfl (by intro x hx; cases hx) (fun x hx => .inl (by cases hx with | head => exact hC.low 24 (by decide) | tail _ h => cases h))) rfl ?_
      refine lx (op_assign rfl) rfl ?_
      refine lx_end ⟨by kernel_rfl, ?_⟩
      refine pe_then_normal ?_
      refine tr_sub hC (.cons (t := 0) rfl (.cons (t := 6) rfl .nil)) (.cons (t := 24) rfl .nil) rfl ?_
      refine tr_seq ?_
      refine tr_seq ?_
      refine tr_region (fun N10 hN => ?_)
      refine lx (op_move rfl) rfl ?_
      first | refine lx (op_len rfl el78) rfl ?_ | refine lx (op_len_row rfl el78) rfl ?_ | refine lx (op_len_mv rfl el78) rfl ?_ | refine lx (op_len_nil rfl el78) rfl ?_
      refine lx (op_move rfl) rfl ?_
      refine lx_end ⟨by kernel_rfl, ?_⟩
      refine pe_then_normal ?_
      refine tr_sub hC (.cons (t := 6) rfl (.cons (t := 25) rfl (.cons (t := 26) rfl (.cons (t := 27) rfl .nil)))) (.cons (t := 24) rfl .nil) rfl ?_
      refine tr_block ?_
      refine tr_loopK (α := {zz : Nat × (List Wt) × AL.Id // zz.1 ≤ ls.length ∧ zz.2.1 = (ls.take zz.1).flatten}) (⟨(0, [], (N9, 24)), Nat.zero_le _, rfl⟩) (fun zz => [(6, rowP zz.1.2.2 wp 5 zz.1.2.1), (27, eqP (.int .i64 (zz.1.1 : Int)))]) (fun zz => [(24, some (zz.1.2.2, tail 33 5 (zz.1.2.1.length * 5)))]) (fun zz => ls.length - zz.1.1) hC (.cons (t := 25) rfl (.cons (t := 26) rfl .nil)) .nil rfl ?_ ?_ (fun zz => ?_)
      · try dsimp only [List.cons_append, List.nil_append]
        first | refine SubF.cons rfl ?_ | (refine SubF.ent rfl ?_ ?_; · repeat (first | exact Ents.nil | refine Ents.cons ?_ ?_ | refine Ent.tup ?_ | refine Ent.agg ?_ | exact Ent.row _ _ _ _ | exact Ent.nil _ _ | exact Ent.func _ | exact Ent.refl _ | exact Ent.of_eq rfl | refine Ent.cells ?_))
        first | refine SubF.cons rfl ?_ | (refine SubF.ent rfl ?_ ?_; · repeat (first | exact Ents.nil | refine Ents.cons ?_ ?_ | refine Ent.tup ?_ | refine Ent.agg ?_ | exact Ent.row _ _ _ _ | exact Ent.nil _ _ | exact Ent.func _ | exact Ent.refl _ | exact Ent.of_eq rfl | refine Ent.cells ?_))
        exact SubF.nil
      · try dsimp only [List.cons_append, List.nil_append]
        repeat (first | exact SubL.nil | refine SubL.cons rfl ?_)
      · obtain ⟨⟨j, out, id⟩, hj1, hout⟩ := zz
        try dsimp only at hj1
        try dsimp only at hout
        dsimp only [List.cons_append, List.nil_append]
        refine tr_seq ?_
        refine tr_region (fun N11 hN => ?_)
        refine lx (op_lss rfl rfl) rfl ?_
        refine lx_end ⟨by kernel_rfl, ?_⟩
        refine pe_then_normal ?_
        refine tr_sub hC (.cons (t := 6) rfl (.cons (t := 25) rfl (.cons (t := 26) rfl (.cons (t := 27) rfl (.cons (t := 28) rfl .nil))))) (.cons (t := 24) rfl .nil) rfl ?_
        refine tr_seq ?_
        refine tr_cond rfl (fun h28 => ?_) (fun h28 => ?_)
        · (try simp only [Bool.and_eq_true, Bool.or_eq_true, Bool.and_eq_false_iff, Bool.or_eq_false_iff, decide_eq_true_eq, decide_eq_false_iff_not, Bool.not_eq_true', Bool.not_eq_false', List.length_map, ne_eq, Decidable.not_not, Int.not_lt, Int.not_le] at h28)
          have hfj := flat_take_at (by omega : j < ls.length)
          have hle2 := flat_take_le ls (j + 1)
          refine tr_skip ?_
          refine pe_then_normal ?_
          refine tr_sub hC (.cons (t := 6) rfl (.cons (t := 25) rfl (.cons (t := 26) rfl (.cons (t := 27) rfl .nil)))) (.cons (t := 24) rfl .nil) rfl ?_
          refine tr_seq ?_
          refine tr_block ?_
          refine tr_seq ?_
          refine tr_region (fun N12 hN => ?_)
          refine lx (op_index rfl rfl el78 sz26 rfl (List.getElem?_eq_getElem (by omega : j < ls.length))) rfl ?_
          first | refine lx (op_load_one rfl ag26 rfl) rfl ?_ | refine lx (op_bload_one (m := 24) rfl rfl ag26 rfl) rfl ?_
          refine lx (op_assign rfl) rfl ?_
          refine lx_end ⟨by kernel_rfl, ?_⟩
          refine pe_then_normal ?_
          refine tr_sub hC (.cons (t := 6) rfl (.cons (t := 8) rfl (.cons (t := 25) rfl (.cons (t := 26) rfl (.cons (t := 27) rfl .nil))))) (.cons (t := 24) rfl .nil) rfl ?_
          refine tr_region (fun N13 hN => ?_)
          refine lx (op_move rfl) rfl ?_
          refine lx (op_move rfl) rfl ?_
          refine lxr (op_append (m := 24) (m' := 24) (kk := 33) rfl rfl rfl (.inl rfl) el26 ze33 sz33 by33 rfl wp_len (by rw [hfj, List.length_append, ← hout] at hle2; omega) (by rw [hfj, List.length_append, ← hout] at hle2; omega)) rfl ?_
          refine lx (op_assign rfl) rfl ?_
          refine lx_end ⟨by kernel_rfl, ?_⟩
          refine pe_block_normal ?_
          refine pe_then_normal ?_
          refine tr_sub hC (.cons (t := 6) rfl (.cons (t := 25) rfl (.cons (t := 26) rfl (.cons (t := 27) rfl .nil)))) (.cons (t := 24) rfl .nil) rfl ?_
          refine tr_region (fun N14 hN => ?_)
          refine lx (op_add rfl rfl (by omega)) rfl ?_
          refine lx (op_move rfl) rfl ?_
          refine lx_end ⟨by kernel_rfl, ?_⟩
          refine pe_round (⟨(j + 1, out ++ ls[j], (N13, 33)), by dsimp only; omega, by dsimp only; rw [hfj, hout]⟩) (by dsimp only; omega) (pe_st hC ?_ ?_ rfl)
          · try dsimp only [List.cons_append, List.nil_append]
            first | refine SubF.cons rfl ?_ | (refine SubF.ent rfl ?_ ?_; · repeat (first | exact Ents.nil | refine Ents.cons ?_ ?_ | refine Ent.tup ?_ | refine Ent.agg ?_ | exact Ent.row _ _ _ _ | exact Ent.nil _ _ | exact Ent.func _ | exact Ent.refl _ | exact Ent.of_eq rfl | refine Ent.cells ?_))
            first | refine SubF.cons rfl ?_ | (refine SubF.ent rfl ?_ ?_; · repeat (first | exact Ents.nil | refine Ents.cons ?_ ?_ | refine Ent.tup ?_ | refine Ent.agg ?_ | exact Ent.row _ _ _ _ | exact Ent.nil _ _ | exact Ent.func _ | exact Ent.refl _ | exact Ent.of_eq rfl | refine Ent.cells ?_))
            first | refine SubF.cons rfl ?_ | (refine SubF.ent rfl ?_ ?_; · repeat (first | exact Ents.nil | refine Ents.cons ?_ ?_ | refine Ent.tup ?_ | refine Ent.agg ?_ | exact Ent.row _ _ _ _ | exact Ent.nil _ _ | exact Ent.func _ | exact Ent.refl _ | exact Ent.of_eq rfl | refine Ent.cells ?_))
            first | refine SubF.cons rfl ?_ | (refine SubF.ent rfl ?_ ?_; · repeat (first | exact Ents.nil | refine Ents.cons ?_ ?_ | refine Ent.tup ?_ | refine Ent.agg ?_ | exact Ent.row _ _ _ _ | exact Ent.nil _ _ | exact Ent.func _ | exact Ent.refl _ | exact Ent.of_eq rfl | refine Ent.cells ?_))
            exact SubF.nil
          · try dsimp only [List.cons_append, List.nil_append]
            repeat (first | exact SubL.nil | refine SubL.cons rfl ?_)
        · (try simp only [Bool.and_eq_true, Bool.or_eq_true, Bool.and_eq_false_iff, Bool.or_eq_false_iff, decide_eq_true_eq, decide_eq_false_iff_not, Bool.not_eq_true', Bool.not_eq_false', List.length_map, ne_eq, Decidable.not_not, Int.not_lt, Int.not_le] at h28)
          have hj3 : j = ls.length := by omega
          have hfin : out = ls.flatten := by rw [hout, hj3, List.take_length]
          refine tr_exit ?_
          refine pe_then_exit ?_
          refine pe_then_exit ?_
          refine pe_block_eq ?_
          refine pe_then_normal ?_
          refine tr_sub hC (.cons (t := 6) rfl .nil) (.cons (t := 24) rfl .nil) rfl ?_
          refine tr_seq ?_
          refine tr_region (fun N15 hN => ?_)
          refine lx (op_move rfl) rfl ?_
          refine lx (op_assign rfl) rfl ?_
          refine lx_end ⟨by kernel_rfl, ?_⟩
          refine pe_then_normal ?_
          refine tr_sub hC (.cons (t := 2) rfl .nil) (.cons (t := 24) rfl .nil) rfl ?_
          refine tr_ret ?_
          refine pe_ret1 rfl hO rfl (.tmp rfl .nil) ?_
          rw [← hfin]
          repeat (first | exact Ents.nil | refine Ents.cons ?_ ?_ | refine Ent.tup ?_ | refine Ent.agg ?_ | exact Ent.row _ _ _ _ | exact Ent.nil _ _ | exact Ent.func _ | exact Ent.refl _ | exact Ent.of_eq rfl | refine Ent.cells ?_)

theorem other_ok (p : Opn) (l : List Wt) (hx : l.length ≤ 1000000) : FnP Try.prog 55 [aggP p.ps, slP wp 5 l] (tupP [aggP (wp (otherF l p.w.g).1), eqP (.bool (otherF l p.w.g).2)]) := by
  refine fn_pure' Try.func55 rfl Try.ntmps55 rfl ?_
  intro σ0 M ex Rf R hC hO
  simp only [frameOf, tokOf]
  refine tr_seq ?_
  refine tr_region (fun N0 hN => ?_)
  refine lxn (op_box (m := 2) (k := 2) rfl (.agg rfl) (by first | exact hC.low _ (by decide) | rfl)) rfl ?_
  refine lxn (op_alloc (m := 4) (k := 4) (ps := [eqP (.int .i64 0), eqP (.int .i64 0), eqP (.int .i64 0), eqP (.int .i64 0), eqP (.int .i64 0)]) ze33 rfl rfl (by first | exact hC.low _ (by decide) | rfl)) rfl ?_
  refine lx (op_assign rfl) rfl ?_
  refine lx_end ⟨by kernel_rfl, ?_⟩
  refine pe_then_normal ?_
  refine tr_sub hC (.cons (t := 1) rfl (.cons (t := 2) rfl (.cons (t := 4) rfl .nil))) (.cons (t := 2) rfl (.cons (t := 4) rfl .nil)) rfl ?_
  refine tr_freeze (m := 2) rfl (.cons (t := 1) rfl (.ent (t := 2) rfl (FEnt.ptr) (.cons (t := 4) rfl .nil))) ?_
  try dsimp only
  refine tr_seq ?_
  refine tr_region (fun N1 hN => ?_)
  refine lx (op_move rfl) rfl ?_
  refine lx (op_makeFunc (bs := []) (cs := [(Go.Operand.tmp 2)]) .nil (.cons rfl .nil)) rfl ?_
  first | refine lx (op_call (l := [(Go.Operand.tmp 7), (Go.Operand.tmp 8)]) (index_ok 60 [cellsP p.ps] _ (fun w => other1_ok p w) fn60 l hx) (.cons rfl (.cons rfl .nil)) fn59) rfl ?_ | refine lx (op_call (l := [(Go.Operand.tmp 7), (Go.Operand.tmp 8)]) (index_ok 60 [cellsP p.ps] _ (fun w => other1_ok p w) fn60 l hx) (.ent rfl (by repeat (first | exact Ents.nil | refine Ents.cons ?_ ?_ | refine Ent.tup ?_ | refine Ent.agg ?_ | exact Ent.row _ _ _ _ | exact Ent.nil _ _ | exact Ent.func _ | exact Ent.refl _ | exact Ent.of_eq rfl | refine Ent.cells ?_)) (.ent rfl (by repeat (first | exact Ents.nil | refine Ents.cons ?_ ?_ | refine Ent.tup ?_ | refine Ent.agg ?_ | exact Ent.row _ _ _ _ | exact Ent.nil _ _ | exact Ent.func _ | exact Ent.refl _ | exact Ent.of_eq rfl | refine Ent.cells ?_)) .nil)) fn59) rfl ?_
  refine lx (op_assign rfl) rfl ?_
  refine lx_end ⟨by kernel_rfl, ?_⟩
  refine pe_then_normal ?_
  refine tr_sub hC (.cons (t := 1) rfl (.cons (t := 4) rfl (.cons (t := 6) rfl .nil))) (.cons (t := 4) rfl .nil) rfl ?_
  refine tr_seq ?_
  refine tr_seq ?_
  refine tr_region (fun N2 hN => ?_)
  refine lx (op_move rfl) rfl ?_
  refine lx (op_lss rfl rfl) rfl ?_
  refine lx_end ⟨by kernel_rfl, ?_⟩
  refine pe_then_normal ?_
  refine tr_sub hC (.cons (t := 1) rfl (.cons (t := 4) rfl (.cons (t := 6) rfl (.cons (t := 11) rfl .nil)))) (.cons (t := 4) rfl .nil) rfl ?_
  refine tr_cond rfl (fun h11 => ?_) (fun h11 => ?_)
  · have hno := otherF_neg (of_decide_eq_true h11)
    refine tr_seq ?_
    refine tr_region (fun N3 hN => ?_)
    refine lx (op_build (qs := [_, _, _, _, _]) (parts := []) ze33 rfl rfl fs33 .nil rfl rfl) rfl ?_
    refine lxr (op_store_all (m := 4) rfl rfl rfl (.agg rfl) sz33 rfl) rfl ?_
    refine lx (op_assign rfl) rfl ?_
    refine lx_end ⟨by kernel_rfl, ?_⟩
    refine pe_then_normal ?_
    refine tr_sub hC (.cons (t := 4) rfl (.cons (t := 5) rfl .nil)) (.cons (t := 4) rfl .nil) rfl ?_
    refine tr_ret ?_
    refine pe_then_ret ?_
    refine pe_retN (rs := [.cell 4 33, .tmp 5]) rfl rfl hO rfl (.cell (m := 4) rfl rfl ag33 sz33 (.tmp rfl .nil)) ?_
    rw [hno]
    repeat (first | exact Ents.nil | refine Ents.cons ?_ ?_ | refine Ent.tup ?_ | refine Ent.agg ?_ | exact Ent.row _ _ _ _ | exact Ent.nil _ _ | exact Ent.func _ | exact Ent.refl _ | exact Ent.of_eq rfl | refine Ent.cells ?_)
  · obtain ⟨k, hk, hke, hyes⟩ := otherF_pos (of_decide_eq_false h11)
    refine tr_skip ?_
    refine pe_then_normal ?_
    refine tr_sub hC (.cons (t := 1) rfl (.cons (t := 4) rfl (.cons (t := 6) rfl .nil))) (.cons (t := 4) rfl .nil) rfl ?_
    refine tr_seq ?_
    refine tr_region (fun N4 hN => ?_)
    refine lx (op_move rfl) rfl ?_
    refine lx (op_move rfl) rfl ?_
    refine lx (op_index rfl rfl el26 sz33 hke (List.getElem?_eq_getElem hk)) rfl ?_
    first | refine lx (op_load_all rfl ag33 sz33) rfl ?_ | refine lx (op_load_agg rfl ag33 sz33 rfl) rfl ?_ | refine lx (op_bload (m := 4) rfl rfl ag33 sz33) rfl ?_ | refine lx (op_bload_part (m := 4) (qs := [_, _, _, _, _]) rfl rfl ag33 sz33 rfl rfl) rfl ?_
    refine lxr (op_store_all (m := 4) rfl rfl rfl (.agg rfl) sz33 rfl) rfl ?_
    refine lx (op_assign rfl) rfl ?_
    refine lx_end ⟨by kernel_rfl, ?_⟩
    refine pe_then_normal ?_
    refine tr_sub hC (.cons (t := 4) rfl (.cons (t := 5) rfl .nil)) (.cons (t := 4) rfl .nil) rfl ?_
    refine tr_ret ?_
    refine pe_retN (rs := [.cell 4 33, .tmp 5]) rfl rfl hO rfl (.cell (m := 4) rfl rfl ag33 sz33 (.tmp rfl .nil)) ?_
    rw [hyes]
    repeat (first | exact Ents.nil | refine Ents.cons ?_ ?_ | refine Ent.tup ?_ | refine Ent.agg ?_ | exact Ent.row _ _ _ _ | exact Ent.nil _ _ | exact Ent.func _ | exact Ent.refl _ | exact Ent.of_eq rfl | refine Ent.cells ?_)

theorem clone_ok (o : Ob) (hs : Lens o) : FnOK Try.prog 48 [aggP o.ps] [] 4 (fun ι => aggP (o.rs (ι 0) (ι 1) (ι 2) (ι 3))) (fun ι => [(ι 0, tail 23 3 (o.cells.length * 3)), (ι 1, tail 23 3 (o.queue.length * 3)), (ι 2, tail 33 5 (o.senders.length * 5)), (ι 3, tail 33 5 (o.receivers.length * 5))]) := by
  refine fn_ownN Try.func48 rfl Try.ntmps48 rfl ?_
  intro σ0 M Rf R hC hO
  simp only [frameOf, tokOf]
  refine tr_seq ?_
  refine tr_region (fun N0 hN => ?_)
  refine lxn (op_box (m := 1) (k := 1) rfl (.agg rfl) (by first | exact hC.low _ (by decide) | rfl)) rfl ?_
  refine lxn (op_alloc (m := 2) (k := 2) (ps := [eqP (.int .i64 0), eqP (.slice none 0 0), eqP (.bool false), eqP (.int .i64 0), eqP (.slice none 0 0), eqP (.bool false), eqP (.int .i64 0), eqP (.int .i64 0), eqP (.slice none 0 0), eqP (.slice none 0 0)]) ze28 rfl rfl (by first | exact hC.low _ (by decide) | rfl)) rfl ?_
  refine lx_end ⟨by kernel_rfl, ?_⟩
  refine pe_then_normal ?_
  refine tr_sub hC (.cons (t := 1) rfl (.cons (t := 2) rfl .nil)) (.cons (t := 1) rfl (.cons (t := 2) rfl .nil)) rfl ?_
  refine tr_seq ?_
  refine tr_region (fun N1 hN => ?_)
  refine lx (op_fieldAddr rfl fl28_1 sz25) rfl ?_
  refine lx (op_bload_one (m := 1) rfl rfl ag25 rfl) rfl ?_
  first | refine lxn (op_callG (del := []) (add := [(5, ((N1, 5), tail 23 3 (o.cells.length * 3)))]) (ks := [5]) (vclone_ok o.cells (by have := hs.cells; omega)) (.cons rfl .nil) fn56 rfl rfl rfl (by intro x hx; cases hx) (fun x hx => .inl (by cases hx with | head => exact hC.low 5 (by decide) | tail _ h => cases h))) rfl ?_ | refine lxn (op_callG (del := []) (add := [(5, ((N1, 5), tail 23 3 (o.cells.length * 3)))]) (ks := [5]) (vclone_ok o.cells (by have := hs.cells; omega)) (.ent rfl (by repeat (first | exact Ents.nil | refine Ents.cons ?_ ?_ | refine Ent.tup ?_ | refine Ent.agg ?_ | exact Ent.row _ _ _ _ | exact Ent.nil _ _ | exact Ent.func _ | exact Ent.refl _ | exact Ent.of_eq rfl | refine Ent.cells ?_)) .nil) fn56 rfl rfl rfl (by intro x hx; cases hx) (fun x hx => .inl (by cases hx with | head => exact hC.low 5 (by decide) | tail _ h => cases h))) rfl ?_
  refine lx (op_fieldAddr rfl fl28_1 sz25) rfl ?_
  refine lxr (op_store (m := 1) (rs := [_, _, _, _, _, _, _, _, _, _]) rfl rfl rfl (.one (by (first | exact One.eq rfl | exact One.mv _ _ _ _ _ | exact One.cl _ _ _ | exact One.map _ | exact One.sl _ _ _ | exact One.row _ _ _ _ | exact One.msl _ _ _ _ | exact One.ptr _ _ | exact One.b _ | exact One.cells _))) sz25 rfl rfl rfl) rfl ?_
  refine lx_end ⟨by kernel_rfl, ?_⟩
  refine pe_then_normal ?_
  refine tr_sub hC (.cons (t := 1) rfl (.cons (t := 2) rfl .nil)) (.cons (t := 1) rfl (.cons (t := 2) rfl (.cons (t := 5) rfl .nil))) rfl ?_
  refine tr_seq ?_
  refine tr_region (fun N2 hN => ?_)
  refine lx (op_fieldAddr rfl fl28_4 sz25) rfl ?_
  refine lx (op_bload_one (m := 1) rfl rfl ag25 rfl) rfl ?_
  first | refine lxn (op_callG (del := []) (add := [(9, ((N2, 9), tail 23 3 (o.queue.length * 3)))]) (ks := [9]) (vclone_ok o.queue (by have := hs.queue; omega)) (.cons rfl .nil) fn56 rfl rfl rfl (by intro x hx; cases hx) (fun x hx => .inl (by cases hx with | head => exact hC.low 9 (by decide) | tail _ h => cases h))) rfl ?_ | refine lxn (op_callG (del := []) (add := [(9, ((N2, 9), tail 23 3 (o.queue.length * 3)))]) (ks := [9]) (vclone_ok o.queue (by have := hs.queue; omega)) (.ent rfl (by repeat (first | exact Ents.nil | refine Ents.cons ?_ ?_ | refine Ent.tup ?_ | refine Ent.agg ?_ | exact Ent.row _ _ _ _ | exact Ent.nil _ _ | exact Ent.func _ | exact Ent.refl _ | exact Ent.of_eq rfl | refine Ent.cells ?_)) .nil) fn56 rfl rfl rfl (by intro x hx; cases hx) (fun x hx => .inl (by cases hx with | head => exact hC.low 9 (by decide) | tail _ h => cases h))) rfl ?_
  refine lx (op_fieldAddr rfl fl28_4 sz25) rfl ?_
  refine lxr (op_store (m := 1) (rs := [_, _, _, _, _, _, _, _, _, _]) rfl rfl rfl (.one (by (first | exact One.eq rfl | exact One.mv _ _ _ _ _ | exact One.cl _ _ _ | exact One.map _ | exact One.sl _ _ _ | exact One.row _ _ _ _ | exact One.msl _ _ _ _ | exact One.ptr _ _ | exact One.b _ | exact One.cells _))) sz25 rfl rfl rfl) rfl ?_
  refine lx_end ⟨by kernel_rfl, ?_⟩
  refine pe_then_normal ?_
  refine tr_sub hC (.cons (t := 1) rfl (.cons (t := 2) rfl .nil)) (.cons (t := 1) rfl (.cons (t := 2) rfl (.cons (t := 5) rfl (.cons (t := 9) rfl .nil)))) rfl ?_
  refine tr_seq ?_
  refine tr_region (fun N3 hN => ?_)
  refine lx (op_fieldAddr rfl fl28_8 sz26) rfl ?_
  refine lx (op_bload_one (m := 1) rfl rfl ag26 rfl) rfl ?_
  first | refine lxn (op_callG (del := []) (add := [(13, ((N3, 13), tail 33 5 (o.senders.length * 5)))]) (ks := [13]) (wclone_ok o.senders (by have := hs.senders; omega)) (.cons rfl .nil) fn57 rfl rfl rfl (by intro x hx; cases hx) (fun x hx => .inl (by cases hx with | head => exact hC.low 13 (by decide) | tail _ h => cases h))) rfl ?_ | refine lxn (op_callG (del := []) (add := [(13, ((N3, 13), tail 33 5 (o.senders.length * 5)))]) (ks := [13]) (wclone_ok o.senders (by have := hs.senders; omega)) (.ent rfl (by repeat (first | exact Ents.nil | refine Ents.cons ?_ ?_ | refine Ent.tup ?_ | refine Ent.agg ?_ | exact Ent.row _ _ _ _ | exact Ent.nil _ _ | exact Ent.func _ | exact Ent.refl _ | exact Ent.of_eq rfl | refine Ent.cells ?_)) .nil) fn57 rfl rfl rfl (by intro x hx; cases hx) (fun x hx => .inl (by cases hx with | head => exact hC.low 13 (by decide) | tail _ h => cases h))) rfl ?_
  refine lx (op_fieldAddr rfl fl28_8 sz26) rfl ?_
  refine lxr (op_store (m := 1) (rs := [_, _, _, _, _, _, _, _, _, _]) rfl rfl rfl (.one (by (first | exact One.eq rfl | exact One.mv _ _ _ _ _ | exact One.cl _ _ _ | exact One.map _ | exact One.sl _ _ _ | exact One.row _ _ _ _ | exact One.msl _ _ _ _ | exact One.ptr _ _ | exact One.b _ | exact One.cells _))) sz26 rfl rfl rfl) rfl ?_
  refine lx_end ⟨by kernel_rfl, ?_⟩
  refine pe_then_normal ?_
  refine tr_sub hC (.cons (t := 1) rfl (.cons (t := 2) rfl .nil)) (.cons (t := 1) rfl (.cons (t := 2) rfl (.cons (t := 5) rfl (.cons (t := 9) rfl (.cons (t := 13) rfl .nil))))) rfl ?_
  refine tr_seq ?_
  refine tr_region (fun N4 hN => ?_)
  refine lx (op_fieldAddr rfl fl28_9 sz26) rfl ?_
  refine lx (op_bload_one (m := 1) rfl rfl ag26 rfl) rfl ?_
  first | refine lxn (op_callG (del := []) (add := [(17, ((N4, 17), tail 33 5 (o.receivers.length * 5)))]) (ks := [17]) (wclone_ok o.receivers (by have := hs.receivers; omega)) (.cons rfl .nil) fn57 rfl rfl rfl (by intro x hx; cases hx) (fun x hx => .inl (by cases hx with | head => exact hC.low 17 (by decide) | tail _ h => cases h))) rfl ?_ | refine lxn (op_callG (del := []) (add := [(17, ((N4, 17), tail 33 5 (o.receivers.length * 5)))]) (ks := [17]) (wclone_ok o.receivers (by have := hs.receivers; omega)) (.ent rfl (by repeat (first | exact Ents.nil | refine Ents.cons ?_ ?_ | refine Ent.tup ?_ | refine Ent.agg ?_ | exact Ent.row _ _ _ _ | exact Ent.nil _ _ | exact Ent.func _ | exact Ent.refl _ | exact Ent.of_eq rfl | refine Ent.cells ?_)) .nil) fn57 rfl rfl rfl (by intro x hx; cases hx) (fun x hx => .inl (by cases hx with | head => exact hC.low 17 (by decide) | tail _ h => cases h))) rfl ?_
  refine lx (op_fieldAddr rfl fl28_9 sz26) rfl ?_
  refine lxr (op_store (m := 1) (rs := [_, _, _, _, _, _, _, _, _, _]) rfl rfl rfl (.one (by (first | exact One.eq rfl | exact One.mv _ _ _ _ _ | exact One.cl _ _ _ | exact One.map _ | exact One.sl _ _ _ | exact One.row _ _ _ _ | exact One.msl _ _ _ _ | exact One.ptr _ _ | exact One.b _ | exact One.cells _))) sz26 rfl rfl rfl) rfl ?_
  refine lx_end ⟨by kernel_rfl, ?_⟩
  refine pe_then_normal ?_
  refine tr_sub hC (.cons (t := 1) rfl (.cons (t := 2) rfl .nil)) (.cons (t := 1) rfl (.cons (t := 2) rfl (.cons (t := 5) rfl (.cons (t := 9) rfl (.cons (t := 13) rfl (.cons (t := 17) rfl .nil)))))) rfl ?_
  refine tr_seq ?_
  refine tr_region (fun N5 hN => ?_)
  refine lx (op_bload (m := 1) rfl rfl ag28 sz28) rfl ?_
  refine lxr (op_store_all (m := 2) rfl rfl rfl (.agg rfl) sz28 rfl) rfl ?_
  refine lx_end ⟨by kernel_rfl, ?_⟩
  refine pe_then_normal ?_
  refine tr_sub hC (.cons (t := 2) rfl .nil) (.cons (t := 2) rfl (.cons (t := 5) rfl (.cons (t := 9) rfl (.cons (t := 13) rfl (.cons (t := 17) rfl .nil))))) rfl ?_
  refine tr_ret ?_
  refine pe_ownS' [5, 9, 13, 17] rfl hO rfl (.cell (m := 2) rfl rfl ag28 sz28 .nil) (.cons (m := 5) rfl (RenR.tail _ _ _) (.cons (m := 9) rfl (RenR.tail _ _ _) (.cons (m := 13) rfl (RenR.tail _ _ _) (.cons (m := 17) rfl (RenR.tail _ _ _) .nil)))) rfl rfl rfl ?_
  intro τ ι hs'
  refine ⟨?_, ?_⟩
  · exact aggP_at (.cons (ent_at (Ent.refl _)) (.cons (row_ren (hs' 0 _ rfl).1 (hs' 0 _ rfl).2) (.cons (ent_at (Ent.refl _)) (.cons (ent_at (Ent.refl _)) (.cons (row_ren (hs' 1 _ rfl).1 (hs' 1 _ rfl).2) (.cons (ent_at (Ent.refl _)) (.cons (ent_at (Ent.refl _)) (.cons (ent_at (Ent.refl _)) (.cons (row_ren (hs' 2 _ rfl).1 (hs' 2 _ rfl).2) (.cons (row_ren (hs' 3 _ rfl).1 (hs' 3 _ rfl).2) .nil))))))))))
  · exact (.moved rfl (fun b o h => h) (.moved rfl (fun b o h => h) (.moved rfl (fun b o h => h) (.moved rfl (fun b o h => h) .nil))))

theorem leave_ok (o : Ob) (x : Int) (hs : Lens o) : FnP Try.prog 29 [aggP o.ps, eqP (.int .i64 x)] (aggP (leaveF o x).ps) := by
  refine fn_pure' Try.func29 rfl Try.ntmps29 rfl ?_
  intro σ0 M ex Rf R hC hO
  simp only [frameOf, tokOf]
  refine tr_seq ?_
  refine tr_region (fun N0 hN => ?_)
  refine lxn (op_box (m := 2) (k := 2) rfl (.agg rfl) (by first | exact hC.low _ (by decide) | rfl)) rfl ?_
  refine lxn (op_box (m := 3) (k := 3) rfl (.one (by (first | exact One.eq rfl | exact One.mv _ _ _ _ _ | exact One.cl _ _ _ | exact One.map _ | exact One.sl _ _ _ | exact One.row _ _ _ _ | exact One.msl _ _ _ _ | exact One.ptr _ _ | exact One.b _ | exact One.cells _))) (by first | exact hC.low _ (by decide) | rfl)) rfl ?_
  refine lxn (op_alloc (m := 4) (k := 4) (ps := [eqP (.int .i64 0), eqP (.slice none 0 0), eqP (.bool false), eqP (.int .i64 0), eqP (.slice none 0 0), eqP (.bool false), eqP (.int .i64 0), eqP (.int .i64 0), eqP (.slice none 0 0), eqP (.slice none 0 0)]) ze28 rfl rfl (by first | exact hC.low _ (by decide) | rfl)) rfl ?_
  refine lx_end ⟨by kernel_rfl, ?_⟩
  refine pe_then_normal ?_
  refine tr_sub hC (.cons (t := 2) rfl (.cons (t := 3) rfl (.cons (t := 4) rfl .nil))) (.cons (t := 2) rfl (.cons (t := 3) rfl (.cons (t := 4) rfl .nil))) rfl ?_
  refine tr_freeze (m := 3) rfl (.cons (t := 2) rfl (.ent (t := 3) rfl (FEnt.ptr) (.cons (t := 4) rfl .nil))) ?_
  try dsimp only
  refine tr_seq ?_
  refine tr_region (fun N1 hN => ?_)
  refine lx (op_bload (m := 2) rfl rfl ag28 sz28) rfl ?_
  first | refine lx_any rfl (op_callG2 (l := [(Go.Operand.tmp 7)]) (add := [(1080, ((N1, 100080), tail 23 3 (o.cells.length * 3))), (1081, ((N1, 100081), tail 23 3 (o.queue.length * 3))), (1082, ((N1, 100082), tail 33 5 (o.senders.length * 5))), (1083, ((N1, 100083), tail 33 5 (o.receivers.length * 5)))]) (ks := [100080, 100081, 100082, 100083]) (φ := aggP (o.rs (N1, 100080) (N1, 100081) (N1, 100082) (N1, 100083))) .nil (clone_ok o hs) (.cons rfl .nil) fn48 rfl rfl rfl (.new (by first | exact hC.low _ (by decide) | rfl) (.new (by first | exact hC.low _ (by decide) | rfl) (.new (by first | exact hC.low _ (by decide) | rfl) (.new (by first | exact hC.low _ (by decide) | rfl) .nil)))) rfl) (dOK_spec rfl) ?_ | refine lx_any rfl (op_callG2 (l := [(Go.Operand.tmp 7)]) (add := [(1080, ((N1, 100080), tail 23 3 (o.cells.length * 3))), (1081, ((N1, 100081), tail 23 3 (o.queue.length * 3))), (1082, ((N1, 100082), tail 33 5 (o.senders.length * 5))), (1083, ((N1, 100083), tail 33 5 (o.receivers.length * 5)))]) (ks := [100080, 100081, 100082, 100083]) (φ := aggP (o.rs (N1, 100080) (N1, 100081) (N1, 100082) (N1, 100083))) .nil (clone_ok o hs) (.ent rfl (by repeat (first | exact Ents.nil | refine Ents.cons ?_ ?_ | refine Ent.tup ?_ | refine Ent.agg ?_ | exact Ent.row _ _ _ _ | exact Ent.nil _ _ | exact Ent.func _ | exact Ent.refl _ | exact Ent.of_eq rfl | refine Ent.cells ?_)) .nil) fn48 rfl rfl rfl (.new (by first | exact hC.low _ (by decide) | rfl) (.new (by first | exact hC.low _ (by decide) | rfl) (.new (by first | exact hC.low _ (by decide) | rfl) (.new (by first | exact hC.low _ (by decide) | rfl) .nil)))) rfl) (dOK_spec rfl) ?_
  refine lxn (op_alloc (m := 5) (k := 5) (ps := [eqP (.int .i64 0), eqP (.slice none 0 0), eqP (.bool false), eqP (.int .i64 0), eqP (.slice none 0 0), eqP (.bool false), eqP (.int .i64 0), eqP (.int .i64 0), eqP (.slice none 0 0), eqP (.slice none 0 0)]) ze28 rfl rfl (by first | exact hC.low _ (by decide) | rfl)) rfl ?_
  refine lxr (op_store_all (m := 5) rfl rfl rfl (.agg rfl) sz28 rfl) rfl ?_
  refine lx_end ⟨by kernel_rfl, ?_⟩
  refine pe_then_normal ?_
  refine tr_sub hC (.cons (t := 2) rfl (.cons (t := 3) rfl (.cons (t := 4) rfl (.cons (t := 5) rfl .nil)))) (.cons (t := 2) rfl (.cons (t := 4) rfl (.cons (t := 1080) rfl (.cons (t := 1081) rfl (.cons (t := 1082) rfl (.cons (t := 1083) rfl (.cons (t := 5) rfl .nil))))))) rfl ?_
  refine tr_seq ?_
  refine tr_region (fun N2 hN => ?_)
  refine lx (op_makeFunc (bs := []) (cs := [(Go.Operand.tmp 3)]) .nil (.cons rfl .nil)) rfl ?_
  refine lx (op_assign rfl) rfl ?_
  refine lx_end ⟨by kernel_rfl, ?_⟩
  refine pe_then_normal ?_
  refine tr_sub hC (.cons (t := 2) rfl (.cons (t := 4) rfl (.cons (t := 5) rfl (.cons (t := 6) rfl .nil)))) (.cons (t := 2) rfl (.cons (t := 4) rfl (.cons (t := 1080) rfl (.cons (t := 1081) rfl (.cons (t := 1082) rfl (.cons (t := 1083) rfl (.cons (t := 5) rfl .nil))))))) rfl ?_
  refine tr_seq ?_
  refine tr_drawn mixed (fun N3 hN => ?_)
  refine lx (op_fieldAddr rfl fl28_8 sz26) rfl ?_
  refine lx (op_bload_one (m := 2) rfl rfl ag26 rfl) rfl ?_
  refine lx (op_move rfl) rfl ?_
  first | refine lx (op_call (l := [(Go.Operand.tmp 11), (Go.Operand.tmp 12)]) (filter_ok 53 [cellsP [eqP (.int .i64 x)]] _ (fun w => notg_ok x w) fn53 o.senders (by have := hs.senders; omega)) (.cons rfl (.cons rfl .nil)) fn51) rfl ?_ | refine lx (op_call (l := [(Go.Operand.tmp 11), (Go.Operand.tmp 12)]) (filter_ok 53 [cellsP [eqP (.int .i64 x)]] _ (fun w => notg_ok x w) fn53 o.senders (by have := hs.senders; omega)) (.ent rfl (by repeat (first | exact Ents.nil | refine Ents.cons ?_ ?_ | refine Ent.tup ?_ | refine Ent.agg ?_ | exact Ent.row _ _ _ _ | exact Ent.nil _ _ | exact Ent.func _ | exact Ent.refl _ | exact Ent.of_eq rfl | refine Ent.cells ?_)) (.ent rfl (by repeat (first | exact Ents.nil | refine Ents.cons ?_ ?_ | refine Ent.tup ?_ | refine Ent.agg ?_ | exact Ent.row _ _ _ _ | exact Ent.nil _ _ | exact Ent.func _ | exact Ent.refl _ | exact Ent.of_eq rfl | refine Ent.cells ?_)) .nil)) fn51) rfl ?_
  refine lx (op_fieldAddr rfl fl28_9 sz26) rfl ?_
  refine lx (op_bload_one (m := 2) rfl rfl ag26 rfl) rfl ?_
  refine lx (op_move rfl) rfl ?_
  first | refine lx (op_call (l := [(Go.Operand.tmp 15), (Go.Operand.tmp 16)]) (filter_ok 53 [cellsP [eqP (.int .i64 x)]] _ (fun w => notg_ok x w) fn53 o.receivers (by have := hs.receivers; omega)) (.cons rfl (.cons rfl .nil)) fn51) rfl ?_ | refine lx (op_call (l := [(Go.Operand.tmp 15), (Go.Operand.tmp 16)]) (filter_ok 53 [cellsP [eqP (.int .i64 x)]] _ (fun w => notg_ok x w) fn53 o.receivers (by have := hs.receivers; omega)) (.ent rfl (by repeat (first | exact Ents.nil | refine Ents.cons ?_ ?_ | refine Ent.tup ?_ | refine Ent.agg ?_ | exact Ent.row _ _ _ _ | exact Ent.nil _ _ | exact Ent.func _ | exact Ent.refl _ | exact Ent.of_eq rfl | refine Ent.cells ?_)) (.ent rfl (by repeat (first | exact Ents.nil | refine Ents.cons ?_ ?_ | refine Ent.tup ?_ | refine Ent.agg ?_ | exact Ent.row _ _ _ _ | exact Ent.nil _ _ | exact Ent.func _ | exact Ent.refl _ | exact Ent.of_eq rfl | refine Ent.cells ?_)) .nil)) fn51) rfl ?_
  refine lx (op_fieldAddr rfl fl28_8 sz26) rfl ?_
  refine lxr (op_store (m := 5) (rs := [_, _, _, _, _, _, _, _, _, _]) rfl rfl rfl (.one (by (first | exact One.eq rfl | exact One.mv _ _ _ _ _ | exact One.cl _ _ _ | exact One.map _ | exact One.sl _ _ _ | exact One.row _ _ _ _ | exact One.msl _ _ _ _ | exact One.ptr _ _ | exact One.b _ | exact One.cells _))) sz26 rfl rfl rfl) rfl ?_
  refine lx (op_fieldAddr rfl fl28_9 sz26) rfl ?_
  refine lxr (op_store (m := 5) (rs := [_, _, _, _, _, _, _, _, _, _]) rfl rfl rfl (.one (by (first | exact One.eq rfl | exact One.mv _ _ _ _ _ | exact One.cl _ _ _ | exact One.map _ | exact One.sl _ _ _ | exact One.row _ _ _ _ | exact One.msl _ _ _ _ | exact One.ptr _ _ | exact One.b _ | exact One.cells _))) sz26 rfl rfl rfl) rfl ?_
  refine lx_end ⟨by kernel_rfl, ?_⟩
  refine pe_then_normal ?_
  refine tr_sub hC (.cons (t := 4) rfl (.cons (t := 5) rfl .nil)) (.cons (t := 4) rfl (.cons (t := 1080) rfl (.cons (t := 1081) rfl (.cons (t := 1082) rfl (.cons (t := 1083) rfl (.cons (t := 5) rfl .nil)))))) rfl ?_
  refine tr_seq ?_
  refine tr_region (fun N4 hN => ?_)
  refine lx (op_bload (m := 5) rfl rfl ag28 sz28) rfl ?_
  refine lxr (op_store_all (m := 4) rfl rfl rfl (.agg rfl) sz28 rfl) rfl ?_
  refine lx_end ⟨by kernel_rfl, ?_⟩
  refine pe_then_normal ?_
  refine tr_sub hC (.cons (t := 4) rfl .nil) (.cons (t := 4) rfl (.cons (t := 1080) rfl (.cons (t := 1081) rfl (.cons (t := 1082) rfl (.cons (t := 1083) rfl .nil))))) rfl ?_
  refine tr_ret ?_
  refine pe_ret1 rfl hO rfl (.cell (m := 4) rfl rfl ag28 sz28 .nil) ?_
  repeat (first | exact Ents.nil | refine Ents.cons ?_ ?_ | refine Ent.tup ?_ | refine Ent.agg ?_ | exact Ent.row _ _ _ _ | exact Ent.nil _ _ | exact Ent.func _ | exact Ent.refl _ | exact Ent.of_eq rfl | refine Ent.cells ?_)

end Go.Proofs.Ytagjjeofdcgcmaa
