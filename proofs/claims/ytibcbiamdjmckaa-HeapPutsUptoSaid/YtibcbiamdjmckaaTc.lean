/- Parts of a proof that share one text: HpWalk, HpWalk2, AlShift. -/
import Derived.Test.YtibcbiamdjmckaaTb
import Derived.Test.YtibcbiamdjmckaaChecked
set_option linter.unusedVariables false
set_option linter.unusedSimpArgs false

set_option linter.unusedVariables false
set_option linter.unusedSimpArgs false
namespace Go.Proofs.Ytibcbiamdjmckaa
open Go.AL Go.Ch Go.Hp Go.RowKit
theorem ag3 : aggB Try.prog 3 = some false := by kernel_rfl
theorem ag4 : aggB Try.prog 4 = some false := by kernel_rfl
theorem ag22 : aggB Try.prog 22 = some false := by kernel_rfl
theorem ag25 : aggB Try.prog 25 = some false := by kernel_rfl
theorem ag26 : aggB Try.prog 26 = some false := by kernel_rfl
theorem ag27 : aggB Try.prog 27 = some false := by kernel_rfl
theorem ag30 : aggB Try.prog 30 = some false := by kernel_rfl
theorem ag31 : aggB Try.prog 31 = some false := by kernel_rfl
theorem ag33 : aggB Try.prog 33 = some true := by kernel_rfl
theorem ag41 : aggB Try.prog 41 = some true := by kernel_rfl
theorem ag67 : aggB Try.prog 67 = some true := by kernel_rfl
theorem ag68 : aggB Try.prog 68 = some false := by kernel_rfl
theorem ag70 : aggB Try.prog 70 = some true := by kernel_rfl
theorem ag88 : aggB Try.prog 88 = some true := by kernel_rfl
theorem ag90 : aggB Try.prog 90 = some false := by kernel_rfl
theorem ag92 : aggB Try.prog 92 = some true := by kernel_rfl
theorem bo4 : Try.prog.underlying 4 = some .bool := by kernel_rfl
theorem el22 : elemB Try.prog 22 = some 33 := by kernel_rfl
theorem el25 : elemB Try.prog 25 = some 67 := by kernel_rfl
theorem el26 : elemB Try.prog 26 = some 70 := by kernel_rfl
theorem el27 : elemB Try.prog 27 = some 3 := by kernel_rfl
theorem el30 : elemB Try.prog 30 = some 41 := by kernel_rfl
theorem el31 : elemB Try.prog 31 = some 88 := by kernel_rfl
theorem el68 : elemB Try.prog 68 = some 92 := by kernel_rfl
theorem el90 : elemB Try.prog 90 = some 94 := by kernel_rfl
theorem fl29_0 : fldB Try.prog 29 0 = some (0, 22) := by kernel_rfl
theorem fl29_1 : fldB Try.prog 29 1 = some (1, 25) := by kernel_rfl
theorem fl29_2 : fldB Try.prog 29 2 = some (2, 26) := by kernel_rfl
theorem fl29_3 : fldB Try.prog 29 3 = some (3, 27) := by kernel_rfl
theorem fl33_0 : fldB Try.prog 33 0 = some (0, 3) := by kernel_rfl
theorem fl33_1 : fldB Try.prog 33 1 = some (1, 30) := by kernel_rfl
theorem fl33_2 : fldB Try.prog 33 2 = some (2, 4) := by kernel_rfl
theorem fl33_3 : fldB Try.prog 33 3 = some (3, 3) := by kernel_rfl
theorem fl33_4 : fldB Try.prog 33 4 = some (4, 30) := by kernel_rfl
theorem fl33_5 : fldB Try.prog 33 5 = some (5, 4) := by kernel_rfl
theorem fl33_6 : fldB Try.prog 33 6 = some (6, 3) := by kernel_rfl
theorem fl33_7 : fldB Try.prog 33 7 = some (7, 3) := by kernel_rfl
theorem fl33_8 : fldB Try.prog 33 8 = some (8, 31) := by kernel_rfl
theorem fl33_9 : fldB Try.prog 33 9 = some (9, 31) := by kernel_rfl
theorem fl67_0 : fldB Try.prog 67 0 = some (0, 3) := by kernel_rfl
theorem fl67_1 : fldB Try.prog 67 1 = some (1, 3) := by kernel_rfl
theorem fl67_2 : fldB Try.prog 67 2 = some (2, 3) := by kernel_rfl
theorem fl67_3 : fldB Try.prog 67 3 = some (3, 3) := by kernel_rfl
theorem fl67_4 : fldB Try.prog 67 4 = some (4, 27) := by kernel_rfl
theorem fl67_5 : fldB Try.prog 67 5 = some (5, 3) := by kernel_rfl
theorem fl70_0 : fldB Try.prog 70 0 = some (0, 3) := by kernel_rfl
theorem fl70_1 : fldB Try.prog 70 1 = some (1, 3) := by kernel_rfl
theorem fl70_2 : fldB Try.prog 70 2 = some (2, 3) := by kernel_rfl
theorem fl70_3 : fldB Try.prog 70 3 = some (3, 68) := by kernel_rfl
theorem fl92_0 : fldB Try.prog 92 0 = some (0, 3) := by kernel_rfl
theorem fl92_1 : fldB Try.prog 92 1 = some (1, 3) := by kernel_rfl
theorem fl92_2 : fldB Try.prog 92 2 = some (2, 30) := by kernel_rfl
theorem fl92_3 : fldB Try.prog 92 3 = some (3, 3) := by kernel_rfl
theorem fl92_4 : fldB Try.prog 92 4 = some (4, 90) := by kernel_rfl
theorem fl92_5 : fldB Try.prog 92 5 = some (5, 4) := by kernel_rfl
theorem fl92_6 : fldB Try.prog 92 6 = some (6, 41) := by kernel_rfl
theorem fl94_0 : fldB Try.prog 94 0 = some (0, 3) := by kernel_rfl
theorem fl94_1 : fldB Try.prog 94 1 = some (1, 30) := by kernel_rfl
theorem fn27 : fnB Try.prog 27 = true := by kernel_rfl
theorem fn34 : fnB Try.prog 34 = true := by kernel_rfl
theorem fn35 : fnB Try.prog 35 = true := by kernel_rfl
theorem fn36 : fnB Try.prog 36 = true := by kernel_rfl
theorem fn37 : fnB Try.prog 37 = true := by kernel_rfl
theorem fn44 : fnB Try.prog 44 = true := by kernel_rfl
theorem fn45 : fnB Try.prog 45 = true := by kernel_rfl
theorem fn50 : fnB Try.prog 50 = true := by kernel_rfl
theorem mixed : Try.prog.follows .mixedOrders = true := by kernel_rfl
theorem sz3 : sizeB Try.prog 3 = some 1 := by kernel_rfl
theorem sz4 : sizeB Try.prog 4 = some 1 := by kernel_rfl
theorem sz22 : sizeB Try.prog 22 = some 1 := by kernel_rfl
theorem sz25 : sizeB Try.prog 25 = some 1 := by kernel_rfl
theorem sz26 : sizeB Try.prog 26 = some 1 := by kernel_rfl
theorem sz27 : sizeB Try.prog 27 = some 1 := by kernel_rfl
theorem sz30 : sizeB Try.prog 30 = some 1 := by kernel_rfl
theorem sz31 : sizeB Try.prog 31 = some 1 := by kernel_rfl
theorem sz33 : sizeB Try.prog 33 = some 10 := by kernel_rfl
theorem sz41 : sizeB Try.prog 41 = some 3 := by kernel_rfl
theorem sz67 : sizeB Try.prog 67 = some 6 := by kernel_rfl
theorem sz68 : sizeB Try.prog 68 = some 1 := by kernel_rfl
theorem sz70 : sizeB Try.prog 70 = some 4 := by kernel_rfl
theorem sz88 : sizeB Try.prog 88 = some 5 := by kernel_rfl
theorem sz90 : sizeB Try.prog 90 = some 1 := by kernel_rfl
theorem sz92 : sizeB Try.prog 92 = some 9 := by kernel_rfl
theorem sz94 : sizeB Try.prog 94 = some 2 := by kernel_rfl
theorem ze67 : zeroB Try.prog 67 = some (some (.agg #[.int .i64 0, .int .i64 0, .int .i64 0, .int .i64 0, .slice none 0 0, .int .i64 0])) := by kernel_rfl
theorem ze92 : zeroB Try.prog 92 = some (some (.agg #[.int .i64 0, .int .i64 0, .slice none 0 0, .int .i64 0, .slice none 0 0, .bool false, .int .i64 0, .int .i64 0, .int .i64 0])) := by kernel_rfl
theorem eqV (a b : V) : EqLaw Try.prog 41 (vv a) (vv b) (decide (a = b)) := (eqLaw_flat (ls := [.i .i64, .i .i64, .i .i64]) (by kernel_rfl) (by kernel_rfl) (by kernel_rfl) rfl rfl).to (decide_eq_decide.mpr (by
  obtain ⟨a1, a2, a3⟩ := a
  obtain ⟨b1, b2, b3⟩ := b
  simp [vv]))
theorem eqW (a b : Wt) : EqLaw Try.prog 88 (wv a) (wv b) (decide (a = b)) := (eqLaw_flat (ls := [.i .i64, .i .i64, .i .i64, .i .i64, .i .i64]) (by kernel_rfl) (by kernel_rfl) (by kernel_rfl) rfl rfl).to (decide_eq_decide.mpr (by
  obtain ⟨a1, a2, a3, a4, a5⟩ := a
  obtain ⟨b1, b2, b3, b4, b5⟩ := b
  simp [wv]))
theorem sameV_ok (xs ys : List V) (hx : xs.length ≤ 4000000) : FnP Try.prog 44 [slP vp 3 xs, slP vp 3 ys] (eqP (.bool (decide (xs = ys)))) := by
  refine fn_pure' Try.func44 rfl Try.ntmps44 rfl ?_
  intro σ0 M ex Rf R hC hO
  simp only [frameOf, tokOf]
  refine tr_seq ?_
  refine tr_region (fun N0 hN => ?_)
  refine lx (op_assign rfl) rfl ?_
  refine lx_end ⟨by kernel_rfl, ?_⟩
  refine pe_then_normal ?_
  refine tr_sub hC (.cons (t := 0) rfl (.cons (t := 1) rfl .nil)) .nil rfl ?_
  refine tr_seq ?_
  refine tr_seq ?_
  refine tr_region (fun N1 hN => ?_)
  refine lx (op_move rfl) rfl ?_
  first | refine lx (op_len rfl el30) rfl ?_ | refine lx (op_len_row rfl el30) rfl ?_ | refine lx (op_len_mv rfl el30) rfl ?_ | refine lx (op_len_nil rfl el30) rfl ?_
  refine lx (op_move rfl) rfl ?_
  first | refine lx (op_len rfl el30) rfl ?_ | refine lx (op_len_row rfl el30) rfl ?_ | refine lx (op_len_mv rfl el30) rfl ?_ | refine lx (op_len_nil rfl el30) rfl ?_
  refine lx (op_neq rfl rfl) rfl ?_
  refine lx_end ⟨by kernel_rfl, ?_⟩
  refine pe_then_normal ?_
  refine tr_sub hC (.cons (t := 0) rfl (.cons (t := 1) rfl (.cons (t := 10) rfl .nil))) .nil rfl ?_
  refine tr_cond rfl (fun h10 => ?_) (fun h10 => ?_)
  · (try simp only [Bool.and_eq_true, Bool.or_eq_true, Bool.and_eq_false_iff, Bool.or_eq_false_iff, decide_eq_true_eq, decide_eq_false_iff_not, Bool.not_eq_true', Bool.not_eq_false', List.length_map, ne_eq, Decidable.not_not, Int.not_lt, Int.not_le] at h10)
    have hne : xs ≠ ys := fun e => h10 (by rw [e])
    refine tr_seq ?_
    refine tr_region (fun N2 hN => ?_)
    refine lx (op_assign rfl) rfl ?_
    refine lx_end ⟨by kernel_rfl, ?_⟩
    refine pe_then_normal ?_
    refine tr_sub hC (.cons (t := 4) rfl .nil) .nil rfl ?_
    refine tr_ret ?_
    refine pe_then_ret ?_
    refine pe_ret1 rfl hO rfl (.tmp rfl .nil) ?_
    exact entB (decide_eq_false hne).symm
  · (try simp only [Bool.and_eq_true, Bool.or_eq_true, Bool.and_eq_false_iff, Bool.or_eq_false_iff, decide_eq_true_eq, decide_eq_false_iff_not, Bool.not_eq_true', Bool.not_eq_false', List.length_map, ne_eq, Decidable.not_not, Int.not_lt, Int.not_le] at h10)
    have hlen : xs.length = ys.length := by omega
    refine tr_skip ?_
    refine pe_then_normal ?_
    refine tr_sub hC (.cons (t := 0) rfl (.cons (t := 1) rfl .nil)) .nil rfl ?_
    refine tr_seq ?_
    refine tr_seq ?_
    refine tr_region (fun N3 hN => ?_)
    refine lx (op_assign rfl) rfl ?_
    refine lx_end ⟨by kernel_rfl, ?_⟩
    refine pe_then_normal ?_
    refine tr_sub hC (.cons (t := 0) rfl (.cons (t := 1) rfl (.cons (t := 5) rfl .nil))) .nil rfl ?_
    refine tr_block ?_
    refine tr_loopK (α := {zz : Nat // zz ≤ xs.length ∧ xs.take zz = ys.take zz}) (⟨(0), Nat.zero_le _, by simp⟩) (fun zz => [(5, eqP (.int .i64 (zz.1 : Int)))]) (fun zz => []) (fun zz => xs.length - zz.1) hC (.cons (t := 0) rfl (.cons (t := 1) rfl .nil)) .nil rfl ?_ ?_ (fun zz => ?_)
    · try dsimp only [List.cons_append, List.nil_append]
      first | refine SubF.cons rfl ?_ | (refine SubF.ent rfl ?_ ?_; · repeat (first | exact Ents.nil | refine Ents.cons ?_ ?_ | refine Ent.tup ?_ | refine Ent.agg ?_ | exact Ent.row _ _ _ _ | exact Ent.nil _ _ | exact Ent.func _ | exact Ent.refl _ | exact Ent.of_eq rfl | refine Ent.cells ?_))
      exact SubF.nil
    · try dsimp only [List.cons_append, List.nil_append]
      repeat (first | exact SubL.nil | refine SubL.cons rfl ?_)
    · obtain ⟨k, hk1, hk2⟩ := zz
      dsimp only [List.cons_append, List.nil_append]
      refine tr_seq ?_
      refine tr_seq ?_
      refine tr_region (fun N4 hN => ?_)
      refine lx (op_move rfl) rfl ?_
      refine lx (op_move rfl) rfl ?_
      first | refine lx (op_len rfl el30) rfl ?_ | refine lx (op_len_row rfl el30) rfl ?_ | refine lx (op_len_mv rfl el30) rfl ?_ | refine lx (op_len_nil rfl el30) rfl ?_
      refine lx (op_lss rfl rfl) rfl ?_
      refine lx_end ⟨by kernel_rfl, ?_⟩
      refine pe_then_normal ?_
      refine tr_sub hC (.cons (t := 0) rfl (.cons (t := 1) rfl (.cons (t := 5) rfl (.cons (t := 14) rfl .nil)))) .nil rfl ?_
      refine tr_cond rfl (fun h14 => ?_) (fun h14 => ?_)
      · (try simp only [Bool.and_eq_true, Bool.or_eq_true, Bool.and_eq_false_iff, Bool.or_eq_false_iff, decide_eq_true_eq, decide_eq_false_iff_not, Bool.not_eq_true', Bool.not_eq_false', List.length_map, ne_eq, Decidable.not_not, Int.not_lt, Int.not_le] at h14)
        refine tr_skip ?_
        refine pe_then_normal ?_
        refine tr_sub hC (.cons (t := 0) rfl (.cons (t := 1) rfl (.cons (t := 5) rfl .nil))) .nil rfl ?_
        refine tr_seq ?_
        refine tr_block ?_
        refine tr_seq ?_
        refine tr_drawn mixed (fun N6 hN => ?_)
        refine lx (op_move rfl) rfl ?_
        refine lx (op_move rfl) rfl ?_
        refine lx (op_index rfl rfl el30 sz41 rfl (List.getElem?_eq_getElem (by omega : k < xs.length))) rfl ?_
        first | refine lx (op_load_all rfl ag41 sz41) rfl ?_ | refine lx (op_load_agg rfl ag41 sz41 rfl) rfl ?_
        refine lx (op_move rfl) rfl ?_
        refine lx (op_move rfl) rfl ?_
        refine lx (op_index rfl rfl el30 sz41 rfl (List.getElem?_eq_getElem (by omega : k < ys.length))) rfl ?_
        first | refine lx (op_load_all rfl ag41 sz41) rfl ?_ | refine lx (op_load_agg rfl ag41 sz41 rfl) rfl ?_
        refine lx (op_neq_agg rfl rfl (eqV _ _)) rfl ?_
        refine lx_end ⟨by kernel_rfl, ?_⟩
        refine pe_then_normal ?_
        refine tr_sub hC (.cons (t := 0) rfl (.cons (t := 1) rfl (.cons (t := 5) rfl (.cons (t := 25) rfl .nil)))) .nil rfl ?_
        refine tr_cond rfl (fun h25 => ?_) (fun h25 => ?_)
        · (try simp only [Bool.and_eq_true, Bool.or_eq_true, Bool.and_eq_false_iff, Bool.or_eq_false_iff, decide_eq_true_eq, decide_eq_false_iff_not, Bool.not_eq_true', Bool.not_eq_false', List.length_map, ne_eq, Decidable.not_not, Int.not_lt, Int.not_le] at h25)
          have hne : decide (xs = ys) = false := ne_at (by omega) (by omega) h25
          refine tr_seq ?_
          refine tr_region (fun N7 hN => ?_)
          refine lx (op_assign rfl) rfl ?_
          refine lx_end ⟨by kernel_rfl, ?_⟩
          refine pe_then_normal ?_
          refine tr_sub hC (.cons (t := 4) rfl .nil) .nil rfl ?_
          refine tr_ret ?_
          refine pe_block_ret ?_
          refine pe_then_ret ?_
          refine pe_then_ret ?_
          refine pe_block_ret ?_
          refine pe_then_ret ?_
          refine pe_ret1 rfl hO rfl (.tmp rfl .nil) ?_
          exact entB hne.symm
        · (try simp only [Bool.and_eq_true, Bool.or_eq_true, Bool.and_eq_false_iff, Bool.or_eq_false_iff, decide_eq_true_eq, decide_eq_false_iff_not, Bool.not_eq_true', Bool.not_eq_false', List.length_map, ne_eq, Decidable.not_not, Int.not_lt, Int.not_le] at h25)
          refine tr_skip ?_
          refine pe_block_normal ?_
          refine pe_then_normal ?_
          refine tr_sub hC (.cons (t := 0) rfl (.cons (t := 1) rfl (.cons (t := 5) rfl .nil))) .nil rfl ?_
          refine tr_region (fun N5 hN => ?_)
          refine lx (op_move rfl) rfl ?_
          refine lx (op_add rfl rfl (by omega)) rfl ?_
          refine lx (op_assign rfl) rfl ?_
          refine lx_end ⟨by kernel_rfl, ?_⟩
          refine pe_round (⟨(k + 1), by omega, take_step hk2 (by omega) (by omega) (by simpa using h25)⟩) (by dsimp only; omega) (pe_st hC ?_ ?_ rfl)
          · try dsimp only [List.cons_append, List.nil_append]
            first | refine SubF.cons rfl ?_ | (refine SubF.ent rfl ?_ ?_; · repeat (first | exact Ents.nil | refine Ents.cons ?_ ?_ | refine Ent.tup ?_ | refine Ent.agg ?_ | exact Ent.row _ _ _ _ | exact Ent.nil _ _ | exact Ent.func _ | exact Ent.refl _ | exact Ent.of_eq rfl | refine Ent.cells ?_))
            first | refine SubF.cons rfl ?_ | (refine SubF.ent rfl ?_ ?_; · repeat (first | exact Ents.nil | refine Ents.cons ?_ ?_ | refine Ent.tup ?_ | refine Ent.agg ?_ | exact Ent.row _ _ _ _ | exact Ent.nil _ _ | exact Ent.func _ | exact Ent.refl _ | exact Ent.of_eq rfl | refine Ent.cells ?_))
            first | refine SubF.cons rfl ?_ | (refine SubF.ent rfl ?_ ?_; · repeat (first | exact Ents.nil | refine Ents.cons ?_ ?_ | refine Ent.tup ?_ | refine Ent.agg ?_ | exact Ent.row _ _ _ _ | exact Ent.nil _ _ | exact Ent.func _ | exact Ent.refl _ | exact Ent.of_eq rfl | refine Ent.cells ?_))
            exact SubF.nil
          · try dsimp only [List.cons_append, List.nil_append]
            repeat (first | exact SubL.nil | refine SubL.cons rfl ?_)
      · (try simp only [Bool.and_eq_true, Bool.or_eq_true, Bool.and_eq_false_iff, Bool.or_eq_false_iff, decide_eq_true_eq, decide_eq_false_iff_not, Bool.not_eq_true', Bool.not_eq_false', List.length_map, ne_eq, Decidable.not_not, Int.not_lt, Int.not_le] at h14)
        have hk3 : k = xs.length := by omega
        refine tr_exit ?_
        refine pe_then_exit ?_
        refine pe_then_exit ?_
        refine pe_block_eq ?_
        refine pe_then_normal ?_
        refine tr_sub hC .nil .nil rfl ?_
        refine tr_seq ?_
        refine tr_region (fun N8 hN => ?_)
        refine lx (op_assign rfl) rfl ?_
        refine lx_end ⟨by kernel_rfl, ?_⟩
        refine pe_then_normal ?_
        refine tr_sub hC (.cons (t := 4) rfl .nil) .nil rfl ?_
        refine tr_ret ?_
        refine pe_ret1 rfl hO rfl (.tmp rfl .nil) ?_
        exact entB (decide_eq_true (take_end hk2 (by omega) (by omega))).symm
theorem sameW_ok (xs ys : List Wt) (hx : xs.length ≤ 4000000) : FnP Try.prog 45 [slP wp 5 xs, slP wp 5 ys] (eqP (.bool (decide (xs = ys)))) := by
  refine fn_pure' Try.func45 rfl Try.ntmps45 rfl ?_
  intro σ0 M ex Rf R hC hO
  simp only [frameOf, tokOf]
  refine tr_seq ?_
  refine tr_region (fun N0 hN => ?_)
  refine lx (op_assign rfl) rfl ?_
  refine lx_end ⟨by kernel_rfl, ?_⟩
  refine pe_then_normal ?_
  refine tr_sub hC (.cons (t := 0) rfl (.cons (t := 1) rfl .nil)) .nil rfl ?_
  refine tr_seq ?_
  refine tr_seq ?_
  refine tr_region (fun N1 hN => ?_)
  refine lx (op_move rfl) rfl ?_
  first | refine lx (op_len rfl el31) rfl ?_ | refine lx (op_len_row rfl el31) rfl ?_ | refine lx (op_len_mv rfl el31) rfl ?_ | refine lx (op_len_nil rfl el31) rfl ?_
  refine lx (op_move rfl) rfl ?_
  first | refine lx (op_len rfl el31) rfl ?_ | refine lx (op_len_row rfl el31) rfl ?_ | refine lx (op_len_mv rfl el31) rfl ?_ | refine lx (op_len_nil rfl el31) rfl ?_
  refine lx (op_neq rfl rfl) rfl ?_
  refine lx_end ⟨by kernel_rfl, ?_⟩
  refine pe_then_normal ?_
  refine tr_sub hC (.cons (t := 0) rfl (.cons (t := 1) rfl (.cons (t := 10) rfl .nil))) .nil rfl ?_
  refine tr_cond rfl (fun h10 => ?_) (fun h10 => ?_)
  · (try simp only [Bool.and_eq_true, Bool.or_eq_true, Bool.and_eq_false_iff, Bool.or_eq_false_iff, decide_eq_true_eq, decide_eq_false_iff_not, Bool.not_eq_true', Bool.not_eq_false', List.length_map, ne_eq, Decidable.not_not, Int.not_lt, Int.not_le] at h10)
    have hne : xs ≠ ys := fun e => h10 (by rw [e])
    refine tr_seq ?_
    refine tr_region (fun N2 hN => ?_)
    refine lx (op_assign rfl) rfl ?_
    refine lx_end ⟨by kernel_rfl, ?_⟩
    refine pe_then_normal ?_
    refine tr_sub hC (.cons (t := 4) rfl .nil) .nil rfl ?_
    refine tr_ret ?_
    refine pe_then_ret ?_
    refine pe_ret1 rfl hO rfl (.tmp rfl .nil) ?_
    exact entB (decide_eq_false hne).symm
  · (try simp only [Bool.and_eq_true, Bool.or_eq_true, Bool.and_eq_false_iff, Bool.or_eq_false_iff, decide_eq_true_eq, decide_eq_false_iff_not, Bool.not_eq_true', Bool.not_eq_false', List.length_map, ne_eq, Decidable.not_not, Int.not_lt, Int.not_le] at h10)
    have hlen : xs.length = ys.length := by omega
    refine tr_skip ?_
    refine pe_then_normal ?_
    refine tr_sub hC (.cons (t := 0) rfl (.cons (t := 1) rfl .nil)) .nil rfl ?_
    refine tr_seq ?_
    refine tr_seq ?_
    refine tr_region (fun N3 hN => ?_)
    refine lx (op_assign rfl) rfl ?_
    refine lx_end ⟨by kernel_rfl, ?_⟩
    refine pe_then_normal ?_
    refine tr_sub hC (.cons (t := 0) rfl (.cons (t := 1) rfl (.cons (t := 5) rfl .nil))) .nil rfl ?_
    refine tr_block ?_
    refine tr_loopK (α := {zz : Nat // zz ≤ xs.length ∧ xs.take zz = ys.take zz}) (⟨(0), Nat.zero_le _, by simp⟩) (fun zz => [(5, eqP (.int .i64 (zz.1 : Int)))]) (fun zz => []) (fun zz => xs.length - zz.1) hC (.cons (t := 0) rfl (.cons (t := 1) rfl .nil)) .nil rfl ?_ ?_ (fun zz => ?_)
    · try dsimp only [List.cons_append, List.nil_append]
      first | refine SubF.cons rfl ?_ | (refine SubF.ent rfl ?_ ?_; · repeat (first | exact Ents.nil | refine Ents.cons ?_ ?_ | refine Ent.tup ?_ | refine Ent.agg ?_ | exact Ent.row _ _ _ _ | exact Ent.nil _ _ | exact Ent.func _ | exact Ent.refl _ | exact Ent.of_eq rfl | refine Ent.cells ?_))
      exact SubF.nil
    · try dsimp only [List.cons_append, List.nil_append]
      repeat (first | exact SubL.nil | refine SubL.cons rfl ?_)
    · obtain ⟨k, hk1, hk2⟩ := zz
      dsimp only [List.cons_append, List.nil_append]
      refine tr_seq ?_
      refine tr_seq ?_
      refine tr_region (fun N4 hN => ?_)
      refine lx (op_move rfl) rfl ?_
      refine lx (op_move rfl) rfl ?_
      first | refine lx (op_len rfl el31) rfl ?_ | refine lx (op_len_row rfl el31) rfl ?_ | refine lx (op_len_mv rfl el31) rfl ?_ | refine lx (op_len_nil rfl el31) rfl ?_
      refine lx (op_lss rfl rfl) rfl ?_
      refine lx_end ⟨by kernel_rfl, ?_⟩
      refine pe_then_normal ?_
      refine tr_sub hC (.cons (t := 0) rfl (.cons (t := 1) rfl (.cons (t := 5) rfl (.cons (t := 14) rfl .nil)))) .nil rfl ?_
      refine tr_cond rfl (fun h14 => ?_) (fun h14 => ?_)
      · (try simp only [Bool.and_eq_true, Bool.or_eq_true, Bool.and_eq_false_iff, Bool.or_eq_false_iff, decide_eq_true_eq, decide_eq_false_iff_not, Bool.not_eq_true', Bool.not_eq_false', List.length_map, ne_eq, Decidable.not_not, Int.not_lt, Int.not_le] at h14)
        refine tr_skip ?_
        refine pe_then_normal ?_
        refine tr_sub hC (.cons (t := 0) rfl (.cons (t := 1) rfl (.cons (t := 5) rfl .nil))) .nil rfl ?_
        refine tr_seq ?_
        refine tr_block ?_
        refine tr_seq ?_
        refine tr_drawn mixed (fun N6 hN => ?_)
        refine lx (op_move rfl) rfl ?_
        refine lx (op_move rfl) rfl ?_
        refine lx (op_index rfl rfl el31 sz88 rfl (List.getElem?_eq_getElem (by omega : k < xs.length))) rfl ?_
        first | refine lx (op_load_all rfl ag88 sz88) rfl ?_ | refine lx (op_load_agg rfl ag88 sz88 rfl) rfl ?_
        refine lx (op_move rfl) rfl ?_
        refine lx (op_move rfl) rfl ?_
        refine lx (op_index rfl rfl el31 sz88 rfl (List.getElem?_eq_getElem (by omega : k < ys.length))) rfl ?_
        first | refine lx (op_load_all rfl ag88 sz88) rfl ?_ | refine lx (op_load_agg rfl ag88 sz88 rfl) rfl ?_
        refine lx (op_neq_agg rfl rfl (eqW _ _)) rfl ?_
        refine lx_end ⟨by kernel_rfl, ?_⟩
        refine pe_then_normal ?_
        refine tr_sub hC (.cons (t := 0) rfl (.cons (t := 1) rfl (.cons (t := 5) rfl (.cons (t := 25) rfl .nil)))) .nil rfl ?_
        refine tr_cond rfl (fun h25 => ?_) (fun h25 => ?_)
        · (try simp only [Bool.and_eq_true, Bool.or_eq_true, Bool.and_eq_false_iff, Bool.or_eq_false_iff, decide_eq_true_eq, decide_eq_false_iff_not, Bool.not_eq_true', Bool.not_eq_false', List.length_map, ne_eq, Decidable.not_not, Int.not_lt, Int.not_le] at h25)
          have hne : decide (xs = ys) = false := ne_at (by omega) (by omega) h25
          refine tr_seq ?_
          refine tr_region (fun N7 hN => ?_)
          refine lx (op_assign rfl) rfl ?_
          refine lx_end ⟨by kernel_rfl, ?_⟩
          refine pe_then_normal ?_
          refine tr_sub hC (.cons (t := 4) rfl .nil) .nil rfl ?_
          refine tr_ret ?_
          refine pe_block_ret ?_
          refine pe_then_ret ?_
          refine pe_then_ret ?_
          refine pe_block_ret ?_
          refine pe_then_ret ?_
          refine pe_ret1 rfl hO rfl (.tmp rfl .nil) ?_
          exact entB hne.symm
        · (try simp only [Bool.and_eq_true, Bool.or_eq_true, Bool.and_eq_false_iff, Bool.or_eq_false_iff, decide_eq_true_eq, decide_eq_false_iff_not, Bool.not_eq_true', Bool.not_eq_false', List.length_map, ne_eq, Decidable.not_not, Int.not_lt, Int.not_le] at h25)
          refine tr_skip ?_
          refine pe_block_normal ?_
          refine pe_then_normal ?_
          refine tr_sub hC (.cons (t := 0) rfl (.cons (t := 1) rfl (.cons (t := 5) rfl .nil))) .nil rfl ?_
          refine tr_region (fun N5 hN => ?_)
          refine lx (op_move rfl) rfl ?_
          refine lx (op_add rfl rfl (by omega)) rfl ?_
          refine lx (op_assign rfl) rfl ?_
          refine lx_end ⟨by kernel_rfl, ?_⟩
          refine pe_round (⟨(k + 1), by omega, take_step hk2 (by omega) (by omega) (by simpa using h25)⟩) (by dsimp only; omega) (pe_st hC ?_ ?_ rfl)
          · try dsimp only [List.cons_append, List.nil_append]
            first | refine SubF.cons rfl ?_ | (refine SubF.ent rfl ?_ ?_; · repeat (first | exact Ents.nil | refine Ents.cons ?_ ?_ | refine Ent.tup ?_ | refine Ent.agg ?_ | exact Ent.row _ _ _ _ | exact Ent.nil _ _ | exact Ent.func _ | exact Ent.refl _ | exact Ent.of_eq rfl | refine Ent.cells ?_))
            first | refine SubF.cons rfl ?_ | (refine SubF.ent rfl ?_ ?_; · repeat (first | exact Ents.nil | refine Ents.cons ?_ ?_ | refine Ent.tup ?_ | refine Ent.agg ?_ | exact Ent.row _ _ _ _ | exact Ent.nil _ _ | exact Ent.func _ | exact Ent.refl _ | exact Ent.of_eq rfl | refine Ent.cells ?_))
            first | refine SubF.cons rfl ?_ | (refine SubF.ent rfl ?_ ?_; · repeat (first | exact Ents.nil | refine Ents.cons ?_ ?_ | refine Ent.tup ?_ | refine Ent.agg ?_ | exact Ent.row _ _ _ _ | exact Ent.nil _ _ | exact Ent.func _ | exact Ent.refl _ | exact Ent.of_eq rfl | refine Ent.cells ?_))
            exact SubF.nil
          · try dsimp only [List.cons_append, List.nil_append]
            repeat (first | exact SubL.nil | refine SubL.cons rfl ?_)
      · (try simp only [Bool.and_eq_true, Bool.or_eq_true, Bool.and_eq_false_iff, Bool.or_eq_false_iff, decide_eq_true_eq, decide_eq_false_iff_not, Bool.not_eq_true', Bool.not_eq_false', List.length_map, ne_eq, Decidable.not_not, Int.not_lt, Int.not_le] at h14)
        have hk3 : k = xs.length := by omega
        refine tr_exit ?_
        refine pe_then_exit ?_
        refine pe_then_exit ?_
        refine pe_block_eq ?_
        refine pe_then_normal ?_
        refine tr_sub hC .nil .nil rfl ?_
        refine tr_seq ?_
        refine tr_region (fun N8 hN => ?_)
        refine lx (op_assign rfl) rfl ?_
        refine lx_end ⟨by kernel_rfl, ?_⟩
        refine pe_then_normal ?_
        refine tr_sub hC (.cons (t := 4) rfl .nil) .nil rfl ?_
        refine tr_ret ?_
        refine pe_ret1 rfl hO rfl (.tmp rfl .nil) ?_
        exact entB (decide_eq_true (take_end hk2 (by omega) (by omega))).symm
theorem ints_ok (xs ys : List Int) (hx : xs.length ≤ 4000000) : FnP Try.prog 36 [slP ip 1 xs, slP ip 1 ys] (eqP (.bool (decide (xs = ys)))) := by
  refine fn_pure' Try.func36 rfl Try.ntmps36 rfl ?_
  intro σ0 M ex Rf R hC hO
  simp only [frameOf, tokOf]
  refine tr_seq ?_
  refine tr_region (fun N0 hN => ?_)
  refine lx (op_assign rfl) rfl ?_
  refine lx_end ⟨by kernel_rfl, ?_⟩
  refine pe_then_normal ?_
  refine tr_sub hC (.cons (t := 0) rfl (.cons (t := 1) rfl .nil)) .nil rfl ?_
  refine tr_seq ?_
  refine tr_seq ?_
  refine tr_region (fun N1 hN => ?_)
  refine lx (op_move rfl) rfl ?_
  first | refine lx (op_len rfl el27) rfl ?_ | refine lx (op_len_row rfl el27) rfl ?_ | refine lx (op_len_mv rfl el27) rfl ?_ | refine lx (op_len_nil rfl el27) rfl ?_
  refine lx (op_move rfl) rfl ?_
  first | refine lx (op_len rfl el27) rfl ?_ | refine lx (op_len_row rfl el27) rfl ?_ | refine lx (op_len_mv rfl el27) rfl ?_ | refine lx (op_len_nil rfl el27) rfl ?_
  refine lx (op_neq rfl rfl) rfl ?_
  refine lx_end ⟨by kernel_rfl, ?_⟩
  refine pe_then_normal ?_
  refine tr_sub hC (.cons (t := 0) rfl (.cons (t := 1) rfl (.cons (t := 10) rfl .nil))) .nil rfl ?_
  refine tr_cond rfl (fun h10 => ?_) (fun h10 => ?_)
  · (try simp only [Bool.and_eq_true, Bool.or_eq_true, Bool.and_eq_false_iff, Bool.or_eq_false_iff, decide_eq_true_eq, decide_eq_false_iff_not, Bool.not_eq_true', Bool.not_eq_false', List.length_map, ne_eq, Decidable.not_not, Int.not_lt, Int.not_le] at h10)
    have hne : xs ≠ ys := fun e => h10 (by rw [e])
    refine tr_seq ?_
    refine tr_region (fun N2 hN => ?_)
    refine lx (op_assign rfl) rfl ?_
    refine lx_end ⟨by kernel_rfl, ?_⟩
    refine pe_then_normal ?_
    refine tr_sub hC (.cons (t := 4) rfl .nil) .nil rfl ?_
    refine tr_ret ?_
    refine pe_then_ret ?_
    refine pe_ret1 rfl hO rfl (.tmp rfl .nil) ?_
    exact entB (decide_eq_false hne).symm
  · (try simp only [Bool.and_eq_true, Bool.or_eq_true, Bool.and_eq_false_iff, Bool.or_eq_false_iff, decide_eq_true_eq, decide_eq_false_iff_not, Bool.not_eq_true', Bool.not_eq_false', List.length_map, ne_eq, Decidable.not_not, Int.not_lt, Int.not_le] at h10)
    have hlen : xs.length = ys.length := by omega
    refine tr_skip ?_
    refine pe_then_normal ?_
    refine tr_sub hC (.cons (t := 0) rfl (.cons (t := 1) rfl .nil)) .nil rfl ?_
    refine tr_seq ?_
    refine tr_seq ?_
    refine tr_region (fun N3 hN => ?_)
    refine lx (op_assign rfl) rfl ?_
    refine lx_end ⟨by kernel_rfl, ?_⟩
    refine pe_then_normal ?_
    refine tr_sub hC (.cons (t := 0) rfl (.cons (t := 1) rfl (.cons (t := 5) rfl .nil))) .nil rfl ?_
    refine tr_block ?_
    refine tr_loopK (α := {zz : Nat // zz ≤ xs.length ∧ xs.take zz = ys.take zz}) (⟨(0), Nat.zero_le _, by simp⟩) (fun zz => [(5, eqP (.int .i64 (zz.1 : Int)))]) (fun zz => []) (fun zz => xs.length - zz.1) hC (.cons (t := 0) rfl (.cons (t := 1) rfl .nil)) .nil rfl ?_ ?_ (fun zz => ?_)
    · try dsimp only [List.cons_append, List.nil_append]
      first | refine SubF.cons rfl ?_ | (refine SubF.ent rfl ?_ ?_; · repeat (first | exact Ents.nil | refine Ents.cons ?_ ?_ | refine Ent.tup ?_ | refine Ent.agg ?_ | exact Ent.row _ _ _ _ | exact Ent.nil _ _ | exact Ent.func _ | exact Ent.refl _ | exact Ent.of_eq rfl | refine Ent.cells ?_))
      exact SubF.nil
    · try dsimp only [List.cons_append, List.nil_append]
      repeat (first | exact SubL.nil | refine SubL.cons rfl ?_)
    · obtain ⟨k, hk1, hk2⟩ := zz
      dsimp only [List.cons_append, List.nil_append]
      refine tr_seq ?_
      refine tr_seq ?_
      refine tr_region (fun N4 hN => ?_)
      refine lx (op_move rfl) rfl ?_
      refine lx (op_move rfl) rfl ?_
      first | refine lx (op_len rfl el27) rfl ?_ | refine lx (op_len_row rfl el27) rfl ?_ | refine lx (op_len_mv rfl el27) rfl ?_ | refine lx (op_len_nil rfl el27) rfl ?_
      refine lx (op_lss rfl rfl) rfl ?_
      refine lx_end ⟨by kernel_rfl, ?_⟩
      refine pe_then_normal ?_
      refine tr_sub hC (.cons (t := 0) rfl (.cons (t := 1) rfl (.cons (t := 5) rfl (.cons (t := 14) rfl .nil)))) .nil rfl ?_
      refine tr_cond rfl (fun h14 => ?_) (fun h14 => ?_)
      · (try simp only [Bool.and_eq_true, Bool.or_eq_true, Bool.and_eq_false_iff, Bool.or_eq_false_iff, decide_eq_true_eq, decide_eq_false_iff_not, Bool.not_eq_true', Bool.not_eq_false', List.length_map, ne_eq, Decidable.not_not, Int.not_lt, Int.not_le] at h14)
        refine tr_skip ?_
        refine pe_then_normal ?_
        refine tr_sub hC (.cons (t := 0) rfl (.cons (t := 1) rfl (.cons (t := 5) rfl .nil))) .nil rfl ?_
        refine tr_seq ?_
        refine tr_block ?_
        refine tr_seq ?_
        refine tr_drawn mixed (fun N6 hN => ?_)
        refine lx (op_move rfl) rfl ?_
        refine lx (op_move rfl) rfl ?_
        refine lx (op_index rfl rfl el27 sz3 rfl (List.getElem?_eq_getElem (by omega : k < xs.length))) rfl ?_
        refine lx (op_load_one rfl ag3 rfl) rfl ?_
        refine lx (op_move rfl) rfl ?_
        refine lx (op_move rfl) rfl ?_
        refine lx (op_index rfl rfl el27 sz3 rfl (List.getElem?_eq_getElem (by omega : k < ys.length))) rfl ?_
        refine lx (op_load_one rfl ag3 rfl) rfl ?_
        refine lx (op_neq rfl rfl) rfl ?_
        refine lx_end ⟨by kernel_rfl, ?_⟩
        refine pe_then_normal ?_
        refine tr_sub hC (.cons (t := 0) rfl (.cons (t := 1) rfl (.cons (t := 5) rfl (.cons (t := 25) rfl .nil)))) .nil rfl ?_
        refine tr_cond rfl (fun h25 => ?_) (fun h25 => ?_)
        · (try simp only [Bool.and_eq_true, Bool.or_eq_true, Bool.and_eq_false_iff, Bool.or_eq_false_iff, decide_eq_true_eq, decide_eq_false_iff_not, Bool.not_eq_true', Bool.not_eq_false', List.length_map, ne_eq, Decidable.not_not, Int.not_lt, Int.not_le] at h25)
          have hne : decide (xs = ys) = false := ne_at (by omega) (by omega) h25
          refine tr_seq ?_
          refine tr_region (fun N7 hN => ?_)
          refine lx (op_assign rfl) rfl ?_
          refine lx_end ⟨by kernel_rfl, ?_⟩
          refine pe_then_normal ?_
          refine tr_sub hC (.cons (t := 4) rfl .nil) .nil rfl ?_
          refine tr_ret ?_
          refine pe_block_ret ?_
          refine pe_then_ret ?_
          refine pe_then_ret ?_
          refine pe_block_ret ?_
          refine pe_then_ret ?_
          refine pe_ret1 rfl hO rfl (.tmp rfl .nil) ?_
          exact entB hne.symm
        · (try simp only [Bool.and_eq_true, Bool.or_eq_true, Bool.and_eq_false_iff, Bool.or_eq_false_iff, decide_eq_true_eq, decide_eq_false_iff_not, Bool.not_eq_true', Bool.not_eq_false', List.length_map, ne_eq, Decidable.not_not, Int.not_lt, Int.not_le] at h25)
          refine tr_skip ?_
          refine pe_block_normal ?_
          refine pe_then_normal ?_
          refine tr_sub hC (.cons (t := 0) rfl (.cons (t := 1) rfl (.cons (t := 5) rfl .nil))) .nil rfl ?_
          refine tr_region (fun N5 hN => ?_)
          refine lx (op_move rfl) rfl ?_
          refine lx (op_add rfl rfl (by omega)) rfl ?_
          refine lx (op_assign rfl) rfl ?_
          refine lx_end ⟨by kernel_rfl, ?_⟩
          refine pe_round (⟨(k + 1), by omega, take_step hk2 (by omega) (by omega) (by simpa using h25)⟩) (by dsimp only; omega) (pe_st hC ?_ ?_ rfl)
          · try dsimp only [List.cons_append, List.nil_append]
            first | refine SubF.cons rfl ?_ | (refine SubF.ent rfl ?_ ?_; · repeat (first | exact Ents.nil | refine Ents.cons ?_ ?_ | refine Ent.tup ?_ | refine Ent.agg ?_ | exact Ent.row _ _ _ _ | exact Ent.nil _ _ | exact Ent.func _ | exact Ent.refl _ | exact Ent.of_eq rfl | refine Ent.cells ?_))
            first | refine SubF.cons rfl ?_ | (refine SubF.ent rfl ?_ ?_; · repeat (first | exact Ents.nil | refine Ents.cons ?_ ?_ | refine Ent.tup ?_ | refine Ent.agg ?_ | exact Ent.row _ _ _ _ | exact Ent.nil _ _ | exact Ent.func _ | exact Ent.refl _ | exact Ent.of_eq rfl | refine Ent.cells ?_))
            first | refine SubF.cons rfl ?_ | (refine SubF.ent rfl ?_ ?_; · repeat (first | exact Ents.nil | refine Ents.cons ?_ ?_ | refine Ent.tup ?_ | refine Ent.agg ?_ | exact Ent.row _ _ _ _ | exact Ent.nil _ _ | exact Ent.func _ | exact Ent.refl _ | exact Ent.of_eq rfl | refine Ent.cells ?_))
            exact SubF.nil
          · try dsimp only [List.cons_append, List.nil_append]
            repeat (first | exact SubL.nil | refine SubL.cons rfl ?_)
      · (try simp only [Bool.and_eq_true, Bool.or_eq_true, Bool.and_eq_false_iff, Bool.or_eq_false_iff, decide_eq_true_eq, decide_eq_false_iff_not, Bool.not_eq_true', Bool.not_eq_false', List.length_map, ne_eq, Decidable.not_not, Int.not_lt, Int.not_le] at h14)
        have hk3 : k = xs.length := by omega
        refine tr_exit ?_
        refine pe_then_exit ?_
        refine pe_then_exit ?_
        refine pe_block_eq ?_
        refine pe_then_normal ?_
        refine tr_sub hC .nil .nil rfl ?_
        refine tr_seq ?_
        refine tr_region (fun N8 hN => ?_)
        refine lx (op_assign rfl) rfl ?_
        refine lx_end ⟨by kernel_rfl, ?_⟩
        refine pe_then_normal ?_
        refine tr_sub hC (.cons (t := 4) rfl .nil) .nil rfl ?_
        refine tr_ret ?_
        refine pe_ret1 rfl hO rfl (.tmp rfl .nil) ?_
        exact entB (decide_eq_true (take_end hk2 (by omega) (by omega))).symm
theorem sameO_ok (a b : Ob) (hs : BdO 4000000 a) : FnP Try.prog 27 [aggP a.ps, aggP b.ps] (eqP (.bool (decide (a = b)))) := by
  refine fn_pure' Try.func27 rfl Try.ntmps27 rfl ?_
  intro σ0 M ex Rf R hC hO
  simp only [frameOf, tokOf]
  refine tr_seq ?_
  refine tr_region (fun N0 hN => ?_)
  refine lxn (op_box (m := 2) (k := 2) rfl (.agg rfl) (by first | exact hC.low _ (by decide) | rfl)) rfl ?_
  refine lxn (op_box (m := 3) (k := 3) rfl (.agg rfl) (by first | exact hC.low _ (by decide) | rfl)) rfl ?_
  refine lx (op_assign rfl) rfl ?_
  refine lx_end ⟨by kernel_rfl, ?_⟩
  refine pe_then_normal ?_
  refine tr_sub hC (.cons (t := 2) rfl (.cons (t := 3) rfl .nil)) (.cons (t := 2) rfl (.cons (t := 3) rfl .nil)) rfl ?_
  refine tr_seq ?_
  refine tr_region (fun N1 hN => ?_)
  refine lx (op_fieldAddr rfl fl33_0 sz3) rfl ?_
  refine lx (op_bload_one (m := 2) rfl rfl ag3 rfl) rfl ?_
  refine lx (op_fieldAddr rfl fl33_0 sz3) rfl ?_
  refine lx (op_bload_one (m := 3) rfl rfl ag3 rfl) rfl ?_
  refine lx (op_eql rfl rfl) rfl ?_
  refine lx (op_move rfl) rfl ?_
  refine lxs rfl rfl rfl guard_eq (.cons (t := 2) rfl (fun _ => Ent.refl _) .nil) (op_fieldAddr rfl fl33_1 sz30) rfl ?_
  refine lxs rfl rfl rfl guard_eq (.cons (t := 11) rfl (fun h => entW h) .nil) (op_bload_one (m := 2) rfl rfl ag30 rfl) rfl ?_
  refine lxs rfl rfl rfl guard_eq (.cons (t := 3) rfl (fun _ => Ent.refl _) .nil) (op_fieldAddr rfl fl33_1 sz30) rfl ?_
  refine lxs rfl rfl rfl guard_eq (.cons (t := 13) rfl (fun h => entW h) .nil) (op_bload_one (m := 3) rfl rfl ag30 rfl) rfl ?_
  first | refine lxs rfl rfl rfl guard_eq (.cons (t := 12) rfl (fun h => entW h) (.cons (t := 14) rfl (fun h => entW h) .nil)) (op_call (l := [(Go.Operand.tmp 12), (Go.Operand.tmp 14)]) (sameV_ok a.cells b.cells hs.cells) (.cons rfl (.cons rfl .nil)) fn44) rfl ?_ | refine lxs rfl rfl rfl guard_eq (.cons (t := 12) rfl (fun h => entW h) (.cons (t := 14) rfl (fun h => entW h) .nil)) (op_call (l := [(Go.Operand.tmp 12), (Go.Operand.tmp 14)]) (sameV_ok a.cells b.cells hs.cells) (.ent rfl (by repeat (first | exact Ents.nil | refine Ents.cons ?_ ?_ | refine Ent.tup ?_ | refine Ent.agg ?_ | exact Ent.row _ _ _ _ | exact Ent.nil _ _ | exact Ent.func _ | exact Ent.refl _ | exact Ent.of_eq rfl | refine Ent.cells ?_)) (.ent rfl (by repeat (first | exact Ents.nil | refine Ents.cons ?_ ?_ | refine Ent.tup ?_ | refine Ent.agg ?_ | exact Ent.row _ _ _ _ | exact Ent.nil _ _ | exact Ent.func _ | exact Ent.refl _ | exact Ent.of_eq rfl | refine Ent.cells ?_)) .nil)) fn44) rfl ?_
  refine lx (op_pick_and rfl rfl) rfl ?_
  refine lx (op_move rfl) rfl ?_
  refine lxs rfl rfl rfl guard_eq (.cons (t := 2) rfl (fun _ => Ent.refl _) .nil) (op_fieldAddr rfl fl33_2 sz4) rfl ?_
  refine lxs rfl rfl rfl guard_eq (.cons (t := 18) rfl (fun h => entW h) .nil) (op_bload_one (m := 2) rfl rfl ag4 rfl) rfl ?_
  refine lxs rfl rfl rfl guard_eq (.cons (t := 3) rfl (fun _ => Ent.refl _) .nil) (op_fieldAddr rfl fl33_2 sz4) rfl ?_
  refine lxs rfl rfl rfl guard_eq (.cons (t := 20) rfl (fun h => entW h) .nil) (op_bload_one (m := 3) rfl rfl ag4 rfl) rfl ?_
  refine lxs rfl rfl rfl guard_eq (.cons (t := 19) rfl (fun h => entW h) (.cons (t := 21) rfl (fun h => entW h) .nil)) (op_eql_bool bo4 rfl rfl) rfl ?_
  refine lx (op_pick_and rfl rfl) rfl ?_
  refine lx (op_move rfl) rfl ?_
  refine lxs rfl rfl rfl guard_eq (.cons (t := 2) rfl (fun _ => Ent.refl _) .nil) (op_fieldAddr rfl fl33_3 sz3) rfl ?_
  refine lxs rfl rfl rfl guard_eq (.cons (t := 25) rfl (fun h => entW h) .nil) (op_bload_one (m := 2) rfl rfl ag3 rfl) rfl ?_
  refine lxs rfl rfl rfl guard_eq (.cons (t := 3) rfl (fun _ => Ent.refl _) .nil) (op_fieldAddr rfl fl33_3 sz3) rfl ?_
  refine lxs rfl rfl rfl guard_eq (.cons (t := 27) rfl (fun h => entW h) .nil) (op_bload_one (m := 3) rfl rfl ag3 rfl) rfl ?_
  refine lxs rfl rfl rfl guard_eq (.cons (t := 26) rfl (fun h => entW h) (.cons (t := 28) rfl (fun h => entW h) .nil)) (op_eql rfl rfl) rfl ?_
  refine lx (op_pick_and rfl rfl) rfl ?_
  refine lx (op_move rfl) rfl ?_
  refine lxs rfl rfl rfl guard_eq (.cons (t := 2) rfl (fun _ => Ent.refl _) .nil) (op_fieldAddr rfl fl33_4 sz30) rfl ?_
  refine lxs rfl rfl rfl guard_eq (.cons (t := 32) rfl (fun h => entW h) .nil) (op_bload_one (m := 2) rfl rfl ag30 rfl) rfl ?_
  refine lxs rfl rfl rfl guard_eq (.cons (t := 3) rfl (fun _ => Ent.refl _) .nil) (op_fieldAddr rfl fl33_4 sz30) rfl ?_
  refine lxs rfl rfl rfl guard_eq (.cons (t := 34) rfl (fun h => entW h) .nil) (op_bload_one (m := 3) rfl rfl ag30 rfl) rfl ?_
  first | refine lxs rfl rfl rfl guard_eq (.cons (t := 33) rfl (fun h => entW h) (.cons (t := 35) rfl (fun h => entW h) .nil)) (op_call (l := [(Go.Operand.tmp 33), (Go.Operand.tmp 35)]) (sameV_ok a.queue b.queue hs.queue) (.cons rfl (.cons rfl .nil)) fn44) rfl ?_ | refine lxs rfl rfl rfl guard_eq (.cons (t := 33) rfl (fun h => entW h) (.cons (t := 35) rfl (fun h => entW h) .nil)) (op_call (l := [(Go.Operand.tmp 33), (Go.Operand.tmp 35)]) (sameV_ok a.queue b.queue hs.queue) (.ent rfl (by repeat (first | exact Ents.nil | refine Ents.cons ?_ ?_ | refine Ent.tup ?_ | refine Ent.agg ?_ | exact Ent.row _ _ _ _ | exact Ent.nil _ _ | exact Ent.func _ | exact Ent.refl _ | exact Ent.of_eq rfl | refine Ent.cells ?_)) (.ent rfl (by repeat (first | exact Ents.nil | refine Ents.cons ?_ ?_ | refine Ent.tup ?_ | refine Ent.agg ?_ | exact Ent.row _ _ _ _ | exact Ent.nil _ _ | exact Ent.func _ | exact Ent.refl _ | exact Ent.of_eq rfl | refine Ent.cells ?_)) .nil)) fn44) rfl ?_
  refine lx (op_pick_and rfl rfl) rfl ?_
  refine lx (op_move rfl) rfl ?_
  refine lxs rfl rfl rfl guard_eq (.cons (t := 2) rfl (fun _ => Ent.refl _) .nil) (op_fieldAddr rfl fl33_5 sz4) rfl ?_
  refine lxs rfl rfl rfl guard_eq (.cons (t := 39) rfl (fun h => entW h) .nil) (op_bload_one (m := 2) rfl rfl ag4 rfl) rfl ?_
  refine lxs rfl rfl rfl guard_eq (.cons (t := 3) rfl (fun _ => Ent.refl _) .nil) (op_fieldAddr rfl fl33_5 sz4) rfl ?_
  refine lxs rfl rfl rfl guard_eq (.cons (t := 41) rfl (fun h => entW h) .nil) (op_bload_one (m := 3) rfl rfl ag4 rfl) rfl ?_
  refine lxs rfl rfl rfl guard_eq (.cons (t := 40) rfl (fun h => entW h) (.cons (t := 42) rfl (fun h => entW h) .nil)) (op_eql_bool bo4 rfl rfl) rfl ?_
  refine lx (op_pick_and rfl rfl) rfl ?_
  refine lx (op_move rfl) rfl ?_
  refine lxs rfl rfl rfl guard_eq (.cons (t := 2) rfl (fun _ => Ent.refl _) .nil) (op_fieldAddr rfl fl33_6 sz3) rfl ?_
  refine lxs rfl rfl rfl guard_eq (.cons (t := 46) rfl (fun h => entW h) .nil) (op_bload_one (m := 2) rfl rfl ag3 rfl) rfl ?_
  refine lxs rfl rfl rfl guard_eq (.cons (t := 3) rfl (fun _ => Ent.refl _) .nil) (op_fieldAddr rfl fl33_6 sz3) rfl ?_
  refine lxs rfl rfl rfl guard_eq (.cons (t := 48) rfl (fun h => entW h) .nil) (op_bload_one (m := 3) rfl rfl ag3 rfl) rfl ?_
  refine lxs rfl rfl rfl guard_eq (.cons (t := 47) rfl (fun h => entW h) (.cons (t := 49) rfl (fun h => entW h) .nil)) (op_eql rfl rfl) rfl ?_
  refine lx (op_pick_and rfl rfl) rfl ?_
  refine lx (op_move rfl) rfl ?_
  refine lxs rfl rfl rfl guard_eq (.cons (t := 2) rfl (fun _ => Ent.refl _) .nil) (op_fieldAddr rfl fl33_7 sz3) rfl ?_
  refine lxs rfl rfl rfl guard_eq (.cons (t := 53) rfl (fun h => entW h) .nil) (op_bload_one (m := 2) rfl rfl ag3 rfl) rfl ?_
  refine lxs rfl rfl rfl guard_eq (.cons (t := 3) rfl (fun _ => Ent.refl _) .nil) (op_fieldAddr rfl fl33_7 sz3) rfl ?_
  refine lxs rfl rfl rfl guard_eq (.cons (t := 55) rfl (fun h => entW h) .nil) (op_bload_one (m := 3) rfl rfl ag3 rfl) rfl ?_
  refine lxs rfl rfl rfl guard_eq (.cons (t := 54) rfl (fun h => entW h) (.cons (t := 56) rfl (fun h => entW h) .nil)) (op_eql rfl rfl) rfl ?_
  refine lx (op_pick_and rfl rfl) rfl ?_
  refine lx (op_move rfl) rfl ?_
  refine lxs rfl rfl rfl guard_eq (.cons (t := 2) rfl (fun _ => Ent.refl _) .nil) (op_fieldAddr rfl fl33_8 sz31) rfl ?_
  refine lxs rfl rfl rfl guard_eq (.cons (t := 60) rfl (fun h => entW h) .nil) (op_bload_one (m := 2) rfl rfl ag31 rfl) rfl ?_
  refine lxs rfl rfl rfl guard_eq (.cons (t := 3) rfl (fun _ => Ent.refl _) .nil) (op_fieldAddr rfl fl33_8 sz31) rfl ?_
  refine lxs rfl rfl rfl guard_eq (.cons (t := 62) rfl (fun h => entW h) .nil) (op_bload_one (m := 3) rfl rfl ag31 rfl) rfl ?_
  first | refine lxs rfl rfl rfl guard_eq (.cons (t := 61) rfl (fun h => entW h) (.cons (t := 63) rfl (fun h => entW h) .nil)) (op_call (l := [(Go.Operand.tmp 61), (Go.Operand.tmp 63)]) (sameW_ok a.senders b.senders hs.senders) (.cons rfl (.cons rfl .nil)) fn45) rfl ?_ | refine lxs rfl rfl rfl guard_eq (.cons (t := 61) rfl (fun h => entW h) (.cons (t := 63) rfl (fun h => entW h) .nil)) (op_call (l := [(Go.Operand.tmp 61), (Go.Operand.tmp 63)]) (sameW_ok a.senders b.senders hs.senders) (.ent rfl (by repeat (first | exact Ents.nil | refine Ents.cons ?_ ?_ | refine Ent.tup ?_ | refine Ent.agg ?_ | exact Ent.row _ _ _ _ | exact Ent.nil _ _ | exact Ent.func _ | exact Ent.refl _ | exact Ent.of_eq rfl | refine Ent.cells ?_)) (.ent rfl (by repeat (first | exact Ents.nil | refine Ents.cons ?_ ?_ | refine Ent.tup ?_ | refine Ent.agg ?_ | exact Ent.row _ _ _ _ | exact Ent.nil _ _ | exact Ent.func _ | exact Ent.refl _ | exact Ent.of_eq rfl | refine Ent.cells ?_)) .nil)) fn45) rfl ?_
  refine lx (op_pick_and rfl rfl) rfl ?_
  refine lx (op_move rfl) rfl ?_
  refine lxs rfl rfl rfl guard_eq (.cons (t := 2) rfl (fun _ => Ent.refl _) .nil) (op_fieldAddr rfl fl33_9 sz31) rfl ?_
  refine lxs rfl rfl rfl guard_eq (.cons (t := 67) rfl (fun h => entW h) .nil) (op_bload_one (m := 2) rfl rfl ag31 rfl) rfl ?_
  refine lxs rfl rfl rfl guard_eq (.cons (t := 3) rfl (fun _ => Ent.refl _) .nil) (op_fieldAddr rfl fl33_9 sz31) rfl ?_
  refine lxs rfl rfl rfl guard_eq (.cons (t := 69) rfl (fun h => entW h) .nil) (op_bload_one (m := 3) rfl rfl ag31 rfl) rfl ?_
  first | refine lxs rfl rfl rfl guard_eq (.cons (t := 68) rfl (fun h => entW h) (.cons (t := 70) rfl (fun h => entW h) .nil)) (op_call (l := [(Go.Operand.tmp 68), (Go.Operand.tmp 70)]) (sameW_ok a.receivers b.receivers hs.receivers) (.cons rfl (.cons rfl .nil)) fn45) rfl ?_ | refine lxs rfl rfl rfl guard_eq (.cons (t := 68) rfl (fun h => entW h) (.cons (t := 70) rfl (fun h => entW h) .nil)) (op_call (l := [(Go.Operand.tmp 68), (Go.Operand.tmp 70)]) (sameW_ok a.receivers b.receivers hs.receivers) (.ent rfl (by repeat (first | exact Ents.nil | refine Ents.cons ?_ ?_ | refine Ent.tup ?_ | refine Ent.agg ?_ | exact Ent.row _ _ _ _ | exact Ent.nil _ _ | exact Ent.func _ | exact Ent.refl _ | exact Ent.of_eq rfl | refine Ent.cells ?_)) (.ent rfl (by repeat (first | exact Ents.nil | refine Ents.cons ?_ ?_ | refine Ent.tup ?_ | refine Ent.agg ?_ | exact Ent.row _ _ _ _ | exact Ent.nil _ _ | exact Ent.func _ | exact Ent.refl _ | exact Ent.of_eq rfl | refine Ent.cells ?_)) .nil)) fn45) rfl ?_
  refine lx (op_pick_and rfl rfl) rfl ?_
  refine lx (op_assign rfl) rfl ?_
  refine lx_end ⟨by kernel_rfl, ?_⟩
  refine pe_then_normal ?_
  refine tr_sub hC (.cons (t := 4) rfl .nil) .nil rfl ?_
  refine tr_ret ?_
  refine pe_ret1 rfl hO rfl (.tmp rfl .nil) ?_
  exact entB (sameO_eq a b)
theorem sameOs_ok (xs ys : List Ob) (hx : xs.length ≤ 4000000) (hb : ∀ o ∈ xs, BdO 4000000 o) : FnP Try.prog 34 [slP Ob.ps 10 xs, slP Ob.ps 10 ys] (eqP (.bool (decide (xs = ys)))) := by
  refine fn_pure' Try.func34 rfl Try.ntmps34 rfl ?_
  intro σ0 M ex Rf R hC hO
  simp only [frameOf, tokOf]
  refine tr_seq ?_
  refine tr_region (fun N0 hN => ?_)
  refine lx (op_assign rfl) rfl ?_
  refine lx_end ⟨by kernel_rfl, ?_⟩
  refine pe_then_normal ?_
  refine tr_sub hC (.cons (t := 0) rfl (.cons (t := 1) rfl .nil)) .nil rfl ?_
  refine tr_seq ?_
  refine tr_seq ?_
  refine tr_region (fun N1 hN => ?_)
  refine lx (op_move rfl) rfl ?_
  first | refine lx (op_len rfl el22) rfl ?_ | refine lx (op_len_row rfl el22) rfl ?_ | refine lx (op_len_mv rfl el22) rfl ?_ | refine lx (op_len_nil rfl el22) rfl ?_
  refine lx (op_move rfl) rfl ?_
  first | refine lx (op_len rfl el22) rfl ?_ | refine lx (op_len_row rfl el22) rfl ?_ | refine lx (op_len_mv rfl el22) rfl ?_ | refine lx (op_len_nil rfl el22) rfl ?_
  refine lx (op_neq rfl rfl) rfl ?_
  refine lx_end ⟨by kernel_rfl, ?_⟩
  refine pe_then_normal ?_
  refine tr_sub hC (.cons (t := 0) rfl (.cons (t := 1) rfl (.cons (t := 10) rfl .nil))) .nil rfl ?_
  refine tr_cond rfl (fun h10 => ?_) (fun h10 => ?_)
  · (try simp only [Bool.and_eq_true, Bool.or_eq_true, Bool.and_eq_false_iff, Bool.or_eq_false_iff, decide_eq_true_eq, decide_eq_false_iff_not, Bool.not_eq_true', Bool.not_eq_false', List.length_map, ne_eq, Decidable.not_not, Int.not_lt, Int.not_le] at h10)
    have hne : xs ≠ ys := fun e => h10 (by rw [e])
    refine tr_seq ?_
    refine tr_region (fun N2 hN => ?_)
    refine lx (op_assign rfl) rfl ?_
    refine lx_end ⟨by kernel_rfl, ?_⟩
    refine pe_then_normal ?_
    refine tr_sub hC (.cons (t := 4) rfl .nil) .nil rfl ?_
    refine tr_ret ?_
    refine pe_then_ret ?_
    refine pe_ret1 rfl hO rfl (.tmp rfl .nil) ?_
    exact entB (decide_eq_false hne).symm
  · (try simp only [Bool.and_eq_true, Bool.or_eq_true, Bool.and_eq_false_iff, Bool.or_eq_false_iff, decide_eq_true_eq, decide_eq_false_iff_not, Bool.not_eq_true', Bool.not_eq_false', List.length_map, ne_eq, Decidable.not_not, Int.not_lt, Int.not_le] at h10)
    have hlen : xs.length = ys.length := by omega
    refine tr_skip ?_
    refine pe_then_normal ?_
    refine tr_sub hC (.cons (t := 0) rfl (.cons (t := 1) rfl .nil)) .nil rfl ?_
    refine tr_seq ?_
    refine tr_seq ?_
    refine tr_region (fun N3 hN => ?_)
    refine lx (op_assign rfl) rfl ?_
    refine lx_end ⟨by kernel_rfl, ?_⟩
    refine pe_then_normal ?_
    refine tr_sub hC (.cons (t := 0) rfl (.cons (t := 1) rfl (.cons (t := 5) rfl .nil))) .nil rfl ?_
    refine tr_block ?_
    refine tr_loopK (α := {zz : Nat // zz ≤ xs.length ∧ xs.take zz = ys.take zz}) (⟨(0), Nat.zero_le _, by simp⟩) (fun zz => [(5, eqP (.int .i64 (zz.1 : Int)))]) (fun zz => []) (fun zz => xs.length - zz.1) hC (.cons (t := 0) rfl (.cons (t := 1) rfl .nil)) .nil rfl ?_ ?_ (fun zz => ?_)
    · try dsimp only [List.cons_append, List.nil_append]
      first | refine SubF.cons rfl ?_ | (refine SubF.ent rfl ?_ ?_; · repeat (first | exact Ents.nil | refine Ents.cons ?_ ?_ | refine Ent.tup ?_ | refine Ent.agg ?_ | exact Ent.row _ _ _ _ | exact Ent.nil _ _ | exact Ent.func _ | exact Ent.refl _ | exact Ent.of_eq rfl | refine Ent.cells ?_))
      exact SubF.nil
    · try dsimp only [List.cons_append, List.nil_append]
      repeat (first | exact SubL.nil | refine SubL.cons rfl ?_)
    · obtain ⟨k, hk1, hk2⟩ := zz
      dsimp only [List.cons_append, List.nil_append]
      refine tr_seq ?_
      refine tr_seq ?_
      refine tr_region (fun N4 hN => ?_)
      refine lx (op_move rfl) rfl ?_
      refine lx (op_move rfl) rfl ?_
      first | refine lx (op_len rfl el22) rfl ?_ | refine lx (op_len_row rfl el22) rfl ?_ | refine lx (op_len_mv rfl el22) rfl ?_ | refine lx (op_len_nil rfl el22) rfl ?_
      refine lx (op_lss rfl rfl) rfl ?_
      refine lx_end ⟨by kernel_rfl, ?_⟩
      refine pe_then_normal ?_
      refine tr_sub hC (.cons (t := 0) rfl (.cons (t := 1) rfl (.cons (t := 5) rfl (.cons (t := 14) rfl .nil)))) .nil rfl ?_
      refine tr_cond rfl (fun h14 => ?_) (fun h14 => ?_)
      · (try simp only [Bool.and_eq_true, Bool.or_eq_true, Bool.and_eq_false_iff, Bool.or_eq_false_iff, decide_eq_true_eq, decide_eq_false_iff_not, Bool.not_eq_true', Bool.not_eq_false', List.length_map, ne_eq, Decidable.not_not, Int.not_lt, Int.not_le] at h14)
        have hbk := hb _ (List.getElem_mem (by omega : k < xs.length))
        refine tr_skip ?_
        refine pe_then_normal ?_
        refine tr_sub hC (.cons (t := 0) rfl (.cons (t := 1) rfl (.cons (t := 5) rfl .nil))) .nil rfl ?_
        refine tr_seq ?_
        refine tr_block ?_
        refine tr_seq ?_
        refine tr_drawn mixed (fun N6 hN => ?_)
        refine lx (op_move rfl) rfl ?_
        refine lx (op_move rfl) rfl ?_
        refine lx (op_index rfl rfl el22 sz33 rfl (List.getElem?_eq_getElem (by omega : k < xs.length))) rfl ?_
        first | refine lx (op_load_all rfl ag33 sz33) rfl ?_ | refine lx (op_load_agg rfl ag33 sz33 rfl) rfl ?_
        refine lx (op_move rfl) rfl ?_
        refine lx (op_move rfl) rfl ?_
        refine lx (op_index rfl rfl el22 sz33 rfl (List.getElem?_eq_getElem (by omega : k < ys.length))) rfl ?_
        first | refine lx (op_load_all rfl ag33 sz33) rfl ?_ | refine lx (op_load_agg rfl ag33 sz33 rfl) rfl ?_
        first | refine lx (op_call (l := [(Go.Operand.tmp 20), (Go.Operand.tmp 24)]) (sameO_ok xs[k] (ys[k]'(by omega)) hbk) (.cons rfl (.cons rfl .nil)) fn27) rfl ?_ | refine lx (op_call (l := [(Go.Operand.tmp 20), (Go.Operand.tmp 24)]) (sameO_ok xs[k] (ys[k]'(by omega)) hbk) (.ent rfl (by repeat (first | exact Ents.nil | refine Ents.cons ?_ ?_ | refine Ent.tup ?_ | refine Ent.agg ?_ | exact Ent.row _ _ _ _ | exact Ent.nil _ _ | exact Ent.func _ | exact Ent.refl _ | exact Ent.of_eq rfl | refine Ent.cells ?_)) (.ent rfl (by repeat (first | exact Ents.nil | refine Ents.cons ?_ ?_ | refine Ent.tup ?_ | refine Ent.agg ?_ | exact Ent.row _ _ _ _ | exact Ent.nil _ _ | exact Ent.func _ | exact Ent.refl _ | exact Ent.of_eq rfl | refine Ent.cells ?_)) .nil)) fn27) rfl ?_
        first | refine lx (op_not rfl) rfl ?_ | refine lx (op_not_b rfl) rfl ?_
        refine lx_end ⟨by kernel_rfl, ?_⟩
        refine pe_then_normal ?_
        refine tr_sub hC (.cons (t := 0) rfl (.cons (t := 1) rfl (.cons (t := 5) rfl (.cons (t := 26) rfl .nil)))) .nil rfl ?_
        refine tr_cond rfl (fun h26 => ?_) (fun h26 => ?_)
        · (try simp only [Bool.and_eq_true, Bool.or_eq_true, Bool.and_eq_false_iff, Bool.or_eq_false_iff, decide_eq_true_eq, decide_eq_false_iff_not, Bool.not_eq_true', Bool.not_eq_false', List.length_map, ne_eq, Decidable.not_not, Int.not_lt, Int.not_le] at h26)
          have hne : decide (xs = ys) = false := ne_at (by omega) (by omega) h26
          refine tr_seq ?_
          refine tr_region (fun N7 hN => ?_)
          refine lx (op_assign rfl) rfl ?_
          refine lx_end ⟨by kernel_rfl, ?_⟩
          refine pe_then_normal ?_
          refine tr_sub hC (.cons (t := 4) rfl .nil) .nil rfl ?_
          refine tr_ret ?_
          refine pe_block_ret ?_
          refine pe_then_ret ?_
          refine pe_then_ret ?_
          refine pe_block_ret ?_
          refine pe_then_ret ?_
          refine pe_ret1 rfl hO rfl (.tmp rfl .nil) ?_
          exact entB hne.symm
        · (try simp only [Bool.and_eq_true, Bool.or_eq_true, Bool.and_eq_false_iff, Bool.or_eq_false_iff, decide_eq_true_eq, decide_eq_false_iff_not, Bool.not_eq_true', Bool.not_eq_false', List.length_map, ne_eq, Decidable.not_not, Int.not_lt, Int.not_le] at h26)
          refine tr_skip ?_
          refine pe_block_normal ?_
          refine pe_then_normal ?_
          refine tr_sub hC (.cons (t := 0) rfl (.cons (t := 1) rfl (.cons (t := 5) rfl .nil))) .nil rfl ?_
          refine tr_region (fun N5 hN => ?_)
          refine lx (op_move rfl) rfl ?_
          refine lx (op_add rfl rfl (by omega)) rfl ?_
          refine lx (op_assign rfl) rfl ?_
          refine lx_end ⟨by kernel_rfl, ?_⟩
          refine pe_round (⟨(k + 1), by omega, take_step hk2 (by omega) (by omega) (by simpa using h26)⟩) (by dsimp only; omega) (pe_st hC ?_ ?_ rfl)
          · try dsimp only [List.cons_append, List.nil_append]
            first | refine SubF.cons rfl ?_ | (refine SubF.ent rfl ?_ ?_; · repeat (first | exact Ents.nil | refine Ents.cons ?_ ?_ | refine Ent.tup ?_ | refine Ent.agg ?_ | exact Ent.row _ _ _ _ | exact Ent.nil _ _ | exact Ent.func _ | exact Ent.refl _ | exact Ent.of_eq rfl | refine Ent.cells ?_))
            first | refine SubF.cons rfl ?_ | (refine SubF.ent rfl ?_ ?_; · repeat (first | exact Ents.nil | refine Ents.cons ?_ ?_ | refine Ent.tup ?_ | refine Ent.agg ?_ | exact Ent.row _ _ _ _ | exact Ent.nil _ _ | exact Ent.func _ | exact Ent.refl _ | exact Ent.of_eq rfl | refine Ent.cells ?_))
            first | refine SubF.cons rfl ?_ | (refine SubF.ent rfl ?_ ?_; · repeat (first | exact Ents.nil | refine Ents.cons ?_ ?_ | refine Ent.tup ?_ | refine Ent.agg ?_ | exact Ent.row _ _ _ _ | exact Ent.nil _ _ | exact Ent.func _ | exact Ent.refl _ | exact Ent.of_eq rfl | refine Ent.cells ?_))
            exact SubF.nil
          · try dsimp only [List.cons_append, List.nil_append]
            repeat (first | exact SubL.nil | refine SubL.cons rfl ?_)
      · (try simp only [Bool.and_eq_true, Bool.or_eq_true, Bool.and_eq_false_iff, Bool.or_eq_false_iff, decide_eq_true_eq, decide_eq_false_iff_not, Bool.not_eq_true', Bool.not_eq_false', List.length_map, ne_eq, Decidable.not_not, Int.not_lt, Int.not_le] at h14)
        have hk3 : k = xs.length := by omega
        refine tr_exit ?_
        refine pe_then_exit ?_
        refine pe_then_exit ?_
        refine pe_block_eq ?_
        refine pe_then_normal ?_
        refine tr_sub hC .nil .nil rfl ?_
        refine tr_seq ?_
        refine tr_region (fun N8 hN => ?_)
        refine lx (op_assign rfl) rfl ?_
        refine lx_end ⟨by kernel_rfl, ?_⟩
        refine pe_then_normal ?_
        refine tr_sub hC (.cons (t := 4) rfl .nil) .nil rfl ?_
        refine tr_ret ?_
        refine pe_ret1 rfl hO rfl (.tmp rfl .nil) ?_
        exact entB (decide_eq_true (take_end hk2 (by omega) (by omega))).symm
theorem sameSy_ok (xs ys : List Sy) (hx : xs.length ≤ 4000000) (hb : ∀ s ∈ xs, s.readers.length ≤ 4000000) : FnP Try.prog 35 [slP Sy.ps 6 xs, slP Sy.ps 6 ys] (eqP (.bool (decide (xs = ys)))) := by
  refine fn_pure' Try.func35 rfl Try.ntmps35 rfl ?_
  intro σ0 M ex Rf R hC hO
  simp only [frameOf, tokOf]
  refine tr_seq ?_
  refine tr_region (fun N0 hN => ?_)
  refine lx (op_assign rfl) rfl ?_
  refine lx_end ⟨by kernel_rfl, ?_⟩
  refine pe_then_normal ?_
  refine tr_sub hC (.cons (t := 0) rfl (.cons (t := 1) rfl .nil)) .nil rfl ?_
  refine tr_seq ?_
  refine tr_seq ?_
  refine tr_region (fun N1 hN => ?_)
  refine lx (op_move rfl) rfl ?_
  first | refine lx (op_len rfl el25) rfl ?_ | refine lx (op_len_row rfl el25) rfl ?_ | refine lx (op_len_mv rfl el25) rfl ?_ | refine lx (op_len_nil rfl el25) rfl ?_
  refine lx (op_move rfl) rfl ?_
  first | refine lx (op_len rfl el25) rfl ?_ | refine lx (op_len_row rfl el25) rfl ?_ | refine lx (op_len_mv rfl el25) rfl ?_ | refine lx (op_len_nil rfl el25) rfl ?_
  refine lx (op_neq rfl rfl) rfl ?_
  refine lx_end ⟨by kernel_rfl, ?_⟩
  refine pe_then_normal ?_
  refine tr_sub hC (.cons (t := 0) rfl (.cons (t := 1) rfl (.cons (t := 12) rfl .nil))) .nil rfl ?_
  refine tr_cond rfl (fun h12 => ?_) (fun h12 => ?_)
  · (try simp only [Bool.and_eq_true, Bool.or_eq_true, Bool.and_eq_false_iff, Bool.or_eq_false_iff, decide_eq_true_eq, decide_eq_false_iff_not, Bool.not_eq_true', Bool.not_eq_false', List.length_map, ne_eq, Decidable.not_not, Int.not_lt, Int.not_le] at h12)
    have hne : xs ≠ ys := fun e => h12 (by rw [e])
    refine tr_seq ?_
    refine tr_region (fun N2 hN => ?_)
    refine lx (op_assign rfl) rfl ?_
    refine lx_end ⟨by kernel_rfl, ?_⟩
    refine pe_then_normal ?_
    refine tr_sub hC (.cons (t := 4) rfl .nil) .nil rfl ?_
    refine tr_ret ?_
    refine pe_then_ret ?_
    refine pe_ret1 rfl hO rfl (.tmp rfl .nil) ?_
    exact entB (decide_eq_false hne).symm
  · (try simp only [Bool.and_eq_true, Bool.or_eq_true, Bool.and_eq_false_iff, Bool.or_eq_false_iff, decide_eq_true_eq, decide_eq_false_iff_not, Bool.not_eq_true', Bool.not_eq_false', List.length_map, ne_eq, Decidable.not_not, Int.not_lt, Int.not_le] at h12)
    have hlen : xs.length = ys.length := by omega
    refine tr_skip ?_
    refine pe_then_normal ?_
    refine tr_sub hC (.cons (t := 0) rfl (.cons (t := 1) rfl .nil)) .nil rfl ?_
    refine tr_seq ?_
    refine tr_seq ?_
    refine tr_region (fun N3 hN => ?_)
    refine lx (op_assign rfl) rfl ?_
    refine lx_end ⟨by kernel_rfl, ?_⟩
    refine pe_then_normal ?_
    refine tr_sub hC (.cons (t := 0) rfl (.cons (t := 1) rfl (.cons (t := 5) rfl .nil))) .nil rfl ?_
    refine tr_block ?_
    refine tr_loopK (α := {zz : Nat // zz ≤ xs.length ∧ xs.take zz = ys.take zz}) (⟨(0), Nat.zero_le _, by simp⟩) (fun zz => [(5, eqP (.int .i64 (zz.1 : Int)))]) (fun zz => []) (fun zz => xs.length - zz.1) hC (.cons (t := 0) rfl (.cons (t := 1) rfl .nil)) .nil rfl ?_ ?_ (fun zz => ?_)
    · try dsimp only [List.cons_append, List.nil_append]
      first | refine SubF.cons rfl ?_ | (refine SubF.ent rfl ?_ ?_; · repeat (first | exact Ents.nil | refine Ents.cons ?_ ?_ | refine Ent.tup ?_ | refine Ent.agg ?_ | exact Ent.row _ _ _ _ | exact Ent.nil _ _ | exact Ent.func _ | exact Ent.refl _ | exact Ent.of_eq rfl | refine Ent.cells ?_))
      exact SubF.nil
    · try dsimp only [List.cons_append, List.nil_append]
      repeat (first | exact SubL.nil | refine SubL.cons rfl ?_)
    · obtain ⟨k, hk1, hk2⟩ := zz
      dsimp only [List.cons_append, List.nil_append]
      refine tr_seq ?_
      refine tr_seq ?_
      refine tr_region (fun N4 hN => ?_)
      refine lx (op_move rfl) rfl ?_
      refine lx (op_move rfl) rfl ?_
      first | refine lx (op_len rfl el25) rfl ?_ | refine lx (op_len_row rfl el25) rfl ?_ | refine lx (op_len_mv rfl el25) rfl ?_ | refine lx (op_len_nil rfl el25) rfl ?_
      refine lx (op_lss rfl rfl) rfl ?_
      refine lx_end ⟨by kernel_rfl, ?_⟩
      refine pe_then_normal ?_
      refine tr_sub hC (.cons (t := 0) rfl (.cons (t := 1) rfl (.cons (t := 5) rfl (.cons (t := 16) rfl .nil)))) .nil rfl ?_
      refine tr_cond rfl (fun h16 => ?_) (fun h16 => ?_)
      · (try simp only [Bool.and_eq_true, Bool.or_eq_true, Bool.and_eq_false_iff, Bool.or_eq_false_iff, decide_eq_true_eq, decide_eq_false_iff_not, Bool.not_eq_true', Bool.not_eq_false', List.length_map, ne_eq, Decidable.not_not, Int.not_lt, Int.not_le] at h16)
        have hbk := hb _ (List.getElem_mem (by omega : k < xs.length))
        refine tr_skip ?_
        refine pe_then_normal ?_
        refine tr_sub hC (.cons (t := 0) rfl (.cons (t := 1) rfl (.cons (t := 5) rfl .nil))) .nil rfl ?_
        refine tr_seq ?_
        refine tr_block ?_
        refine tr_seq ?_
        refine tr_drawn mixed (fun N6 hN => ?_)
        refine lx (op_move rfl) rfl ?_
        refine lx (op_move rfl) rfl ?_
        refine lx (op_index rfl rfl el25 sz67 rfl (List.getElem?_eq_getElem (by omega : k < xs.length))) rfl ?_
        first | refine lx (op_load_all rfl ag67 sz67) rfl ?_ | refine lx (op_load_agg rfl ag67 sz67 rfl) rfl ?_
        refine lx (op_move rfl) rfl ?_
        refine lx (op_move rfl) rfl ?_
        refine lx (op_index rfl rfl el25 sz67 rfl (List.getElem?_eq_getElem (by omega : k < ys.length))) rfl ?_
        first | refine lx (op_load_all rfl ag67 sz67) rfl ?_ | refine lx (op_load_agg rfl ag67 sz67 rfl) rfl ?_
        refine lxn (op_alloc (m := 6) (k := 6) (ps := [eqP (.int .i64 0), eqP (.int .i64 0), eqP (.int .i64 0), eqP (.int .i64 0), eqP (.slice none 0 0), eqP (.int .i64 0)]) ze67 rfl rfl (by first | exact hC.low _ (by decide) | rfl)) rfl ?_
        refine lxn (op_alloc (m := 7) (k := 7) (ps := [eqP (.int .i64 0), eqP (.int .i64 0), eqP (.int .i64 0), eqP (.int .i64 0), eqP (.slice none 0 0), eqP (.int .i64 0)]) ze67 rfl rfl (by first | exact hC.low _ (by decide) | rfl)) rfl ?_
        refine lxr (op_store_all (m := 6) rfl rfl rfl (.agg rfl) sz67 rfl) rfl ?_
        refine lxr (op_store_all (m := 7) rfl rfl rfl (.agg rfl) sz67 rfl) rfl ?_
        refine lx_end ⟨by kernel_rfl, ?_⟩
        refine pe_then_normal ?_
        refine tr_sub hC (.cons (t := 0) rfl (.cons (t := 1) rfl (.cons (t := 5) rfl (.cons (t := 6) rfl (.cons (t := 7) rfl .nil))))) (.cons (t := 6) rfl (.cons (t := 7) rfl .nil)) rfl ?_
        refine tr_seq ?_
        refine tr_region (fun N7 hN => ?_)
        refine lx (op_fieldAddr rfl fl67_0 sz3) rfl ?_
        refine lx (op_bload_one (m := 6) rfl rfl ag3 rfl) rfl ?_
        refine lx (op_fieldAddr rfl fl67_0 sz3) rfl ?_
        refine lx (op_bload_one (m := 7) rfl rfl ag3 rfl) rfl ?_
        refine lx (op_neq rfl rfl) rfl ?_
        refine lx (op_move rfl) rfl ?_
        refine lxs rfl rfl rfl guard_eq (.cons (t := 6) rfl (fun _ => Ent.refl _) .nil) (op_fieldAddr rfl fl67_1 sz3) rfl ?_
        refine lxs rfl rfl rfl guard_eq (.cons (t := 33) rfl (fun h => entW h) .nil) (op_bload_one (m := 6) rfl rfl ag3 rfl) rfl ?_
        refine lxs rfl rfl rfl guard_eq (.cons (t := 7) rfl (fun _ => Ent.refl _) .nil) (op_fieldAddr rfl fl67_1 sz3) rfl ?_
        refine lxs rfl rfl rfl guard_eq (.cons (t := 35) rfl (fun h => entW h) .nil) (op_bload_one (m := 7) rfl rfl ag3 rfl) rfl ?_
        refine lxs rfl rfl rfl guard_eq (.cons (t := 34) rfl (fun h => entW h) (.cons (t := 36) rfl (fun h => entW h) .nil)) (op_neq rfl rfl) rfl ?_
        refine lx (op_pick_or rfl rfl) rfl ?_
        refine lx (op_move rfl) rfl ?_
        refine lxs rfl rfl rfl guard_eq (.cons (t := 6) rfl (fun _ => Ent.refl _) .nil) (op_fieldAddr rfl fl67_2 sz3) rfl ?_
        refine lxs rfl rfl rfl guard_eq (.cons (t := 40) rfl (fun h => entW h) .nil) (op_bload_one (m := 6) rfl rfl ag3 rfl) rfl ?_
        refine lxs rfl rfl rfl guard_eq (.cons (t := 7) rfl (fun _ => Ent.refl _) .nil) (op_fieldAddr rfl fl67_2 sz3) rfl ?_
        refine lxs rfl rfl rfl guard_eq (.cons (t := 42) rfl (fun h => entW h) .nil) (op_bload_one (m := 7) rfl rfl ag3 rfl) rfl ?_
        refine lxs rfl rfl rfl guard_eq (.cons (t := 41) rfl (fun h => entW h) (.cons (t := 43) rfl (fun h => entW h) .nil)) (op_neq rfl rfl) rfl ?_
        refine lx (op_pick_or rfl rfl) rfl ?_
        refine lx (op_move rfl) rfl ?_
        refine lxs rfl rfl rfl guard_eq (.cons (t := 6) rfl (fun _ => Ent.refl _) .nil) (op_fieldAddr rfl fl67_3 sz3) rfl ?_
        refine lxs rfl rfl rfl guard_eq (.cons (t := 47) rfl (fun h => entW h) .nil) (op_bload_one (m := 6) rfl rfl ag3 rfl) rfl ?_
        refine lxs rfl rfl rfl guard_eq (.cons (t := 7) rfl (fun _ => Ent.refl _) .nil) (op_fieldAddr rfl fl67_3 sz3) rfl ?_
        refine lxs rfl rfl rfl guard_eq (.cons (t := 49) rfl (fun h => entW h) .nil) (op_bload_one (m := 7) rfl rfl ag3 rfl) rfl ?_
        refine lxs rfl rfl rfl guard_eq (.cons (t := 48) rfl (fun h => entW h) (.cons (t := 50) rfl (fun h => entW h) .nil)) (op_neq rfl rfl) rfl ?_
        refine lx (op_pick_or rfl rfl) rfl ?_
        refine lx (op_move rfl) rfl ?_
        refine lxs rfl rfl rfl guard_eq (.cons (t := 6) rfl (fun _ => Ent.refl _) .nil) (op_fieldAddr rfl fl67_5 sz3) rfl ?_
        refine lxs rfl rfl rfl guard_eq (.cons (t := 54) rfl (fun h => entW h) .nil) (op_bload_one (m := 6) rfl rfl ag3 rfl) rfl ?_
        refine lxs rfl rfl rfl guard_eq (.cons (t := 7) rfl (fun _ => Ent.refl _) .nil) (op_fieldAddr rfl fl67_5 sz3) rfl ?_
        refine lxs rfl rfl rfl guard_eq (.cons (t := 56) rfl (fun h => entW h) .nil) (op_bload_one (m := 7) rfl rfl ag3 rfl) rfl ?_
        refine lxs rfl rfl rfl guard_eq (.cons (t := 55) rfl (fun h => entW h) (.cons (t := 57) rfl (fun h => entW h) .nil)) (op_neq rfl rfl) rfl ?_
        refine lx (op_pick_or rfl rfl) rfl ?_
        refine lx (op_move rfl) rfl ?_
        refine lxs rfl rfl rfl guard_eq (.cons (t := 6) rfl (fun _ => Ent.refl _) .nil) (op_fieldAddr rfl fl67_4 sz27) rfl ?_
        refine lxs rfl rfl rfl guard_eq (.cons (t := 61) rfl (fun h => entW h) .nil) (op_bload_one (m := 6) rfl rfl ag27 rfl) rfl ?_
        refine lxs rfl rfl rfl guard_eq (.cons (t := 7) rfl (fun _ => Ent.refl _) .nil) (op_fieldAddr rfl fl67_4 sz27) rfl ?_
        refine lxs rfl rfl rfl guard_eq (.cons (t := 63) rfl (fun h => entW h) .nil) (op_bload_one (m := 7) rfl rfl ag27 rfl) rfl ?_
        first | refine lxs rfl rfl rfl guard_eq (.cons (t := 62) rfl (fun h => entW h) (.cons (t := 64) rfl (fun h => entW h) .nil)) (op_call (l := [(Go.Operand.tmp 62), (Go.Operand.tmp 64)]) (ints_ok xs[k].readers (ys[k]'(by omega)).readers hbk) (.cons rfl (.cons rfl .nil)) fn36) rfl ?_ | refine lxs rfl rfl rfl guard_eq (.cons (t := 62) rfl (fun h => entW h) (.cons (t := 64) rfl (fun h => entW h) .nil)) (op_call (l := [(Go.Operand.tmp 62), (Go.Operand.tmp 64)]) (ints_ok xs[k].readers (ys[k]'(by omega)).readers hbk) (.ent rfl (by repeat (first | exact Ents.nil | refine Ents.cons ?_ ?_ | refine Ent.tup ?_ | refine Ent.agg ?_ | exact Ent.row _ _ _ _ | exact Ent.nil _ _ | exact Ent.func _ | exact Ent.refl _ | exact Ent.of_eq rfl | refine Ent.cells ?_)) (.ent rfl (by repeat (first | exact Ents.nil | refine Ents.cons ?_ ?_ | refine Ent.tup ?_ | refine Ent.agg ?_ | exact Ent.row _ _ _ _ | exact Ent.nil _ _ | exact Ent.func _ | exact Ent.refl _ | exact Ent.of_eq rfl | refine Ent.cells ?_)) .nil)) fn36) rfl ?_
        first | refine lxs rfl rfl rfl guard_eq (.cons (t := 65) rfl (fun h => entW h) .nil) (op_not rfl) rfl ?_ | refine lxs rfl rfl rfl guard_eq (.cons (t := 65) rfl (fun h => entW h) .nil) (op_not_b rfl) rfl ?_
        refine lx (op_pick_or rfl rfl) rfl ?_
        refine lx_end ⟨by kernel_rfl, ?_⟩
        refine pe_then_normal ?_
        refine tr_sub hC (.cons (t := 0) rfl (.cons (t := 1) rfl (.cons (t := 5) rfl (.cons (t := 67) rfl .nil)))) .nil rfl ?_
        refine tr_cond rfl (fun h67 => ?_) (fun h67 => ?_)
        · rw [sy_ne] at h67
          have hne : decide (xs = ys) = false := ne_at (by omega) (by omega) (of_decide_eq_true h67)
          refine tr_seq ?_
          refine tr_region (fun N8 hN => ?_)
          refine lx (op_assign rfl) rfl ?_
          refine lx_end ⟨by kernel_rfl, ?_⟩
          refine pe_then_normal ?_
          refine tr_sub hC (.cons (t := 4) rfl .nil) .nil rfl ?_
          refine tr_ret ?_
          refine pe_block_ret ?_
          refine pe_then_ret ?_
          refine pe_then_ret ?_
          refine pe_block_ret ?_
          refine pe_then_ret ?_
          refine pe_ret1 rfl hO rfl (.tmp rfl .nil) ?_
          exact entB hne.symm
        · rw [sy_ne] at h67
          have he : xs[k] = (ys[k]'(by omega)) := Decidable.not_not.1 (of_decide_eq_false h67)
          refine tr_skip ?_
          refine pe_block_normal ?_
          refine pe_then_normal ?_
          refine tr_sub hC (.cons (t := 0) rfl (.cons (t := 1) rfl (.cons (t := 5) rfl .nil))) .nil rfl ?_
          refine tr_region (fun N5 hN => ?_)
          refine lx (op_move rfl) rfl ?_
          refine lx (op_add rfl rfl (by omega)) rfl ?_
          refine lx (op_assign rfl) rfl ?_
          refine lx_end ⟨by kernel_rfl, ?_⟩
          refine pe_round (⟨(k + 1), by omega, take_step hk2 (by omega) (by omega) he⟩) (by dsimp only; omega) (pe_st hC ?_ ?_ rfl)
          · try dsimp only [List.cons_append, List.nil_append]
            first | refine SubF.cons rfl ?_ | (refine SubF.ent rfl ?_ ?_; · repeat (first | exact Ents.nil | refine Ents.cons ?_ ?_ | refine Ent.tup ?_ | refine Ent.agg ?_ | exact Ent.row _ _ _ _ | exact Ent.nil _ _ | exact Ent.func _ | exact Ent.refl _ | exact Ent.of_eq rfl | refine Ent.cells ?_))
            first | refine SubF.cons rfl ?_ | (refine SubF.ent rfl ?_ ?_; · repeat (first | exact Ents.nil | refine Ents.cons ?_ ?_ | refine Ent.tup ?_ | refine Ent.agg ?_ | exact Ent.row _ _ _ _ | exact Ent.nil _ _ | exact Ent.func _ | exact Ent.refl _ | exact Ent.of_eq rfl | refine Ent.cells ?_))
            first | refine SubF.cons rfl ?_ | (refine SubF.ent rfl ?_ ?_; · repeat (first | exact Ents.nil | refine Ents.cons ?_ ?_ | refine Ent.tup ?_ | refine Ent.agg ?_ | exact Ent.row _ _ _ _ | exact Ent.nil _ _ | exact Ent.func _ | exact Ent.refl _ | exact Ent.of_eq rfl | refine Ent.cells ?_))
            exact SubF.nil
          · try dsimp only [List.cons_append, List.nil_append]
            repeat (first | exact SubL.nil | refine SubL.cons rfl ?_)
      · (try simp only [Bool.and_eq_true, Bool.or_eq_true, Bool.and_eq_false_iff, Bool.or_eq_false_iff, decide_eq_true_eq, decide_eq_false_iff_not, Bool.not_eq_true', Bool.not_eq_false', List.length_map, ne_eq, Decidable.not_not, Int.not_lt, Int.not_le] at h16)
        have hk3 : k = xs.length := by omega
        refine tr_exit ?_
        refine pe_then_exit ?_
        refine pe_then_exit ?_
        refine pe_block_eq ?_
        refine pe_then_normal ?_
        refine tr_sub hC .nil .nil rfl ?_
        refine tr_seq ?_
        refine tr_region (fun N9 hN => ?_)
        refine lx (op_assign rfl) rfl ?_
        refine lx_end ⟨by kernel_rfl, ?_⟩
        refine pe_then_normal ?_
        refine tr_sub hC (.cons (t := 4) rfl .nil) .nil rfl ?_
        refine tr_ret ?_
        refine pe_ret1 rfl hO rfl (.tmp rfl .nil) ?_
        exact entB (decide_eq_true (take_end hk2 (by omega) (by omega))).symm
theorem sameF_ok (xs ys : List Fm) (hx : xs.length ≤ 4000000) (hb : ∀ f ∈ xs, BdF 4000000 f) : FnP Try.prog 50 [slP Fm.ps 9 xs, slP Fm.ps 9 ys] (eqP (.bool (decide (xs = ys)))) := by
  refine fn_pure' Try.func50 rfl Try.ntmps50 rfl ?_
  intro σ0 M ex Rf R hC hO
  simp only [frameOf, tokOf]
  refine tr_seq ?_
  refine tr_region (fun N0 hN => ?_)
  refine lx (op_assign rfl) rfl ?_
  refine lx_end ⟨by kernel_rfl, ?_⟩
  refine pe_then_normal ?_
  refine tr_sub hC (.cons (t := 0) rfl (.cons (t := 1) rfl .nil)) .nil rfl ?_
  refine tr_seq ?_
  refine tr_seq ?_
  refine tr_region (fun N1 hN => ?_)
  refine lx (op_move rfl) rfl ?_
  first | refine lx (op_len rfl el68) rfl ?_ | refine lx (op_len_row rfl el68) rfl ?_ | refine lx (op_len_mv rfl el68) rfl ?_ | refine lx (op_len_nil rfl el68) rfl ?_
  refine lx (op_move rfl) rfl ?_
  first | refine lx (op_len rfl el68) rfl ?_ | refine lx (op_len_row rfl el68) rfl ?_ | refine lx (op_len_mv rfl el68) rfl ?_ | refine lx (op_len_nil rfl el68) rfl ?_
  refine lx (op_neq rfl rfl) rfl ?_
  refine lx_end ⟨by kernel_rfl, ?_⟩
  refine pe_then_normal ?_
  refine tr_sub hC (.cons (t := 0) rfl (.cons (t := 1) rfl (.cons (t := 13) rfl .nil))) .nil rfl ?_
  refine tr_cond rfl (fun h13 => ?_) (fun h13 => ?_)
  · (try simp only [Bool.and_eq_true, Bool.or_eq_true, Bool.and_eq_false_iff, Bool.or_eq_false_iff, decide_eq_true_eq, decide_eq_false_iff_not, Bool.not_eq_true', Bool.not_eq_false', List.length_map, ne_eq, Decidable.not_not, Int.not_lt, Int.not_le] at h13)
    have hne : xs ≠ ys := fun e => h13 (by rw [e])
    refine tr_seq ?_
    refine tr_region (fun N2 hN => ?_)
    refine lx (op_assign rfl) rfl ?_
    refine lx_end ⟨by kernel_rfl, ?_⟩
    refine pe_then_normal ?_
    refine tr_sub hC (.cons (t := 4) rfl .nil) .nil rfl ?_
    refine tr_ret ?_
    refine pe_then_ret ?_
    refine pe_ret1 rfl hO rfl (.tmp rfl .nil) ?_
    exact entB (decide_eq_false hne).symm
  · (try simp only [Bool.and_eq_true, Bool.or_eq_true, Bool.and_eq_false_iff, Bool.or_eq_false_iff, decide_eq_true_eq, decide_eq_false_iff_not, Bool.not_eq_true', Bool.not_eq_false', List.length_map, ne_eq, Decidable.not_not, Int.not_lt, Int.not_le] at h13)
    have hlen : xs.length = ys.length := by omega
    refine tr_skip ?_
    refine pe_then_normal ?_
    refine tr_sub hC (.cons (t := 0) rfl (.cons (t := 1) rfl .nil)) .nil rfl ?_
    refine tr_seq ?_
    refine tr_seq ?_
    refine tr_region (fun N3 hN => ?_)
    refine lx (op_assign rfl) rfl ?_
    refine lx_end ⟨by kernel_rfl, ?_⟩
    refine pe_then_normal ?_
    refine tr_sub hC (.cons (t := 0) rfl (.cons (t := 1) rfl (.cons (t := 5) rfl .nil))) .nil rfl ?_
    refine tr_block ?_
    refine tr_loopK (α := {zz : Nat // zz ≤ xs.length ∧ xs.take zz = ys.take zz}) (⟨(0), Nat.zero_le _, by simp⟩) (fun zz => [(5, eqP (.int .i64 (zz.1 : Int)))]) (fun zz => []) (fun zz => xs.length - zz.1) hC (.cons (t := 0) rfl (.cons (t := 1) rfl .nil)) .nil rfl ?_ ?_ (fun zz => ?_)
    · try dsimp only [List.cons_append, List.nil_append]
      first | refine SubF.cons rfl ?_ | (refine SubF.ent rfl ?_ ?_; · repeat (first | exact Ents.nil | refine Ents.cons ?_ ?_ | refine Ent.tup ?_ | refine Ent.agg ?_ | exact Ent.row _ _ _ _ | exact Ent.nil _ _ | exact Ent.func _ | exact Ent.refl _ | exact Ent.of_eq rfl | refine Ent.cells ?_))
      exact SubF.nil
    · try dsimp only [List.cons_append, List.nil_append]
      repeat (first | exact SubL.nil | refine SubL.cons rfl ?_)
    · obtain ⟨k, hk1, hk2⟩ := zz
      dsimp only [List.cons_append, List.nil_append]
      refine tr_seq ?_
      refine tr_seq ?_
      refine tr_region (fun N4 hN => ?_)
      refine lx (op_move rfl) rfl ?_
      refine lx (op_move rfl) rfl ?_
      first | refine lx (op_len rfl el68) rfl ?_ | refine lx (op_len_row rfl el68) rfl ?_ | refine lx (op_len_mv rfl el68) rfl ?_ | refine lx (op_len_nil rfl el68) rfl ?_
      refine lx (op_lss rfl rfl) rfl ?_
      refine lx_end ⟨by kernel_rfl, ?_⟩
      refine pe_then_normal ?_
      refine tr_sub hC (.cons (t := 0) rfl (.cons (t := 1) rfl (.cons (t := 5) rfl (.cons (t := 17) rfl .nil)))) .nil rfl ?_
      refine tr_cond rfl (fun h17 => ?_) (fun h17 => ?_)
      · (try simp only [Bool.and_eq_true, Bool.or_eq_true, Bool.and_eq_false_iff, Bool.or_eq_false_iff, decide_eq_true_eq, decide_eq_false_iff_not, Bool.not_eq_true', Bool.not_eq_false', List.length_map, ne_eq, Decidable.not_not, Int.not_lt, Int.not_le] at h17)
        have hbk := hb _ (List.getElem_mem (by omega : k < xs.length))
        refine tr_skip ?_
        refine pe_then_normal ?_
        refine tr_sub hC (.cons (t := 0) rfl (.cons (t := 1) rfl (.cons (t := 5) rfl .nil))) .nil rfl ?_
        refine tr_seq ?_
        refine tr_block ?_
        refine tr_seq ?_
        refine tr_drawn mixed (fun N6 hN => ?_)
        refine lx (op_move rfl) rfl ?_
        refine lx (op_move rfl) rfl ?_
        refine lx (op_index rfl rfl el68 sz92 rfl (List.getElem?_eq_getElem (by omega : k < xs.length))) rfl ?_
        first | refine lx (op_load_all rfl ag92 sz92) rfl ?_ | refine lx (op_load_agg rfl ag92 sz92 rfl) rfl ?_
        refine lx (op_move rfl) rfl ?_
        refine lx (op_move rfl) rfl ?_
        refine lx (op_index rfl rfl el68 sz92 rfl (List.getElem?_eq_getElem (by omega : k < ys.length))) rfl ?_
        first | refine lx (op_load_all rfl ag92 sz92) rfl ?_ | refine lx (op_load_agg rfl ag92 sz92 rfl) rfl ?_
        refine lxn (op_alloc (m := 6) (k := 6) (ps := [eqP (.int .i64 0), eqP (.int .i64 0), eqP (.slice none 0 0), eqP (.int .i64 0), eqP (.slice none 0 0), eqP (.bool false), eqP (.int .i64 0), eqP (.int .i64 0), eqP (.int .i64 0)]) ze92 rfl rfl (by first | exact hC.low _ (by decide) | rfl)) rfl ?_
        refine lxn (op_alloc (m := 7) (k := 7) (ps := [eqP (.int .i64 0), eqP (.int .i64 0), eqP (.slice none 0 0), eqP (.int .i64 0), eqP (.slice none 0 0), eqP (.bool false), eqP (.int .i64 0), eqP (.int .i64 0), eqP (.int .i64 0)]) ze92 rfl rfl (by first | exact hC.low _ (by decide) | rfl)) rfl ?_
        refine lxr (op_store_all (m := 6) rfl rfl rfl (.agg rfl) sz92 rfl) rfl ?_
        refine lxr (op_store_all (m := 7) rfl rfl rfl (.agg rfl) sz92 rfl) rfl ?_
        refine lx_end ⟨by kernel_rfl, ?_⟩
        refine pe_then_normal ?_
        refine tr_sub hC (.cons (t := 0) rfl (.cons (t := 1) rfl (.cons (t := 5) rfl (.cons (t := 6) rfl (.cons (t := 7) rfl .nil))))) (.cons (t := 6) rfl (.cons (t := 7) rfl .nil)) rfl ?_
        refine tr_seq ?_
        refine tr_seq ?_
        refine tr_region (fun N7 hN => ?_)
        refine lx (op_fieldAddr rfl fl92_0 sz3) rfl ?_
        refine lx (op_bload_one (m := 6) rfl rfl ag3 rfl) rfl ?_
        refine lx (op_fieldAddr rfl fl92_0 sz3) rfl ?_
        refine lx (op_bload_one (m := 7) rfl rfl ag3 rfl) rfl ?_
        refine lx (op_neq rfl rfl) rfl ?_
        refine lx (op_move rfl) rfl ?_
        refine lxs rfl rfl rfl guard_eq (.cons (t := 6) rfl (fun _ => Ent.refl _) .nil) (op_fieldAddr rfl fl92_1 sz3) rfl ?_
        refine lxs rfl rfl rfl guard_eq (.cons (t := 34) rfl (fun h => entW h) .nil) (op_bload_one (m := 6) rfl rfl ag3 rfl) rfl ?_
        refine lxs rfl rfl rfl guard_eq (.cons (t := 7) rfl (fun _ => Ent.refl _) .nil) (op_fieldAddr rfl fl92_1 sz3) rfl ?_
        refine lxs rfl rfl rfl guard_eq (.cons (t := 36) rfl (fun h => entW h) .nil) (op_bload_one (m := 7) rfl rfl ag3 rfl) rfl ?_
        refine lxs rfl rfl rfl guard_eq (.cons (t := 35) rfl (fun h => entW h) (.cons (t := 37) rfl (fun h => entW h) .nil)) (op_neq rfl rfl) rfl ?_
        refine lx (op_pick_or rfl rfl) rfl ?_
        refine lx (op_move rfl) rfl ?_
        refine lxs rfl rfl rfl guard_eq (.cons (t := 6) rfl (fun _ => Ent.refl _) .nil) (op_fieldAddr rfl fl92_3 sz3) rfl ?_
        refine lxs rfl rfl rfl guard_eq (.cons (t := 41) rfl (fun h => entW h) .nil) (op_bload_one (m := 6) rfl rfl ag3 rfl) rfl ?_
        refine lxs rfl rfl rfl guard_eq (.cons (t := 7) rfl (fun _ => Ent.refl _) .nil) (op_fieldAddr rfl fl92_3 sz3) rfl ?_
        refine lxs rfl rfl rfl guard_eq (.cons (t := 43) rfl (fun h => entW h) .nil) (op_bload_one (m := 7) rfl rfl ag3 rfl) rfl ?_
        refine lxs rfl rfl rfl guard_eq (.cons (t := 42) rfl (fun h => entW h) (.cons (t := 44) rfl (fun h => entW h) .nil)) (op_neq rfl rfl) rfl ?_
        refine lx (op_pick_or rfl rfl) rfl ?_
        refine lx (op_move rfl) rfl ?_
        refine lxs rfl rfl rfl guard_eq (.cons (t := 6) rfl (fun _ => Ent.refl _) .nil) (op_fieldAddr rfl fl92_5 sz4) rfl ?_
        refine lxs rfl rfl rfl guard_eq (.cons (t := 48) rfl (fun h => entW h) .nil) (op_bload_one (m := 6) rfl rfl ag4 rfl) rfl ?_
        refine lxs rfl rfl rfl guard_eq (.cons (t := 7) rfl (fun _ => Ent.refl _) .nil) (op_fieldAddr rfl fl92_5 sz4) rfl ?_
        refine lxs rfl rfl rfl guard_eq (.cons (t := 50) rfl (fun h => entW h) .nil) (op_bload_one (m := 7) rfl rfl ag4 rfl) rfl ?_
        refine lxs rfl rfl rfl guard_eq (.cons (t := 49) rfl (fun h => entW h) (.cons (t := 51) rfl (fun h => entW h) .nil)) (op_neq_bool bo4 rfl rfl) rfl ?_
        refine lx (op_pick_or rfl rfl) rfl ?_
        refine lx (op_move rfl) rfl ?_
        refine lxs rfl rfl rfl guard_eq (.cons (t := 6) rfl (fun _ => Ent.refl _) .nil) (op_fieldAddr rfl fl92_6 sz41) rfl ?_
        refine lxs rfl rfl rfl guard_eq (.cons (t := 55) rfl (fun h => entW h) .nil) (op_bload_part (m := 6) (qs := [_, _, _]) rfl rfl ag41 sz41 rfl rfl) rfl ?_
        refine lxs rfl rfl rfl guard_eq (.cons (t := 7) rfl (fun _ => Ent.refl _) .nil) (op_fieldAddr rfl fl92_6 sz41) rfl ?_
        refine lxs rfl rfl rfl guard_eq (.cons (t := 57) rfl (fun h => entW h) .nil) (op_bload_part (m := 7) (qs := [_, _, _]) rfl rfl ag41 sz41 rfl rfl) rfl ?_
        refine lxs rfl rfl rfl guard_eq (.cons (t := 56) rfl (fun h => entW h) (.cons (t := 58) rfl (fun h => entW h) .nil)) (op_neq_agg rfl rfl (eqV xs[k].result (ys[k]'(by omega)).result)) rfl ?_
        refine lx (op_pick_or rfl rfl) rfl ?_
        refine lx (op_move rfl) rfl ?_
        refine lxs rfl rfl rfl guard_eq (.cons (t := 6) rfl (fun _ => Ent.refl _) .nil) (op_fieldAddr rfl fl92_2 sz30) rfl ?_
        refine lxs rfl rfl rfl guard_eq (.cons (t := 62) rfl (fun h => entW h) .nil) (op_bload_one (m := 6) rfl rfl ag30 rfl) rfl ?_
        refine lxs rfl rfl rfl guard_eq (.cons (t := 7) rfl (fun _ => Ent.refl _) .nil) (op_fieldAddr rfl fl92_2 sz30) rfl ?_
        refine lxs rfl rfl rfl guard_eq (.cons (t := 64) rfl (fun h => entW h) .nil) (op_bload_one (m := 7) rfl rfl ag30 rfl) rfl ?_
        first | refine lxs rfl rfl rfl guard_eq (.cons (t := 63) rfl (fun h => entW h) (.cons (t := 65) rfl (fun h => entW h) .nil)) (op_call (l := [(Go.Operand.tmp 63), (Go.Operand.tmp 65)]) (sameV_ok xs[k].regs (ys[k]'(by omega)).regs hbk.regs) (.cons rfl (.cons rfl .nil)) fn44) rfl ?_ | refine lxs rfl rfl rfl guard_eq (.cons (t := 63) rfl (fun h => entW h) (.cons (t := 65) rfl (fun h => entW h) .nil)) (op_call (l := [(Go.Operand.tmp 63), (Go.Operand.tmp 65)]) (sameV_ok xs[k].regs (ys[k]'(by omega)).regs hbk.regs) (.ent rfl (by repeat (first | exact Ents.nil | refine Ents.cons ?_ ?_ | refine Ent.tup ?_ | refine Ent.agg ?_ | exact Ent.row _ _ _ _ | exact Ent.nil _ _ | exact Ent.func _ | exact Ent.refl _ | exact Ent.of_eq rfl | refine Ent.cells ?_)) (.ent rfl (by repeat (first | exact Ents.nil | refine Ents.cons ?_ ?_ | refine Ent.tup ?_ | refine Ent.agg ?_ | exact Ent.row _ _ _ _ | exact Ent.nil _ _ | exact Ent.func _ | exact Ent.refl _ | exact Ent.of_eq rfl | refine Ent.cells ?_)) .nil)) fn44) rfl ?_
        first | refine lxs rfl rfl rfl guard_eq (.cons (t := 66) rfl (fun h => entW h) .nil) (op_not rfl) rfl ?_ | refine lxs rfl rfl rfl guard_eq (.cons (t := 66) rfl (fun h => entW h) .nil) (op_not_b rfl) rfl ?_
        refine lx (op_pick_or rfl rfl) rfl ?_
        refine lx (op_move rfl) rfl ?_
        refine lxs rfl rfl rfl guard_eq (.cons (t := 6) rfl (fun _ => Ent.refl _) .nil) (op_fieldAddr rfl fl92_4 sz90) rfl ?_
        refine lxs rfl rfl rfl guard_eq (.cons (t := 70) rfl (fun h => entW h) .nil) (op_bload_one (m := 6) rfl rfl ag90 rfl) rfl ?_
        first | refine lxs rfl rfl rfl guard_eq (.cons (t := 71) rfl (fun h => entW h) .nil) (op_len rfl el90) rfl ?_ | refine lxs rfl rfl rfl guard_eq (.cons (t := 71) rfl (fun h => entW h) .nil) (op_len_row rfl el90) rfl ?_ | refine lxs rfl rfl rfl guard_eq (.cons (t := 71) rfl (fun h => entW h) .nil) (op_len_mv rfl el90) rfl ?_ | refine lxs rfl rfl rfl guard_eq (.cons (t := 71) rfl (fun h => entW h) .nil) (op_len_nil rfl el90) rfl ?_
        refine lxs rfl rfl rfl guard_eq (.cons (t := 7) rfl (fun _ => Ent.refl _) .nil) (op_fieldAddr rfl fl92_4 sz90) rfl ?_
        refine lxs rfl rfl rfl guard_eq (.cons (t := 73) rfl (fun h => entW h) .nil) (op_bload_one (m := 7) rfl rfl ag90 rfl) rfl ?_
        first | refine lxs rfl rfl rfl guard_eq (.cons (t := 74) rfl (fun h => entW h) .nil) (op_len rfl el90) rfl ?_ | refine lxs rfl rfl rfl guard_eq (.cons (t := 74) rfl (fun h => entW h) .nil) (op_len_row rfl el90) rfl ?_ | refine lxs rfl rfl rfl guard_eq (.cons (t := 74) rfl (fun h => entW h) .nil) (op_len_mv rfl el90) rfl ?_ | refine lxs rfl rfl rfl guard_eq (.cons (t := 74) rfl (fun h => entW h) .nil) (op_len_nil rfl el90) rfl ?_
        refine lxs rfl rfl rfl guard_eq (.cons (t := 72) rfl (fun h => entW h) (.cons (t := 75) rfl (fun h => entW h) .nil)) (op_neq rfl rfl) rfl ?_
        refine lx (op_pick_or rfl rfl) rfl ?_
        refine lx_end ⟨by kernel_rfl, ?_⟩
        refine pe_then_normal ?_
        refine tr_sub hC (.cons (t := 0) rfl (.cons (t := 1) rfl (.cons (t := 5) rfl (.cons (t := 6) rfl (.cons (t := 7) rfl (.cons (t := 77) rfl .nil)))))) (.cons (t := 6) rfl (.cons (t := 7) rfl .nil)) rfl ?_
        refine tr_cond rfl (fun h77 => ?_) (fun h77 => ?_)
        · have hne : decide (xs = ys) = false := ne_at (by omega) (by omega) (fm_ne1 h77)
          refine tr_seq ?_
          refine tr_region (fun N8 hN => ?_)
          refine lx (op_assign rfl) rfl ?_
          refine lx_end ⟨by kernel_rfl, ?_⟩
          refine pe_then_normal ?_
          refine tr_sub hC (.cons (t := 4) rfl .nil) .nil rfl ?_
          refine tr_ret ?_
          refine pe_then_ret ?_
          refine pe_block_ret ?_
          refine pe_then_ret ?_
          refine pe_then_ret ?_
          refine pe_block_ret ?_
          refine pe_then_ret ?_
          refine pe_ret1 rfl hO rfl (.tmp rfl .nil) ?_
          exact entB hne.symm
        · have hhd := fm_ne2 h77
          have hdl : xs[k].defers.length = (ys[k]'(by omega)).defers.length := hhd.2
          have hbd := hbk.defers
          refine tr_skip ?_
          refine pe_then_normal ?_
          refine tr_sub hC (.cons (t := 0) rfl (.cons (t := 1) rfl (.cons (t := 5) rfl (.cons (t := 6) rfl (.cons (t := 7) rfl .nil))))) (.cons (t := 6) rfl (.cons (t := 7) rfl .nil)) rfl ?_
          refine tr_seq ?_
          refine tr_region (fun N9 hN => ?_)
          refine lx (op_assign rfl) rfl ?_
          refine lx_end ⟨by kernel_rfl, ?_⟩
          refine pe_then_normal ?_
          refine tr_sub hC (.cons (t := 0) rfl (.cons (t := 1) rfl (.cons (t := 5) rfl (.cons (t := 6) rfl (.cons (t := 7) rfl (.cons (t := 8) rfl .nil)))))) (.cons (t := 6) rfl (.cons (t := 7) rfl .nil)) rfl ?_
          refine tr_block ?_
          refine tr_loopK (α := {zz : Nat // zz ≤ xs[k].defers.length ∧ xs[k].defers.take zz = (ys[k]'(by omega)).defers.take zz}) (⟨(0), Nat.zero_le _, by simp⟩) (fun zz => [(8, eqP (.int .i64 (zz.1 : Int)))]) (fun zz => []) (fun zz => xs[k].defers.length - zz.1) hC (.cons (t := 0) rfl (.cons (t := 1) rfl (.cons (t := 5) rfl (.cons (t := 6) rfl (.cons (t := 7) rfl .nil))))) (.cons (t := 6) rfl (.cons (t := 7) rfl .nil)) rfl ?_ ?_ (fun zz => ?_)
          · try dsimp only [List.cons_append, List.nil_append]
            first | refine SubF.cons rfl ?_ | (refine SubF.ent rfl ?_ ?_; · repeat (first | exact Ents.nil | refine Ents.cons ?_ ?_ | refine Ent.tup ?_ | refine Ent.agg ?_ | exact Ent.row _ _ _ _ | exact Ent.nil _ _ | exact Ent.func _ | exact Ent.refl _ | exact Ent.of_eq rfl | refine Ent.cells ?_))
            exact SubF.nil
          · try dsimp only [List.cons_append, List.nil_append]
            repeat (first | exact SubL.nil | refine SubL.cons rfl ?_)
          · obtain ⟨j, hj1, hj2⟩ := zz
            dsimp only [List.cons_append, List.nil_append]
            refine tr_seq ?_
            refine tr_seq ?_
            refine tr_region (fun N10 hN => ?_)
            refine lx (op_move rfl) rfl ?_
            refine lx (op_fieldAddr rfl fl92_4 sz90) rfl ?_
            refine lx (op_bload_one (m := 6) rfl rfl ag90 rfl) rfl ?_
            first | refine lx (op_len rfl el90) rfl ?_ | refine lx (op_len_row rfl el90) rfl ?_ | refine lx (op_len_mv rfl el90) rfl ?_ | refine lx (op_len_nil rfl el90) rfl ?_
            refine lx (op_lss rfl rfl) rfl ?_
            refine lx_end ⟨by kernel_rfl, ?_⟩
            refine pe_then_normal ?_
            refine tr_sub hC (.cons (t := 0) rfl (.cons (t := 1) rfl (.cons (t := 5) rfl (.cons (t := 6) rfl (.cons (t := 7) rfl (.cons (t := 8) rfl (.cons (t := 82) rfl .nil))))))) (.cons (t := 6) rfl (.cons (t := 7) rfl .nil)) rfl ?_
            refine tr_cond rfl (fun h82 => ?_) (fun h82 => ?_)
            · (try simp only [Bool.and_eq_true, Bool.or_eq_true, Bool.and_eq_false_iff, Bool.or_eq_false_iff, decide_eq_true_eq, decide_eq_false_iff_not, Bool.not_eq_true', Bool.not_eq_false', List.length_map, ne_eq, Decidable.not_not, Int.not_lt, Int.not_le] at h82)
              refine tr_skip ?_
              refine pe_then_normal ?_
              refine tr_sub hC (.cons (t := 0) rfl (.cons (t := 1) rfl (.cons (t := 5) rfl (.cons (t := 6) rfl (.cons (t := 7) rfl (.cons (t := 8) rfl .nil)))))) (.cons (t := 6) rfl (.cons (t := 7) rfl .nil)) rfl ?_
              refine tr_seq ?_
              refine tr_block ?_
              refine tr_seq ?_
              refine tr_drawn mixed (fun N12 hN => ?_)
              refine lx (op_fieldAddr rfl fl92_4 sz90) rfl ?_
              refine lx (op_bload_one (m := 6) rfl rfl ag90 rfl) rfl ?_
              refine lx (op_move rfl) rfl ?_
              refine lx (op_index rfl rfl el90 sz94 rfl (List.getElem?_eq_getElem (by omega : j < xs[k].defers.length))) rfl ?_
              first | refine lx (op_fieldAddr rfl fl94_0 sz3) rfl ?_ | refine lx (op_fieldCells rfl fl94_0 sz3) rfl ?_
              first | refine lx (op_load_one rfl ag3 rfl) rfl ?_ | refine lx (op_bload_one (m := 6) rfl rfl ag3 rfl) rfl ?_ | refine lx (op_bload_one (m := 7) rfl rfl ag3 rfl) rfl ?_
              refine lx (op_fieldAddr rfl fl92_4 sz90) rfl ?_
              refine lx (op_bload_one (m := 7) rfl rfl ag90 rfl) rfl ?_
              refine lx (op_move rfl) rfl ?_
              refine lx (op_index rfl rfl el90 sz94 rfl (List.getElem?_eq_getElem (by omega : j < (ys[k]'(by omega)).defers.length))) rfl ?_
              first | refine lx (op_fieldAddr rfl fl94_0 sz3) rfl ?_ | refine lx (op_fieldCells rfl fl94_0 sz3) rfl ?_
              first | refine lx (op_load_one rfl ag3 rfl) rfl ?_ | refine lx (op_bload_one (m := 6) rfl rfl ag3 rfl) rfl ?_ | refine lx (op_bload_one (m := 7) rfl rfl ag3 rfl) rfl ?_
              refine lx (op_neq rfl rfl) rfl ?_
              refine lx (op_move rfl) rfl ?_
              refine lxs rfl rfl rfl guard_eq (.cons (t := 6) rfl (fun _ => Ent.refl _) .nil) (op_fieldAddr rfl fl92_4 sz90) rfl ?_
              refine lxs rfl rfl rfl guard_eq (.cons (t := 99) rfl (fun h => entW h) .nil) (op_bload_one (m := 6) rfl rfl ag90 rfl) rfl ?_
              refine lxs rfl rfl rfl guard_eq (.cons (t := 8) rfl (fun _ => Ent.refl _) .nil) (op_move rfl) rfl ?_
              refine lxs rfl rfl rfl guard_eq (.cons (t := 100) rfl (fun h => entW h) (.cons (t := 101) rfl (fun h => entW h) .nil)) (op_index rfl rfl el90 sz94 rfl (List.getElem?_eq_getElem (by omega : j < xs[k].defers.length))) rfl ?_
              first | refine lxs rfl rfl rfl guard_eq (.cons (t := 102) rfl (fun h => entW h) .nil) (op_fieldAddr rfl fl94_1 sz30) rfl ?_ | refine lxs rfl rfl rfl guard_eq (.cons (t := 102) rfl (fun h => entW h) .nil) (op_fieldCells rfl fl94_1 sz30) rfl ?_
              first | refine lxs rfl rfl rfl guard_eq (.cons (t := 103) rfl (fun h => entW h) .nil) (op_load_one rfl ag30 rfl) rfl ?_ | refine lxs rfl rfl rfl guard_eq (.cons (t := 103) rfl (fun h => entW h) .nil) (op_bload_one (m := 6) rfl rfl ag30 rfl) rfl ?_ | refine lxs rfl rfl rfl guard_eq (.cons (t := 103) rfl (fun h => entW h) .nil) (op_bload_one (m := 7) rfl rfl ag30 rfl) rfl ?_
              refine lxs rfl rfl rfl guard_eq (.cons (t := 7) rfl (fun _ => Ent.refl _) .nil) (op_fieldAddr rfl fl92_4 sz90) rfl ?_
              refine lxs rfl rfl rfl guard_eq (.cons (t := 105) rfl (fun h => entW h) .nil) (op_bload_one (m := 7) rfl rfl ag90 rfl) rfl ?_
              refine lxs rfl rfl rfl guard_eq (.cons (t := 8) rfl (fun _ => Ent.refl _) .nil) (op_move rfl) rfl ?_
              refine lxs rfl rfl rfl guard_eq (.cons (t := 106) rfl (fun h => entW h) (.cons (t := 107) rfl (fun h => entW h) .nil)) (op_index rfl rfl el90 sz94 rfl (List.getElem?_eq_getElem (by omega : j < (ys[k]'(by omega)).defers.length))) rfl ?_
              first | refine lxs rfl rfl rfl guard_eq (.cons (t := 108) rfl (fun h => entW h) .nil) (op_fieldAddr rfl fl94_1 sz30) rfl ?_ | refine lxs rfl rfl rfl guard_eq (.cons (t := 108) rfl (fun h => entW h) .nil) (op_fieldCells rfl fl94_1 sz30) rfl ?_
              first | refine lxs rfl rfl rfl guard_eq (.cons (t := 109) rfl (fun h => entW h) .nil) (op_load_one rfl ag30 rfl) rfl ?_ | refine lxs rfl rfl rfl guard_eq (.cons (t := 109) rfl (fun h => entW h) .nil) (op_bload_one (m := 6) rfl rfl ag30 rfl) rfl ?_ | refine lxs rfl rfl rfl guard_eq (.cons (t := 109) rfl (fun h => entW h) .nil) (op_bload_one (m := 7) rfl rfl ag30 rfl) rfl ?_
              first | refine lxs rfl rfl rfl guard_eq (.cons (t := 104) rfl (fun h => entW h) (.cons (t := 110) rfl (fun h => entW h) .nil)) (op_call (l := [(Go.Operand.tmp 104), (Go.Operand.tmp 110)]) (sameV_ok (xs[k].defers[j]'(by omega)).args ((ys[k]'(by omega)).defers[j]'(by omega)).args (hbk.args _ (List.getElem_mem ..))) (.cons rfl (.cons rfl .nil)) fn44) rfl ?_ | refine lxs rfl rfl rfl guard_eq (.cons (t := 104) rfl (fun h => entW h) (.cons (t := 110) rfl (fun h => entW h) .nil)) (op_call (l := [(Go.Operand.tmp 104), (Go.Operand.tmp 110)]) (sameV_ok (xs[k].defers[j]'(by omega)).args ((ys[k]'(by omega)).defers[j]'(by omega)).args (hbk.args _ (List.getElem_mem ..))) (.ent rfl (by repeat (first | exact Ents.nil | refine Ents.cons ?_ ?_ | refine Ent.tup ?_ | refine Ent.agg ?_ | exact Ent.row _ _ _ _ | exact Ent.nil _ _ | exact Ent.func _ | exact Ent.refl _ | exact Ent.of_eq rfl | refine Ent.cells ?_)) (.ent rfl (by repeat (first | exact Ents.nil | refine Ents.cons ?_ ?_ | refine Ent.tup ?_ | refine Ent.agg ?_ | exact Ent.row _ _ _ _ | exact Ent.nil _ _ | exact Ent.func _ | exact Ent.refl _ | exact Ent.of_eq rfl | refine Ent.cells ?_)) .nil)) fn44) rfl ?_
              first | refine lxs rfl rfl rfl guard_eq (.cons (t := 111) rfl (fun h => entW h) .nil) (op_not rfl) rfl ?_ | refine lxs rfl rfl rfl guard_eq (.cons (t := 111) rfl (fun h => entW h) .nil) (op_not_b rfl) rfl ?_
              refine lx (op_pick_or rfl rfl) rfl ?_
              refine lx_end ⟨by kernel_rfl, ?_⟩
              refine pe_then_normal ?_
              refine tr_sub hC (.cons (t := 0) rfl (.cons (t := 1) rfl (.cons (t := 5) rfl (.cons (t := 6) rfl (.cons (t := 7) rfl (.cons (t := 8) rfl (.cons (t := 113) rfl .nil))))))) (.cons (t := 6) rfl (.cons (t := 7) rfl .nil)) rfl ?_
              refine tr_cond rfl (fun h113 => ?_) (fun h113 => ?_)
              · rw [df_ne] at h113
                have hdd : decide (xs[k].defers = (ys[k]'(by omega)).defers) = false := ne_at (by omega) (by omega) (of_decide_eq_true h113)
                have hkk : ¬ xs[k] = (ys[k]'(by omega)) := fun e => of_decide_eq_false hdd (congrArg Fm.defers e)
                have hne : decide (xs = ys) = false := ne_at (by omega) (by omega) hkk
                refine tr_seq ?_
                refine tr_region (fun N13 hN => ?_)
                refine lx (op_assign rfl) rfl ?_
                refine lx_end ⟨by kernel_rfl, ?_⟩
                refine pe_then_normal ?_
                refine tr_sub hC (.cons (t := 4) rfl .nil) .nil rfl ?_
                refine tr_ret ?_
                refine pe_block_ret ?_
                refine pe_then_ret ?_
                refine pe_then_ret ?_
                refine pe_block_ret ?_
                refine pe_block_ret ?_
                refine pe_then_ret ?_
                refine pe_then_ret ?_
                refine pe_block_ret ?_
                refine pe_then_ret ?_
                refine pe_ret1 rfl hO rfl (.tmp rfl .nil) ?_
                exact entB hne.symm
              · rw [df_ne] at h113
                have hd : xs[k].defers[j]'(by omega) = (ys[k]'(by omega)).defers[j]'(by omega) := Decidable.not_not.1 (of_decide_eq_false h113)
                refine tr_skip ?_
                refine pe_block_normal ?_
                refine pe_then_normal ?_
                refine tr_sub hC (.cons (t := 0) rfl (.cons (t := 1) rfl (.cons (t := 5) rfl (.cons (t := 6) rfl (.cons (t := 7) rfl (.cons (t := 8) rfl .nil)))))) (.cons (t := 6) rfl (.cons (t := 7) rfl .nil)) rfl ?_
                refine tr_region (fun N11 hN => ?_)
                refine lx (op_move rfl) rfl ?_
                refine lx (op_add rfl rfl (by omega)) rfl ?_
                refine lx (op_assign rfl) rfl ?_
                refine lx_end ⟨by kernel_rfl, ?_⟩
                refine pe_round (⟨(j + 1), by omega, take_step hj2 (by omega) (by omega) hd⟩) (by dsimp only; omega) (pe_st hC ?_ ?_ rfl)
                · try dsimp only [List.cons_append, List.nil_append]
                  first | refine SubF.cons rfl ?_ | (refine SubF.ent rfl ?_ ?_; · repeat (first | exact Ents.nil | refine Ents.cons ?_ ?_ | refine Ent.tup ?_ | refine Ent.agg ?_ | exact Ent.row _ _ _ _ | exact Ent.nil _ _ | exact Ent.func _ | exact Ent.refl _ | exact Ent.of_eq rfl | refine Ent.cells ?_))
                  first | refine SubF.cons rfl ?_ | (refine SubF.ent rfl ?_ ?_; · repeat (first | exact Ents.nil | refine Ents.cons ?_ ?_ | refine Ent.tup ?_ | refine Ent.agg ?_ | exact Ent.row _ _ _ _ | exact Ent.nil _ _ | exact Ent.func _ | exact Ent.refl _ | exact Ent.of_eq rfl | refine Ent.cells ?_))
                  first | refine SubF.cons rfl ?_ | (refine SubF.ent rfl ?_ ?_; · repeat (first | exact Ents.nil | refine Ents.cons ?_ ?_ | refine Ent.tup ?_ | refine Ent.agg ?_ | exact Ent.row _ _ _ _ | exact Ent.nil _ _ | exact Ent.func _ | exact Ent.refl _ | exact Ent.of_eq rfl | refine Ent.cells ?_))
                  first | refine SubF.cons rfl ?_ | (refine SubF.ent rfl ?_ ?_; · repeat (first | exact Ents.nil | refine Ents.cons ?_ ?_ | refine Ent.tup ?_ | refine Ent.agg ?_ | exact Ent.row _ _ _ _ | exact Ent.nil _ _ | exact Ent.func _ | exact Ent.refl _ | exact Ent.of_eq rfl | refine Ent.cells ?_))
                  first | refine SubF.cons rfl ?_ | (refine SubF.ent rfl ?_ ?_; · repeat (first | exact Ents.nil | refine Ents.cons ?_ ?_ | refine Ent.tup ?_ | refine Ent.agg ?_ | exact Ent.row _ _ _ _ | exact Ent.nil _ _ | exact Ent.func _ | exact Ent.refl _ | exact Ent.of_eq rfl | refine Ent.cells ?_))
                  first | refine SubF.cons rfl ?_ | (refine SubF.ent rfl ?_ ?_; · repeat (first | exact Ents.nil | refine Ents.cons ?_ ?_ | refine Ent.tup ?_ | refine Ent.agg ?_ | exact Ent.row _ _ _ _ | exact Ent.nil _ _ | exact Ent.func _ | exact Ent.refl _ | exact Ent.of_eq rfl | refine Ent.cells ?_))
                  exact SubF.nil
                · try dsimp only [List.cons_append, List.nil_append]
                  repeat (first | exact SubL.nil | refine SubL.cons rfl ?_)
            · (try simp only [Bool.and_eq_true, Bool.or_eq_true, Bool.and_eq_false_iff, Bool.or_eq_false_iff, decide_eq_true_eq, decide_eq_false_iff_not, Bool.not_eq_true', Bool.not_eq_false', List.length_map, ne_eq, Decidable.not_not, Int.not_lt, Int.not_le] at h82)
              have he : xs[k] = (ys[k]'(by omega)) := fm_of hhd.1 (take_end hj2 (by omega) (by omega))
              refine tr_exit ?_
              refine pe_then_exit ?_
              refine pe_then_exit ?_
              refine pe_block_eq ?_
              refine pe_block_normal ?_
              refine pe_then_normal ?_
              refine tr_sub hC (.cons (t := 0) rfl (.cons (t := 1) rfl (.cons (t := 5) rfl .nil))) .nil rfl ?_
              refine tr_region (fun N5 hN => ?_)
              refine lx (op_move rfl) rfl ?_
              refine lx (op_add rfl rfl (by omega)) rfl ?_
              refine lx (op_assign rfl) rfl ?_
              refine lx_end ⟨by kernel_rfl, ?_⟩
              refine pe_round (⟨(k + 1), by omega, take_step hk2 (by omega) (by omega) he⟩) (by dsimp only; omega) (pe_st hC ?_ ?_ rfl)
              · try dsimp only [List.cons_append, List.nil_append]
                first | refine SubF.cons rfl ?_ | (refine SubF.ent rfl ?_ ?_; · repeat (first | exact Ents.nil | refine Ents.cons ?_ ?_ | refine Ent.tup ?_ | refine Ent.agg ?_ | exact Ent.row _ _ _ _ | exact Ent.nil _ _ | exact Ent.func _ | exact Ent.refl _ | exact Ent.of_eq rfl | refine Ent.cells ?_))
                first | refine SubF.cons rfl ?_ | (refine SubF.ent rfl ?_ ?_; · repeat (first | exact Ents.nil | refine Ents.cons ?_ ?_ | refine Ent.tup ?_ | refine Ent.agg ?_ | exact Ent.row _ _ _ _ | exact Ent.nil _ _ | exact Ent.func _ | exact Ent.refl _ | exact Ent.of_eq rfl | refine Ent.cells ?_))
                first | refine SubF.cons rfl ?_ | (refine SubF.ent rfl ?_ ?_; · repeat (first | exact Ents.nil | refine Ents.cons ?_ ?_ | refine Ent.tup ?_ | refine Ent.agg ?_ | exact Ent.row _ _ _ _ | exact Ent.nil _ _ | exact Ent.func _ | exact Ent.refl _ | exact Ent.of_eq rfl | refine Ent.cells ?_))
                exact SubF.nil
              · try dsimp only [List.cons_append, List.nil_append]
                repeat (first | exact SubL.nil | refine SubL.cons rfl ?_)
      · (try simp only [Bool.and_eq_true, Bool.or_eq_true, Bool.and_eq_false_iff, Bool.or_eq_false_iff, decide_eq_true_eq, decide_eq_false_iff_not, Bool.not_eq_true', Bool.not_eq_false', List.length_map, ne_eq, Decidable.not_not, Int.not_lt, Int.not_le] at h17)
        have hk3 : k = xs.length := by omega
        refine tr_exit ?_
        refine pe_then_exit ?_
        refine pe_then_exit ?_
        refine pe_block_eq ?_
        refine pe_then_normal ?_
        refine tr_sub hC .nil .nil rfl ?_
        refine tr_seq ?_
        refine tr_region (fun N14 hN => ?_)
        refine lx (op_assign rfl) rfl ?_
        refine lx_end ⟨by kernel_rfl, ?_⟩
        refine pe_then_normal ?_
        refine tr_sub hC (.cons (t := 4) rfl .nil) .nil rfl ?_
        refine tr_ret ?_
        refine pe_ret1 rfl hO rfl (.tmp rfl .nil) ?_
        exact entB (decide_eq_true (take_end hk2 (by omega) (by omega))).symm
theorem sameG_ok (a b : Gr) (hb : BdG 4000000 a) : FnP Try.prog 37 [aggP a.ps, aggP b.ps] (eqP (.bool (decide (a = b)))) := by
  refine fn_pure' Try.func37 rfl Try.ntmps37 rfl ?_
  intro σ0 M ex Rf R hC hO
  simp only [frameOf, tokOf]
  refine tr_seq ?_
  refine tr_region (fun N0 hN => ?_)
  refine lxn (op_box (m := 2) (k := 2) rfl (.agg rfl) (by first | exact hC.low _ (by decide) | rfl)) rfl ?_
  refine lxn (op_box (m := 3) (k := 3) rfl (.agg rfl) (by first | exact hC.low _ (by decide) | rfl)) rfl ?_
  refine lx (op_assign rfl) rfl ?_
  refine lx_end ⟨by kernel_rfl, ?_⟩
  refine pe_then_normal ?_
  refine tr_sub hC (.cons (t := 2) rfl (.cons (t := 3) rfl .nil)) (.cons (t := 2) rfl (.cons (t := 3) rfl .nil)) rfl ?_
  refine tr_seq ?_
  refine tr_region (fun N1 hN => ?_)
  refine lx (op_fieldAddr rfl fl70_0 sz3) rfl ?_
  refine lx (op_bload_one (m := 2) rfl rfl ag3 rfl) rfl ?_
  refine lx (op_fieldAddr rfl fl70_0 sz3) rfl ?_
  refine lx (op_bload_one (m := 3) rfl rfl ag3 rfl) rfl ?_
  refine lx (op_eql rfl rfl) rfl ?_
  refine lx (op_move rfl) rfl ?_
  refine lxs rfl rfl rfl guard_eq (.cons (t := 2) rfl (fun _ => Ent.refl _) .nil) (op_fieldAddr rfl fl70_1 sz3) rfl ?_
  refine lxs rfl rfl rfl guard_eq (.cons (t := 11) rfl (fun h => entW h) .nil) (op_bload_one (m := 2) rfl rfl ag3 rfl) rfl ?_
  refine lxs rfl rfl rfl guard_eq (.cons (t := 3) rfl (fun _ => Ent.refl _) .nil) (op_fieldAddr rfl fl70_1 sz3) rfl ?_
  refine lxs rfl rfl rfl guard_eq (.cons (t := 13) rfl (fun h => entW h) .nil) (op_bload_one (m := 3) rfl rfl ag3 rfl) rfl ?_
  refine lxs rfl rfl rfl guard_eq (.cons (t := 12) rfl (fun h => entW h) (.cons (t := 14) rfl (fun h => entW h) .nil)) (op_eql rfl rfl) rfl ?_
  refine lx (op_pick_and rfl rfl) rfl ?_
  refine lx (op_move rfl) rfl ?_
  refine lxs rfl rfl rfl guard_eq (.cons (t := 2) rfl (fun _ => Ent.refl _) .nil) (op_fieldAddr rfl fl70_2 sz3) rfl ?_
  refine lxs rfl rfl rfl guard_eq (.cons (t := 18) rfl (fun h => entW h) .nil) (op_bload_one (m := 2) rfl rfl ag3 rfl) rfl ?_
  refine lxs rfl rfl rfl guard_eq (.cons (t := 3) rfl (fun _ => Ent.refl _) .nil) (op_fieldAddr rfl fl70_2 sz3) rfl ?_
  refine lxs rfl rfl rfl guard_eq (.cons (t := 20) rfl (fun h => entW h) .nil) (op_bload_one (m := 3) rfl rfl ag3 rfl) rfl ?_
  refine lxs rfl rfl rfl guard_eq (.cons (t := 19) rfl (fun h => entW h) (.cons (t := 21) rfl (fun h => entW h) .nil)) (op_eql rfl rfl) rfl ?_
  refine lx (op_pick_and rfl rfl) rfl ?_
  refine lx (op_move rfl) rfl ?_
  refine lxs rfl rfl rfl guard_eq (.cons (t := 2) rfl (fun _ => Ent.refl _) .nil) (op_fieldAddr rfl fl70_3 sz68) rfl ?_
  refine lxs rfl rfl rfl guard_eq (.cons (t := 25) rfl (fun h => entW h) .nil) (op_bload_one (m := 2) rfl rfl ag68 rfl) rfl ?_
  refine lxs rfl rfl rfl guard_eq (.cons (t := 3) rfl (fun _ => Ent.refl _) .nil) (op_fieldAddr rfl fl70_3 sz68) rfl ?_
  refine lxs rfl rfl rfl guard_eq (.cons (t := 27) rfl (fun h => entW h) .nil) (op_bload_one (m := 3) rfl rfl ag68 rfl) rfl ?_
  first | refine lxs rfl rfl rfl guard_eq (.cons (t := 26) rfl (fun h => entW h) (.cons (t := 28) rfl (fun h => entW h) .nil)) (op_call (l := [(Go.Operand.tmp 26), (Go.Operand.tmp 28)]) (sameF_ok a.frames b.frames hb.frames hb.each) (.cons rfl (.cons rfl .nil)) fn50) rfl ?_ | refine lxs rfl rfl rfl guard_eq (.cons (t := 26) rfl (fun h => entW h) (.cons (t := 28) rfl (fun h => entW h) .nil)) (op_call (l := [(Go.Operand.tmp 26), (Go.Operand.tmp 28)]) (sameF_ok a.frames b.frames hb.frames hb.each) (.ent rfl (by repeat (first | exact Ents.nil | refine Ents.cons ?_ ?_ | refine Ent.tup ?_ | refine Ent.agg ?_ | exact Ent.row _ _ _ _ | exact Ent.nil _ _ | exact Ent.func _ | exact Ent.refl _ | exact Ent.of_eq rfl | refine Ent.cells ?_)) (.ent rfl (by repeat (first | exact Ents.nil | refine Ents.cons ?_ ?_ | refine Ent.tup ?_ | refine Ent.agg ?_ | exact Ent.row _ _ _ _ | exact Ent.nil _ _ | exact Ent.func _ | exact Ent.refl _ | exact Ent.of_eq rfl | refine Ent.cells ?_)) .nil)) fn50) rfl ?_
  refine lx (op_pick_and rfl rfl) rfl ?_
  refine lx (op_assign rfl) rfl ?_
  refine lx_end ⟨by kernel_rfl, ?_⟩
  refine pe_then_normal ?_
  refine tr_sub hC (.cons (t := 4) rfl .nil) .nil rfl ?_
  refine tr_ret ?_
  refine pe_ret1 rfl hO rfl (.tmp rfl .nil) ?_
  exact entB (gr_eq a b)
theorem same_ok (a b : Mc) (hb : Bd 4000000 a) : FnP Try.prog 18 [aggP a.ps, aggP b.ps] (eqP (.bool (decide (a = b)))) := by
  refine fn_pure' Try.func18 rfl Try.ntmps18 rfl ?_
  intro σ0 M ex Rf R hC hO
  simp only [frameOf, tokOf]
  refine tr_seq ?_
  refine tr_region (fun N0 hN => ?_)
  refine lxn (op_box (m := 2) (k := 2) rfl (.agg rfl) (by first | exact hC.low _ (by decide) | rfl)) rfl ?_
  refine lxn (op_box (m := 3) (k := 3) rfl (.agg rfl) (by first | exact hC.low _ (by decide) | rfl)) rfl ?_
  refine lx (op_assign rfl) rfl ?_
  refine lx_end ⟨by kernel_rfl, ?_⟩
  refine pe_then_normal ?_
  refine tr_sub hC (.cons (t := 2) rfl (.cons (t := 3) rfl .nil)) (.cons (t := 2) rfl (.cons (t := 3) rfl .nil)) rfl ?_
  refine tr_seq ?_
  refine tr_seq ?_
  refine tr_region (fun N1 hN => ?_)
  refine lx (op_fieldAddr rfl fl29_0 sz22) rfl ?_
  refine lx (op_bload_one (m := 2) rfl rfl ag22 rfl) rfl ?_
  refine lx (op_fieldAddr rfl fl29_0 sz22) rfl ?_
  refine lx (op_bload_one (m := 3) rfl rfl ag22 rfl) rfl ?_
  first | refine lx (op_call (l := [(Go.Operand.tmp 7), (Go.Operand.tmp 9)]) (sameOs_ok a.objects b.objects hb.objects hb.object) (.cons rfl (.cons rfl .nil)) fn34) rfl ?_ | refine lx (op_call (l := [(Go.Operand.tmp 7), (Go.Operand.tmp 9)]) (sameOs_ok a.objects b.objects hb.objects hb.object) (.ent rfl (by repeat (first | exact Ents.nil | refine Ents.cons ?_ ?_ | refine Ent.tup ?_ | refine Ent.agg ?_ | exact Ent.row _ _ _ _ | exact Ent.nil _ _ | exact Ent.func _ | exact Ent.refl _ | exact Ent.of_eq rfl | refine Ent.cells ?_)) (.ent rfl (by repeat (first | exact Ents.nil | refine Ents.cons ?_ ?_ | refine Ent.tup ?_ | refine Ent.agg ?_ | exact Ent.row _ _ _ _ | exact Ent.nil _ _ | exact Ent.func _ | exact Ent.refl _ | exact Ent.of_eq rfl | refine Ent.cells ?_)) .nil)) fn34) rfl ?_
  first | refine lx (op_not rfl) rfl ?_ | refine lx (op_not_b rfl) rfl ?_
  refine lx (op_move rfl) rfl ?_
  refine lxs rfl rfl rfl guard_eq (.cons (t := 2) rfl (fun _ => Ent.refl _) .nil) (op_fieldAddr rfl fl29_1 sz25) rfl ?_
  refine lxs rfl rfl rfl guard_eq (.cons (t := 13) rfl (fun h => entW h) .nil) (op_bload_one (m := 2) rfl rfl ag25 rfl) rfl ?_
  refine lxs rfl rfl rfl guard_eq (.cons (t := 3) rfl (fun _ => Ent.refl _) .nil) (op_fieldAddr rfl fl29_1 sz25) rfl ?_
  refine lxs rfl rfl rfl guard_eq (.cons (t := 15) rfl (fun h => entW h) .nil) (op_bload_one (m := 3) rfl rfl ag25 rfl) rfl ?_
  first | refine lxs rfl rfl rfl guard_eq (.cons (t := 14) rfl (fun h => entW h) (.cons (t := 16) rfl (fun h => entW h) .nil)) (op_call (l := [(Go.Operand.tmp 14), (Go.Operand.tmp 16)]) (sameSy_ok a.syncs b.syncs hb.syncs hb.readers) (.cons rfl (.cons rfl .nil)) fn35) rfl ?_ | refine lxs rfl rfl rfl guard_eq (.cons (t := 14) rfl (fun h => entW h) (.cons (t := 16) rfl (fun h => entW h) .nil)) (op_call (l := [(Go.Operand.tmp 14), (Go.Operand.tmp 16)]) (sameSy_ok a.syncs b.syncs hb.syncs hb.readers) (.ent rfl (by repeat (first | exact Ents.nil | refine Ents.cons ?_ ?_ | refine Ent.tup ?_ | refine Ent.agg ?_ | exact Ent.row _ _ _ _ | exact Ent.nil _ _ | exact Ent.func _ | exact Ent.refl _ | exact Ent.of_eq rfl | refine Ent.cells ?_)) (.ent rfl (by repeat (first | exact Ents.nil | refine Ents.cons ?_ ?_ | refine Ent.tup ?_ | refine Ent.agg ?_ | exact Ent.row _ _ _ _ | exact Ent.nil _ _ | exact Ent.func _ | exact Ent.refl _ | exact Ent.of_eq rfl | refine Ent.cells ?_)) .nil)) fn35) rfl ?_
  first | refine lxs rfl rfl rfl guard_eq (.cons (t := 17) rfl (fun h => entW h) .nil) (op_not rfl) rfl ?_ | refine lxs rfl rfl rfl guard_eq (.cons (t := 17) rfl (fun h => entW h) .nil) (op_not_b rfl) rfl ?_
  refine lx (op_pick_or rfl rfl) rfl ?_
  refine lx (op_move rfl) rfl ?_
  refine lxs rfl rfl rfl guard_eq (.cons (t := 2) rfl (fun _ => Ent.refl _) .nil) (op_fieldAddr rfl fl29_3 sz27) rfl ?_
  refine lxs rfl rfl rfl guard_eq (.cons (t := 21) rfl (fun h => entW h) .nil) (op_bload_one (m := 2) rfl rfl ag27 rfl) rfl ?_
  refine lxs rfl rfl rfl guard_eq (.cons (t := 3) rfl (fun _ => Ent.refl _) .nil) (op_fieldAddr rfl fl29_3 sz27) rfl ?_
  refine lxs rfl rfl rfl guard_eq (.cons (t := 23) rfl (fun h => entW h) .nil) (op_bload_one (m := 3) rfl rfl ag27 rfl) rfl ?_
  first | refine lxs rfl rfl rfl guard_eq (.cons (t := 22) rfl (fun h => entW h) (.cons (t := 24) rfl (fun h => entW h) .nil)) (op_call (l := [(Go.Operand.tmp 22), (Go.Operand.tmp 24)]) (ints_ok a.output b.output hb.output) (.cons rfl (.cons rfl .nil)) fn36) rfl ?_ | refine lxs rfl rfl rfl guard_eq (.cons (t := 22) rfl (fun h => entW h) (.cons (t := 24) rfl (fun h => entW h) .nil)) (op_call (l := [(Go.Operand.tmp 22), (Go.Operand.tmp 24)]) (ints_ok a.output b.output hb.output) (.ent rfl (by repeat (first | exact Ents.nil | refine Ents.cons ?_ ?_ | refine Ent.tup ?_ | refine Ent.agg ?_ | exact Ent.row _ _ _ _ | exact Ent.nil _ _ | exact Ent.func _ | exact Ent.refl _ | exact Ent.of_eq rfl | refine Ent.cells ?_)) (.ent rfl (by repeat (first | exact Ents.nil | refine Ents.cons ?_ ?_ | refine Ent.tup ?_ | refine Ent.agg ?_ | exact Ent.row _ _ _ _ | exact Ent.nil _ _ | exact Ent.func _ | exact Ent.refl _ | exact Ent.of_eq rfl | refine Ent.cells ?_)) .nil)) fn36) rfl ?_
  first | refine lxs rfl rfl rfl guard_eq (.cons (t := 25) rfl (fun h => entW h) .nil) (op_not rfl) rfl ?_ | refine lxs rfl rfl rfl guard_eq (.cons (t := 25) rfl (fun h => entW h) .nil) (op_not_b rfl) rfl ?_
  refine lx (op_pick_or rfl rfl) rfl ?_
  refine lx (op_move rfl) rfl ?_
  refine lxs rfl rfl rfl guard_eq (.cons (t := 2) rfl (fun _ => Ent.refl _) .nil) (op_fieldAddr rfl fl29_2 sz26) rfl ?_
  refine lxs rfl rfl rfl guard_eq (.cons (t := 29) rfl (fun h => entW h) .nil) (op_bload_one (m := 2) rfl rfl ag26 rfl) rfl ?_
  first | refine lxs rfl rfl rfl guard_eq (.cons (t := 30) rfl (fun h => entW h) .nil) (op_len rfl el26) rfl ?_ | refine lxs rfl rfl rfl guard_eq (.cons (t := 30) rfl (fun h => entW h) .nil) (op_len_row rfl el26) rfl ?_ | refine lxs rfl rfl rfl guard_eq (.cons (t := 30) rfl (fun h => entW h) .nil) (op_len_mv rfl el26) rfl ?_ | refine lxs rfl rfl rfl guard_eq (.cons (t := 30) rfl (fun h => entW h) .nil) (op_len_nil rfl el26) rfl ?_
  refine lxs rfl rfl rfl guard_eq (.cons (t := 3) rfl (fun _ => Ent.refl _) .nil) (op_fieldAddr rfl fl29_2 sz26) rfl ?_
  refine lxs rfl rfl rfl guard_eq (.cons (t := 32) rfl (fun h => entW h) .nil) (op_bload_one (m := 3) rfl rfl ag26 rfl) rfl ?_
  first | refine lxs rfl rfl rfl guard_eq (.cons (t := 33) rfl (fun h => entW h) .nil) (op_len rfl el26) rfl ?_ | refine lxs rfl rfl rfl guard_eq (.cons (t := 33) rfl (fun h => entW h) .nil) (op_len_row rfl el26) rfl ?_ | refine lxs rfl rfl rfl guard_eq (.cons (t := 33) rfl (fun h => entW h) .nil) (op_len_mv rfl el26) rfl ?_ | refine lxs rfl rfl rfl guard_eq (.cons (t := 33) rfl (fun h => entW h) .nil) (op_len_nil rfl el26) rfl ?_
  refine lxs rfl rfl rfl guard_eq (.cons (t := 31) rfl (fun h => entW h) (.cons (t := 34) rfl (fun h => entW h) .nil)) (op_neq rfl rfl) rfl ?_
  refine lx (op_pick_or rfl rfl) rfl ?_
  refine lx_end ⟨by kernel_rfl, ?_⟩
  refine pe_then_normal ?_
  refine tr_sub hC (.cons (t := 2) rfl (.cons (t := 3) rfl (.cons (t := 36) rfl .nil))) (.cons (t := 2) rfl (.cons (t := 3) rfl .nil)) rfl ?_
  refine tr_cond rfl (fun h36 => ?_) (fun h36 => ?_)
  · have hne := mc_ne1 h36
    refine tr_seq ?_
    refine tr_region (fun N2 hN => ?_)
    refine lx (op_assign rfl) rfl ?_
    refine lx_end ⟨by kernel_rfl, ?_⟩
    refine pe_then_normal ?_
    refine tr_sub hC (.cons (t := 4) rfl .nil) .nil rfl ?_
    refine tr_ret ?_
    refine pe_then_ret ?_
    refine pe_ret1 rfl hO rfl (.tmp rfl .nil) ?_
    exact entB (decide_eq_false hne).symm
  · have hhd := mc_ne2 h36
    have hlen := hhd.2
    have hbg := hb.gors
    refine tr_skip ?_
    refine pe_then_normal ?_
    refine tr_sub hC (.cons (t := 2) rfl (.cons (t := 3) rfl .nil)) (.cons (t := 2) rfl (.cons (t := 3) rfl .nil)) rfl ?_
    refine tr_seq ?_
    refine tr_seq ?_
    refine tr_region (fun N3 hN => ?_)
    refine lx (op_assign rfl) rfl ?_
    refine lx_end ⟨by kernel_rfl, ?_⟩
    refine pe_then_normal ?_
    refine tr_sub hC (.cons (t := 2) rfl (.cons (t := 3) rfl (.cons (t := 5) rfl .nil))) (.cons (t := 2) rfl (.cons (t := 3) rfl .nil)) rfl ?_
    refine tr_block ?_
    refine tr_loopK (α := {zz : Nat // zz ≤ a.gors.length ∧ a.gors.take zz = b.gors.take zz}) (⟨(0), Nat.zero_le _, by simp⟩) (fun zz => [(5, eqP (.int .i64 (zz.1 : Int)))]) (fun zz => []) (fun zz => a.gors.length - zz.1) hC (.cons (t := 2) rfl (.cons (t := 3) rfl .nil)) (.cons (t := 2) rfl (.cons (t := 3) rfl .nil)) rfl ?_ ?_ (fun zz => ?_)
    · try dsimp only [List.cons_append, List.nil_append]
      first | refine SubF.cons rfl ?_ | (refine SubF.ent rfl ?_ ?_; · repeat (first | exact Ents.nil | refine Ents.cons ?_ ?_ | refine Ent.tup ?_ | refine Ent.agg ?_ | exact Ent.row _ _ _ _ | exact Ent.nil _ _ | exact Ent.func _ | exact Ent.refl _ | exact Ent.of_eq rfl | refine Ent.cells ?_))
      exact SubF.nil
    · try dsimp only [List.cons_append, List.nil_append]
      repeat (first | exact SubL.nil | refine SubL.cons rfl ?_)
    · obtain ⟨k, hk1, hk2⟩ := zz
      dsimp only [List.cons_append, List.nil_append]
      refine tr_seq ?_
      refine tr_seq ?_
      refine tr_region (fun N4 hN => ?_)
      refine lx (op_move rfl) rfl ?_
      refine lx (op_fieldAddr rfl fl29_2 sz26) rfl ?_
      refine lx (op_bload_one (m := 2) rfl rfl ag26 rfl) rfl ?_
      first | refine lx (op_len rfl el26) rfl ?_ | refine lx (op_len_row rfl el26) rfl ?_ | refine lx (op_len_mv rfl el26) rfl ?_ | refine lx (op_len_nil rfl el26) rfl ?_
      refine lx (op_lss rfl rfl) rfl ?_
      refine lx_end ⟨by kernel_rfl, ?_⟩
      refine pe_then_normal ?_
      refine tr_sub hC (.cons (t := 2) rfl (.cons (t := 3) rfl (.cons (t := 5) rfl (.cons (t := 41) rfl .nil)))) (.cons (t := 2) rfl (.cons (t := 3) rfl .nil)) rfl ?_
      refine tr_cond rfl (fun h41 => ?_) (fun h41 => ?_)
      · (try simp only [Bool.and_eq_true, Bool.or_eq_true, Bool.and_eq_false_iff, Bool.or_eq_false_iff, decide_eq_true_eq, decide_eq_false_iff_not, Bool.not_eq_true', Bool.not_eq_false', List.length_map, ne_eq, Decidable.not_not, Int.not_lt, Int.not_le] at h41)
        refine tr_skip ?_
        refine pe_then_normal ?_
        refine tr_sub hC (.cons (t := 2) rfl (.cons (t := 3) rfl (.cons (t := 5) rfl .nil))) (.cons (t := 2) rfl (.cons (t := 3) rfl .nil)) rfl ?_
        refine tr_seq ?_
        refine tr_block ?_
        refine tr_seq ?_
        refine tr_drawn mixed (fun N6 hN => ?_)
        refine lx (op_fieldAddr rfl fl29_2 sz26) rfl ?_
        refine lx (op_bload_one (m := 2) rfl rfl ag26 rfl) rfl ?_
        refine lx (op_move rfl) rfl ?_
        refine lx (op_index rfl rfl el26 sz70 rfl (List.getElem?_eq_getElem (by omega : k < a.gors.length))) rfl ?_
        first | refine lx (op_load_all rfl ag70 sz70) rfl ?_ | refine lx (op_load_agg rfl ag70 sz70 rfl) rfl ?_ | refine lx (op_bload (m := 2) rfl rfl ag70 sz70) rfl ?_ | refine lx (op_bload (m := 3) rfl rfl ag70 sz70) rfl ?_ | refine lx (op_bload_part (m := 2) (qs := [_, _, _, _]) rfl rfl ag70 sz70 rfl rfl) rfl ?_ | refine lx (op_bload_part (m := 3) (qs := [_, _, _, _]) rfl rfl ag70 sz70 rfl rfl) rfl ?_
        refine lx (op_fieldAddr rfl fl29_2 sz26) rfl ?_
        refine lx (op_bload_one (m := 3) rfl rfl ag26 rfl) rfl ?_
        refine lx (op_move rfl) rfl ?_
        refine lx (op_index rfl rfl el26 sz70 rfl (List.getElem?_eq_getElem (by omega : k < b.gors.length))) rfl ?_
        first | refine lx (op_load_all rfl ag70 sz70) rfl ?_ | refine lx (op_load_agg rfl ag70 sz70 rfl) rfl ?_ | refine lx (op_bload (m := 2) rfl rfl ag70 sz70) rfl ?_ | refine lx (op_bload (m := 3) rfl rfl ag70 sz70) rfl ?_ | refine lx (op_bload_part (m := 2) (qs := [_, _, _, _]) rfl rfl ag70 sz70 rfl rfl) rfl ?_ | refine lx (op_bload_part (m := 3) (qs := [_, _, _, _]) rfl rfl ag70 sz70 rfl rfl) rfl ?_
        first | refine lx (op_call (l := [(Go.Operand.tmp 48), (Go.Operand.tmp 53)]) (sameG_ok (a.gors[k]'(by omega)) (b.gors[k]'(by omega)) (hb.gor _ (List.getElem_mem ..))) (.cons rfl (.cons rfl .nil)) fn37) rfl ?_ | refine lx (op_call (l := [(Go.Operand.tmp 48), (Go.Operand.tmp 53)]) (sameG_ok (a.gors[k]'(by omega)) (b.gors[k]'(by omega)) (hb.gor _ (List.getElem_mem ..))) (.ent rfl (by repeat (first | exact Ents.nil | refine Ents.cons ?_ ?_ | refine Ent.tup ?_ | refine Ent.agg ?_ | exact Ent.row _ _ _ _ | exact Ent.nil _ _ | exact Ent.func _ | exact Ent.refl _ | exact Ent.of_eq rfl | refine Ent.cells ?_)) (.ent rfl (by repeat (first | exact Ents.nil | refine Ents.cons ?_ ?_ | refine Ent.tup ?_ | refine Ent.agg ?_ | exact Ent.row _ _ _ _ | exact Ent.nil _ _ | exact Ent.func _ | exact Ent.refl _ | exact Ent.of_eq rfl | refine Ent.cells ?_)) .nil)) fn37) rfl ?_
        first | refine lx (op_not rfl) rfl ?_ | refine lx (op_not_b rfl) rfl ?_
        refine lx_end ⟨by kernel_rfl, ?_⟩
        refine pe_then_normal ?_
        refine tr_sub hC (.cons (t := 2) rfl (.cons (t := 3) rfl (.cons (t := 5) rfl (.cons (t := 55) rfl .nil)))) (.cons (t := 2) rfl (.cons (t := 3) rfl .nil)) rfl ?_
        refine tr_cond rfl (fun h55 => ?_) (fun h55 => ?_)
        · (try simp only [Bool.and_eq_true, Bool.or_eq_true, Bool.and_eq_false_iff, Bool.or_eq_false_iff, decide_eq_true_eq, decide_eq_false_iff_not, Bool.not_eq_true', Bool.not_eq_false', List.length_map, ne_eq, Decidable.not_not, Int.not_lt, Int.not_le] at h55)
          have hne2 : decide (a.gors = b.gors) = false := ne_at (by omega) (by omega) h55
          have hne : a ≠ b := fun e => by rw [e] at hne2; simp at hne2
          refine tr_seq ?_
          refine tr_region (fun N7 hN => ?_)
          refine lx (op_assign rfl) rfl ?_
          refine lx_end ⟨by kernel_rfl, ?_⟩
          refine pe_then_normal ?_
          refine tr_sub hC (.cons (t := 4) rfl .nil) .nil rfl ?_
          refine tr_ret ?_
          refine pe_block_ret ?_
          refine pe_then_ret ?_
          refine pe_then_ret ?_
          refine pe_block_ret ?_
          refine pe_then_ret ?_
          refine pe_ret1 rfl hO rfl (.tmp rfl .nil) ?_
          exact entB (decide_eq_false hne).symm
        · (try simp only [Bool.and_eq_true, Bool.or_eq_true, Bool.and_eq_false_iff, Bool.or_eq_false_iff, decide_eq_true_eq, decide_eq_false_iff_not, Bool.not_eq_true', Bool.not_eq_false', List.length_map, ne_eq, Decidable.not_not, Int.not_lt, Int.not_le] at h55)
          refine tr_skip ?_
          refine pe_block_normal ?_
          refine pe_then_normal ?_
          refine tr_sub hC (.cons (t := 2) rfl (.cons (t := 3) rfl (.cons (t := 5) rfl .nil))) (.cons (t := 2) rfl (.cons (t := 3) rfl .nil)) rfl ?_
          refine tr_region (fun N5 hN => ?_)
          refine lx (op_move rfl) rfl ?_
          refine lx (op_add rfl rfl (by omega)) rfl ?_
          refine lx (op_assign rfl) rfl ?_
          refine lx_end ⟨by kernel_rfl, ?_⟩
          refine pe_round (⟨(k + 1), by omega, take_step hk2 (by omega) (by omega) h55⟩) (by dsimp only; omega) (pe_st hC ?_ ?_ rfl)
          · try dsimp only [List.cons_append, List.nil_append]
            first | refine SubF.cons rfl ?_ | (refine SubF.ent rfl ?_ ?_; · repeat (first | exact Ents.nil | refine Ents.cons ?_ ?_ | refine Ent.tup ?_ | refine Ent.agg ?_ | exact Ent.row _ _ _ _ | exact Ent.nil _ _ | exact Ent.func _ | exact Ent.refl _ | exact Ent.of_eq rfl | refine Ent.cells ?_))
            first | refine SubF.cons rfl ?_ | (refine SubF.ent rfl ?_ ?_; · repeat (first | exact Ents.nil | refine Ents.cons ?_ ?_ | refine Ent.tup ?_ | refine Ent.agg ?_ | exact Ent.row _ _ _ _ | exact Ent.nil _ _ | exact Ent.func _ | exact Ent.refl _ | exact Ent.of_eq rfl | refine Ent.cells ?_))
            first | refine SubF.cons rfl ?_ | (refine SubF.ent rfl ?_ ?_; · repeat (first | exact Ents.nil | refine Ents.cons ?_ ?_ | refine Ent.tup ?_ | refine Ent.agg ?_ | exact Ent.row _ _ _ _ | exact Ent.nil _ _ | exact Ent.func _ | exact Ent.refl _ | exact Ent.of_eq rfl | refine Ent.cells ?_))
            exact SubF.nil
          · try dsimp only [List.cons_append, List.nil_append]
            repeat (first | exact SubL.nil | refine SubL.cons rfl ?_)
      · (try simp only [Bool.and_eq_true, Bool.or_eq_true, Bool.and_eq_false_iff, Bool.or_eq_false_iff, decide_eq_true_eq, decide_eq_false_iff_not, Bool.not_eq_true', Bool.not_eq_false', List.length_map, ne_eq, Decidable.not_not, Int.not_lt, Int.not_le] at h41)
        have hyes : a = b := mc_of hhd.1 (take_end hk2 (by omega) (by omega))
        refine tr_exit ?_
        refine pe_then_exit ?_
        refine pe_then_exit ?_
        refine pe_block_eq ?_
        refine pe_then_normal ?_
        refine tr_sub hC .nil .nil rfl ?_
        refine tr_seq ?_
        refine tr_region (fun N8 hN => ?_)
        refine lx (op_assign rfl) rfl ?_
        refine lx_end ⟨by kernel_rfl, ?_⟩
        refine pe_then_normal ?_
        refine tr_sub hC (.cons (t := 4) rfl .nil) .nil rfl ?_
        refine tr_ret ?_
        refine pe_ret1 rfl hO rfl (.tmp rfl .nil) ?_
        exact entB (decide_eq_true hyes).symm
end Go.Proofs.Ytibcbiamdjmckaa


set_option linter.unusedVariables false
set_option linter.unusedSimpArgs false
namespace Go.Proofs.Ytibcbiamdjmckaa
open Go.AL Go.Ch Go.Hp Go.RowKit
theorem ag29 : aggB Try.prog 29 = some true := by kernel_rfl
theorem by3 : bytesB Try.prog 3 = some 8 := by kernel_rfl
theorem by33 : bytesB Try.prog 33 = some 144 := by kernel_rfl
theorem by41 : bytesB Try.prog 41 = some 24 := by kernel_rfl
theorem by67 : bytesB Try.prog 67 = some 64 := by kernel_rfl
theorem by70 : bytesB Try.prog 70 = some 48 := by kernel_rfl
theorem by88 : bytesB Try.prog 88 = some 40 := by kernel_rfl
theorem by92 : bytesB Try.prog 92 = some 104 := by kernel_rfl
theorem by94 : bytesB Try.prog 94 = some 32 := by kernel_rfl
theorem fn28 : fnB Try.prog 28 = true := by kernel_rfl
theorem fn33 : fnB Try.prog 33 = true := by kernel_rfl
theorem fn53 : fnB Try.prog 53 = true := by kernel_rfl
theorem fn58 : fnB Try.prog 58 = true := by kernel_rfl
theorem fs29 : sizesB Try.prog 29 = true := by kernel_rfl
theorem fs94 : sizesB Try.prog 94 = true := by kernel_rfl
theorem sz29 : sizeB Try.prog 29 = some 4 := by kernel_rfl
theorem ze3 : zeroB Try.prog 3 = some (some (.int .i64 0)) := by kernel_rfl
theorem ze29 : zeroB Try.prog 29 = some (some (.agg #[.slice none 0 0, .slice none 0 0, .slice none 0 0, .slice none 0 0])) := by kernel_rfl
theorem ze33 : zeroB Try.prog 33 = some (some (.agg #[.int .i64 0, .slice none 0 0, .bool false, .int .i64 0, .slice none 0 0, .bool false, .int .i64 0, .int .i64 0, .slice none 0 0, .slice none 0 0])) := by kernel_rfl
theorem ze41 : zeroB Try.prog 41 = some (some (.agg #[.int .i64 0, .int .i64 0, .int .i64 0])) := by kernel_rfl
theorem ze70 : zeroB Try.prog 70 = some (some (.agg #[.int .i64 0, .int .i64 0, .int .i64 0, .slice none 0 0])) := by kernel_rfl
theorem ze88 : zeroB Try.prog 88 = some (some (.agg #[.int .i64 0, .int .i64 0, .int .i64 0, .int .i64 0, .int .i64 0])) := by kernel_rfl
theorem ze94 : zeroB Try.prog 94 = some (some (.agg #[.int .i64 0, .slice none 0 0])) := by kernel_rfl
theorem icl (xs : List Int) (hx : xs.length ≤ 4000000) : FnP Try.prog 51 [slP ip 1 xs] (slP ip 1 xs) := by
  refine fn_pure' Try.func51 rfl Try.ntmps51 rfl ?_
  intro σ0 M ex Rf R hC hO
  simp only [frameOf, tokOf]
  refine tr_seq ?_
  refine tr_region (fun N0 hN => ?_)
  refine lx (op_assign rfl) rfl ?_
  refine lx_end ⟨by kernel_rfl, ?_⟩
  refine pe_then_normal ?_
  refine tr_sub hC (.cons (t := 0) rfl .nil) .nil rfl ?_
  refine tr_seq ?_
  refine tr_seq ?_
  refine tr_region (fun N1 hN => ?_)
  refine lx (op_move rfl) rfl ?_
  refine lx (op_eqnil rfl el27) rfl ?_
  refine lx_end ⟨by kernel_rfl, ?_⟩
  refine pe_then_normal ?_
  refine tr_sub hC (.cons (t := 0) rfl (.cons (t := 4) rfl .nil)) .nil rfl ?_
  refine tr_cond_b rfl (fun h4 => ?_) (fun h4 => ?_)
  · (try simp only [Bool.and_eq_true, Bool.or_eq_true, Bool.and_eq_false_iff, Bool.or_eq_false_iff, decide_eq_true_eq, decide_eq_false_iff_not, Bool.not_eq_true', Bool.not_eq_false', List.length_map, ne_eq, Decidable.not_not, Int.not_lt, Int.not_le] at h4)
    have hxs : xs = [] := by first | exact h4 rfl | exact h4 trivial
    subst hxs
    refine tr_seq ?_
    refine tr_region (fun N2 hN => ?_)
    refine lx (op_assign rfl) rfl ?_
    refine lx_end ⟨by kernel_rfl, ?_⟩
    refine pe_then_normal ?_
    refine tr_sub hC (.cons (t := 2) rfl .nil) .nil rfl ?_
    refine tr_ret ?_
    refine pe_then_ret ?_
    refine pe_ret1 rfl hO rfl (.tmp rfl .nil) ?_
    repeat (first | exact Ents.nil | refine Ents.cons ?_ ?_ | refine Ent.tup ?_ | refine Ent.agg ?_ | exact Ent.row _ _ _ _ | exact Ent.nil _ _ | exact Ent.func _ | exact Ent.refl _ | exact Ent.of_eq rfl | refine Ent.cells ?_)
  · (try simp only [Bool.and_eq_true, Bool.or_eq_true, Bool.and_eq_false_iff, Bool.or_eq_false_iff, decide_eq_true_eq, decide_eq_false_iff_not, Bool.not_eq_true', Bool.not_eq_false', List.length_map, ne_eq, Decidable.not_not, Int.not_lt, Int.not_le] at h4)
    refine tr_skip ?_
    refine pe_then_normal ?_
    refine tr_sub hC (.cons (t := 0) rfl .nil) .nil rfl ?_
    refine tr_seq ?_
    refine tr_region (fun N3 hN => ?_)
    refine lxn (op_buildEmpty (m' := 5) (kk := 5) (f := ip) el27 sz3 (by first | exact hC.low _ (by decide) | rfl)) rfl ?_
    refine lx (op_move rfl) rfl ?_
    refine lxr (op_append (m := 5) (m' := 7) (kk := 7) rfl rfl rfl (.inr (by first | exact hC.low _ (by decide) | rfl)) el27 ze3 sz3 by3 rfl ip_len (by simp; omega) (by simp; omega)) rfl ?_
    refine lx (op_assign rfl) rfl ?_
    refine lx_end ⟨by kernel_rfl, ?_⟩
    refine pe_then_normal ?_
    refine tr_sub hC (.cons (t := 2) rfl .nil) (.cons (t := 7) rfl .nil) rfl ?_
    refine tr_ret ?_
    refine pe_ret1 rfl hO rfl (.tmp rfl .nil) ?_
    repeat (first | exact Ents.nil | refine Ents.cons ?_ ?_ | refine Ent.tup ?_ | refine Ent.agg ?_ | exact Ent.row _ _ _ _ | exact Ent.nil _ _ | exact Ent.func _ | exact Ent.refl _ | exact Ent.of_eq rfl | refine Ent.cells ?_)
theorem vcl (xs : List V) (hx : xs.length ≤ 4000000) : FnP Try.prog 53 [slP vp 3 xs] (slP vp 3 xs) := by
  refine fn_pure' Try.func53 rfl Try.ntmps53 rfl ?_
  intro σ0 M ex Rf R hC hO
  simp only [frameOf, tokOf]
  refine tr_seq ?_
  refine tr_region (fun N0 hN => ?_)
  refine lx (op_assign rfl) rfl ?_
  refine lx_end ⟨by kernel_rfl, ?_⟩
  refine pe_then_normal ?_
  refine tr_sub hC (.cons (t := 0) rfl .nil) .nil rfl ?_
  refine tr_seq ?_
  refine tr_seq ?_
  refine tr_region (fun N1 hN => ?_)
  refine lx (op_move rfl) rfl ?_
  refine lx (op_eqnil rfl el30) rfl ?_
  refine lx_end ⟨by kernel_rfl, ?_⟩
  refine pe_then_normal ?_
  refine tr_sub hC (.cons (t := 0) rfl (.cons (t := 4) rfl .nil)) .nil rfl ?_
  refine tr_cond_b rfl (fun h4 => ?_) (fun h4 => ?_)
  · (try simp only [Bool.and_eq_true, Bool.or_eq_true, Bool.and_eq_false_iff, Bool.or_eq_false_iff, decide_eq_true_eq, decide_eq_false_iff_not, Bool.not_eq_true', Bool.not_eq_false', List.length_map, ne_eq, Decidable.not_not, Int.not_lt, Int.not_le] at h4)
    have hxs : xs = [] := by first | exact h4 rfl | exact h4 trivial
    subst hxs
    refine tr_seq ?_
    refine tr_region (fun N2 hN => ?_)
    refine lx (op_assign rfl) rfl ?_
    refine lx_end ⟨by kernel_rfl, ?_⟩
    refine pe_then_normal ?_
    refine tr_sub hC (.cons (t := 2) rfl .nil) .nil rfl ?_
    refine tr_ret ?_
    refine pe_then_ret ?_
    refine pe_ret1 rfl hO rfl (.tmp rfl .nil) ?_
    repeat (first | exact Ents.nil | refine Ents.cons ?_ ?_ | refine Ent.tup ?_ | refine Ent.agg ?_ | exact Ent.row _ _ _ _ | exact Ent.nil _ _ | exact Ent.func _ | exact Ent.refl _ | exact Ent.of_eq rfl | refine Ent.cells ?_)
  · (try simp only [Bool.and_eq_true, Bool.or_eq_true, Bool.and_eq_false_iff, Bool.or_eq_false_iff, decide_eq_true_eq, decide_eq_false_iff_not, Bool.not_eq_true', Bool.not_eq_false', List.length_map, ne_eq, Decidable.not_not, Int.not_lt, Int.not_le] at h4)
    refine tr_skip ?_
    refine pe_then_normal ?_
    refine tr_sub hC (.cons (t := 0) rfl .nil) .nil rfl ?_
    refine tr_seq ?_
    refine tr_region (fun N3 hN => ?_)
    refine lxn (op_buildEmpty (m' := 5) (kk := 5) (f := vp) el30 sz41 (by first | exact hC.low _ (by decide) | rfl)) rfl ?_
    refine lx (op_move rfl) rfl ?_
    refine lxr (op_append (m := 5) (m' := 7) (kk := 7) rfl rfl rfl (.inr (by first | exact hC.low _ (by decide) | rfl)) el30 ze41 sz41 by41 rfl vp_len (by simp; omega) (by simp; omega)) rfl ?_
    refine lx (op_assign rfl) rfl ?_
    refine lx_end ⟨by kernel_rfl, ?_⟩
    refine pe_then_normal ?_
    refine tr_sub hC (.cons (t := 2) rfl .nil) (.cons (t := 7) rfl .nil) rfl ?_
    refine tr_ret ?_
    refine pe_ret1 rfl hO rfl (.tmp rfl .nil) ?_
    repeat (first | exact Ents.nil | refine Ents.cons ?_ ?_ | refine Ent.tup ?_ | refine Ent.agg ?_ | exact Ent.row _ _ _ _ | exact Ent.nil _ _ | exact Ent.func _ | exact Ent.refl _ | exact Ent.of_eq rfl | refine Ent.cells ?_)
theorem wcl (xs : List Wt) (hx : xs.length ≤ 4000000) : FnP Try.prog 58 [slP wp 5 xs] (slP wp 5 xs) := by
  refine fn_pure' Try.func58 rfl Try.ntmps58 rfl ?_
  intro σ0 M ex Rf R hC hO
  simp only [frameOf, tokOf]
  refine tr_seq ?_
  refine tr_region (fun N0 hN => ?_)
  refine lx (op_assign rfl) rfl ?_
  refine lx_end ⟨by kernel_rfl, ?_⟩
  refine pe_then_normal ?_
  refine tr_sub hC (.cons (t := 0) rfl .nil) .nil rfl ?_
  refine tr_seq ?_
  refine tr_seq ?_
  refine tr_region (fun N1 hN => ?_)
  refine lx (op_move rfl) rfl ?_
  refine lx (op_eqnil rfl el31) rfl ?_
  refine lx_end ⟨by kernel_rfl, ?_⟩
  refine pe_then_normal ?_
  refine tr_sub hC (.cons (t := 0) rfl (.cons (t := 4) rfl .nil)) .nil rfl ?_
  refine tr_cond_b rfl (fun h4 => ?_) (fun h4 => ?_)
  · (try simp only [Bool.and_eq_true, Bool.or_eq_true, Bool.and_eq_false_iff, Bool.or_eq_false_iff, decide_eq_true_eq, decide_eq_false_iff_not, Bool.not_eq_true', Bool.not_eq_false', List.length_map, ne_eq, Decidable.not_not, Int.not_lt, Int.not_le] at h4)
    have hxs : xs = [] := by first | exact h4 rfl | exact h4 trivial
    subst hxs
    refine tr_seq ?_
    refine tr_region (fun N2 hN => ?_)
    refine lx (op_assign rfl) rfl ?_
    refine lx_end ⟨by kernel_rfl, ?_⟩
    refine pe_then_normal ?_
    refine tr_sub hC (.cons (t := 2) rfl .nil) .nil rfl ?_
    refine tr_ret ?_
    refine pe_then_ret ?_
    refine pe_ret1 rfl hO rfl (.tmp rfl .nil) ?_
    repeat (first | exact Ents.nil | refine Ents.cons ?_ ?_ | refine Ent.tup ?_ | refine Ent.agg ?_ | exact Ent.row _ _ _ _ | exact Ent.nil _ _ | exact Ent.func _ | exact Ent.refl _ | exact Ent.of_eq rfl | refine Ent.cells ?_)
  · (try simp only [Bool.and_eq_true, Bool.or_eq_true, Bool.and_eq_false_iff, Bool.or_eq_false_iff, decide_eq_true_eq, decide_eq_false_iff_not, Bool.not_eq_true', Bool.not_eq_false', List.length_map, ne_eq, Decidable.not_not, Int.not_lt, Int.not_le] at h4)
    refine tr_skip ?_
    refine pe_then_normal ?_
    refine tr_sub hC (.cons (t := 0) rfl .nil) .nil rfl ?_
    refine tr_seq ?_
    refine tr_region (fun N3 hN => ?_)
    refine lxn (op_buildEmpty (m' := 5) (kk := 5) (f := wp) el31 sz88 (by first | exact hC.low _ (by decide) | rfl)) rfl ?_
    refine lx (op_move rfl) rfl ?_
    refine lxr (op_append (m := 5) (m' := 7) (kk := 7) rfl rfl rfl (.inr (by first | exact hC.low _ (by decide) | rfl)) el31 ze88 sz88 by88 rfl wp_len (by simp; omega) (by simp; omega)) rfl ?_
    refine lx (op_assign rfl) rfl ?_
    refine lx_end ⟨by kernel_rfl, ?_⟩
    refine pe_then_normal ?_
    refine tr_sub hC (.cons (t := 2) rfl .nil) (.cons (t := 7) rfl .nil) rfl ?_
    refine tr_ret ?_
    refine pe_ret1 rfl hO rfl (.tmp rfl .nil) ?_
    repeat (first | exact Ents.nil | refine Ents.cons ?_ ?_ | refine Ent.tup ?_ | refine Ent.agg ?_ | exact Ent.row _ _ _ _ | exact Ent.nil _ _ | exact Ent.func _ | exact Ent.refl _ | exact Ent.of_eq rfl | refine Ent.cells ?_)
theorem own_ok (o : Ob) (hs : BdO 4000000 o) : FnP Try.prog 42 [aggP o.ps] (aggP o.ps) := by
  refine fn_pure' Try.func42 rfl Try.ntmps42 rfl ?_
  intro σ0 M ex Rf R hC hO
  simp only [frameOf, tokOf]
  refine tr_seq ?_
  refine tr_region (fun N0 hN => ?_)
  refine lxn (op_box (m := 1) (k := 1) rfl (.agg rfl) (by first | exact hC.low _ (by decide) | rfl)) rfl ?_
  refine lxn (op_alloc (m := 2) (k := 2) (ps := [eqP (.int .i64 0), eqP (.slice none 0 0), eqP (.bool false), eqP (.int .i64 0), eqP (.slice none 0 0), eqP (.bool false), eqP (.int .i64 0), eqP (.int .i64 0), eqP (.slice none 0 0), eqP (.slice none 0 0)]) ze33 rfl rfl (by first | exact hC.low _ (by decide) | rfl)) rfl ?_
  refine lx_end ⟨by kernel_rfl, ?_⟩
  refine pe_then_normal ?_
  refine tr_sub hC (.cons (t := 1) rfl (.cons (t := 2) rfl .nil)) (.cons (t := 1) rfl (.cons (t := 2) rfl .nil)) rfl ?_
  refine tr_seq ?_
  refine tr_region (fun N1 hN => ?_)
  refine lx (op_fieldAddr rfl fl33_1 sz30) rfl ?_
  refine lx (op_bload_one (m := 1) rfl rfl ag30 rfl) rfl ?_
  first | refine lx (op_call (l := [(Go.Operand.tmp 4)]) (vcl o.cells hs.cells) (.cons rfl .nil) fn53) rfl ?_ | refine lx (op_call (l := [(Go.Operand.tmp 4)]) (vcl o.cells hs.cells) (.ent rfl (by repeat (first | exact Ents.nil | refine Ents.cons ?_ ?_ | refine Ent.tup ?_ | refine Ent.agg ?_ | exact Ent.row _ _ _ _ | exact Ent.nil _ _ | exact Ent.func _ | exact Ent.refl _ | exact Ent.of_eq rfl | refine Ent.cells ?_)) .nil) fn53) rfl ?_
  refine lx (op_fieldAddr rfl fl33_1 sz30) rfl ?_
  refine lxr (op_store (m := 1) (rs := [_, _, _, _, _, _, _, _, _, _]) rfl rfl rfl (.one (by (first | exact One.eq rfl | exact One.mv _ _ _ _ _ | exact One.cl _ _ _ | exact One.map _ | exact One.sl _ _ _ | exact One.row _ _ _ _ | exact One.msl _ _ _ _ | exact One.ptr _ _ | exact One.b _ | exact One.cells _))) sz30 rfl rfl rfl) rfl ?_
  refine lx_end ⟨by kernel_rfl, ?_⟩
  refine pe_then_normal ?_
  refine tr_sub hC (.cons (t := 1) rfl (.cons (t := 2) rfl .nil)) (.cons (t := 1) rfl (.cons (t := 2) rfl .nil)) rfl ?_
  refine tr_seq ?_
  refine tr_region (fun N2 hN => ?_)
  refine lx (op_fieldAddr rfl fl33_4 sz30) rfl ?_
  refine lx (op_bload_one (m := 1) rfl rfl ag30 rfl) rfl ?_
  first | refine lx (op_call (l := [(Go.Operand.tmp 8)]) (vcl o.queue hs.queue) (.cons rfl .nil) fn53) rfl ?_ | refine lx (op_call (l := [(Go.Operand.tmp 8)]) (vcl o.queue hs.queue) (.ent rfl (by repeat (first | exact Ents.nil | refine Ents.cons ?_ ?_ | refine Ent.tup ?_ | refine Ent.agg ?_ | exact Ent.row _ _ _ _ | exact Ent.nil _ _ | exact Ent.func _ | exact Ent.refl _ | exact Ent.of_eq rfl | refine Ent.cells ?_)) .nil) fn53) rfl ?_
  refine lx (op_fieldAddr rfl fl33_4 sz30) rfl ?_
  refine lxr (op_store (m := 1) (rs := [_, _, _, _, _, _, _, _, _, _]) rfl rfl rfl (.one (by (first | exact One.eq rfl | exact One.mv _ _ _ _ _ | exact One.cl _ _ _ | exact One.map _ | exact One.sl _ _ _ | exact One.row _ _ _ _ | exact One.msl _ _ _ _ | exact One.ptr _ _ | exact One.b _ | exact One.cells _))) sz30 rfl rfl rfl) rfl ?_
  refine lx_end ⟨by kernel_rfl, ?_⟩
  refine pe_then_normal ?_
  refine tr_sub hC (.cons (t := 1) rfl (.cons (t := 2) rfl .nil)) (.cons (t := 1) rfl (.cons (t := 2) rfl .nil)) rfl ?_
  refine tr_seq ?_
  refine tr_region (fun N3 hN => ?_)
  refine lx (op_fieldAddr rfl fl33_8 sz31) rfl ?_
  refine lx (op_bload_one (m := 1) rfl rfl ag31 rfl) rfl ?_
  first | refine lx (op_call (l := [(Go.Operand.tmp 12)]) (wcl o.senders hs.senders) (.cons rfl .nil) fn58) rfl ?_ | refine lx (op_call (l := [(Go.Operand.tmp 12)]) (wcl o.senders hs.senders) (.ent rfl (by repeat (first | exact Ents.nil | refine Ents.cons ?_ ?_ | refine Ent.tup ?_ | refine Ent.agg ?_ | exact Ent.row _ _ _ _ | exact Ent.nil _ _ | exact Ent.func _ | exact Ent.refl _ | exact Ent.of_eq rfl | refine Ent.cells ?_)) .nil) fn58) rfl ?_
  refine lx (op_fieldAddr rfl fl33_8 sz31) rfl ?_
  refine lxr (op_store (m := 1) (rs := [_, _, _, _, _, _, _, _, _, _]) rfl rfl rfl (.one (by (first | exact One.eq rfl | exact One.mv _ _ _ _ _ | exact One.cl _ _ _ | exact One.map _ | exact One.sl _ _ _ | exact One.row _ _ _ _ | exact One.msl _ _ _ _ | exact One.ptr _ _ | exact One.b _ | exact One.cells _))) sz31 rfl rfl rfl) rfl ?_
  refine lx_end ⟨by kernel_rfl, ?_⟩
  refine pe_then_normal ?_
  refine tr_sub hC (.cons (t := 1) rfl (.cons (t := 2) rfl .nil)) (.cons (t := 1) rfl (.cons (t := 2) rfl .nil)) rfl ?_
  refine tr_seq ?_
  refine tr_region (fun N4 hN => ?_)
  refine lx (op_fieldAddr rfl fl33_9 sz31) rfl ?_
  refine lx (op_bload_one (m := 1) rfl rfl ag31 rfl) rfl ?_
  first | refine lx (op_call (l := [(Go.Operand.tmp 16)]) (wcl o.receivers hs.receivers) (.cons rfl .nil) fn58) rfl ?_ | refine lx (op_call (l := [(Go.Operand.tmp 16)]) (wcl o.receivers hs.receivers) (.ent rfl (by repeat (first | exact Ents.nil | refine Ents.cons ?_ ?_ | refine Ent.tup ?_ | refine Ent.agg ?_ | exact Ent.row _ _ _ _ | exact Ent.nil _ _ | exact Ent.func _ | exact Ent.refl _ | exact Ent.of_eq rfl | refine Ent.cells ?_)) .nil) fn58) rfl ?_
  refine lx (op_fieldAddr rfl fl33_9 sz31) rfl ?_
  refine lxr (op_store (m := 1) (rs := [_, _, _, _, _, _, _, _, _, _]) rfl rfl rfl (.one (by (first | exact One.eq rfl | exact One.mv _ _ _ _ _ | exact One.cl _ _ _ | exact One.map _ | exact One.sl _ _ _ | exact One.row _ _ _ _ | exact One.msl _ _ _ _ | exact One.ptr _ _ | exact One.b _ | exact One.cells _))) sz31 rfl rfl rfl) rfl ?_
  refine lx_end ⟨by kernel_rfl, ?_⟩
  refine pe_then_normal ?_
  refine tr_sub hC (.cons (t := 1) rfl (.cons (t := 2) rfl .nil)) (.cons (t := 1) rfl (.cons (t := 2) rfl .nil)) rfl ?_
  refine tr_seq ?_
  refine tr_region (fun N5 hN => ?_)
  refine lx (op_bload (m := 1) rfl rfl ag33 sz33) rfl ?_
  refine lxr (op_store_all (m := 2) rfl rfl rfl (.agg rfl) sz33 rfl) rfl ?_
  refine lx_end ⟨by kernel_rfl, ?_⟩
  refine pe_then_normal ?_
  refine tr_sub hC (.cons (t := 2) rfl .nil) (.cons (t := 2) rfl .nil) rfl ?_
  refine tr_ret ?_
  refine pe_ret1 rfl hO rfl (.cell (m := 2) rfl rfl ag33 sz33 .nil) ?_
  repeat (first | exact Ents.nil | refine Ents.cons ?_ ?_ | refine Ent.tup ?_ | refine Ent.agg ?_ | exact Ent.row _ _ _ _ | exact Ent.nil _ _ | exact Ent.func _ | exact Ent.refl _ | exact Ent.of_eq rfl | refine Ent.cells ?_)
theorem copyO_ok (o : Ob) (hs : BdO 4000000 o) : FnP Try.prog 28 [aggP o.ps] (aggP o.ps) := by
  refine fn_pure' Try.func28 rfl Try.ntmps28 rfl ?_
  intro σ0 M ex Rf R hC hO
  simp only [frameOf, tokOf]
  refine tr_seq ?_
  refine tr_region (fun N0 hN => ?_)
  refine lxn (op_box (m := 1) (k := 1) rfl (.agg rfl) (by first | exact hC.low _ (by decide) | rfl)) rfl ?_
  refine lxn (op_alloc (m := 2) (k := 2) (ps := [eqP (.int .i64 0), eqP (.slice none 0 0), eqP (.bool false), eqP (.int .i64 0), eqP (.slice none 0 0), eqP (.bool false), eqP (.int .i64 0), eqP (.int .i64 0), eqP (.slice none 0 0), eqP (.slice none 0 0)]) ze33 rfl rfl (by first | exact hC.low _ (by decide) | rfl)) rfl ?_
  refine lx_end ⟨by kernel_rfl, ?_⟩
  refine pe_then_normal ?_
  refine tr_sub hC (.cons (t := 1) rfl (.cons (t := 2) rfl .nil)) (.cons (t := 1) rfl (.cons (t := 2) rfl .nil)) rfl ?_
  refine tr_seq ?_
  refine tr_region (fun N1 hN => ?_)
  refine lxn (op_buildEmpty (m' := 3) (kk := 3) (f := vp) el30 sz41 (by first | exact hC.low _ (by decide) | rfl)) rfl ?_
  refine lx (op_fieldAddr rfl fl33_1 sz30) rfl ?_
  refine lx (op_bload_one (m := 1) rfl rfl ag30 rfl) rfl ?_
  refine lxr (op_append (m := 3) (m' := 6) (kk := 6) rfl rfl rfl (.inr (by first | exact hC.low _ (by decide) | rfl)) el30 ze41 sz41 by41 rfl vp_len (by have := hs.cells; simp; omega) (by have := hs.cells; simp; omega)) rfl ?_
  refine lx (op_fieldAddr rfl fl33_1 sz30) rfl ?_
  refine lxr (op_store (m := 1) (rs := [_, _, _, _, _, _, _, _, _, _]) rfl rfl rfl (.one (by (first | exact One.eq rfl | exact One.mv _ _ _ _ _ | exact One.cl _ _ _ | exact One.map _ | exact One.sl _ _ _ | exact One.row _ _ _ _ | exact One.msl _ _ _ _ | exact One.ptr _ _ | exact One.b _ | exact One.cells _))) sz30 rfl rfl rfl) rfl ?_
  refine lx_end ⟨by kernel_rfl, ?_⟩
  refine pe_then_normal ?_
  refine tr_sub hC (.cons (t := 1) rfl (.cons (t := 2) rfl .nil)) (.cons (t := 1) rfl (.cons (t := 2) rfl .nil)) rfl ?_
  refine tr_seq ?_
  refine tr_region (fun N2 hN => ?_)
  refine lxn (op_buildEmpty (m' := 8) (kk := 8) (f := vp) el30 sz41 (by first | exact hC.low _ (by decide) | rfl)) rfl ?_
  refine lx (op_fieldAddr rfl fl33_4 sz30) rfl ?_
  refine lx (op_bload_one (m := 1) rfl rfl ag30 rfl) rfl ?_
  refine lxr (op_append (m := 8) (m' := 11) (kk := 11) rfl rfl rfl (.inr (by first | exact hC.low _ (by decide) | rfl)) el30 ze41 sz41 by41 rfl vp_len (by have := hs.queue; simp; omega) (by have := hs.queue; simp; omega)) rfl ?_
  refine lx (op_fieldAddr rfl fl33_4 sz30) rfl ?_
  refine lxr (op_store (m := 1) (rs := [_, _, _, _, _, _, _, _, _, _]) rfl rfl rfl (.one (by (first | exact One.eq rfl | exact One.mv _ _ _ _ _ | exact One.cl _ _ _ | exact One.map _ | exact One.sl _ _ _ | exact One.row _ _ _ _ | exact One.msl _ _ _ _ | exact One.ptr _ _ | exact One.b _ | exact One.cells _))) sz30 rfl rfl rfl) rfl ?_
  refine lx_end ⟨by kernel_rfl, ?_⟩
  refine pe_then_normal ?_
  refine tr_sub hC (.cons (t := 1) rfl (.cons (t := 2) rfl .nil)) (.cons (t := 1) rfl (.cons (t := 2) rfl .nil)) rfl ?_
  refine tr_seq ?_
  refine tr_region (fun N3 hN => ?_)
  refine lxn (op_buildEmpty (m' := 13) (kk := 13) (f := wp) el31 sz88 (by first | exact hC.low _ (by decide) | rfl)) rfl ?_
  refine lx (op_fieldAddr rfl fl33_8 sz31) rfl ?_
  refine lx (op_bload_one (m := 1) rfl rfl ag31 rfl) rfl ?_
  refine lxr (op_append (m := 13) (m' := 16) (kk := 16) rfl rfl rfl (.inr (by first | exact hC.low _ (by decide) | rfl)) el31 ze88 sz88 by88 rfl wp_len (by have := hs.senders; simp; omega) (by have := hs.senders; simp; omega)) rfl ?_
  refine lx (op_fieldAddr rfl fl33_8 sz31) rfl ?_
  refine lxr (op_store (m := 1) (rs := [_, _, _, _, _, _, _, _, _, _]) rfl rfl rfl (.one (by (first | exact One.eq rfl | exact One.mv _ _ _ _ _ | exact One.cl _ _ _ | exact One.map _ | exact One.sl _ _ _ | exact One.row _ _ _ _ | exact One.msl _ _ _ _ | exact One.ptr _ _ | exact One.b _ | exact One.cells _))) sz31 rfl rfl rfl) rfl ?_
  refine lx_end ⟨by kernel_rfl, ?_⟩
  refine pe_then_normal ?_
  refine tr_sub hC (.cons (t := 1) rfl (.cons (t := 2) rfl .nil)) (.cons (t := 1) rfl (.cons (t := 2) rfl .nil)) rfl ?_
  refine tr_seq ?_
  refine tr_region (fun N4 hN => ?_)
  refine lxn (op_buildEmpty (m' := 18) (kk := 18) (f := wp) el31 sz88 (by first | exact hC.low _ (by decide) | rfl)) rfl ?_
  refine lx (op_fieldAddr rfl fl33_9 sz31) rfl ?_
  refine lx (op_bload_one (m := 1) rfl rfl ag31 rfl) rfl ?_
  refine lxr (op_append (m := 18) (m' := 21) (kk := 21) rfl rfl rfl (.inr (by first | exact hC.low _ (by decide) | rfl)) el31 ze88 sz88 by88 rfl wp_len (by have := hs.receivers; simp; omega) (by have := hs.receivers; simp; omega)) rfl ?_
  refine lx (op_fieldAddr rfl fl33_9 sz31) rfl ?_
  refine lxr (op_store (m := 1) (rs := [_, _, _, _, _, _, _, _, _, _]) rfl rfl rfl (.one (by (first | exact One.eq rfl | exact One.mv _ _ _ _ _ | exact One.cl _ _ _ | exact One.map _ | exact One.sl _ _ _ | exact One.row _ _ _ _ | exact One.msl _ _ _ _ | exact One.ptr _ _ | exact One.b _ | exact One.cells _))) sz31 rfl rfl rfl) rfl ?_
  refine lx_end ⟨by kernel_rfl, ?_⟩
  refine pe_then_normal ?_
  refine tr_sub hC (.cons (t := 1) rfl (.cons (t := 2) rfl .nil)) (.cons (t := 1) rfl (.cons (t := 2) rfl .nil)) rfl ?_
  refine tr_seq ?_
  refine tr_region (fun N5 hN => ?_)
  refine lx (op_bload (m := 1) rfl rfl ag33 sz33) rfl ?_
  refine lxr (op_store_all (m := 2) rfl rfl rfl (.agg rfl) sz33 rfl) rfl ?_
  refine lx_end ⟨by kernel_rfl, ?_⟩
  refine pe_then_normal ?_
  refine tr_sub hC (.cons (t := 2) rfl .nil) (.cons (t := 2) rfl .nil) rfl ?_
  refine tr_ret ?_
  refine pe_ret1 rfl hO rfl (.cell (m := 2) rfl rfl ag33 sz33 .nil) ?_
  repeat (first | exact Ents.nil | refine Ents.cons ?_ ?_ | refine Ent.tup ?_ | refine Ent.agg ?_ | exact Ent.row _ _ _ _ | exact Ent.nil _ _ | exact Ent.func _ | exact Ent.refl _ | exact Ent.of_eq rfl | refine Ent.cells ?_)
theorem copyG_ok (g : Gr) (hb : BdG 4000000 g) : FnP Try.prog 33 [aggP g.ps] (aggP g.ps) := by
  refine fn_pure' Try.func33 rfl Try.ntmps33 rfl ?_
  intro σ0 M ex Rf R hC hO
  simp only [frameOf, tokOf]
  refine tr_seq ?_
  refine tr_region (fun N0 hN => ?_)
  refine lxn (op_box (m := 1) (k := 1) rfl (.agg rfl) (by first | exact hC.low _ (by decide) | rfl)) rfl ?_
  refine lxn (op_alloc (m := 2) (k := 2) (ps := [eqP (.int .i64 0), eqP (.int .i64 0), eqP (.int .i64 0), eqP (.slice none 0 0)]) ze70 rfl rfl (by first | exact hC.low _ (by decide) | rfl)) rfl ?_
  refine lx_end ⟨by kernel_rfl, ?_⟩
  refine pe_then_normal ?_
  refine tr_sub hC (.cons (t := 1) rfl (.cons (t := 2) rfl .nil)) (.cons (t := 1) rfl (.cons (t := 2) rfl .nil)) rfl ?_
  refine tr_seq ?_
  refine tr_region (fun N1 hN => ?_)
  refine lx (op_assign rfl) rfl ?_
  refine lx_end ⟨by kernel_rfl, ?_⟩
  refine pe_then_normal ?_
  refine tr_sub hC (.cons (t := 1) rfl (.cons (t := 2) rfl (.cons (t := 3) rfl .nil))) (.cons (t := 1) rfl (.cons (t := 2) rfl .nil)) rfl ?_
  refine tr_seq ?_
  refine tr_seq ?_
  refine tr_region (fun N2 hN => ?_)
  refine lx (op_assign rfl) rfl ?_
  refine lx_end ⟨by kernel_rfl, ?_⟩
  refine pe_then_normal ?_
  refine tr_sub hC (.cons (t := 1) rfl (.cons (t := 2) rfl (.cons (t := 3) rfl (.cons (t := 4) rfl .nil)))) (.cons (t := 1) rfl (.cons (t := 2) rfl .nil)) rfl ?_
  refine tr_block ?_
  refine tr_nilrow Fm.ps 9 92 3 600 rfl (by first | exact hC.low _ (by decide) | rfl) (fun idN => ?_)
  refine tr_loopK (α := {zz : Nat × (List Fm) × AL.Id // zz.1 ≤ g.frames.length ∧ zz.2.1 = g.frames.take zz.1}) (⟨(0, [], idN), Nat.zero_le _, rfl⟩) (fun zz => [(3, rowP zz.1.2.2 Fm.ps 9 zz.1.2.1), (4, eqP (.int .i64 (zz.1.1 : Int)))]) (fun zz => [(600, some (zz.1.2.2, tail 92 9 (zz.1.2.1.length * 9)))]) (fun zz => g.frames.length - zz.1.1) hC (.cons (t := 1) rfl (.cons (t := 2) rfl .nil)) (.cons (t := 1) rfl (.cons (t := 2) rfl .nil)) rfl ?_ ?_ (fun zz => ?_)
  · try dsimp only [List.cons_append, List.nil_append]
    first | refine SubF.cons rfl ?_ | (refine SubF.ent rfl ?_ ?_; · repeat (first | exact Ents.nil | refine Ents.cons ?_ ?_ | refine Ent.tup ?_ | refine Ent.agg ?_ | exact Ent.row _ _ _ _ | exact Ent.nil _ _ | exact Ent.func _ | exact Ent.refl _ | exact Ent.of_eq rfl | refine Ent.cells ?_))
    first | refine SubF.cons rfl ?_ | (refine SubF.ent rfl ?_ ?_; · repeat (first | exact Ents.nil | refine Ents.cons ?_ ?_ | refine Ent.tup ?_ | refine Ent.agg ?_ | exact Ent.row _ _ _ _ | exact Ent.nil _ _ | exact Ent.func _ | exact Ent.refl _ | exact Ent.of_eq rfl | refine Ent.cells ?_))
    exact SubF.nil
  · try dsimp only [List.cons_append, List.nil_append]
    repeat (first | exact SubL.nil | refine SubL.cons rfl ?_)
  · obtain ⟨⟨k, fs, i⟩, hk1, hfs⟩ := zz
    try dsimp only at hk1
    try dsimp only at hfs
    dsimp only [List.cons_append, List.nil_append]
    refine tr_seq ?_
    refine tr_seq ?_
    refine tr_region (fun N3 hN => ?_)
    refine lx (op_move rfl) rfl ?_
    refine lx (op_fieldAddr rfl fl70_3 sz68) rfl ?_
    refine lx (op_bload_one (m := 1) rfl rfl ag68 rfl) rfl ?_
    first | refine lx (op_len rfl el68) rfl ?_ | refine lx (op_len_row rfl el68) rfl ?_ | refine lx (op_len_mv rfl el68) rfl ?_ | refine lx (op_len_nil rfl el68) rfl ?_
    refine lx (op_lss rfl rfl) rfl ?_
    refine lx_end ⟨by kernel_rfl, ?_⟩
    refine pe_then_normal ?_
    refine tr_sub hC (.cons (t := 1) rfl (.cons (t := 2) rfl (.cons (t := 3) rfl (.cons (t := 4) rfl (.cons (t := 12) rfl .nil))))) (.cons (t := 600) rfl (.cons (t := 1) rfl (.cons (t := 2) rfl .nil))) rfl ?_
    refine tr_cond rfl (fun h12 => ?_) (fun h12 => ?_)
    · (try simp only [Bool.and_eq_true, Bool.or_eq_true, Bool.and_eq_false_iff, Bool.or_eq_false_iff, decide_eq_true_eq, decide_eq_false_iff_not, Bool.not_eq_true', Bool.not_eq_false', List.length_map, ne_eq, Decidable.not_not, Int.not_lt, Int.not_le] at h12)
      have hbk := hb.each _ (List.getElem_mem (by omega : k < g.frames.length))
      have hbr := hbk.regs
      have hbd := hbk.defers
      have hfl : fs.length ≤ k := by rw [hfs, List.length_take]; omega
      have hbf := hb.frames
      refine tr_skip ?_
      refine pe_then_normal ?_
      refine tr_sub hC (.cons (t := 1) rfl (.cons (t := 2) rfl (.cons (t := 3) rfl (.cons (t := 4) rfl .nil)))) (.cons (t := 600) rfl (.cons (t := 1) rfl (.cons (t := 2) rfl .nil))) rfl ?_
      refine tr_seq ?_
      refine tr_block ?_
      refine tr_seq ?_
      refine tr_region (fun N5 hN => ?_)
      refine lx (op_fieldAddr rfl fl70_3 sz68) rfl ?_
      refine lx (op_bload_one (m := 1) rfl rfl ag68 rfl) rfl ?_
      refine lx (op_move rfl) rfl ?_
      refine lx (op_index rfl rfl el68 sz92 rfl (List.getElem?_eq_getElem (by omega : k < g.frames.length))) rfl ?_
      first | refine lx (op_load_all rfl ag92 sz92) rfl ?_ | refine lx (op_load_agg rfl ag92 sz92 rfl) rfl ?_ | refine lx (op_bload (m := 600) rfl rfl ag92 sz92) rfl ?_ | refine lx (op_bload (m := 1) rfl rfl ag92 sz92) rfl ?_ | refine lx (op_bload (m := 2) rfl rfl ag92 sz92) rfl ?_ | refine lx (op_bload_part (m := 600) (qs := [_, _, _, _, _, _, _, _, _]) rfl rfl ag92 sz92 rfl rfl) rfl ?_ | refine lx (op_bload_part (m := 1) (qs := [_, _, _, _, _, _, _, _, _]) rfl rfl ag92 sz92 rfl rfl) rfl ?_ | refine lx (op_bload_part (m := 2) (qs := [_, _, _, _, _, _, _, _, _]) rfl rfl ag92 sz92 rfl rfl) rfl ?_
      refine lxn (op_alloc (m := 5) (k := 5) (ps := [eqP (.int .i64 0), eqP (.int .i64 0), eqP (.slice none 0 0), eqP (.int .i64 0), eqP (.slice none 0 0), eqP (.bool false), eqP (.int .i64 0), eqP (.int .i64 0), eqP (.int .i64 0)]) ze92 rfl rfl (by first | exact hC.low _ (by decide) | rfl)) rfl ?_
      refine lxr (op_store_all (m := 5) rfl rfl rfl (.agg rfl) sz92 rfl) rfl ?_
      refine lx_end ⟨by kernel_rfl, ?_⟩
      refine pe_then_normal ?_
      refine tr_sub hC (.cons (t := 1) rfl (.cons (t := 2) rfl (.cons (t := 3) rfl (.cons (t := 4) rfl (.cons (t := 5) rfl .nil))))) (.cons (t := 600) rfl (.cons (t := 1) rfl (.cons (t := 2) rfl (.cons (t := 5) rfl .nil)))) rfl ?_
      refine tr_seq ?_
      refine tr_region (fun N6 hN => ?_)
      refine lxn (op_buildEmpty (m' := 20) (kk := 20) (f := vp) el30 sz41 (by first | exact hC.low _ (by decide) | rfl)) rfl ?_
      refine lx (op_fieldAddr rfl fl92_2 sz30) rfl ?_
      refine lx (op_bload_one (m := 5) rfl rfl ag30 rfl) rfl ?_
      refine lxr (OpJ.ent (op_append (m := 20) (m' := 23) (kk := 23) rfl rfl rfl (.inr (by first | exact hC.low _ (by decide) | rfl)) el30 ze41 sz41 by41 rfl vp_len (by simp; omega) (by simp; omega)) (Ent.row _ _ _ _)) rfl ?_
      refine lx (op_fieldAddr rfl fl92_2 sz30) rfl ?_
      refine lxr (op_store (m := 5) (rs := [_, _, _, _, _, _, _, _, _]) rfl rfl rfl (.one (by (first | exact One.eq rfl | exact One.mv _ _ _ _ _ | exact One.cl _ _ _ | exact One.map _ | exact One.sl _ _ _ | exact One.row _ _ _ _ | exact One.msl _ _ _ _ | exact One.ptr _ _ | exact One.b _ | exact One.cells _))) sz30 rfl rfl rfl) rfl ?_
      refine lx_end ⟨by kernel_rfl, ?_⟩
      refine pe_then_normal ?_
      refine tr_sub hC (.cons (t := 1) rfl (.cons (t := 2) rfl (.cons (t := 3) rfl (.cons (t := 4) rfl (.cons (t := 5) rfl .nil))))) (.cons (t := 600) rfl (.cons (t := 1) rfl (.cons (t := 2) rfl (.cons (t := 5) rfl .nil)))) rfl ?_
      refine tr_seq ?_
      refine tr_region (fun N7 hN => ?_)
      refine lx (op_assign rfl) rfl ?_
      refine lx_end ⟨by kernel_rfl, ?_⟩
      refine pe_then_normal ?_
      refine tr_sub hC (.cons (t := 1) rfl (.cons (t := 2) rfl (.cons (t := 3) rfl (.cons (t := 4) rfl (.cons (t := 5) rfl (.cons (t := 6) rfl .nil)))))) (.cons (t := 600) rfl (.cons (t := 1) rfl (.cons (t := 2) rfl (.cons (t := 5) rfl .nil)))) rfl ?_
      refine tr_seq ?_
      refine tr_seq ?_
      refine tr_region (fun N8 hN => ?_)
      refine lx (op_assign rfl) rfl ?_
      refine lx_end ⟨by kernel_rfl, ?_⟩
      refine pe_then_normal ?_
      refine tr_sub hC (.cons (t := 1) rfl (.cons (t := 2) rfl (.cons (t := 3) rfl (.cons (t := 4) rfl (.cons (t := 5) rfl (.cons (t := 6) rfl (.cons (t := 7) rfl .nil))))))) (.cons (t := 600) rfl (.cons (t := 1) rfl (.cons (t := 2) rfl (.cons (t := 5) rfl .nil)))) rfl ?_
      refine tr_block ?_
      refine tr_nilrow Df.ps 2 94 6 601 rfl (by first | exact hC.low _ (by decide) | rfl) (fun idN => ?_)
      refine tr_loopK (α := {zz : Nat × (List Df) × AL.Id // zz.1 ≤ g.frames[k].defers.length ∧ zz.2.1 = g.frames[k].defers.take zz.1}) (⟨(0, [], idN), Nat.zero_le _, rfl⟩) (fun zz => [(6, rowP zz.1.2.2 Df.ps 2 zz.1.2.1), (7, eqP (.int .i64 (zz.1.1 : Int)))]) (fun zz => [(601, some (zz.1.2.2, tail 94 2 (zz.1.2.1.length * 2)))]) (fun zz => g.frames[k].defers.length - zz.1.1) hC (.cons (t := 1) rfl (.cons (t := 2) rfl (.cons (t := 3) rfl (.cons (t := 4) rfl (.cons (t := 5) rfl .nil))))) (.cons (t := 600) rfl (.cons (t := 1) rfl (.cons (t := 2) rfl (.cons (t := 5) rfl .nil)))) rfl ?_ ?_ (fun zz => ?_)
      · try dsimp only [List.cons_append, List.nil_append]
        first | refine SubF.cons rfl ?_ | (refine SubF.ent rfl ?_ ?_; · repeat (first | exact Ents.nil | refine Ents.cons ?_ ?_ | refine Ent.tup ?_ | refine Ent.agg ?_ | exact Ent.row _ _ _ _ | exact Ent.nil _ _ | exact Ent.func _ | exact Ent.refl _ | exact Ent.of_eq rfl | refine Ent.cells ?_))
        first | refine SubF.cons rfl ?_ | (refine SubF.ent rfl ?_ ?_; · repeat (first | exact Ents.nil | refine Ents.cons ?_ ?_ | refine Ent.tup ?_ | refine Ent.agg ?_ | exact Ent.row _ _ _ _ | exact Ent.nil _ _ | exact Ent.func _ | exact Ent.refl _ | exact Ent.of_eq rfl | refine Ent.cells ?_))
        exact SubF.nil
      · try dsimp only [List.cons_append, List.nil_append]
        repeat (first | exact SubL.nil | refine SubL.cons rfl ?_)
      · obtain ⟨⟨j, ds, i2⟩, hj1, hds⟩ := zz
        try dsimp only at hj1
        try dsimp only at hds
        dsimp only [List.cons_append, List.nil_append]
        refine tr_seq ?_
        refine tr_seq ?_
        refine tr_region (fun N9 hN => ?_)
        refine lx (op_move rfl) rfl ?_
        refine lx (op_fieldAddr rfl fl92_4 sz90) rfl ?_
        refine lx (op_bload_one (m := 5) rfl rfl ag90 rfl) rfl ?_
        first | refine lx (op_len rfl el90) rfl ?_ | refine lx (op_len_row rfl el90) rfl ?_ | refine lx (op_len_mv rfl el90) rfl ?_ | refine lx (op_len_nil rfl el90) rfl ?_
        refine lx (op_lss rfl rfl) rfl ?_
        refine lx_end ⟨by kernel_rfl, ?_⟩
        refine pe_then_normal ?_
        refine tr_sub hC (.cons (t := 1) rfl (.cons (t := 2) rfl (.cons (t := 3) rfl (.cons (t := 4) rfl (.cons (t := 5) rfl (.cons (t := 6) rfl (.cons (t := 7) rfl (.cons (t := 29) rfl .nil)))))))) (.cons (t := 601) rfl (.cons (t := 600) rfl (.cons (t := 1) rfl (.cons (t := 2) rfl (.cons (t := 5) rfl .nil))))) rfl ?_
        refine tr_cond rfl (fun h29 => ?_) (fun h29 => ?_)
        · (try simp only [Bool.and_eq_true, Bool.or_eq_true, Bool.and_eq_false_iff, Bool.or_eq_false_iff, decide_eq_true_eq, decide_eq_false_iff_not, Bool.not_eq_true', Bool.not_eq_false', List.length_map, ne_eq, Decidable.not_not, Int.not_lt, Int.not_le] at h29)
          have hba := hbk.args _ (List.getElem_mem (by omega : j < g.frames[k].defers.length))
          have hdl : ds.length ≤ j := by rw [hds, List.length_take]; omega
          refine tr_skip ?_
          refine pe_then_normal ?_
          refine tr_sub hC (.cons (t := 1) rfl (.cons (t := 2) rfl (.cons (t := 3) rfl (.cons (t := 4) rfl (.cons (t := 5) rfl (.cons (t := 6) rfl (.cons (t := 7) rfl .nil))))))) (.cons (t := 601) rfl (.cons (t := 600) rfl (.cons (t := 1) rfl (.cons (t := 2) rfl (.cons (t := 5) rfl .nil))))) rfl ?_
          refine tr_seq ?_
          refine tr_block ?_
          refine tr_drawn mixed (fun N11 hN => ?_)
          refine lx (op_move rfl) rfl ?_
          refine lx (op_fieldAddr rfl fl92_4 sz90) rfl ?_
          refine lx (op_bload_one (m := 5) rfl rfl ag90 rfl) rfl ?_
          refine lx (op_move rfl) rfl ?_
          refine lx (op_index rfl rfl el90 sz94 rfl (List.getElem?_eq_getElem (by omega : j < g.frames[k].defers.length))) rfl ?_
          first | refine lx (op_fieldAddr rfl fl94_0 sz3) rfl ?_ | refine lx (op_fieldCells rfl fl94_0 sz3) rfl ?_
          first | refine lx (op_load_one rfl ag3 rfl) rfl ?_ | refine lx (op_bload_one (m := 601) rfl rfl ag3 rfl) rfl ?_ | refine lx (op_bload_one (m := 600) rfl rfl ag3 rfl) rfl ?_ | refine lx (op_bload_one (m := 1) rfl rfl ag3 rfl) rfl ?_ | refine lx (op_bload_one (m := 2) rfl rfl ag3 rfl) rfl ?_ | refine lx (op_bload_one (m := 5) rfl rfl ag3 rfl) rfl ?_
          refine lxn (op_buildEmpty (m' := 39) (kk := 39) (f := vp) el30 sz41 (by first | exact hC.low _ (by decide) | rfl)) rfl ?_
          refine lx (op_fieldAddr rfl fl92_4 sz90) rfl ?_
          refine lx (op_bload_one (m := 5) rfl rfl ag90 rfl) rfl ?_
          refine lx (op_move rfl) rfl ?_
          refine lx (op_index rfl rfl el90 sz94 rfl (List.getElem?_eq_getElem (by omega : j < g.frames[k].defers.length))) rfl ?_
          first | refine lx (op_fieldAddr rfl fl94_1 sz30) rfl ?_ | refine lx (op_fieldCells rfl fl94_1 sz30) rfl ?_
          first | refine lx (op_load_one rfl ag30 rfl) rfl ?_ | refine lx (op_bload_one (m := 601) rfl rfl ag30 rfl) rfl ?_ | refine lx (op_bload_one (m := 600) rfl rfl ag30 rfl) rfl ?_ | refine lx (op_bload_one (m := 1) rfl rfl ag30 rfl) rfl ?_ | refine lx (op_bload_one (m := 2) rfl rfl ag30 rfl) rfl ?_ | refine lx (op_bload_one (m := 5) rfl rfl ag30 rfl) rfl ?_ | refine lx (op_bload_one (m := 39) rfl rfl ag30 rfl) rfl ?_
          refine lxr (OpJ.ent (op_append (m := 39) (m' := 46) (kk := 46) rfl rfl rfl (.inr (by first | exact hC.low _ (by decide) | rfl)) el30 ze41 sz41 by41 rfl vp_len (by simp; omega) (by simp; omega)) (Ent.row _ _ _ _)) rfl ?_
          refine lx (op_build (qs := [_, _]) (parts := [(0, (Go.Operand.tmp 38)), (1, (Go.Operand.tmp 46))]) ze94 rfl rfl fs94 (.cons rfl (.one (by (first | exact One.eq rfl | exact One.mv _ _ _ _ _ | exact One.cl _ _ _ | exact One.map _ | exact One.sl _ _ _ | exact One.row _ _ _ _ | exact One.msl _ _ _ _ | exact One.ptr _ _ | exact One.b _ | exact One.cells _))) fl94_0 sz3 rfl (.cons rfl (.one (by (first | exact One.eq rfl | exact One.mv _ _ _ _ _ | exact One.cl _ _ _ | exact One.map _ | exact One.sl _ _ _ | exact One.row _ _ _ _ | exact One.msl _ _ _ _ | exact One.ptr _ _ | exact One.b _ | exact One.cells _))) fl94_1 sz30 rfl .nil)) rfl rfl) rfl ?_
          refine lx (op_buildSlice (f := Df.ps) (xs := [g.frames[k].defers[j]]) (l := [(0, (Go.Operand.tmp 47))]) ze94 rfl rfl (by decide) el90 sz94 Df.len (.cons rfl (.agg rfl) .nil) rfl (by decide)) rfl ?_
          refine lxr (op_append (m := 601) (m' := 601) (kk := 49) rfl rfl rfl (.inl rfl) el90 ze94 sz94 by94 rfl Df.len (by rw [List.length_singleton]; omega) (by rw [List.length_singleton]; omega)) rfl ?_
          refine lx (op_assign rfl) rfl ?_
          refine lx_end ⟨by kernel_rfl, ?_⟩
          refine pe_block_normal ?_
          refine pe_then_normal ?_
          refine tr_sub hC (.cons (t := 1) rfl (.cons (t := 2) rfl (.cons (t := 3) rfl (.cons (t := 4) rfl (.cons (t := 5) rfl (.cons (t := 6) rfl (.cons (t := 7) rfl .nil))))))) (.cons (t := 600) rfl (.cons (t := 1) rfl (.cons (t := 2) rfl (.cons (t := 5) rfl (.cons (t := 601) rfl .nil))))) rfl ?_
          refine tr_region (fun N10 hN => ?_)
          refine lx (op_move rfl) rfl ?_
          refine lx (op_add rfl rfl (by omega)) rfl ?_
          refine lx (op_assign rfl) rfl ?_
          refine lx_end ⟨by kernel_rfl, ?_⟩
          refine pe_round (⟨(j + 1, ds ++ [g.frames[k].defers[j]], (N11, 49)), by dsimp only; omega, by dsimp only; rw [hds, take_at (by omega : j < g.frames[k].defers.length)]⟩) (by dsimp only; omega) (pe_st hC ?_ ?_ rfl)
          · try dsimp only [List.cons_append, List.nil_append]
            first | refine SubF.cons rfl ?_ | (refine SubF.ent rfl ?_ ?_; · repeat (first | exact Ents.nil | refine Ents.cons ?_ ?_ | refine Ent.tup ?_ | refine Ent.agg ?_ | exact Ent.row _ _ _ _ | exact Ent.nil _ _ | exact Ent.func _ | exact Ent.refl _ | exact Ent.of_eq rfl | refine Ent.cells ?_))
            first | refine SubF.cons rfl ?_ | (refine SubF.ent rfl ?_ ?_; · repeat (first | exact Ents.nil | refine Ents.cons ?_ ?_ | refine Ent.tup ?_ | refine Ent.agg ?_ | exact Ent.row _ _ _ _ | exact Ent.nil _ _ | exact Ent.func _ | exact Ent.refl _ | exact Ent.of_eq rfl | refine Ent.cells ?_))
            first | refine SubF.cons rfl ?_ | (refine SubF.ent rfl ?_ ?_; · repeat (first | exact Ents.nil | refine Ents.cons ?_ ?_ | refine Ent.tup ?_ | refine Ent.agg ?_ | exact Ent.row _ _ _ _ | exact Ent.nil _ _ | exact Ent.func _ | exact Ent.refl _ | exact Ent.of_eq rfl | refine Ent.cells ?_))
            first | refine SubF.cons rfl ?_ | (refine SubF.ent rfl ?_ ?_; · repeat (first | exact Ents.nil | refine Ents.cons ?_ ?_ | refine Ent.tup ?_ | refine Ent.agg ?_ | exact Ent.row _ _ _ _ | exact Ent.nil _ _ | exact Ent.func _ | exact Ent.refl _ | exact Ent.of_eq rfl | refine Ent.cells ?_))
            first | refine SubF.cons rfl ?_ | (refine SubF.ent rfl ?_ ?_; · repeat (first | exact Ents.nil | refine Ents.cons ?_ ?_ | refine Ent.tup ?_ | refine Ent.agg ?_ | exact Ent.row _ _ _ _ | exact Ent.nil _ _ | exact Ent.func _ | exact Ent.refl _ | exact Ent.of_eq rfl | refine Ent.cells ?_))
            first | refine SubF.cons rfl ?_ | (refine SubF.ent rfl ?_ ?_; · repeat (first | exact Ents.nil | refine Ents.cons ?_ ?_ | refine Ent.tup ?_ | refine Ent.agg ?_ | exact Ent.row _ _ _ _ | exact Ent.nil _ _ | exact Ent.func _ | exact Ent.refl _ | exact Ent.of_eq rfl | refine Ent.cells ?_))
            first | refine SubF.cons rfl ?_ | (refine SubF.ent rfl ?_ ?_; · repeat (first | exact Ents.nil | refine Ents.cons ?_ ?_ | refine Ent.tup ?_ | refine Ent.agg ?_ | exact Ent.row _ _ _ _ | exact Ent.nil _ _ | exact Ent.func _ | exact Ent.refl _ | exact Ent.of_eq rfl | refine Ent.cells ?_))
            exact SubF.nil
          · try dsimp only [List.cons_append, List.nil_append]
            repeat (first | exact SubL.nil | refine SubL.cons rfl ?_)
        · (try simp only [Bool.and_eq_true, Bool.or_eq_true, Bool.and_eq_false_iff, Bool.or_eq_false_iff, decide_eq_true_eq, decide_eq_false_iff_not, Bool.not_eq_true', Bool.not_eq_false', List.length_map, ne_eq, Decidable.not_not, Int.not_lt, Int.not_le] at h29)
          have hdf : ds = g.frames[k].defers := by rw [hds, List.take_of_length_le (by omega)]
          refine tr_exit ?_
          refine pe_then_exit ?_
          refine pe_then_exit ?_
          refine pe_block_eq ?_
          refine pe_then_normal ?_
          refine tr_sub hC (.cons (t := 1) rfl (.cons (t := 2) rfl (.cons (t := 3) rfl (.cons (t := 4) rfl (.cons (t := 5) rfl (.cons (t := 6) rfl .nil)))))) (.cons (t := 601) rfl (.cons (t := 600) rfl (.cons (t := 1) rfl (.cons (t := 2) rfl (.cons (t := 5) rfl .nil))))) rfl ?_
          refine tr_sub hC (.cons (t := 1) rfl (.cons (t := 2) rfl (.cons (t := 3) rfl (.cons (t := 4) rfl (.cons (t := 5) rfl (.ent (t := 6) rfl ((show Ent _ (slP Df.ps 2 g.frames[k].defers) from Ent.trans (Ent.row _ _ _ _) (Ent.of_eq (by rw [hdf])))) .nil)))))) (.cons (t := 601) rfl (.cons (t := 600) rfl (.cons (t := 1) rfl (.cons (t := 2) rfl (.cons (t := 5) rfl .nil))))) rfl ?_
          refine tr_seq ?_
          refine tr_region (fun N12 hN => ?_)
          refine lx (op_move rfl) rfl ?_
          refine lx (op_fieldAddr rfl fl92_4 sz90) rfl ?_
          refine lxr (op_store (m := 5) (rs := [_, _, _, _, _, _, _, _, _]) rfl rfl rfl (.one (by (first | exact One.eq rfl | exact One.mv _ _ _ _ _ | exact One.cl _ _ _ | exact One.map _ | exact One.sl _ _ _ | exact One.row _ _ _ _ | exact One.msl _ _ _ _ | exact One.ptr _ _ | exact One.b _ | exact One.cells _))) sz90 rfl rfl rfl) rfl ?_
          refine lx_end ⟨by kernel_rfl, ?_⟩
          refine pe_then_normal ?_
          refine tr_sub hC (.cons (t := 1) rfl (.cons (t := 2) rfl (.cons (t := 3) rfl (.cons (t := 4) rfl (.cons (t := 5) rfl .nil))))) (.cons (t := 601) rfl (.cons (t := 600) rfl (.cons (t := 1) rfl (.cons (t := 2) rfl (.cons (t := 5) rfl .nil))))) rfl ?_
          refine tr_region (fun N13 hN => ?_)
          refine lx (op_move rfl) rfl ?_
          refine lx (op_bload (m := 5) rfl rfl ag92 sz92) rfl ?_
          refine lx (op_buildSlice (f := Fm.ps) (xs := [g.frames[k]]) (l := [(0, (Go.Operand.tmp 53))]) ze92 rfl rfl (by decide) el68 sz92 Fm.len (.cons rfl (.agg rfl) .nil) rfl (by decide)) rfl ?_
          refine lxr (op_append (m := 600) (m' := 600) (kk := 55) rfl rfl rfl (.inl rfl) el68 ze92 sz92 by92 rfl Fm.len (by rw [List.length_singleton]; omega) (by rw [List.length_singleton]; omega)) rfl ?_
          refine lx (op_assign rfl) rfl ?_
          refine lx_end ⟨by kernel_rfl, ?_⟩
          refine pe_block_normal ?_
          refine pe_then_normal ?_
          refine tr_sub hC (.cons (t := 1) rfl (.cons (t := 2) rfl (.cons (t := 3) rfl (.cons (t := 4) rfl .nil)))) (.cons (t := 601) rfl (.cons (t := 1) rfl (.cons (t := 2) rfl (.cons (t := 600) rfl .nil)))) rfl ?_
          refine tr_region (fun N4 hN => ?_)
          refine lx (op_move rfl) rfl ?_
          refine lx (op_add rfl rfl (by omega)) rfl ?_
          refine lx (op_assign rfl) rfl ?_
          refine lx_end ⟨by kernel_rfl, ?_⟩
          refine pe_round (⟨(k + 1, fs ++ [g.frames[k]], (N13, 55)), by dsimp only; omega, by dsimp only; rw [hfs, take_at (by omega : k < g.frames.length)]⟩) (by dsimp only; omega) (pe_st hC ?_ ?_ rfl)
          · try dsimp only [List.cons_append, List.nil_append]
            first | refine SubF.cons rfl ?_ | (refine SubF.ent rfl ?_ ?_; · repeat (first | exact Ents.nil | refine Ents.cons ?_ ?_ | refine Ent.tup ?_ | refine Ent.agg ?_ | exact Ent.row _ _ _ _ | exact Ent.nil _ _ | exact Ent.func _ | exact Ent.refl _ | exact Ent.of_eq rfl | refine Ent.cells ?_))
            first | refine SubF.cons rfl ?_ | (refine SubF.ent rfl ?_ ?_; · repeat (first | exact Ents.nil | refine Ents.cons ?_ ?_ | refine Ent.tup ?_ | refine Ent.agg ?_ | exact Ent.row _ _ _ _ | exact Ent.nil _ _ | exact Ent.func _ | exact Ent.refl _ | exact Ent.of_eq rfl | refine Ent.cells ?_))
            first | refine SubF.cons rfl ?_ | (refine SubF.ent rfl ?_ ?_; · repeat (first | exact Ents.nil | refine Ents.cons ?_ ?_ | refine Ent.tup ?_ | refine Ent.agg ?_ | exact Ent.row _ _ _ _ | exact Ent.nil _ _ | exact Ent.func _ | exact Ent.refl _ | exact Ent.of_eq rfl | refine Ent.cells ?_))
            first | refine SubF.cons rfl ?_ | (refine SubF.ent rfl ?_ ?_; · repeat (first | exact Ents.nil | refine Ents.cons ?_ ?_ | refine Ent.tup ?_ | refine Ent.agg ?_ | exact Ent.row _ _ _ _ | exact Ent.nil _ _ | exact Ent.func _ | exact Ent.refl _ | exact Ent.of_eq rfl | refine Ent.cells ?_))
            exact SubF.nil
          · try dsimp only [List.cons_append, List.nil_append]
            repeat (first | exact SubL.nil | refine SubL.cons rfl ?_)
    · (try simp only [Bool.and_eq_true, Bool.or_eq_true, Bool.and_eq_false_iff, Bool.or_eq_false_iff, decide_eq_true_eq, decide_eq_false_iff_not, Bool.not_eq_true', Bool.not_eq_false', List.length_map, ne_eq, Decidable.not_not, Int.not_lt, Int.not_le] at h12)
      have hfin : fs = g.frames := by rw [hfs, List.take_of_length_le (by omega)]
      refine tr_exit ?_
      refine pe_then_exit ?_
      refine pe_then_exit ?_
      refine pe_block_eq ?_
      refine pe_then_normal ?_
      refine tr_sub hC (.cons (t := 1) rfl (.cons (t := 2) rfl (.cons (t := 3) rfl .nil))) (.cons (t := 600) rfl (.cons (t := 1) rfl (.cons (t := 2) rfl .nil))) rfl ?_
      refine tr_sub hC (.cons (t := 1) rfl (.cons (t := 2) rfl (.ent (t := 3) rfl ((show Ent _ (slP Fm.ps 9 g.frames) from Ent.trans (Ent.row _ _ _ _) (Ent.of_eq (by rw [hfin])))) .nil))) (.cons (t := 600) rfl (.cons (t := 1) rfl (.cons (t := 2) rfl .nil))) rfl ?_
      refine tr_seq ?_
      refine tr_region (fun N14 hN => ?_)
      refine lx (op_move rfl) rfl ?_
      refine lx (op_fieldAddr rfl fl70_3 sz68) rfl ?_
      refine lxr (op_store (m := 1) (rs := [_, _, _, _]) rfl rfl rfl (.one (by (first | exact One.eq rfl | exact One.mv _ _ _ _ _ | exact One.cl _ _ _ | exact One.map _ | exact One.sl _ _ _ | exact One.row _ _ _ _ | exact One.msl _ _ _ _ | exact One.ptr _ _ | exact One.b _ | exact One.cells _))) sz68 rfl rfl rfl) rfl ?_
      refine lx_end ⟨by kernel_rfl, ?_⟩
      refine pe_then_normal ?_
      refine tr_sub hC (.cons (t := 1) rfl (.cons (t := 2) rfl .nil)) (.cons (t := 600) rfl (.cons (t := 1) rfl (.cons (t := 2) rfl .nil))) rfl ?_
      refine tr_seq ?_
      refine tr_region (fun N15 hN => ?_)
      refine lx (op_bload (m := 1) rfl rfl ag70 sz70) rfl ?_
      refine lxr (op_store_all (m := 2) rfl rfl rfl (.agg rfl) sz70 rfl) rfl ?_
      refine lx_end ⟨by kernel_rfl, ?_⟩
      refine pe_then_normal ?_
      refine tr_sub hC (.cons (t := 2) rfl .nil) (.cons (t := 600) rfl (.cons (t := 2) rfl .nil)) rfl ?_
      refine tr_ret ?_
      refine pe_ret1 rfl hO rfl (.cell (m := 2) rfl rfl ag70 sz70 .nil) ?_
      repeat (first | exact Ents.nil | refine Ents.cons ?_ ?_ | refine Ent.tup ?_ | refine Ent.agg ?_ | exact Ent.row _ _ _ _ | exact Ent.nil _ _ | exact Ent.func _ | exact Ent.refl _ | exact Ent.of_eq rfl | refine Ent.cells ?_)
theorem copyM_ok (m : Mc) (hb : Bd 4000000 m) : FnP Try.prog 15 [aggP m.ps] (aggP m.ps) := by
  have hbo := hb.objects
  have hbs := hb.syncs
  have hbg := hb.gors
  have hbt := hb.output
  refine fn_pure' Try.func15 rfl Try.ntmps15 rfl ?_
  intro σ0 M ex Rf R hC hO
  simp only [frameOf, tokOf]
  refine tr_seq ?_
  refine tr_region (fun N0 hN => ?_)
  refine lxn (op_box (m := 1) (k := 1) rfl (.agg rfl) (by first | exact hC.low _ (by decide) | rfl)) rfl ?_
  refine lxn (op_alloc (m := 2) (k := 2) (ps := [eqP (.slice none 0 0), eqP (.slice none 0 0), eqP (.slice none 0 0), eqP (.slice none 0 0)]) ze29 rfl rfl (by first | exact hC.low _ (by decide) | rfl)) rfl ?_
  refine lx_end ⟨by kernel_rfl, ?_⟩
  refine pe_then_normal ?_
  refine tr_sub hC (.cons (t := 1) rfl (.cons (t := 2) rfl .nil)) (.cons (t := 1) rfl (.cons (t := 2) rfl .nil)) rfl ?_
  refine tr_seq ?_
  refine tr_region (fun N1 hN => ?_)
  refine lxn (op_buildEmpty (m' := 8) (kk := 8) (f := ip) el27 sz3 (by first | exact hC.low _ (by decide) | rfl)) rfl ?_
  refine lx (op_fieldAddr rfl fl29_3 sz27) rfl ?_
  refine lx (op_bload_one (m := 1) rfl rfl ag27 rfl) rfl ?_
  refine lxr (OpJ.ent (op_append (m := 8) (m' := 11) (kk := 11) rfl rfl rfl (.inr (by first | exact hC.low _ (by decide) | rfl)) el27 ze3 sz3 by3 rfl ip_len (by simp; omega) (by simp; omega)) (Ent.row _ _ _ _)) rfl ?_
  refine lx (op_build (qs := [_, _, _, _]) (parts := [(3, (Go.Operand.tmp 11))]) ze29 rfl rfl fs29 (.cons rfl (.one (by (first | exact One.eq rfl | exact One.mv _ _ _ _ _ | exact One.cl _ _ _ | exact One.map _ | exact One.sl _ _ _ | exact One.row _ _ _ _ | exact One.msl _ _ _ _ | exact One.ptr _ _ | exact One.b _ | exact One.cells _))) fl29_3 sz27 rfl .nil) rfl rfl) rfl ?_
  refine lxn (op_alloc (m := 3) (k := 3) (ps := [eqP (.slice none 0 0), eqP (.slice none 0 0), eqP (.slice none 0 0), eqP (.slice none 0 0)]) ze29 rfl rfl (by first | exact hC.low _ (by decide) | rfl)) rfl ?_
  refine lxr (op_store_all (m := 3) rfl rfl rfl (.agg rfl) sz29 rfl) rfl ?_
  refine lx_end ⟨by kernel_rfl, ?_⟩
  refine pe_then_normal ?_
  refine tr_sub hC (.cons (t := 1) rfl (.cons (t := 2) rfl (.cons (t := 3) rfl .nil))) (.cons (t := 1) rfl (.cons (t := 2) rfl (.cons (t := 3) rfl .nil))) rfl ?_
  refine tr_seq ?_
  refine tr_seq ?_
  refine tr_region (fun N2 hN => ?_)
  refine lx (op_assign rfl) rfl ?_
  refine lx_end ⟨by kernel_rfl, ?_⟩
  refine pe_then_normal ?_
  refine tr_sub hC (.cons (t := 1) rfl (.cons (t := 2) rfl (.cons (t := 3) rfl (.cons (t := 4) rfl .nil)))) (.cons (t := 1) rfl (.cons (t := 2) rfl (.cons (t := 3) rfl .nil))) rfl ?_
  refine tr_block ?_
  refine tr_nilbox Ob.ps 10 33 3 0 600 rfl rfl (by first | exact hC.low _ (by decide) | rfl) (fun idN => ?_)
  try dsimp only [List.set]
  refine tr_loopK (α := {zz : Nat × (List Ob) × AL.Id // zz.1 ≤ m.objects.length ∧ zz.2.1 = m.objects.take zz.1}) (⟨(0, [], idN), Nat.zero_le _, rfl⟩) (fun zz => [(4, eqP (.int .i64 (zz.1.1 : Int)))]) (fun zz => [(3, some ((N1, 3), blk 29 [rowP zz.1.2.2 Ob.ps 10 zz.1.2.1, eqP (.slice none 0 0), eqP (.slice none 0 0), slP ip 1 m.output])), (600, some (zz.1.2.2, tail 33 10 (zz.1.2.1.length * 10)))]) (fun zz => m.objects.length - zz.1.1) hC (.cons (t := 1) rfl (.cons (t := 2) rfl (.cons (t := 3) rfl .nil))) (.cons (t := 1) rfl (.cons (t := 2) rfl .nil)) rfl ?_ ?_ (fun zz => ?_)
  · try dsimp only [List.cons_append, List.nil_append]
    first | refine SubF.cons rfl ?_ | (refine SubF.ent rfl ?_ ?_; · repeat (first | exact Ents.nil | refine Ents.cons ?_ ?_ | refine Ent.tup ?_ | refine Ent.agg ?_ | exact Ent.row _ _ _ _ | exact Ent.nil _ _ | exact Ent.func _ | exact Ent.refl _ | exact Ent.of_eq rfl | refine Ent.cells ?_))
    exact SubF.nil
  · try dsimp only [List.cons_append, List.nil_append]
    repeat (first | exact SubL.nil | refine SubL.cons rfl ?_)
  · obtain ⟨⟨k, xs, i⟩, hk1, hxs⟩ := zz
    try dsimp only at hk1
    try dsimp only at hxs
    dsimp only [List.cons_append, List.nil_append]
    refine tr_seq ?_
    refine tr_seq ?_
    refine tr_region (fun N3 hN => ?_)
    refine lx (op_move rfl) rfl ?_
    refine lx (op_fieldAddr rfl fl29_0 sz22) rfl ?_
    refine lx (op_bload_one (m := 1) rfl rfl ag22 rfl) rfl ?_
    first | refine lx (op_len rfl el22) rfl ?_ | refine lx (op_len_row rfl el22) rfl ?_ | refine lx (op_len_mv rfl el22) rfl ?_ | refine lx (op_len_nil rfl el22) rfl ?_
    refine lx (op_lss rfl rfl) rfl ?_
    refine lx_end ⟨by kernel_rfl, ?_⟩
    refine pe_then_normal ?_
    refine tr_sub hC (.cons (t := 1) rfl (.cons (t := 2) rfl (.cons (t := 3) rfl (.cons (t := 4) rfl (.cons (t := 17) rfl .nil))))) (.cons (t := 3) rfl (.cons (t := 600) rfl (.cons (t := 1) rfl (.cons (t := 2) rfl .nil)))) rfl ?_
    refine tr_cond rfl (fun h17 => ?_) (fun h17 => ?_)
    · (try simp only [Bool.and_eq_true, Bool.or_eq_true, Bool.and_eq_false_iff, Bool.or_eq_false_iff, decide_eq_true_eq, decide_eq_false_iff_not, Bool.not_eq_true', Bool.not_eq_false', List.length_map, ne_eq, Decidable.not_not, Int.not_lt, Int.not_le] at h17)
      have hbk := hb.object _ (List.getElem_mem (by omega : k < m.objects.length))
      have hxl : xs.length ≤ k := by rw [hxs, List.length_take]; omega
      refine tr_skip ?_
      refine pe_then_normal ?_
      refine tr_sub hC (.cons (t := 1) rfl (.cons (t := 2) rfl (.cons (t := 3) rfl (.cons (t := 4) rfl .nil)))) (.cons (t := 3) rfl (.cons (t := 600) rfl (.cons (t := 1) rfl (.cons (t := 2) rfl .nil)))) rfl ?_
      refine tr_seq ?_
      refine tr_block ?_
      refine tr_drawn mixed (fun N5 hN => ?_)
      refine lx (op_fieldAddr rfl fl29_0 sz22) rfl ?_
      refine lx (op_bload_one (m := 3) rfl rfl ag22 rfl) rfl ?_
      refine lx (op_fieldAddr rfl fl29_0 sz22) rfl ?_
      refine lx (op_bload_one (m := 1) rfl rfl ag22 rfl) rfl ?_
      refine lx (op_move rfl) rfl ?_
      refine lx (op_index rfl rfl el22 sz33 rfl (List.getElem?_eq_getElem (by omega : k < m.objects.length))) rfl ?_
      first | refine lx (op_load_all rfl ag33 sz33) rfl ?_ | refine lx (op_load_agg rfl ag33 sz33 rfl) rfl ?_ | refine lx (op_bload (m := 3) rfl rfl ag33 sz33) rfl ?_ | refine lx (op_bload (m := 600) rfl rfl ag33 sz33) rfl ?_ | refine lx (op_bload (m := 1) rfl rfl ag33 sz33) rfl ?_ | refine lx (op_bload (m := 2) rfl rfl ag33 sz33) rfl ?_ | refine lx (op_bload_part (m := 3) (qs := [_, _, _, _, _, _, _, _, _, _]) rfl rfl ag33 sz33 rfl rfl) rfl ?_ | refine lx (op_bload_part (m := 600) (qs := [_, _, _, _, _, _, _, _, _, _]) rfl rfl ag33 sz33 rfl rfl) rfl ?_ | refine lx (op_bload_part (m := 1) (qs := [_, _, _, _, _, _, _, _, _, _]) rfl rfl ag33 sz33 rfl rfl) rfl ?_ | refine lx (op_bload_part (m := 2) (qs := [_, _, _, _, _, _, _, _, _, _]) rfl rfl ag33 sz33 rfl rfl) rfl ?_
      first | refine lx (op_call (l := [(Go.Operand.tmp 26)]) (copyO_ok m.objects[k] hbk) (.cons rfl .nil) fn28) rfl ?_ | refine lx (op_call (l := [(Go.Operand.tmp 26)]) (copyO_ok m.objects[k] hbk) (.ent rfl (by repeat (first | exact Ents.nil | refine Ents.cons ?_ ?_ | refine Ent.tup ?_ | refine Ent.agg ?_ | exact Ent.row _ _ _ _ | exact Ent.nil _ _ | exact Ent.func _ | exact Ent.refl _ | exact Ent.of_eq rfl | refine Ent.cells ?_)) .nil) fn28) rfl ?_
      refine lx (op_buildSlice (f := Ob.ps) (xs := [m.objects[k]]) (l := [(0, (Go.Operand.tmp 27))]) ze33 rfl rfl (by decide) el22 sz33 Ob.len (.cons rfl (.agg rfl) .nil) rfl (by decide)) rfl ?_
      refine lxr (op_append (m := 600) (m' := 600) (kk := 29) rfl rfl rfl (.inl rfl) el22 ze33 sz33 by33 rfl Ob.len (by rw [List.length_singleton]; omega) (by rw [List.length_singleton]; omega)) rfl ?_
      refine lx (op_fieldAddr rfl fl29_0 sz22) rfl ?_
      refine lxr (op_store (m := 3) (rs := [_, _, _, _]) rfl rfl rfl (.one (by (first | exact One.eq rfl | exact One.mv _ _ _ _ _ | exact One.cl _ _ _ | exact One.map _ | exact One.sl _ _ _ | exact One.row _ _ _ _ | exact One.msl _ _ _ _ | exact One.ptr _ _ | exact One.b _ | exact One.cells _))) sz22 rfl rfl rfl) rfl ?_
      refine lx_end ⟨by kernel_rfl, ?_⟩
      refine pe_block_normal ?_
      refine pe_then_normal ?_
      refine tr_sub hC (.cons (t := 1) rfl (.cons (t := 2) rfl (.cons (t := 3) rfl (.cons (t := 4) rfl .nil)))) (.cons (t := 3) rfl (.cons (t := 1) rfl (.cons (t := 2) rfl (.cons (t := 600) rfl .nil)))) rfl ?_
      refine tr_region (fun N4 hN => ?_)
      refine lx (op_move rfl) rfl ?_
      refine lx (op_add rfl rfl (by omega)) rfl ?_
      refine lx (op_assign rfl) rfl ?_
      refine lx_end ⟨by kernel_rfl, ?_⟩
      refine pe_round (⟨(k + 1, xs ++ [m.objects[k]], (N5, 29)), by dsimp only; omega, by dsimp only; rw [hxs, take_at (by omega : k < m.objects.length)]⟩) (by dsimp only; omega) (pe_st hC ?_ ?_ rfl)
      · try dsimp only [List.cons_append, List.nil_append]
        first | refine SubF.cons rfl ?_ | (refine SubF.ent rfl ?_ ?_; · repeat (first | exact Ents.nil | refine Ents.cons ?_ ?_ | refine Ent.tup ?_ | refine Ent.agg ?_ | exact Ent.row _ _ _ _ | exact Ent.nil _ _ | exact Ent.func _ | exact Ent.refl _ | exact Ent.of_eq rfl | refine Ent.cells ?_))
        first | refine SubF.cons rfl ?_ | (refine SubF.ent rfl ?_ ?_; · repeat (first | exact Ents.nil | refine Ents.cons ?_ ?_ | refine Ent.tup ?_ | refine Ent.agg ?_ | exact Ent.row _ _ _ _ | exact Ent.nil _ _ | exact Ent.func _ | exact Ent.refl _ | exact Ent.of_eq rfl | refine Ent.cells ?_))
        first | refine SubF.cons rfl ?_ | (refine SubF.ent rfl ?_ ?_; · repeat (first | exact Ents.nil | refine Ents.cons ?_ ?_ | refine Ent.tup ?_ | refine Ent.agg ?_ | exact Ent.row _ _ _ _ | exact Ent.nil _ _ | exact Ent.func _ | exact Ent.refl _ | exact Ent.of_eq rfl | refine Ent.cells ?_))
        first | refine SubF.cons rfl ?_ | (refine SubF.ent rfl ?_ ?_; · repeat (first | exact Ents.nil | refine Ents.cons ?_ ?_ | refine Ent.tup ?_ | refine Ent.agg ?_ | exact Ent.row _ _ _ _ | exact Ent.nil _ _ | exact Ent.func _ | exact Ent.refl _ | exact Ent.of_eq rfl | refine Ent.cells ?_))
        exact SubF.nil
      · try dsimp only [List.cons_append, List.nil_append]
        repeat (first | exact SubL.nil | refine SubL.cons rfl ?_)
    · (try simp only [Bool.and_eq_true, Bool.or_eq_true, Bool.and_eq_false_iff, Bool.or_eq_false_iff, decide_eq_true_eq, decide_eq_false_iff_not, Bool.not_eq_true', Bool.not_eq_false', List.length_map, ne_eq, Decidable.not_not, Int.not_lt, Int.not_le] at h17)
      have hfin : xs = m.objects := by rw [hxs, List.take_of_length_le (by omega)]
      refine tr_exit ?_
      refine pe_then_exit ?_
      refine pe_then_exit ?_
      refine pe_block_eq ?_
      refine pe_then_normal ?_
      refine tr_sub hC (.cons (t := 1) rfl (.cons (t := 2) rfl (.cons (t := 3) rfl .nil))) (.cons (t := 3) rfl (.cons (t := 600) rfl (.cons (t := 1) rfl (.cons (t := 2) rfl .nil)))) rfl ?_
      refine tr_weakTok (m := 3) (qs := [slP Ob.ps 10 m.objects, eqP (.slice none 0 0), eqP (.slice none 0 0), slP ip 1 m.output]) rfl ?_ ?_
      · repeat (first | exact Ents.nil | refine Ents.cons ?_ ?_ | exact Ent.refl _ | exact Ent.row _ _ _ _ | exact Ent.nil _ _ | exact Ent.trans (Ent.row _ _ _ _) (Ent.of_eq (by rw [hfin])))
      refine tr_seq ?_
      refine tr_seq ?_
      refine tr_region (fun N6 hN => ?_)
      refine lx (op_assign rfl) rfl ?_
      refine lx_end ⟨by kernel_rfl, ?_⟩
      refine pe_then_normal ?_
      refine tr_sub hC (.cons (t := 1) rfl (.cons (t := 2) rfl (.cons (t := 3) rfl (.cons (t := 5) rfl .nil)))) (.cons (t := 3) rfl (.cons (t := 600) rfl (.cons (t := 1) rfl (.cons (t := 2) rfl .nil)))) rfl ?_
      refine tr_block ?_
      refine tr_nilbox Sy.ps 6 67 3 1 601 rfl rfl (by first | exact hC.low _ (by decide) | rfl) (fun idN => ?_)
      try dsimp only [List.set]
      refine tr_loopK (α := {zz : Nat × (List Sy) × AL.Id // zz.1 ≤ m.syncs.length ∧ zz.2.1 = m.syncs.take zz.1}) (⟨(0, [], idN), Nat.zero_le _, rfl⟩) (fun zz => [(5, eqP (.int .i64 (zz.1.1 : Int)))]) (fun zz => [(3, some ((N1, 3), blk 29 [slP Ob.ps 10 m.objects, rowP zz.1.2.2 Sy.ps 6 zz.1.2.1, eqP (.slice none 0 0), slP ip 1 m.output])), (601, some (zz.1.2.2, tail 67 6 (zz.1.2.1.length * 6)))]) (fun zz => m.syncs.length - zz.1.1) hC (.cons (t := 1) rfl (.cons (t := 2) rfl (.cons (t := 3) rfl .nil))) (.cons (t := 600) rfl (.cons (t := 1) rfl (.cons (t := 2) rfl .nil))) rfl ?_ ?_ (fun zz => ?_)
      · try dsimp only [List.cons_append, List.nil_append]
        first | refine SubF.cons rfl ?_ | (refine SubF.ent rfl ?_ ?_; · repeat (first | exact Ents.nil | refine Ents.cons ?_ ?_ | refine Ent.tup ?_ | refine Ent.agg ?_ | exact Ent.row _ _ _ _ | exact Ent.nil _ _ | exact Ent.func _ | exact Ent.refl _ | exact Ent.of_eq rfl | refine Ent.cells ?_))
        exact SubF.nil
      · try dsimp only [List.cons_append, List.nil_append]
        repeat (first | exact SubL.nil | refine SubL.cons rfl ?_)
      · obtain ⟨⟨k, xs, i⟩, hk1, hxs⟩ := zz
        try dsimp only at hk1
        try dsimp only at hxs
        dsimp only [List.cons_append, List.nil_append]
        refine tr_seq ?_
        refine tr_seq ?_
        refine tr_region (fun N7 hN => ?_)
        refine lx (op_move rfl) rfl ?_
        refine lx (op_fieldAddr rfl fl29_1 sz25) rfl ?_
        refine lx (op_bload_one (m := 1) rfl rfl ag25 rfl) rfl ?_
        first | refine lx (op_len rfl el25) rfl ?_ | refine lx (op_len_row rfl el25) rfl ?_ | refine lx (op_len_mv rfl el25) rfl ?_ | refine lx (op_len_nil rfl el25) rfl ?_
        refine lx (op_lss rfl rfl) rfl ?_
        refine lx_end ⟨by kernel_rfl, ?_⟩
        refine pe_then_normal ?_
        refine tr_sub hC (.cons (t := 1) rfl (.cons (t := 2) rfl (.cons (t := 3) rfl (.cons (t := 5) rfl (.cons (t := 35) rfl .nil))))) (.cons (t := 3) rfl (.cons (t := 601) rfl (.cons (t := 600) rfl (.cons (t := 1) rfl (.cons (t := 2) rfl .nil))))) rfl ?_
        refine tr_cond rfl (fun h35 => ?_) (fun h35 => ?_)
        · (try simp only [Bool.and_eq_true, Bool.or_eq_true, Bool.and_eq_false_iff, Bool.or_eq_false_iff, decide_eq_true_eq, decide_eq_false_iff_not, Bool.not_eq_true', Bool.not_eq_false', List.length_map, ne_eq, Decidable.not_not, Int.not_lt, Int.not_le] at h35)
          have hbk := hb.readers _ (List.getElem_mem (by omega : k < m.syncs.length))
          have hxl : xs.length ≤ k := by rw [hxs, List.length_take]; omega
          refine tr_skip ?_
          refine pe_then_normal ?_
          refine tr_sub hC (.cons (t := 1) rfl (.cons (t := 2) rfl (.cons (t := 3) rfl (.cons (t := 5) rfl .nil)))) (.cons (t := 3) rfl (.cons (t := 601) rfl (.cons (t := 600) rfl (.cons (t := 1) rfl (.cons (t := 2) rfl .nil))))) rfl ?_
          refine tr_seq ?_
          refine tr_block ?_
          refine tr_seq ?_
          refine tr_region (fun N9 hN => ?_)
          refine lx (op_fieldAddr rfl fl29_1 sz25) rfl ?_
          refine lx (op_bload_one (m := 1) rfl rfl ag25 rfl) rfl ?_
          refine lx (op_move rfl) rfl ?_
          refine lx (op_index rfl rfl el25 sz67 rfl (List.getElem?_eq_getElem (by omega : k < m.syncs.length))) rfl ?_
          first | refine lx (op_load_all rfl ag67 sz67) rfl ?_ | refine lx (op_load_agg rfl ag67 sz67 rfl) rfl ?_ | refine lx (op_bload (m := 3) rfl rfl ag67 sz67) rfl ?_ | refine lx (op_bload (m := 601) rfl rfl ag67 sz67) rfl ?_ | refine lx (op_bload (m := 600) rfl rfl ag67 sz67) rfl ?_ | refine lx (op_bload (m := 1) rfl rfl ag67 sz67) rfl ?_ | refine lx (op_bload (m := 2) rfl rfl ag67 sz67) rfl ?_ | refine lx (op_bload_part (m := 3) (qs := [_, _, _, _, _, _]) rfl rfl ag67 sz67 rfl rfl) rfl ?_ | refine lx (op_bload_part (m := 601) (qs := [_, _, _, _, _, _]) rfl rfl ag67 sz67 rfl rfl) rfl ?_ | refine lx (op_bload_part (m := 600) (qs := [_, _, _, _, _, _]) rfl rfl ag67 sz67 rfl rfl) rfl ?_ | refine lx (op_bload_part (m := 1) (qs := [_, _, _, _, _, _]) rfl rfl ag67 sz67 rfl rfl) rfl ?_ | refine lx (op_bload_part (m := 2) (qs := [_, _, _, _, _, _]) rfl rfl ag67 sz67 rfl rfl) rfl ?_
          refine lxn (op_alloc (m := 6) (k := 6) (ps := [eqP (.int .i64 0), eqP (.int .i64 0), eqP (.int .i64 0), eqP (.int .i64 0), eqP (.slice none 0 0), eqP (.int .i64 0)]) ze67 rfl rfl (by first | exact hC.low _ (by decide) | rfl)) rfl ?_
          refine lxr (op_store_all (m := 6) rfl rfl rfl (.agg rfl) sz67 rfl) rfl ?_
          refine lx_end ⟨by kernel_rfl, ?_⟩
          refine pe_then_normal ?_
          refine tr_sub hC (.cons (t := 1) rfl (.cons (t := 2) rfl (.cons (t := 3) rfl (.cons (t := 5) rfl (.cons (t := 6) rfl .nil))))) (.cons (t := 3) rfl (.cons (t := 601) rfl (.cons (t := 600) rfl (.cons (t := 1) rfl (.cons (t := 2) rfl (.cons (t := 6) rfl .nil)))))) rfl ?_
          refine tr_seq ?_
          refine tr_region (fun N10 hN => ?_)
          refine lxn (op_buildEmpty (m' := 43) (kk := 43) (f := ip) el27 sz3 (by first | exact hC.low _ (by decide) | rfl)) rfl ?_
          refine lx (op_fieldAddr rfl fl67_4 sz27) rfl ?_
          refine lx (op_bload_one (m := 6) rfl rfl ag27 rfl) rfl ?_
          refine lxr (OpJ.ent (op_append (m := 43) (m' := 46) (kk := 46) rfl rfl rfl (.inr (by first | exact hC.low _ (by decide) | rfl)) el27 ze3 sz3 by3 rfl ip_len (by simp; omega) (by simp; omega)) (Ent.row _ _ _ _)) rfl ?_
          refine lx (op_fieldAddr rfl fl67_4 sz27) rfl ?_
          refine lxr (op_store (m := 6) (rs := [_, _, _, _, _, _]) rfl rfl rfl (.one (by (first | exact One.eq rfl | exact One.mv _ _ _ _ _ | exact One.cl _ _ _ | exact One.map _ | exact One.sl _ _ _ | exact One.row _ _ _ _ | exact One.msl _ _ _ _ | exact One.ptr _ _ | exact One.b _ | exact One.cells _))) sz27 rfl rfl rfl) rfl ?_
          refine lx_end ⟨by kernel_rfl, ?_⟩
          refine pe_then_normal ?_
          refine tr_sub hC (.cons (t := 1) rfl (.cons (t := 2) rfl (.cons (t := 3) rfl (.cons (t := 5) rfl (.cons (t := 6) rfl .nil))))) (.cons (t := 3) rfl (.cons (t := 601) rfl (.cons (t := 600) rfl (.cons (t := 1) rfl (.cons (t := 2) rfl (.cons (t := 6) rfl .nil)))))) rfl ?_
          refine tr_region (fun N11 hN => ?_)
          refine lx (op_fieldAddr rfl fl29_1 sz25) rfl ?_
          refine lx (op_bload_one (m := 3) rfl rfl ag25 rfl) rfl ?_
          refine lx (op_bload (m := 6) rfl rfl ag67 sz67) rfl ?_
          refine lx (op_buildSlice (f := Sy.ps) (xs := [m.syncs[k]]) (l := [(0, (Go.Operand.tmp 50))]) ze67 rfl rfl (by decide) el25 sz67 Sy.len (.cons rfl (.agg rfl) .nil) rfl (by decide)) rfl ?_
          refine lxr (op_append (m := 601) (m' := 601) (kk := 52) rfl rfl rfl (.inl rfl) el25 ze67 sz67 by67 rfl Sy.len (by rw [List.length_singleton]; omega) (by rw [List.length_singleton]; omega)) rfl ?_
          refine lx (op_fieldAddr rfl fl29_1 sz25) rfl ?_
          refine lxr (op_store (m := 3) (rs := [_, _, _, _]) rfl rfl rfl (.one (by (first | exact One.eq rfl | exact One.mv _ _ _ _ _ | exact One.cl _ _ _ | exact One.map _ | exact One.sl _ _ _ | exact One.row _ _ _ _ | exact One.msl _ _ _ _ | exact One.ptr _ _ | exact One.b _ | exact One.cells _))) sz25 rfl rfl rfl) rfl ?_
          refine lx_end ⟨by kernel_rfl, ?_⟩
          refine pe_block_normal ?_
          refine pe_then_normal ?_
          refine tr_sub hC (.cons (t := 1) rfl (.cons (t := 2) rfl (.cons (t := 3) rfl (.cons (t := 5) rfl .nil)))) (.cons (t := 3) rfl (.cons (t := 600) rfl (.cons (t := 1) rfl (.cons (t := 2) rfl (.cons (t := 601) rfl .nil))))) rfl ?_
          refine tr_region (fun N8 hN => ?_)
          refine lx (op_move rfl) rfl ?_
          refine lx (op_add rfl rfl (by omega)) rfl ?_
          refine lx (op_assign rfl) rfl ?_
          refine lx_end ⟨by kernel_rfl, ?_⟩
          refine pe_round (⟨(k + 1, xs ++ [m.syncs[k]], (N11, 52)), by dsimp only; omega, by dsimp only; rw [hxs, take_at (by omega : k < m.syncs.length)]⟩) (by dsimp only; omega) (pe_st hC ?_ ?_ rfl)
          · try dsimp only [List.cons_append, List.nil_append]
            first | refine SubF.cons rfl ?_ | (refine SubF.ent rfl ?_ ?_; · repeat (first | exact Ents.nil | refine Ents.cons ?_ ?_ | refine Ent.tup ?_ | refine Ent.agg ?_ | exact Ent.row _ _ _ _ | exact Ent.nil _ _ | exact Ent.func _ | exact Ent.refl _ | exact Ent.of_eq rfl | refine Ent.cells ?_))
            first | refine SubF.cons rfl ?_ | (refine SubF.ent rfl ?_ ?_; · repeat (first | exact Ents.nil | refine Ents.cons ?_ ?_ | refine Ent.tup ?_ | refine Ent.agg ?_ | exact Ent.row _ _ _ _ | exact Ent.nil _ _ | exact Ent.func _ | exact Ent.refl _ | exact Ent.of_eq rfl | refine Ent.cells ?_))
            first | refine SubF.cons rfl ?_ | (refine SubF.ent rfl ?_ ?_; · repeat (first | exact Ents.nil | refine Ents.cons ?_ ?_ | refine Ent.tup ?_ | refine Ent.agg ?_ | exact Ent.row _ _ _ _ | exact Ent.nil _ _ | exact Ent.func _ | exact Ent.refl _ | exact Ent.of_eq rfl | refine Ent.cells ?_))
            first | refine SubF.cons rfl ?_ | (refine SubF.ent rfl ?_ ?_; · repeat (first | exact Ents.nil | refine Ents.cons ?_ ?_ | refine Ent.tup ?_ | refine Ent.agg ?_ | exact Ent.row _ _ _ _ | exact Ent.nil _ _ | exact Ent.func _ | exact Ent.refl _ | exact Ent.of_eq rfl | refine Ent.cells ?_))
            exact SubF.nil
          · try dsimp only [List.cons_append, List.nil_append]
            repeat (first | exact SubL.nil | refine SubL.cons rfl ?_)
        · (try simp only [Bool.and_eq_true, Bool.or_eq_true, Bool.and_eq_false_iff, Bool.or_eq_false_iff, decide_eq_true_eq, decide_eq_false_iff_not, Bool.not_eq_true', Bool.not_eq_false', List.length_map, ne_eq, Decidable.not_not, Int.not_lt, Int.not_le] at h35)
          have hfin : xs = m.syncs := by rw [hxs, List.take_of_length_le (by omega)]
          refine tr_exit ?_
          refine pe_then_exit ?_
          refine pe_then_exit ?_
          refine pe_block_eq ?_
          refine pe_then_normal ?_
          refine tr_sub hC (.cons (t := 1) rfl (.cons (t := 2) rfl (.cons (t := 3) rfl .nil))) (.cons (t := 3) rfl (.cons (t := 601) rfl (.cons (t := 600) rfl (.cons (t := 1) rfl (.cons (t := 2) rfl .nil))))) rfl ?_
          refine tr_weakTok (m := 3) (qs := [slP Ob.ps 10 m.objects, slP Sy.ps 6 m.syncs, eqP (.slice none 0 0), slP ip 1 m.output]) rfl ?_ ?_
          · repeat (first | exact Ents.nil | refine Ents.cons ?_ ?_ | exact Ent.refl _ | exact Ent.row _ _ _ _ | exact Ent.nil _ _ | exact Ent.trans (Ent.row _ _ _ _) (Ent.of_eq (by rw [hfin])))
          refine tr_seq ?_
          refine tr_seq ?_
          refine tr_region (fun N12 hN => ?_)
          refine lx (op_assign rfl) rfl ?_
          refine lx_end ⟨by kernel_rfl, ?_⟩
          refine pe_then_normal ?_
          refine tr_sub hC (.cons (t := 1) rfl (.cons (t := 2) rfl (.cons (t := 3) rfl (.cons (t := 7) rfl .nil)))) (.cons (t := 3) rfl (.cons (t := 601) rfl (.cons (t := 600) rfl (.cons (t := 1) rfl (.cons (t := 2) rfl .nil))))) rfl ?_
          refine tr_block ?_
          refine tr_nilbox Gr.ps 4 70 3 2 602 rfl rfl (by first | exact hC.low _ (by decide) | rfl) (fun idN => ?_)
          try dsimp only [List.set]
          refine tr_loopK (α := {zz : Nat × (List Gr) × AL.Id // zz.1 ≤ m.gors.length ∧ zz.2.1 = m.gors.take zz.1}) (⟨(0, [], idN), Nat.zero_le _, rfl⟩) (fun zz => [(7, eqP (.int .i64 (zz.1.1 : Int)))]) (fun zz => [(3, some ((N1, 3), blk 29 [slP Ob.ps 10 m.objects, slP Sy.ps 6 m.syncs, rowP zz.1.2.2 Gr.ps 4 zz.1.2.1, slP ip 1 m.output])), (602, some (zz.1.2.2, tail 70 4 (zz.1.2.1.length * 4)))]) (fun zz => m.gors.length - zz.1.1) hC (.cons (t := 1) rfl (.cons (t := 2) rfl (.cons (t := 3) rfl .nil))) (.cons (t := 601) rfl (.cons (t := 600) rfl (.cons (t := 1) rfl (.cons (t := 2) rfl .nil)))) rfl ?_ ?_ (fun zz => ?_)
          · try dsimp only [List.cons_append, List.nil_append]
            first | refine SubF.cons rfl ?_ | (refine SubF.ent rfl ?_ ?_; · repeat (first | exact Ents.nil | refine Ents.cons ?_ ?_ | refine Ent.tup ?_ | refine Ent.agg ?_ | exact Ent.row _ _ _ _ | exact Ent.nil _ _ | exact Ent.func _ | exact Ent.refl _ | exact Ent.of_eq rfl | refine Ent.cells ?_))
            exact SubF.nil
          · try dsimp only [List.cons_append, List.nil_append]
            repeat (first | exact SubL.nil | refine SubL.cons rfl ?_)
          · obtain ⟨⟨k, xs, i⟩, hk1, hxs⟩ := zz
            try dsimp only at hk1
            try dsimp only at hxs
            dsimp only [List.cons_append, List.nil_append]
            refine tr_seq ?_
            refine tr_seq ?_
            refine tr_region (fun N13 hN => ?_)
            refine lx (op_move rfl) rfl ?_
            refine lx (op_fieldAddr rfl fl29_2 sz26) rfl ?_
            refine lx (op_bload_one (m := 1) rfl rfl ag26 rfl) rfl ?_
            first | refine lx (op_len rfl el26) rfl ?_ | refine lx (op_len_row rfl el26) rfl ?_ | refine lx (op_len_mv rfl el26) rfl ?_ | refine lx (op_len_nil rfl el26) rfl ?_
            refine lx (op_lss rfl rfl) rfl ?_
            refine lx_end ⟨by kernel_rfl, ?_⟩
            refine pe_then_normal ?_
            refine tr_sub hC (.cons (t := 1) rfl (.cons (t := 2) rfl (.cons (t := 3) rfl (.cons (t := 7) rfl (.cons (t := 58) rfl .nil))))) (.cons (t := 3) rfl (.cons (t := 602) rfl (.cons (t := 601) rfl (.cons (t := 600) rfl (.cons (t := 1) rfl (.cons (t := 2) rfl .nil)))))) rfl ?_
            refine tr_cond rfl (fun h58 => ?_) (fun h58 => ?_)
            · (try simp only [Bool.and_eq_true, Bool.or_eq_true, Bool.and_eq_false_iff, Bool.or_eq_false_iff, decide_eq_true_eq, decide_eq_false_iff_not, Bool.not_eq_true', Bool.not_eq_false', List.length_map, ne_eq, Decidable.not_not, Int.not_lt, Int.not_le] at h58)
              have hbk := hb.gor _ (List.getElem_mem (by omega : k < m.gors.length))
              have hxl : xs.length ≤ k := by rw [hxs, List.length_take]; omega
              refine tr_skip ?_
              refine pe_then_normal ?_
              refine tr_sub hC (.cons (t := 1) rfl (.cons (t := 2) rfl (.cons (t := 3) rfl (.cons (t := 7) rfl .nil)))) (.cons (t := 3) rfl (.cons (t := 602) rfl (.cons (t := 601) rfl (.cons (t := 600) rfl (.cons (t := 1) rfl (.cons (t := 2) rfl .nil)))))) rfl ?_
              refine tr_seq ?_
              refine tr_block ?_
              refine tr_drawn mixed (fun N15 hN => ?_)
              refine lx (op_fieldAddr rfl fl29_2 sz26) rfl ?_
              refine lx (op_bload_one (m := 3) rfl rfl ag26 rfl) rfl ?_
              refine lx (op_fieldAddr rfl fl29_2 sz26) rfl ?_
              refine lx (op_bload_one (m := 1) rfl rfl ag26 rfl) rfl ?_
              refine lx (op_move rfl) rfl ?_
              refine lx (op_index rfl rfl el26 sz70 rfl (List.getElem?_eq_getElem (by omega : k < m.gors.length))) rfl ?_
              first | refine lx (op_load_all rfl ag70 sz70) rfl ?_ | refine lx (op_load_agg rfl ag70 sz70 rfl) rfl ?_ | refine lx (op_bload (m := 3) rfl rfl ag70 sz70) rfl ?_ | refine lx (op_bload (m := 602) rfl rfl ag70 sz70) rfl ?_ | refine lx (op_bload (m := 601) rfl rfl ag70 sz70) rfl ?_ | refine lx (op_bload (m := 600) rfl rfl ag70 sz70) rfl ?_ | refine lx (op_bload (m := 1) rfl rfl ag70 sz70) rfl ?_ | refine lx (op_bload (m := 2) rfl rfl ag70 sz70) rfl ?_ | refine lx (op_bload_part (m := 3) (qs := [_, _, _, _]) rfl rfl ag70 sz70 rfl rfl) rfl ?_ | refine lx (op_bload_part (m := 602) (qs := [_, _, _, _]) rfl rfl ag70 sz70 rfl rfl) rfl ?_ | refine lx (op_bload_part (m := 601) (qs := [_, _, _, _]) rfl rfl ag70 sz70 rfl rfl) rfl ?_ | refine lx (op_bload_part (m := 600) (qs := [_, _, _, _]) rfl rfl ag70 sz70 rfl rfl) rfl ?_ | refine lx (op_bload_part (m := 1) (qs := [_, _, _, _]) rfl rfl ag70 sz70 rfl rfl) rfl ?_ | refine lx (op_bload_part (m := 2) (qs := [_, _, _, _]) rfl rfl ag70 sz70 rfl rfl) rfl ?_
              first | refine lx (op_call (l := [(Go.Operand.tmp 67)]) (copyG_ok m.gors[k] hbk) (.cons rfl .nil) fn33) rfl ?_ | refine lx (op_call (l := [(Go.Operand.tmp 67)]) (copyG_ok m.gors[k] hbk) (.ent rfl (by repeat (first | exact Ents.nil | refine Ents.cons ?_ ?_ | refine Ent.tup ?_ | refine Ent.agg ?_ | exact Ent.row _ _ _ _ | exact Ent.nil _ _ | exact Ent.func _ | exact Ent.refl _ | exact Ent.of_eq rfl | refine Ent.cells ?_)) .nil) fn33) rfl ?_
              refine lx (op_buildSlice (f := Gr.ps) (xs := [m.gors[k]]) (l := [(0, (Go.Operand.tmp 68))]) ze70 rfl rfl (by decide) el26 sz70 Gr.len (.cons rfl (.agg rfl) .nil) rfl (by decide)) rfl ?_
              refine lxr (op_append (m := 602) (m' := 602) (kk := 70) rfl rfl rfl (.inl rfl) el26 ze70 sz70 by70 rfl Gr.len (by rw [List.length_singleton]; omega) (by rw [List.length_singleton]; omega)) rfl ?_
              refine lx (op_fieldAddr rfl fl29_2 sz26) rfl ?_
              refine lxr (op_store (m := 3) (rs := [_, _, _, _]) rfl rfl rfl (.one (by (first | exact One.eq rfl | exact One.mv _ _ _ _ _ | exact One.cl _ _ _ | exact One.map _ | exact One.sl _ _ _ | exact One.row _ _ _ _ | exact One.msl _ _ _ _ | exact One.ptr _ _ | exact One.b _ | exact One.cells _))) sz26 rfl rfl rfl) rfl ?_
              refine lx_end ⟨by kernel_rfl, ?_⟩
              refine pe_block_normal ?_
              refine pe_then_normal ?_
              refine tr_sub hC (.cons (t := 1) rfl (.cons (t := 2) rfl (.cons (t := 3) rfl (.cons (t := 7) rfl .nil)))) (.cons (t := 3) rfl (.cons (t := 601) rfl (.cons (t := 600) rfl (.cons (t := 1) rfl (.cons (t := 2) rfl (.cons (t := 602) rfl .nil)))))) rfl ?_
              refine tr_region (fun N14 hN => ?_)
              refine lx (op_move rfl) rfl ?_
              refine lx (op_add rfl rfl (by omega)) rfl ?_
              refine lx (op_assign rfl) rfl ?_
              refine lx_end ⟨by kernel_rfl, ?_⟩
              refine pe_round (⟨(k + 1, xs ++ [m.gors[k]], (N15, 70)), by dsimp only; omega, by dsimp only; rw [hxs, take_at (by omega : k < m.gors.length)]⟩) (by dsimp only; omega) (pe_st hC ?_ ?_ rfl)
              · try dsimp only [List.cons_append, List.nil_append]
                first | refine SubF.cons rfl ?_ | (refine SubF.ent rfl ?_ ?_; · repeat (first | exact Ents.nil | refine Ents.cons ?_ ?_ | refine Ent.tup ?_ | refine Ent.agg ?_ | exact Ent.row _ _ _ _ | exact Ent.nil _ _ | exact Ent.func _ | exact Ent.refl _ | exact Ent.of_eq rfl | refine Ent.cells ?_))
                first | refine SubF.cons rfl ?_ | (refine SubF.ent rfl ?_ ?_; · repeat (first | exact Ents.nil | refine Ents.cons ?_ ?_ | refine Ent.tup ?_ | refine Ent.agg ?_ | exact Ent.row _ _ _ _ | exact Ent.nil _ _ | exact Ent.func _ | exact Ent.refl _ | exact Ent.of_eq rfl | refine Ent.cells ?_))
                first | refine SubF.cons rfl ?_ | (refine SubF.ent rfl ?_ ?_; · repeat (first | exact Ents.nil | refine Ents.cons ?_ ?_ | refine Ent.tup ?_ | refine Ent.agg ?_ | exact Ent.row _ _ _ _ | exact Ent.nil _ _ | exact Ent.func _ | exact Ent.refl _ | exact Ent.of_eq rfl | refine Ent.cells ?_))
                first | refine SubF.cons rfl ?_ | (refine SubF.ent rfl ?_ ?_; · repeat (first | exact Ents.nil | refine Ents.cons ?_ ?_ | refine Ent.tup ?_ | refine Ent.agg ?_ | exact Ent.row _ _ _ _ | exact Ent.nil _ _ | exact Ent.func _ | exact Ent.refl _ | exact Ent.of_eq rfl | refine Ent.cells ?_))
                exact SubF.nil
              · try dsimp only [List.cons_append, List.nil_append]
                repeat (first | exact SubL.nil | refine SubL.cons rfl ?_)
            · (try simp only [Bool.and_eq_true, Bool.or_eq_true, Bool.and_eq_false_iff, Bool.or_eq_false_iff, decide_eq_true_eq, decide_eq_false_iff_not, Bool.not_eq_true', Bool.not_eq_false', List.length_map, ne_eq, Decidable.not_not, Int.not_lt, Int.not_le] at h58)
              have hfin : xs = m.gors := by rw [hxs, List.take_of_length_le (by omega)]
              refine tr_exit ?_
              refine pe_then_exit ?_
              refine pe_then_exit ?_
              refine pe_block_eq ?_
              refine pe_then_normal ?_
              refine tr_sub hC (.cons (t := 2) rfl (.cons (t := 3) rfl .nil)) (.cons (t := 3) rfl (.cons (t := 602) rfl (.cons (t := 601) rfl (.cons (t := 600) rfl (.cons (t := 2) rfl .nil))))) rfl ?_
              refine tr_weakTok (m := 3) (qs := [slP Ob.ps 10 m.objects, slP Sy.ps 6 m.syncs, slP Gr.ps 4 m.gors, slP ip 1 m.output]) rfl ?_ ?_
              · repeat (first | exact Ents.nil | refine Ents.cons ?_ ?_ | exact Ent.refl _ | exact Ent.row _ _ _ _ | exact Ent.nil _ _ | exact Ent.trans (Ent.row _ _ _ _) (Ent.of_eq (by rw [hfin])))
              refine tr_seq ?_
              refine tr_region (fun N16 hN => ?_)
              refine lx (op_bload (m := 3) rfl rfl ag29 sz29) rfl ?_
              refine lxr (op_store_all (m := 2) rfl rfl rfl (.agg rfl) sz29 rfl) rfl ?_
              refine lx_end ⟨by kernel_rfl, ?_⟩
              refine pe_then_normal ?_
              refine tr_sub hC (.cons (t := 2) rfl .nil) (.cons (t := 602) rfl (.cons (t := 601) rfl (.cons (t := 600) rfl (.cons (t := 2) rfl .nil)))) rfl ?_
              refine tr_ret ?_
              refine pe_ret1 rfl hO rfl (.cell (m := 2) rfl rfl ag29 sz29 .nil) ?_
              repeat (first | exact Ents.nil | refine Ents.cons ?_ ?_ | refine Ent.tup ?_ | refine Ent.agg ?_ | exact Ent.row _ _ _ _ | exact Ent.nil _ _ | exact Ent.func _ | exact Ent.refl _ | exact Ent.of_eq rfl | refine Ent.cells ?_)
end Go.Proofs.Ytibcbiamdjmckaa


namespace Go.AL
section
variable {P : Program} {n N : Nat} {F : Fr} {R : Toks} {d : Option Nat} {T t t' : TypeId} {pos : String} {after : Array Edge} {x y : Operand} {k k' : IntKind} {u v : Int}
theorem op_shr (hx : opd F x = some (eqP (.int k u))) (hy : opd F y = some (eqP (.int k' v))) (h : decide (v < 0) = false) :
    OpJ P n N F R ⟨d, .binOp .shr t x y t', T, pos, after, none⟩ ⟨rdo x (eqP (.int k u)) ++ rdo y (eqP (.int k' v)), [], [], [], [], eqP (.int k (u.fdiv (2 ^ (min v.toNat k.bits))))⟩ :=
  op_bin_raw hx hy fun W => by
    have h : ¬ v < 0 := by simpa using h
    simp [binOp, eqGuard, Op.shift, h]
theorem half {i j : Nat} (h : i + j ≤ 4611686018427387904) : IntKind.i64.wrap ((IntKind.u64.wrap ((i : Int) + (j : Int))).fdiv (2 ^ (min (1 : Int).toNat IntKind.u64.bits))) = (((i + j) / 2 : Nat) : Int) := by
  have h1 : IntKind.u64.wrap ((i : Int) + (j : Int)) = (i : Int) + (j : Int) := by
    simp only [IntKind.wrap, show IntKind.u64.bits = 64 from rfl, show IntKind.u64.signed = false from rfl]
    simp
    omega
  have h2 : (2 : Int) ^ (min (1 : Int).toNat IntKind.u64.bits) = 2 := by decide
  rw [h1, h2]
  have h3 : ((i : Int) + (j : Int)).fdiv 2 = (((i + j) / 2 : Nat) : Int) := by
    rw [Int.fdiv_eq_ediv_of_nonneg _ (by decide)]
    omega
  rw [h3, wrap_in (by omega)]
end
end Go.AL
