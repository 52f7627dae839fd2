/- Parts of a proof that share one text: WrWalk, WrWalk2, WrWalk3, AlMkRow, AlMkRow0, WrWalk4. -/
import Derived.Test.YtgdhogmghffbaaaWdb
import Derived.Test.YtgdhogmghffbaaaChecked
set_option linter.unusedVariables false
set_option linter.unusedSimpArgs false

set_option linter.unusedVariables false
set_option linter.unusedSimpArgs false
namespace Go.Proofs.Ytgdhogmghffbaaa
open Go.AL Go.Wr Go.RowKit
theorem ag3 : aggB Try.prog 3 = some false := by kernel_rfl
theorem ag5 : aggB Try.prog 5 = some false := by kernel_rfl
theorem by5 : bytesB Try.prog 5 = some 1 := by kernel_rfl
theorem el25 : elemB Try.prog 25 = some 5 := by kernel_rfl
theorem el68 : elemB Try.prog 68 = some 3 := by kernel_rfl
theorem ik5 : Try.prog.underlying 5 = some (.int .u8) := by kernel_rfl
theorem mixed : Try.prog.follows .mixedOrders = true := by kernel_rfl
theorem st9 : Try.prog.underlying 9 = some .string := by kernel_rfl
theorem sz3 : sizeB Try.prog 3 = some 1 := by kernel_rfl
theorem sz5 : sizeB Try.prog 5 = some 1 := by kernel_rfl
theorem us3 : (Try.prog.underlying 3).isSome = true := by kernel_rfl
theorem ze5 : zeroB Try.prog 5 = some (some (.int .u8 0)) := by kernel_rfl
theorem within_ok (n a b : Int) : FnP Try.prog 31 [eqP (.int .i64 n), eqP (.int .i64 a), eqP (.int .i64 b)] (eqP (.bool (decide (a ≤ n) && decide (n ≤ b)))) := by
  refine fn_pure' Try.func31 rfl Try.ntmps31 rfl ?_
  intro σ0 M ex Rf R hC hO
  simp only [frameOf, tokOf]
  refine tr_seq ?_
  refine tr_region (fun N0 hN => ?_)
  refine lx (op_assign rfl) rfl ?_
  refine lx_end ⟨by kernel_rfl, ?_⟩
  refine pe_then_normal ?_
  refine tr_sub hC (.cons (t := 0) rfl (.cons (t := 1) rfl (.cons (t := 2) rfl .nil))) .nil rfl ?_
  refine tr_seq ?_
  refine tr_region (fun N1 hN => ?_)
  refine lx (op_move rfl) rfl ?_
  refine lx (op_move rfl) rfl ?_
  refine lx (op_leq rfl rfl) rfl ?_
  refine lx (op_move rfl) rfl ?_
  refine lxs rfl rfl rfl guard_eq (.cons (t := 0) rfl (fun _ => Ent.refl _) .nil) (op_move rfl) rfl ?_
  refine lxs rfl rfl rfl guard_eq (.cons (t := 2) rfl (fun _ => Ent.refl _) .nil) (op_move rfl) rfl ?_
  refine lxs rfl rfl rfl guard_eq (.cons (t := 11) rfl (fun h => entW h) (.cons (t := 12) rfl (fun h => entW h) .nil)) (op_leq rfl rfl) rfl ?_
  refine lx (op_pick_and rfl rfl) rfl ?_
  refine lx (op_assign rfl) rfl ?_
  refine lx_end ⟨by kernel_rfl, ?_⟩
  refine pe_then_normal ?_
  refine tr_sub hC (.cons (t := 6) rfl .nil) .nil rfl ?_
  refine tr_ret ?_
  refine pe_ret1 rfl hO rfl (.tmp rfl .nil) ?_
  repeat (first | exact Ents.nil | refine Ents.cons ?_ ?_ | refine Ent.tup ?_ | refine Ent.agg ?_ | exact Ent.row _ _ _ _ | exact Ent.nil _ _ | exact Ent.func _ | exact Ent.refl _ | exact Ent.of_eq rfl | refine Ent.cells ?_)
theorem bytesEqual_ok (xs ys : List Int) : FnP Try.prog 36 [slP byP 1 xs, slP byP 1 ys] (eqP (.bool (decide (strB xs = strB ys)))) := by
  refine fn_pure' Try.func36 rfl Try.ntmps36 rfl ?_
  intro σ0 M ex Rf R hC hO
  simp only [frameOf, tokOf]
  refine tr_seq ?_
  refine tr_region (fun N0 hN => ?_)
  refine lx (op_assign rfl) rfl ?_
  refine lx_end ⟨by kernel_rfl, ?_⟩
  refine pe_then_normal ?_
  refine tr_sub hC (.cons (t := 0) rfl (.cons (t := 1) rfl .nil)) .nil rfl ?_
  refine tr_seq ?_
  refine tr_region (fun N1 hN => ?_)
  refine lx (op_move rfl) rfl ?_
  refine lx (op_bytes_str rfl (elem_of el25) st9 ik5) rfl ?_
  refine lx (op_move rfl) rfl ?_
  refine lx (op_bytes_str rfl (elem_of el25) st9 ik5) rfl ?_
  refine lx (op_eql_str st9 rfl rfl) rfl ?_
  refine lx (op_assign rfl) rfl ?_
  refine lx_end ⟨by kernel_rfl, ?_⟩
  refine pe_then_normal ?_
  refine tr_sub hC (.cons (t := 4) rfl .nil) .nil rfl ?_
  refine tr_ret ?_
  refine pe_ret1 rfl hO rfl (.tmp rfl .nil) ?_
  exact entB (str_beq _ _)
theorem clone_ok (xs : List Int) (hx : xs.length ≤ 4000000) : FnP Try.prog 38 [slP byP 1 xs] (slP byP 1 xs) := by
  refine fn_pure' Try.func38 rfl Try.ntmps38 rfl ?_
  intro σ0 M ex Rf R hC hO
  simp only [frameOf, tokOf]
  refine tr_seq ?_
  refine tr_region (fun N0 hN => ?_)
  refine lx (op_assign rfl) rfl ?_
  refine lx_end ⟨by kernel_rfl, ?_⟩
  refine pe_then_normal ?_
  refine tr_sub hC (.cons (t := 0) rfl .nil) .nil rfl ?_
  refine tr_seq ?_
  refine tr_seq ?_
  refine tr_region (fun N1 hN => ?_)
  refine lx (op_move rfl) rfl ?_
  refine lx (op_eqnil rfl el25) rfl ?_
  refine lx_end ⟨by kernel_rfl, ?_⟩
  refine pe_then_normal ?_
  refine tr_sub hC (.cons (t := 0) rfl (.cons (t := 4) rfl .nil)) .nil rfl ?_
  refine tr_cond_b rfl (fun h4 => ?_) (fun h4 => ?_)
  · (try simp only [Bool.and_eq_true, Bool.or_eq_true, Bool.and_eq_false_iff, Bool.or_eq_false_iff, decide_eq_true_eq, decide_eq_false_iff_not, Bool.not_eq_true', Bool.not_eq_false', List.length_map, ne_eq, Decidable.not_not, Int.not_lt, Int.not_le] at h4)
    have hxs : xs = [] := by first | exact h4 rfl | exact h4 trivial
    subst hxs
    refine tr_seq ?_
    refine tr_region (fun N2 hN => ?_)
    refine lx (op_assign rfl) rfl ?_
    refine lx_end ⟨by kernel_rfl, ?_⟩
    refine pe_then_normal ?_
    refine tr_sub hC (.cons (t := 2) rfl .nil) .nil rfl ?_
    refine tr_ret ?_
    refine pe_then_ret ?_
    refine pe_ret1 rfl hO rfl (.tmp rfl .nil) ?_
    repeat (first | exact Ents.nil | refine Ents.cons ?_ ?_ | refine Ent.tup ?_ | refine Ent.agg ?_ | exact Ent.row _ _ _ _ | exact Ent.nil _ _ | exact Ent.func _ | exact Ent.refl _ | exact Ent.of_eq rfl | refine Ent.cells ?_)
  · (try simp only [Bool.and_eq_true, Bool.or_eq_true, Bool.and_eq_false_iff, Bool.or_eq_false_iff, decide_eq_true_eq, decide_eq_false_iff_not, Bool.not_eq_true', Bool.not_eq_false', List.length_map, ne_eq, Decidable.not_not, Int.not_lt, Int.not_le] at h4)
    refine tr_skip ?_
    refine pe_then_normal ?_
    refine tr_sub hC (.cons (t := 0) rfl .nil) .nil rfl ?_
    refine tr_seq ?_
    refine tr_region (fun N3 hN => ?_)
    refine lxn (op_buildEmpty (m' := 5) (kk := 5) (f := byP) el25 sz5 (by first | exact hC.low _ (by decide) | rfl)) rfl ?_
    refine lx (op_move rfl) rfl ?_
    refine lxr (op_append (m := 5) (m' := 7) (kk := 7) rfl rfl rfl (.inr (by first | exact hC.low _ (by decide) | rfl)) el25 ze5 sz5 by5 rfl byP_len (by simp; omega) (by simp; omega)) rfl ?_
    refine lx (op_assign rfl) rfl ?_
    refine lx_end ⟨by kernel_rfl, ?_⟩
    refine pe_then_normal ?_
    refine tr_sub hC (.cons (t := 2) rfl .nil) (.cons (t := 7) rfl .nil) rfl ?_
    refine tr_ret ?_
    refine pe_ret1 rfl hO rfl (.tmp rfl .nil) ?_
    repeat (first | exact Ents.nil | refine Ents.cons ?_ ?_ | refine Ent.tup ?_ | refine Ent.agg ?_ | exact Ent.row _ _ _ _ | exact Ent.nil _ _ | exact Ent.func _ | exact Ent.refl _ | exact Ent.of_eq rfl | refine Ent.cells ?_)
theorem clone_own (xs : List Int) (hx : xs.length ≤ 4000000) : Fn1 Try.prog 38 [slP byP 1 xs] (fun id => rowP id byP 1 xs) (tail 5 1 (xs.length * 1)) := by
  refine fn_own (Ren.row _ _ _ _ _) Try.func38 rfl Try.ntmps38 rfl ?_
  intro σ0 M Rf R hC hO
  simp only [frameOf, tokOf]
  refine tr_seq ?_
  refine tr_region (fun N0 hN => ?_)
  refine lx (op_assign rfl) rfl ?_
  refine lx_end ⟨by kernel_rfl, ?_⟩
  refine pe_then_normal ?_
  refine tr_sub hC (.cons (t := 0) rfl .nil) .nil rfl ?_
  refine tr_seq ?_
  refine tr_seq ?_
  refine tr_region (fun N1 hN => ?_)
  refine lx (op_move rfl) rfl ?_
  refine lx (op_eqnil rfl el25) rfl ?_
  refine lx_end ⟨by kernel_rfl, ?_⟩
  refine pe_then_normal ?_
  refine tr_sub hC (.cons (t := 0) rfl (.cons (t := 4) rfl .nil)) .nil rfl ?_
  refine tr_cond_b rfl (fun h4 => ?_) (fun h4 => ?_)
  · (try simp only [Bool.and_eq_true, Bool.or_eq_true, Bool.and_eq_false_iff, Bool.or_eq_false_iff, decide_eq_true_eq, decide_eq_false_iff_not, Bool.not_eq_true', Bool.not_eq_false', List.length_map, ne_eq, Decidable.not_not, Int.not_lt, Int.not_le] at h4)
    have hxs : xs = [] := by first | exact h4 rfl | exact h4 trivial
    subst hxs
    refine tr_seq ?_
    refine tr_region (fun N2 hN => ?_)
    refine lx (op_assign rfl) rfl ?_
    refine lx_end ⟨by kernel_rfl, ?_⟩
    refine pe_then_normal ?_
    refine tr_sub hC (.cons (t := 2) rfl .nil) .nil rfl ?_
    refine tr_nilrow byP 1 5 2 2 rfl (by first | exact hC.low _ (by decide) | rfl) (fun idN => ?_)
    refine tr_ret ?_
    refine pe_then_ret ?_
    refine pe_own (m := 2) rfl hO rfl rfl rfl ?_
    repeat (first | exact Ents.nil | refine Ents.cons ?_ ?_ | refine Ent.tup ?_ | refine Ent.agg ?_ | exact Ent.row _ _ _ _ | exact Ent.nil _ _ | exact Ent.func _ | exact Ent.refl _ | exact Ent.of_eq rfl | refine Ent.cells ?_)
  · (try simp only [Bool.and_eq_true, Bool.or_eq_true, Bool.and_eq_false_iff, Bool.or_eq_false_iff, decide_eq_true_eq, decide_eq_false_iff_not, Bool.not_eq_true', Bool.not_eq_false', List.length_map, ne_eq, Decidable.not_not, Int.not_lt, Int.not_le] at h4)
    refine tr_skip ?_
    refine pe_then_normal ?_
    refine tr_sub hC (.cons (t := 0) rfl .nil) .nil rfl ?_
    refine tr_seq ?_
    refine tr_region (fun N3 hN => ?_)
    refine lxn (op_buildEmpty (m' := 5) (kk := 5) (f := byP) el25 sz5 (by first | exact hC.low _ (by decide) | rfl)) rfl ?_
    refine lx (op_move rfl) rfl ?_
    refine lxr (op_append (m := 5) (m' := 7) (kk := 7) rfl rfl rfl (.inr (by first | exact hC.low _ (by decide) | rfl)) el25 ze5 sz5 by5 rfl byP_len (by simp; omega) (by simp; omega)) rfl ?_
    refine lx (op_assign rfl) rfl ?_
    refine lx_end ⟨by kernel_rfl, ?_⟩
    refine pe_then_normal ?_
    refine tr_sub hC (.cons (t := 2) rfl .nil) (.cons (t := 7) rfl .nil) rfl ?_
    refine tr_ret ?_
    refine pe_own (m := 7) rfl hO rfl rfl rfl ?_
    repeat (first | exact Ents.nil | refine Ents.cons ?_ ?_ | refine Ent.tup ?_ | refine Ent.agg ?_ | exact Ent.row _ _ _ _ | exact Ent.nil _ _ | exact Ent.func _ | exact Ent.refl _ | exact Ent.of_eq rfl | refine Ent.cells ?_)
theorem bytesEq_ok (xs ys : List Int) (hx : xs.length ≤ 4000000) : FnP Try.prog 39 [slP byP 1 xs, slP byP 1 ys] (eqP (.bool (decide (xs = ys)))) := by
  refine fn_pure' Try.func39 rfl Try.ntmps39 rfl ?_
  intro σ0 M ex Rf R hC hO
  simp only [frameOf, tokOf]
  refine tr_seq ?_
  refine tr_region (fun N0 hN => ?_)
  refine lx (op_assign rfl) rfl ?_
  refine lx_end ⟨by kernel_rfl, ?_⟩
  refine pe_then_normal ?_
  refine tr_sub hC (.cons (t := 0) rfl (.cons (t := 1) rfl .nil)) .nil rfl ?_
  refine tr_seq ?_
  refine tr_seq ?_
  refine tr_region (fun N1 hN => ?_)
  refine lx (op_move rfl) rfl ?_
  first | refine lx (op_len rfl el25) rfl ?_ | refine lx (op_len_row rfl el25) rfl ?_ | refine lx (op_len_mv rfl el25) rfl ?_ | refine lx (op_len_nil rfl el25) rfl ?_
  refine lx (op_move rfl) rfl ?_
  first | refine lx (op_len rfl el25) rfl ?_ | refine lx (op_len_row rfl el25) rfl ?_ | refine lx (op_len_mv rfl el25) rfl ?_ | refine lx (op_len_nil rfl el25) rfl ?_
  refine lx (op_neq rfl rfl) rfl ?_
  refine lx_end ⟨by kernel_rfl, ?_⟩
  refine pe_then_normal ?_
  refine tr_sub hC (.cons (t := 0) rfl (.cons (t := 1) rfl (.cons (t := 10) rfl .nil))) .nil rfl ?_
  refine tr_cond rfl (fun h10 => ?_) (fun h10 => ?_)
  · (try simp only [Bool.and_eq_true, Bool.or_eq_true, Bool.and_eq_false_iff, Bool.or_eq_false_iff, decide_eq_true_eq, decide_eq_false_iff_not, Bool.not_eq_true', Bool.not_eq_false', List.length_map, ne_eq, Decidable.not_not, Int.not_lt, Int.not_le] at h10)
    have hne : xs ≠ ys := fun e => h10 (by rw [e])
    refine tr_seq ?_
    refine tr_region (fun N2 hN => ?_)
    refine lx (op_assign rfl) rfl ?_
    refine lx_end ⟨by kernel_rfl, ?_⟩
    refine pe_then_normal ?_
    refine tr_sub hC (.cons (t := 4) rfl .nil) .nil rfl ?_
    refine tr_ret ?_
    refine pe_then_ret ?_
    refine pe_ret1 rfl hO rfl (.tmp rfl .nil) ?_
    exact entB (decide_eq_false hne).symm
  · (try simp only [Bool.and_eq_true, Bool.or_eq_true, Bool.and_eq_false_iff, Bool.or_eq_false_iff, decide_eq_true_eq, decide_eq_false_iff_not, Bool.not_eq_true', Bool.not_eq_false', List.length_map, ne_eq, Decidable.not_not, Int.not_lt, Int.not_le] at h10)
    have hlen : xs.length = ys.length := by omega
    refine tr_skip ?_
    refine pe_then_normal ?_
    refine tr_sub hC (.cons (t := 0) rfl (.cons (t := 1) rfl .nil)) .nil rfl ?_
    refine tr_seq ?_
    refine tr_seq ?_
    refine tr_region (fun N3 hN => ?_)
    refine lx (op_move rfl) rfl ?_
    first | refine lx (op_len rfl el25) rfl ?_ | refine lx (op_len_row rfl el25) rfl ?_ | refine lx (op_len_mv rfl el25) rfl ?_ | refine lx (op_len_nil rfl el25) rfl ?_
    refine lx (op_move rfl) rfl ?_
    refine lx_end ⟨by kernel_rfl, ?_⟩
    refine pe_then_normal ?_
    refine tr_sub hC (.cons (t := 0) rfl (.cons (t := 1) rfl (.cons (t := 12) rfl (.cons (t := 13) rfl .nil)))) .nil rfl ?_
    refine tr_block ?_
    refine tr_loopK (α := {zz : Nat // zz ≤ xs.length ∧ xs.take zz = ys.take zz}) (⟨(0), Nat.zero_le _, by simp⟩) (fun zz => [(13, eqP (.int .i64 (zz.1 : Int)))]) (fun zz => []) (fun zz => xs.length - zz.1) hC (.cons (t := 0) rfl (.cons (t := 1) rfl (.cons (t := 12) rfl .nil))) .nil rfl ?_ ?_ (fun zz => ?_)
    · try dsimp only [List.cons_append, List.nil_append]
      first | refine SubF.cons rfl ?_ | (refine SubF.ent rfl ?_ ?_; · repeat (first | exact Ents.nil | refine Ents.cons ?_ ?_ | refine Ent.tup ?_ | refine Ent.agg ?_ | exact Ent.row _ _ _ _ | exact Ent.nil _ _ | exact Ent.func _ | exact Ent.refl _ | exact Ent.of_eq rfl | refine Ent.cells ?_))
      exact SubF.nil
    · try dsimp only [List.cons_append, List.nil_append]
      repeat (first | exact SubL.nil | refine SubL.cons rfl ?_)
    · obtain ⟨k, hk1, hk2⟩ := zz
      dsimp only [List.cons_append, List.nil_append]
      refine tr_seq ?_
      refine tr_region (fun N4 hN => ?_)
      refine lx (op_lss rfl rfl) rfl ?_
      refine lx_end ⟨by kernel_rfl, ?_⟩
      refine pe_then_normal ?_
      refine tr_sub hC (.cons (t := 0) rfl (.cons (t := 1) rfl (.cons (t := 12) rfl (.cons (t := 13) rfl (.cons (t := 14) rfl .nil))))) .nil rfl ?_
      refine tr_seq ?_
      refine tr_cond rfl (fun h14 => ?_) (fun h14 => ?_)
      · (try simp only [Bool.and_eq_true, Bool.or_eq_true, Bool.and_eq_false_iff, Bool.or_eq_false_iff, decide_eq_true_eq, decide_eq_false_iff_not, Bool.not_eq_true', Bool.not_eq_false', List.length_map, ne_eq, Decidable.not_not, Int.not_lt, Int.not_le] at h14)
        refine tr_skip ?_
        refine pe_then_normal ?_
        refine tr_sub hC (.cons (t := 0) rfl (.cons (t := 1) rfl (.cons (t := 12) rfl (.cons (t := 13) rfl .nil)))) .nil rfl ?_
        refine tr_seq ?_
        refine tr_block ?_
        refine tr_seq ?_
        refine tr_region (fun N5 hN => ?_)
        refine lx (op_move rfl) rfl ?_
        refine lx (op_assign rfl) rfl ?_
        refine lx_end ⟨by kernel_rfl, ?_⟩
        refine pe_then_normal ?_
        refine tr_sub hC (.cons (t := 0) rfl (.cons (t := 1) rfl (.cons (t := 5) rfl (.cons (t := 12) rfl (.cons (t := 13) rfl .nil))))) .nil rfl ?_
        refine tr_seq ?_
        refine tr_drawn mixed (fun N6 hN => ?_)
        refine lx (op_move rfl) rfl ?_
        refine lx (op_move rfl) rfl ?_
        refine lx (op_index rfl rfl el25 sz5 rfl (List.getElem?_eq_getElem (by omega : k < xs.length))) rfl ?_
        refine lx (op_load_one rfl ag5 rfl) rfl ?_
        refine lx (op_move rfl) rfl ?_
        refine lx (op_move rfl) rfl ?_
        refine lx (op_index rfl rfl el25 sz5 rfl (List.getElem?_eq_getElem (by omega : k < ys.length))) rfl ?_
        refine lx (op_load_one rfl ag5 rfl) rfl ?_
        refine lx (op_neq rfl rfl) rfl ?_
        refine lx_end ⟨by kernel_rfl, ?_⟩
        refine pe_then_normal ?_
        refine tr_sub hC (.cons (t := 0) rfl (.cons (t := 1) rfl (.cons (t := 12) rfl (.cons (t := 13) rfl (.cons (t := 24) rfl .nil))))) .nil rfl ?_
        refine tr_cond rfl (fun h24 => ?_) (fun h24 => ?_)
        · (try simp only [Bool.and_eq_true, Bool.or_eq_true, Bool.and_eq_false_iff, Bool.or_eq_false_iff, decide_eq_true_eq, decide_eq_false_iff_not, Bool.not_eq_true', Bool.not_eq_false', List.length_map, ne_eq, Decidable.not_not, Int.not_lt, Int.not_le] at h24)
          have hne : decide (xs = ys) = false := ne_at (by omega) (by omega) h24
          refine tr_seq ?_
          refine tr_region (fun N7 hN => ?_)
          refine lx (op_assign rfl) rfl ?_
          refine lx_end ⟨by kernel_rfl, ?_⟩
          refine pe_then_normal ?_
          refine tr_sub hC (.cons (t := 4) rfl .nil) .nil rfl ?_
          refine tr_ret ?_
          refine pe_block_ret ?_
          refine pe_then_ret ?_
          refine pe_then_ret ?_
          refine pe_block_ret ?_
          refine pe_then_ret ?_
          refine pe_ret1 rfl hO rfl (.tmp rfl .nil) ?_
          exact entB hne.symm
        · (try simp only [Bool.and_eq_true, Bool.or_eq_true, Bool.and_eq_false_iff, Bool.or_eq_false_iff, decide_eq_true_eq, decide_eq_false_iff_not, Bool.not_eq_true', Bool.not_eq_false', List.length_map, ne_eq, Decidable.not_not, Int.not_lt, Int.not_le] at h24)
          refine tr_skip ?_
          refine pe_block_normal ?_
          refine pe_then_normal ?_
          refine tr_sub hC (.cons (t := 0) rfl (.cons (t := 1) rfl (.cons (t := 12) rfl (.cons (t := 13) rfl .nil)))) .nil rfl ?_
          refine tr_region (fun N8 hN => ?_)
          refine lx (op_add rfl rfl (by omega)) rfl ?_
          refine lx (op_move rfl) rfl ?_
          refine lx_end ⟨by kernel_rfl, ?_⟩
          refine pe_round (⟨(k + 1), by omega, take_step hk2 (by omega) (by omega) (by simpa using h24)⟩) (by dsimp only; omega) (pe_st hC ?_ ?_ rfl)
          · try dsimp only [List.cons_append, List.nil_append]
            first | refine SubF.cons rfl ?_ | (refine SubF.ent rfl ?_ ?_; · repeat (first | exact Ents.nil | refine Ents.cons ?_ ?_ | refine Ent.tup ?_ | refine Ent.agg ?_ | exact Ent.row _ _ _ _ | exact Ent.nil _ _ | exact Ent.func _ | exact Ent.refl _ | exact Ent.of_eq rfl | refine Ent.cells ?_))
            first | refine SubF.cons rfl ?_ | (refine SubF.ent rfl ?_ ?_; · repeat (first | exact Ents.nil | refine Ents.cons ?_ ?_ | refine Ent.tup ?_ | refine Ent.agg ?_ | exact Ent.row _ _ _ _ | exact Ent.nil _ _ | exact Ent.func _ | exact Ent.refl _ | exact Ent.of_eq rfl | refine Ent.cells ?_))
            first | refine SubF.cons rfl ?_ | (refine SubF.ent rfl ?_ ?_; · repeat (first | exact Ents.nil | refine Ents.cons ?_ ?_ | refine Ent.tup ?_ | refine Ent.agg ?_ | exact Ent.row _ _ _ _ | exact Ent.nil _ _ | exact Ent.func _ | exact Ent.refl _ | exact Ent.of_eq rfl | refine Ent.cells ?_))
            first | refine SubF.cons rfl ?_ | (refine SubF.ent rfl ?_ ?_; · repeat (first | exact Ents.nil | refine Ents.cons ?_ ?_ | refine Ent.tup ?_ | refine Ent.agg ?_ | exact Ent.row _ _ _ _ | exact Ent.nil _ _ | exact Ent.func _ | exact Ent.refl _ | exact Ent.of_eq rfl | refine Ent.cells ?_))
            exact SubF.nil
          · try dsimp only [List.cons_append, List.nil_append]
            repeat (first | exact SubL.nil | refine SubL.cons rfl ?_)
      · (try simp only [Bool.and_eq_true, Bool.or_eq_true, Bool.and_eq_false_iff, Bool.or_eq_false_iff, decide_eq_true_eq, decide_eq_false_iff_not, Bool.not_eq_true', Bool.not_eq_false', List.length_map, ne_eq, Decidable.not_not, Int.not_lt, Int.not_le] at h14)
        have hk3 : k = xs.length := by omega
        refine tr_exit ?_
        refine pe_then_exit ?_
        refine pe_then_exit ?_
        refine pe_block_eq ?_
        refine pe_then_normal ?_
        refine tr_sub hC .nil .nil rfl ?_
        refine tr_seq ?_
        refine tr_region (fun N9 hN => ?_)
        refine lx (op_assign rfl) rfl ?_
        refine lx_end ⟨by kernel_rfl, ?_⟩
        refine pe_then_normal ?_
        refine tr_sub hC (.cons (t := 4) rfl .nil) .nil rfl ?_
        refine tr_ret ?_
        refine pe_ret1 rfl hO rfl (.tmp rfl .nil) ?_
        exact entB (decide_eq_true (take_end hk2 (by omega) (by omega))).symm
theorem rNumber_ok (z : Int) (hz : 0 ≤ z) (hz2 : z ≤ 9223372036854775807) : FnP Try.prog 34 [eqP (.int .i64 z)] (slP byP 1 (numI z)) := by
  unfold numI
  obtain ⟨n, rfl⟩ := Int.eq_ofNat_of_zero_le hz
  rw [Int.toNat_natCast]
  have hlen : (numF n).length ≤ 10 := numF_len10 (by omega)
  refine fn_pure' Try.func34 rfl Try.ntmps34 rfl ?_
  intro σ0 M ex Rf R hC hO
  simp only [frameOf, tokOf]
  refine tr_seq ?_
  refine tr_region (fun N0 hN => ?_)
  refine lx (op_assign rfl) rfl ?_
  refine lx_end ⟨by kernel_rfl, ?_⟩
  refine pe_then_normal ?_
  refine tr_sub hC (.cons (t := 0) rfl .nil) .nil rfl ?_
  refine tr_seq ?_
  refine tr_region (fun N1 hN => ?_)
  refine lx (op_assign rfl) rfl ?_
  refine lx_end ⟨by kernel_rfl, ?_⟩
  refine pe_then_normal ?_
  refine tr_sub hC (.cons (t := 0) rfl (.cons (t := 3) rfl .nil)) .nil rfl ?_
  refine tr_seq ?_
  refine tr_block ?_
  refine tr_nilrow byP 1 5 3 600 rfl (by first | exact hC.low _ (by decide) | rfl) (fun idN => ?_)
  refine tr_loopK (α := {zz : Nat × (List Int) × AL.Id // zz.1 ≤ n ∧ zz.2.1 ++ numF zz.1 = numF n}) (⟨(n, [], idN), Nat.le_refl _, rfl⟩) (fun zz => [(0, eqP (.int .i64 (zz.1.1 : Int))), (3, rowP zz.1.2.2 byP 1 zz.1.2.1)]) (fun zz => [(600, some (zz.1.2.2, tail 5 1 (zz.1.2.1.length * 1)))]) (fun zz => zz.1.1) hC .nil .nil rfl ?_ ?_ (fun zz => ?_)
  · try dsimp only [List.cons_append, List.nil_append]
    first | refine SubF.cons rfl ?_ | (refine SubF.ent rfl ?_ ?_; · repeat (first | exact Ents.nil | refine Ents.cons ?_ ?_ | refine Ent.tup ?_ | refine Ent.agg ?_ | exact Ent.row _ _ _ _ | exact Ent.nil _ _ | exact Ent.func _ | exact Ent.refl _ | exact Ent.of_eq rfl | refine Ent.cells ?_))
    first | refine SubF.cons rfl ?_ | (refine SubF.ent rfl ?_ ?_; · repeat (first | exact Ents.nil | refine Ents.cons ?_ ?_ | refine Ent.tup ?_ | refine Ent.agg ?_ | exact Ent.row _ _ _ _ | exact Ent.nil _ _ | exact Ent.func _ | exact Ent.refl _ | exact Ent.of_eq rfl | refine Ent.cells ?_))
    exact SubF.nil
  · try dsimp only [List.cons_append, List.nil_append]
    repeat (first | exact SubL.nil | refine SubL.cons rfl ?_)
  · obtain ⟨⟨m, xs, i⟩, hm, hx⟩ := zz
    try dsimp only at hm
    try dsimp only at hx
    dsimp only [List.cons_append, List.nil_append]
    refine tr_seq ?_
    refine tr_seq ?_
    refine tr_region (fun N2 hN => ?_)
    refine lx (op_move rfl) rfl ?_
    refine lx (op_geq rfl rfl) rfl ?_
    refine lx_end ⟨by kernel_rfl, ?_⟩
    refine pe_then_normal ?_
    refine tr_sub hC (.cons (t := 0) rfl (.cons (t := 3) rfl (.cons (t := 5) rfl .nil))) (.cons (t := 600) rfl .nil) rfl ?_
    refine tr_cond rfl (fun h5 => ?_) (fun h5 => ?_)
    · (try simp only [Bool.and_eq_true, Bool.or_eq_true, Bool.and_eq_false_iff, Bool.or_eq_false_iff, decide_eq_true_eq, decide_eq_false_iff_not, Bool.not_eq_true', Bool.not_eq_false', List.length_map, ne_eq, Decidable.not_not, Int.not_lt, Int.not_le] at h5)
      have hxl := num_lens hx
      refine tr_skip ?_
      refine pe_then_normal ?_
      refine tr_sub hC (.cons (t := 0) rfl (.cons (t := 3) rfl .nil)) (.cons (t := 600) rfl .nil) rfl ?_
      refine tr_block ?_
      refine tr_seq ?_
      refine tr_region (fun N3 hN => ?_)
      refine lx (op_move rfl) rfl ?_
      refine lx (op_move rfl) rfl ?_
      refine lx (op_rem rfl rfl rfl) rfl ?_
      refine lx (op_add rfl rfl (dig_bd m)) rfl ?_
      refine lx (OpJ.ent (op_convert rfl us3 ik5) (show Ent _ (eqP (.int .u8 ((m % 128 + 128 : Nat) : Int))) from (by exact entI (dig_hi m)))) rfl ?_
      refine lx (op_buildSlice (f := byP) (xs := [((m % 128 + 128 : Nat) : Int)]) (l := [(0, (Go.Operand.tmp 10))]) ze5 rfl rfl (by decide) el25 sz5 byP_len (.cons rfl (.one (by (first | exact One.eq rfl | exact One.mv _ _ _ _ _ | exact One.cl _ _ _ | exact One.map _ | exact One.sl _ _ _ | exact One.row _ _ _ _ | exact One.msl _ _ _ _ | exact One.ptr _ _ | exact One.b _ | exact One.cells _))) .nil) rfl (by decide)) rfl ?_
      refine lxr (op_append (m := 600) (m' := 600) (kk := 12) rfl rfl rfl (.inl rfl) el25 ze5 sz5 by5 rfl byP_len (by rw [List.length_singleton]; omega) (by rw [List.length_singleton]; omega)) rfl ?_
      refine lx (op_assign rfl) rfl ?_
      refine lx_end ⟨by kernel_rfl, ?_⟩
      refine pe_then_normal ?_
      refine tr_sub hC (.cons (t := 0) rfl (.cons (t := 3) rfl .nil)) (.cons (t := 600) rfl .nil) rfl ?_
      refine tr_region (fun N4 hN => ?_)
      refine lx (op_move rfl) rfl ?_
      refine lx (OpJ.ent (op_quo rfl rfl rfl) (show Ent _ (eqP (.int .i64 ((m / 128 : Nat) : Int))) from (by exact entI (dig_quo (by omega))))) rfl ?_
      refine lx (op_assign rfl) rfl ?_
      refine lx_end ⟨by kernel_rfl, ?_⟩
      refine pe_block_normal ?_
      refine pe_round (⟨(m / 128, xs ++ [((m % 128 + 128 : Nat) : Int)], (N3, 12)), by dsimp only; omega, by dsimp only; rw [num_step (by omega)]; exact hx⟩) (by dsimp only; omega) (pe_st hC ?_ ?_ rfl)
      · try dsimp only [List.cons_append, List.nil_append]
        first | refine SubF.cons rfl ?_ | (refine SubF.ent rfl ?_ ?_; · repeat (first | exact Ents.nil | refine Ents.cons ?_ ?_ | refine Ent.tup ?_ | refine Ent.agg ?_ | exact Ent.row _ _ _ _ | exact Ent.nil _ _ | exact Ent.func _ | exact Ent.refl _ | exact Ent.of_eq rfl | refine Ent.cells ?_))
        first | refine SubF.cons rfl ?_ | (refine SubF.ent rfl ?_ ?_; · repeat (first | exact Ents.nil | refine Ents.cons ?_ ?_ | refine Ent.tup ?_ | refine Ent.agg ?_ | exact Ent.row _ _ _ _ | exact Ent.nil _ _ | exact Ent.func _ | exact Ent.refl _ | exact Ent.of_eq rfl | refine Ent.cells ?_))
        exact SubF.nil
      · try dsimp only [List.cons_append, List.nil_append]
        repeat (first | exact SubL.nil | refine SubL.cons rfl ?_)
    · (try simp only [Bool.and_eq_true, Bool.or_eq_true, Bool.and_eq_false_iff, Bool.or_eq_false_iff, decide_eq_true_eq, decide_eq_false_iff_not, Bool.not_eq_true', Bool.not_eq_false', List.length_map, ne_eq, Decidable.not_not, Int.not_lt, Int.not_le] at h5)
      have hxl := num_lens hx
      rw [← num_end (by omega)] at hx
      refine tr_exit ?_
      refine pe_then_exit ?_
      refine pe_then_exit ?_
      refine pe_block_eq ?_
      refine pe_then_normal ?_
      refine tr_sub hC (.cons (t := 0) rfl (.cons (t := 3) rfl .nil)) (.cons (t := 600) rfl .nil) rfl ?_
      refine tr_seq ?_
      refine tr_region (fun N5 hN => ?_)
      refine lx (op_move rfl) rfl ?_
      refine lx (op_move rfl) rfl ?_
      refine lx (OpJ.ent (op_convert rfl us3 ik5) (show Ent _ (eqP (.int .u8 (m : Int))) from (by exact entI (dig_lo (by omega))))) rfl ?_
      refine lx (op_buildSlice (f := byP) (xs := [(m : Int)]) (l := [(0, (Go.Operand.tmp 17))]) ze5 rfl rfl (by decide) el25 sz5 byP_len (.cons rfl (.one (by (first | exact One.eq rfl | exact One.mv _ _ _ _ _ | exact One.cl _ _ _ | exact One.map _ | exact One.sl _ _ _ | exact One.row _ _ _ _ | exact One.msl _ _ _ _ | exact One.ptr _ _ | exact One.b _ | exact One.cells _))) .nil) rfl (by decide)) rfl ?_
      refine lxr (op_append (m := 600) (m' := 600) (kk := 19) rfl rfl rfl (.inl rfl) el25 ze5 sz5 by5 rfl byP_len (by rw [List.length_singleton]; omega) (by rw [List.length_singleton]; omega)) rfl ?_
      refine lx (op_assign rfl) rfl ?_
      refine lx_end ⟨by kernel_rfl, ?_⟩
      refine pe_then_normal ?_
      refine tr_sub hC (.cons (t := 2) rfl .nil) (.cons (t := 600) rfl .nil) rfl ?_
      refine tr_ret ?_
      refine pe_ret1 rfl hO rfl (.tmp rfl .nil) ?_
      rw [← hx]
      repeat (first | exact Ents.nil | refine Ents.cons ?_ ?_ | refine Ent.tup ?_ | refine Ent.agg ?_ | exact Ent.row _ _ _ _ | exact Ent.nil _ _ | exact Ent.func _ | exact Ent.refl _ | exact Ent.of_eq rfl | refine Ent.cells ?_)
theorem numbers_ok (id : AL.Id) (xs l : List Int) (hx : xs.length ≤ 1000000) (hl : l.length ≤ 1000) (hz : ∀ z ∈ l, 0 ≤ z ∧ z ≤ 9223372036854775807) : FnOK Try.prog 32 [rowP id byP 1 xs, slP ip 1 l] [(id, tail 5 1 (xs.length * 1))] 1 (fun ι => rowP (ι 0) byP 1 (xs ++ numsF l)) (fun ι => [(ι 0, tail 5 1 ((xs ++ numsF l).length * 1))]) := by
  have hlen : (numsF l).length ≤ 10 * l.length := numsF_len l fun z h => (hz z h).2
  refine fn_ownN Try.func32 rfl Try.ntmps32 rfl ?_
  intro σ0 M Rf R hC hO
  simp only [frameOf, tokOf]
  refine tr_seq ?_
  refine tr_region (fun N0 hN => ?_)
  refine lx (op_assign rfl) rfl ?_
  refine lx_end ⟨by kernel_rfl, ?_⟩
  refine pe_then_normal ?_
  refine tr_sub hC (.cons (t := 0) rfl (.cons (t := 1) rfl .nil)) (.cons (t := 0) rfl .nil) rfl ?_
  refine tr_seq ?_
  refine tr_seq ?_
  refine tr_region (fun N1 hN => ?_)
  refine lx (op_move rfl) rfl ?_
  first | refine lx (op_len rfl el68) rfl ?_ | refine lx (op_len_row rfl el68) rfl ?_ | refine lx (op_len_mv rfl el68) rfl ?_ | refine lx (op_len_nil rfl el68) rfl ?_
  refine lx (op_move rfl) rfl ?_
  refine lx_end ⟨by kernel_rfl, ?_⟩
  refine pe_then_normal ?_
  refine tr_sub hC (.cons (t := 0) rfl (.cons (t := 7) rfl (.cons (t := 8) rfl (.cons (t := 9) rfl .nil)))) (.cons (t := 0) rfl .nil) rfl ?_
  refine tr_block ?_
  refine tr_loopK (α := {zz : Nat × (List Int) × AL.Id // zz.1 ≤ l.length ∧ zz.2.1 = xs ++ numsF (l.take zz.1)}) (⟨(0, xs, id), Nat.zero_le _, by simp [numsF]⟩) (fun zz => [(0, rowP zz.1.2.2 byP 1 zz.1.2.1), (9, eqP (.int .i64 (zz.1.1 : Int)))]) (fun zz => [(0, some (zz.1.2.2, tail 5 1 (zz.1.2.1.length * 1)))]) (fun zz => l.length - zz.1.1) hC (.cons (t := 7) rfl (.cons (t := 8) rfl .nil)) .nil rfl ?_ ?_ (fun zz => ?_)
  · try dsimp only [List.cons_append, List.nil_append]
    first | refine SubF.cons rfl ?_ | (refine SubF.ent rfl ?_ ?_; · repeat (first | exact Ents.nil | refine Ents.cons ?_ ?_ | refine Ent.tup ?_ | refine Ent.agg ?_ | exact Ent.row _ _ _ _ | exact Ent.nil _ _ | exact Ent.func _ | exact Ent.refl _ | exact Ent.of_eq rfl | refine Ent.cells ?_))
    first | refine SubF.cons rfl ?_ | (refine SubF.ent rfl ?_ ?_; · repeat (first | exact Ents.nil | refine Ents.cons ?_ ?_ | refine Ent.tup ?_ | refine Ent.agg ?_ | exact Ent.row _ _ _ _ | exact Ent.nil _ _ | exact Ent.func _ | exact Ent.refl _ | exact Ent.of_eq rfl | refine Ent.cells ?_))
    exact SubF.nil
  · try dsimp only [List.cons_append, List.nil_append]
    repeat (first | exact SubL.nil | refine SubL.cons rfl ?_)
  · obtain ⟨⟨k, bs, i⟩, hk, hb⟩ := zz
    try dsimp only at hk
    try dsimp only at hb
    dsimp only [List.cons_append, List.nil_append]
    refine tr_seq ?_
    refine tr_region (fun N2 hN => ?_)
    refine lx (op_lss rfl rfl) rfl ?_
    refine lx_end ⟨by kernel_rfl, ?_⟩
    refine pe_then_normal ?_
    refine tr_sub hC (.cons (t := 0) rfl (.cons (t := 7) rfl (.cons (t := 8) rfl (.cons (t := 9) rfl (.cons (t := 10) rfl .nil))))) (.cons (t := 0) rfl .nil) rfl ?_
    refine tr_seq ?_
    refine tr_cond rfl (fun h10 => ?_) (fun h10 => ?_)
    · (try simp only [Bool.and_eq_true, Bool.or_eq_true, Bool.and_eq_false_iff, Bool.or_eq_false_iff, decide_eq_true_eq, decide_eq_false_iff_not, Bool.not_eq_true', Bool.not_eq_false', List.length_map, ne_eq, Decidable.not_not, Int.not_lt, Int.not_le] at h10)
      have hlk := hz _ (List.getElem_mem (by omega : k < l.length))
      obtain ⟨n, hn⟩ := Int.eq_ofNat_of_zero_le hlk.1
      have hnI : numI l[k] = numF n := by rw [hn]; unfold numI; rw [Int.toNat_natCast]
      refine tr_skip ?_
      refine pe_then_normal ?_
      refine tr_sub hC (.cons (t := 0) rfl (.cons (t := 7) rfl (.cons (t := 8) rfl (.cons (t := 9) rfl .nil)))) (.cons (t := 0) rfl .nil) rfl ?_
      refine tr_seq ?_
      refine tr_block ?_
      refine tr_seq ?_
      refine tr_region (fun N3 hN => ?_)
      refine lx (op_index rfl rfl el68 sz3 rfl (List.getElem?_eq_getElem (by omega : k < l.length))) rfl ?_
      first | refine lx (OpJ.ent (op_load_one rfl ag3 rfl) (show Ent _ (eqP (.int .i64 (n : Int))) from (by exact entI hn))) rfl ?_ | refine lx (OpJ.ent (op_bload_one (m := 0) rfl rfl ag3 rfl) (show Ent _ (eqP (.int .i64 (n : Int))) from (by exact entI hn))) rfl ?_
      refine lx (op_assign rfl) rfl ?_
      refine lx_end ⟨by kernel_rfl, ?_⟩
      refine pe_then_normal ?_
      refine tr_sub hC (.cons (t := 0) rfl (.cons (t := 6) rfl (.cons (t := 7) rfl (.cons (t := 8) rfl (.cons (t := 9) rfl .nil))))) (.cons (t := 0) rfl .nil) rfl ?_
      refine tr_seq ?_
      refine tr_block ?_
      refine tr_loopK (α := {zz : Nat × (List Int) × AL.Id // zz.1 ≤ n ∧ zz.2.1 ++ numF zz.1 = bs ++ numF n}) (⟨(n, bs, i), Nat.le_refl _, rfl⟩) (fun zz => [(6, eqP (.int .i64 (zz.1.1 : Int))), (0, rowP zz.1.2.2 byP 1 zz.1.2.1)]) (fun zz => [(0, some (zz.1.2.2, tail 5 1 (zz.1.2.1.length * 1)))]) (fun zz => zz.1.1) hC (.cons (t := 7) rfl (.cons (t := 8) rfl (.cons (t := 9) rfl .nil))) .nil rfl ?_ ?_ (fun zz => ?_)
      · try dsimp only [List.cons_append, List.nil_append]
        first | refine SubF.cons rfl ?_ | (refine SubF.ent rfl ?_ ?_; · repeat (first | exact Ents.nil | refine Ents.cons ?_ ?_ | refine Ent.tup ?_ | refine Ent.agg ?_ | exact Ent.row _ _ _ _ | exact Ent.nil _ _ | exact Ent.func _ | exact Ent.refl _ | exact Ent.of_eq rfl | refine Ent.cells ?_))
        first | refine SubF.cons rfl ?_ | (refine SubF.ent rfl ?_ ?_; · repeat (first | exact Ents.nil | refine Ents.cons ?_ ?_ | refine Ent.tup ?_ | refine Ent.agg ?_ | exact Ent.row _ _ _ _ | exact Ent.nil _ _ | exact Ent.func _ | exact Ent.refl _ | exact Ent.of_eq rfl | refine Ent.cells ?_))
        exact SubF.nil
      · try dsimp only [List.cons_append, List.nil_append]
        repeat (first | exact SubL.nil | refine SubL.cons rfl ?_)
      · obtain ⟨⟨m, cs, i2⟩, hm, hc⟩ := zz
        try dsimp only at hm
        try dsimp only at hc
        dsimp only [List.cons_append, List.nil_append]
        refine tr_seq ?_
        refine tr_seq ?_
        refine tr_region (fun N4 hN => ?_)
        refine lx (op_move rfl) rfl ?_
        refine lx (op_geq rfl rfl) rfl ?_
        refine lx_end ⟨by kernel_rfl, ?_⟩
        refine pe_then_normal ?_
        refine tr_sub hC (.cons (t := 0) rfl (.cons (t := 6) rfl (.cons (t := 7) rfl (.cons (t := 8) rfl (.cons (t := 9) rfl (.cons (t := 14) rfl .nil)))))) (.cons (t := 0) rfl .nil) rfl ?_
        refine tr_cond rfl (fun h14 => ?_) (fun h14 => ?_)
        · (try simp only [Bool.and_eq_true, Bool.or_eq_true, Bool.and_eq_false_iff, Bool.or_eq_false_iff, decide_eq_true_eq, decide_eq_false_iff_not, Bool.not_eq_true', Bool.not_eq_false', List.length_map, ne_eq, Decidable.not_not, Int.not_lt, Int.not_le] at h14)
          have hcl := num_lens hc
          have hbl : bs.length + (numF n).length ≤ 1000000 + 10 * 1000 + 10 := by have h1 := numF_len10 (n := n) (by omega); have h2 := numsF_len (l.take k) (fun z h => (hz z (List.mem_of_mem_take h)).2); have h3 := List.length_take_le k l; rw [hb, List.length_append]; omega
          rw [List.length_append] at hcl
          refine tr_skip ?_
          refine pe_then_normal ?_
          refine tr_sub hC (.cons (t := 0) rfl (.cons (t := 6) rfl (.cons (t := 7) rfl (.cons (t := 8) rfl (.cons (t := 9) rfl .nil))))) (.cons (t := 0) rfl .nil) rfl ?_
          refine tr_seq ?_
          refine tr_block ?_
          refine tr_region (fun N6 hN => ?_)
          refine lx (op_move rfl) rfl ?_
          refine lx (op_move rfl) rfl ?_
          refine lx (op_rem rfl rfl rfl) rfl ?_
          refine lx (op_add rfl rfl (dig_bd m)) rfl ?_
          refine lx (OpJ.ent (op_convert rfl us3 ik5) (show Ent _ (eqP (.int .u8 ((m % 128 + 128 : Nat) : Int))) from (by exact entI (dig_hi m)))) rfl ?_
          refine lx (op_buildSlice (f := byP) (xs := [((m % 128 + 128 : Nat) : Int)]) (l := [(0, (Go.Operand.tmp 21))]) ze5 rfl rfl (by decide) el25 sz5 byP_len (.cons rfl (.one (by (first | exact One.eq rfl | exact One.mv _ _ _ _ _ | exact One.cl _ _ _ | exact One.map _ | exact One.sl _ _ _ | exact One.row _ _ _ _ | exact One.msl _ _ _ _ | exact One.ptr _ _ | exact One.b _ | exact One.cells _))) .nil) rfl (by decide)) rfl ?_
          refine lxr (op_append (m := 0) (m' := 0) (kk := 23) rfl rfl rfl (.inl rfl) el25 ze5 sz5 by5 rfl byP_len (by rw [List.length_singleton]; omega) (by rw [List.length_singleton]; omega)) rfl ?_
          refine lx (op_assign rfl) rfl ?_
          refine lx_end ⟨by kernel_rfl, ?_⟩
          refine pe_block_normal ?_
          refine pe_then_normal ?_
          refine tr_sub hC (.cons (t := 0) rfl (.cons (t := 6) rfl (.cons (t := 7) rfl (.cons (t := 8) rfl (.cons (t := 9) rfl .nil))))) (.cons (t := 0) rfl .nil) rfl ?_
          refine tr_region (fun N5 hN => ?_)
          refine lx (op_move rfl) rfl ?_
          refine lx (OpJ.ent (op_quo rfl rfl rfl) (show Ent _ (eqP (.int .i64 ((m / 128 : Nat) : Int))) from (by exact entI (dig_quo (by omega))))) rfl ?_
          refine lx (op_assign rfl) rfl ?_
          refine lx_end ⟨by kernel_rfl, ?_⟩
          refine pe_round (⟨(m / 128, cs ++ [((m % 128 + 128 : Nat) : Int)], (N6, 23)), by dsimp only; omega, by dsimp only; rw [num_step (by omega)]; exact hc⟩) (by dsimp only; omega) (pe_st hC ?_ ?_ rfl)
          · try dsimp only [List.cons_append, List.nil_append]
            first | refine SubF.cons rfl ?_ | (refine SubF.ent rfl ?_ ?_; · repeat (first | exact Ents.nil | refine Ents.cons ?_ ?_ | refine Ent.tup ?_ | refine Ent.agg ?_ | exact Ent.row _ _ _ _ | exact Ent.nil _ _ | exact Ent.func _ | exact Ent.refl _ | exact Ent.of_eq rfl | refine Ent.cells ?_))
            first | refine SubF.cons rfl ?_ | (refine SubF.ent rfl ?_ ?_; · repeat (first | exact Ents.nil | refine Ents.cons ?_ ?_ | refine Ent.tup ?_ | refine Ent.agg ?_ | exact Ent.row _ _ _ _ | exact Ent.nil _ _ | exact Ent.func _ | exact Ent.refl _ | exact Ent.of_eq rfl | refine Ent.cells ?_))
            first | refine SubF.cons rfl ?_ | (refine SubF.ent rfl ?_ ?_; · repeat (first | exact Ents.nil | refine Ents.cons ?_ ?_ | refine Ent.tup ?_ | refine Ent.agg ?_ | exact Ent.row _ _ _ _ | exact Ent.nil _ _ | exact Ent.func _ | exact Ent.refl _ | exact Ent.of_eq rfl | refine Ent.cells ?_))
            first | refine SubF.cons rfl ?_ | (refine SubF.ent rfl ?_ ?_; · repeat (first | exact Ents.nil | refine Ents.cons ?_ ?_ | refine Ent.tup ?_ | refine Ent.agg ?_ | exact Ent.row _ _ _ _ | exact Ent.nil _ _ | exact Ent.func _ | exact Ent.refl _ | exact Ent.of_eq rfl | refine Ent.cells ?_))
            first | refine SubF.cons rfl ?_ | (refine SubF.ent rfl ?_ ?_; · repeat (first | exact Ents.nil | refine Ents.cons ?_ ?_ | refine Ent.tup ?_ | refine Ent.agg ?_ | exact Ent.row _ _ _ _ | exact Ent.nil _ _ | exact Ent.func _ | exact Ent.refl _ | exact Ent.of_eq rfl | refine Ent.cells ?_))
            exact SubF.nil
          · try dsimp only [List.cons_append, List.nil_append]
            repeat (first | exact SubL.nil | refine SubL.cons rfl ?_)
        · (try simp only [Bool.and_eq_true, Bool.or_eq_true, Bool.and_eq_false_iff, Bool.or_eq_false_iff, decide_eq_true_eq, decide_eq_false_iff_not, Bool.not_eq_true', Bool.not_eq_false', List.length_map, ne_eq, Decidable.not_not, Int.not_lt, Int.not_le] at h14)
          have hcl := num_lens hc
          have hbl : bs.length + (numF n).length ≤ 1000000 + 10 * 1000 + 10 := by have h1 := numF_len10 (n := n) (by omega); have h2 := numsF_len (l.take k) (fun z h => (hz z (List.mem_of_mem_take h)).2); have h3 := List.length_take_le k l; rw [hb, List.length_append]; omega
          rw [List.length_append] at hcl
          rw [← num_end (by omega), ← hnI] at hc
          refine tr_exit ?_
          refine pe_then_exit ?_
          refine pe_then_exit ?_
          refine pe_block_eq ?_
          refine pe_then_normal ?_
          refine tr_sub hC (.cons (t := 0) rfl (.cons (t := 6) rfl (.cons (t := 7) rfl (.cons (t := 8) rfl (.cons (t := 9) rfl .nil))))) (.cons (t := 0) rfl .nil) rfl ?_
          refine tr_region (fun N7 hN => ?_)
          refine lx (op_move rfl) rfl ?_
          refine lx (op_move rfl) rfl ?_
          refine lx (OpJ.ent (op_convert rfl us3 ik5) (show Ent _ (eqP (.int .u8 (m : Int))) from (by exact entI (dig_lo (by omega))))) rfl ?_
          refine lx (op_buildSlice (f := byP) (xs := [(m : Int)]) (l := [(0, (Go.Operand.tmp 26))]) ze5 rfl rfl (by decide) el25 sz5 byP_len (.cons rfl (.one (by (first | exact One.eq rfl | exact One.mv _ _ _ _ _ | exact One.cl _ _ _ | exact One.map _ | exact One.sl _ _ _ | exact One.row _ _ _ _ | exact One.msl _ _ _ _ | exact One.ptr _ _ | exact One.b _ | exact One.cells _))) .nil) rfl (by decide)) rfl ?_
          refine lxr (op_append (m := 0) (m' := 0) (kk := 28) rfl rfl rfl (.inl rfl) el25 ze5 sz5 by5 rfl byP_len (by rw [List.length_singleton]; omega) (by rw [List.length_singleton]; omega)) rfl ?_
          refine lx (op_assign rfl) rfl ?_
          refine lx_end ⟨by kernel_rfl, ?_⟩
          refine pe_block_normal ?_
          refine pe_then_normal ?_
          refine tr_sub hC (.cons (t := 0) rfl (.cons (t := 7) rfl (.cons (t := 8) rfl (.cons (t := 9) rfl .nil)))) (.cons (t := 0) rfl .nil) rfl ?_
          refine tr_region (fun N8 hN => ?_)
          refine lx (op_add rfl rfl (by omega)) rfl ?_
          refine lx (op_move rfl) rfl ?_
          refine lx_end ⟨by kernel_rfl, ?_⟩
          refine pe_round (⟨(k + 1, cs ++ [(m : Int)], (N7, 28)), by dsimp only; omega, by dsimp only; rw [hc, hb, numsF_at (by omega), List.append_assoc]⟩) (by dsimp only; omega) (pe_st hC ?_ ?_ rfl)
          · try dsimp only [List.cons_append, List.nil_append]
            first | refine SubF.cons rfl ?_ | (refine SubF.ent rfl ?_ ?_; · repeat (first | exact Ents.nil | refine Ents.cons ?_ ?_ | refine Ent.tup ?_ | refine Ent.agg ?_ | exact Ent.row _ _ _ _ | exact Ent.nil _ _ | exact Ent.func _ | exact Ent.refl _ | exact Ent.of_eq rfl | refine Ent.cells ?_))
            first | refine SubF.cons rfl ?_ | (refine SubF.ent rfl ?_ ?_; · repeat (first | exact Ents.nil | refine Ents.cons ?_ ?_ | refine Ent.tup ?_ | refine Ent.agg ?_ | exact Ent.row _ _ _ _ | exact Ent.nil _ _ | exact Ent.func _ | exact Ent.refl _ | exact Ent.of_eq rfl | refine Ent.cells ?_))
            first | refine SubF.cons rfl ?_ | (refine SubF.ent rfl ?_ ?_; · repeat (first | exact Ents.nil | refine Ents.cons ?_ ?_ | refine Ent.tup ?_ | refine Ent.agg ?_ | exact Ent.row _ _ _ _ | exact Ent.nil _ _ | exact Ent.func _ | exact Ent.refl _ | exact Ent.of_eq rfl | refine Ent.cells ?_))
            first | refine SubF.cons rfl ?_ | (refine SubF.ent rfl ?_ ?_; · repeat (first | exact Ents.nil | refine Ents.cons ?_ ?_ | refine Ent.tup ?_ | refine Ent.agg ?_ | exact Ent.row _ _ _ _ | exact Ent.nil _ _ | exact Ent.func _ | exact Ent.refl _ | exact Ent.of_eq rfl | refine Ent.cells ?_))
            exact SubF.nil
          · try dsimp only [List.cons_append, List.nil_append]
            repeat (first | exact SubL.nil | refine SubL.cons rfl ?_)
    · (try simp only [Bool.and_eq_true, Bool.or_eq_true, Bool.and_eq_false_iff, Bool.or_eq_false_iff, decide_eq_true_eq, decide_eq_false_iff_not, Bool.not_eq_true', Bool.not_eq_false', List.length_map, ne_eq, Decidable.not_not, Int.not_lt, Int.not_le] at h10)
      obtain rfl : k = l.length := by omega
      rw [List.take_of_length_le (Nat.le_refl _)] at hb
      subst hb
      refine tr_exit ?_
      refine pe_then_exit ?_
      refine pe_then_exit ?_
      refine pe_block_eq ?_
      refine pe_then_normal ?_
      refine tr_sub hC (.cons (t := 0) rfl .nil) (.cons (t := 0) rfl .nil) rfl ?_
      refine tr_seq ?_
      refine tr_region (fun N9 hN => ?_)
      refine lx (op_move rfl) rfl ?_
      refine lx (op_assign rfl) rfl ?_
      refine lx_end ⟨by kernel_rfl, ?_⟩
      refine pe_then_normal ?_
      refine tr_sub hC (.cons (t := 4) rfl .nil) (.cons (t := 0) rfl .nil) rfl ?_
      refine tr_ret ?_
      refine pe_ownS' [0] rfl hO rfl (.tmp rfl .nil) (.cons (m := 0) rfl (RenR.tail _ _ _) .nil) rfl rfl rfl ?_
      intro τ ι hs'
      refine ⟨?_, ?_⟩
      · exact row_ren (hs' 0 _ rfl).1 (hs' 0 _ rfl).2
      · exact (.moved rfl (fun b o h => h) .nil)
end Go.Proofs.Ytgdhogmghffbaaa


set_option linter.unusedVariables false
set_option linter.unusedSimpArgs false
namespace Go.Proofs.Ytgdhogmghffbaaa
open Go.AL Go.Wr Go.RowKit
theorem fn38 : fnB Try.prog 38 = true := by kernel_rfl
theorem fn40 : fnB Try.prog 40 = true := by kernel_rfl
theorem ik3 : Try.prog.underlying 3 = some (.int .i64) := by kernel_rfl
theorem ik85 : Try.prog.underlying 85 = some (.int .u32) := by kernel_rfl
theorem us5 : (Try.prog.underlying 5).isSome = true := by kernel_rfl
theorem us85 : (Try.prog.underlying 85).isSome = true := by kernel_rfl
theorem checksum_ok (xs : List Int) (hx : xs.length ≤ 4000000) : FnP Try.prog 40 [slP byP 1 xs] (eqP (.int .u32 (crcF xs))) := by
  refine fn_pure' Try.func40 rfl Try.ntmps40 rfl ?_
  intro σ0 M ex Rf R hC hO
  simp only [frameOf, tokOf]
  refine tr_seq ?_
  refine tr_region (fun N0 hN => ?_)
  refine lx (op_assign rfl) rfl ?_
  refine lx_end ⟨by kernel_rfl, ?_⟩
  refine pe_then_normal ?_
  refine tr_sub hC (.cons (t := 0) rfl .nil) .nil rfl ?_
  refine tr_seq ?_
  refine tr_region (fun N1 hN => ?_)
  refine lx (op_assign rfl) rfl ?_
  refine lx_end ⟨by kernel_rfl, ?_⟩
  refine pe_then_normal ?_
  refine tr_sub hC (.cons (t := 0) rfl (.cons (t := 3) rfl .nil)) .nil rfl ?_
  refine tr_seq ?_
  refine tr_seq ?_
  refine tr_region (fun N2 hN => ?_)
  refine lx (op_assign rfl) rfl ?_
  refine lx_end ⟨by kernel_rfl, ?_⟩
  refine pe_then_normal ?_
  refine tr_sub hC (.cons (t := 0) rfl (.cons (t := 3) rfl (.cons (t := 4) rfl .nil))) .nil rfl ?_
  refine tr_block ?_
  refine tr_loopK (α := {zz : Nat × Int // zz.1 ≤ xs.length ∧ zz.2 = crcGo 4294967295 (xs.take zz.1)}) (⟨(0, 4294967295), Nat.zero_le _, rfl⟩) (fun zz => [(3, eqP (.int .u32 zz.1.2)), (4, eqP (.int .i64 (zz.1.1 : Int)))]) (fun zz => []) (fun zz => xs.length - zz.1.1) hC (.cons (t := 0) rfl .nil) .nil rfl ?_ ?_ (fun zz => ?_)
  · try dsimp only [List.cons_append, List.nil_append]
    first | refine SubF.cons rfl ?_ | (refine SubF.ent rfl ?_ ?_; · repeat (first | exact Ents.nil | refine Ents.cons ?_ ?_ | refine Ent.tup ?_ | refine Ent.agg ?_ | exact Ent.row _ _ _ _ | exact Ent.nil _ _ | exact Ent.func _ | exact Ent.refl _ | exact Ent.of_eq rfl | refine Ent.cells ?_))
    first | refine SubF.cons rfl ?_ | (refine SubF.ent rfl ?_ ?_; · repeat (first | exact Ents.nil | refine Ents.cons ?_ ?_ | refine Ent.tup ?_ | refine Ent.agg ?_ | exact Ent.row _ _ _ _ | exact Ent.nil _ _ | exact Ent.func _ | exact Ent.refl _ | exact Ent.of_eq rfl | refine Ent.cells ?_))
    exact SubF.nil
  · try dsimp only [List.cons_append, List.nil_append]
    repeat (first | exact SubL.nil | refine SubL.cons rfl ?_)
  · obtain ⟨⟨k, c0⟩, hk, hc0⟩ := zz
    try dsimp only at hk
    try dsimp only at hc0
    dsimp only [List.cons_append, List.nil_append]
    refine tr_seq ?_
    refine tr_seq ?_
    refine tr_region (fun N3 hN => ?_)
    refine lx (op_move rfl) rfl ?_
    refine lx (op_move rfl) rfl ?_
    first | refine lx (op_len rfl el25) rfl ?_ | refine lx (op_len_row rfl el25) rfl ?_ | refine lx (op_len_mv rfl el25) rfl ?_ | refine lx (op_len_nil rfl el25) rfl ?_
    refine lx (op_lss rfl rfl) rfl ?_
    refine lx_end ⟨by kernel_rfl, ?_⟩
    refine pe_then_normal ?_
    refine tr_sub hC (.cons (t := 0) rfl (.cons (t := 3) rfl (.cons (t := 4) rfl (.cons (t := 10) rfl .nil)))) .nil rfl ?_
    refine tr_cond rfl (fun h10 => ?_) (fun h10 => ?_)
    · (try simp only [Bool.and_eq_true, Bool.or_eq_true, Bool.and_eq_false_iff, Bool.or_eq_false_iff, decide_eq_true_eq, decide_eq_false_iff_not, Bool.not_eq_true', Bool.not_eq_false', List.length_map, ne_eq, Decidable.not_not, Int.not_lt, Int.not_le] at h10)
      refine tr_skip ?_
      refine pe_then_normal ?_
      refine tr_sub hC (.cons (t := 0) rfl (.cons (t := 3) rfl (.cons (t := 4) rfl .nil))) .nil rfl ?_
      refine tr_seq ?_
      refine tr_block ?_
      refine tr_seq ?_
      refine tr_region (fun N5 hN => ?_)
      refine lx (op_move rfl) rfl ?_
      refine lx (op_move rfl) rfl ?_
      refine lx (op_move rfl) rfl ?_
      refine lx (op_index rfl rfl el25 sz5 rfl (List.getElem?_eq_getElem (by omega : k < xs.length))) rfl ?_
      refine lx (op_load_one rfl ag5 rfl) rfl ?_
      refine lx (op_convert rfl us5 ik85) rfl ?_
      refine lx (op_xor rfl rfl) rfl ?_
      refine lx (op_assign rfl) rfl ?_
      refine lx_end ⟨by kernel_rfl, ?_⟩
      refine pe_then_normal ?_
      refine tr_sub hC (.cons (t := 0) rfl (.cons (t := 3) rfl (.cons (t := 4) rfl .nil))) .nil rfl ?_
      refine tr_seq ?_
      refine tr_region (fun N6 hN => ?_)
      refine lx (op_assign rfl) rfl ?_
      refine lx_end ⟨by kernel_rfl, ?_⟩
      refine pe_then_normal ?_
      refine tr_sub hC (.cons (t := 0) rfl (.cons (t := 3) rfl (.cons (t := 4) rfl (.cons (t := 5) rfl .nil)))) .nil rfl ?_
      refine tr_block ?_
      refine tr_loopK (α := {zz : Nat × Int // zz.1 ≤ 8 ∧ 0 ≤ zz.2 ∧ zz.2 < 4294967296 ∧ crcBits (8 - zz.1) zz.2 = crcByte c0 (xs[k]'(by omega))}) (⟨(0, (xorI .u32 c0 (IntKind.u32.wrap xs[k]))), by omega, (xor_bd _ _).1, (xor_bd _ _).2, rfl⟩) (fun zz => [(3, eqP (.int .u32 zz.1.2)), (5, eqP (.int .i64 (zz.1.1 : Int)))]) (fun zz => []) (fun zz => 8 - zz.1.1) hC (.cons (t := 0) rfl (.cons (t := 4) rfl .nil)) .nil rfl ?_ ?_ (fun zz => ?_)
      · try dsimp only [List.cons_append, List.nil_append]
        first | refine SubF.cons rfl ?_ | (refine SubF.ent rfl ?_ ?_; · repeat (first | exact Ents.nil | refine Ents.cons ?_ ?_ | refine Ent.tup ?_ | refine Ent.agg ?_ | exact Ent.row _ _ _ _ | exact Ent.nil _ _ | exact Ent.func _ | exact Ent.refl _ | exact Ent.of_eq rfl | refine Ent.cells ?_))
        first | refine SubF.cons rfl ?_ | (refine SubF.ent rfl ?_ ?_; · repeat (first | exact Ents.nil | refine Ents.cons ?_ ?_ | refine Ent.tup ?_ | refine Ent.agg ?_ | exact Ent.row _ _ _ _ | exact Ent.nil _ _ | exact Ent.func _ | exact Ent.refl _ | exact Ent.of_eq rfl | refine Ent.cells ?_))
        exact SubF.nil
      · try dsimp only [List.cons_append, List.nil_append]
        repeat (first | exact SubL.nil | refine SubL.cons rfl ?_)
      · obtain ⟨⟨j, c⟩, hj, hc1, hc2, hc3⟩ := zz
        try dsimp only at hj
        try dsimp only at hc1
        try dsimp only at hc2
        try dsimp only at hc3
        dsimp only [List.cons_append, List.nil_append]
        refine tr_seq ?_
        refine tr_seq ?_
        refine tr_region (fun N7 hN => ?_)
        refine lx (op_move rfl) rfl ?_
        refine lx (op_lss rfl rfl) rfl ?_
        refine lx_end ⟨by kernel_rfl, ?_⟩
        refine pe_then_normal ?_
        refine tr_sub hC (.cons (t := 0) rfl (.cons (t := 3) rfl (.cons (t := 4) rfl (.cons (t := 5) rfl (.cons (t := 21) rfl .nil))))) .nil rfl ?_
        refine tr_cond rfl (fun h21 => ?_) (fun h21 => ?_)
        · (try simp only [Bool.and_eq_true, Bool.or_eq_true, Bool.and_eq_false_iff, Bool.or_eq_false_iff, decide_eq_true_eq, decide_eq_false_iff_not, Bool.not_eq_true', Bool.not_eq_false', List.length_map, ne_eq, Decidable.not_not, Int.not_lt, Int.not_le] at h21)
          refine tr_skip ?_
          refine pe_then_normal ?_
          refine tr_sub hC (.cons (t := 0) rfl (.cons (t := 3) rfl (.cons (t := 4) rfl (.cons (t := 5) rfl .nil)))) .nil rfl ?_
          refine tr_seq ?_
          refine tr_block ?_
          refine tr_seq ?_
          refine tr_region (fun N9 hN => ?_)
          refine lx (op_move rfl) rfl ?_
          refine lx (OpJ.ent (op_rem rfl rfl rfl) (show Ent _ (eqP (.int .u32 (c % 2))) from (by exact entI (Int.tmod_eq_emod_of_nonneg hc1)))) rfl ?_
          refine lx (op_assign rfl) rfl ?_
          refine lx_end ⟨by kernel_rfl, ?_⟩
          refine pe_then_normal ?_
          refine tr_sub hC (.cons (t := 0) rfl (.cons (t := 3) rfl (.cons (t := 4) rfl (.cons (t := 5) rfl (.cons (t := 6) rfl .nil))))) .nil rfl ?_
          refine tr_seq ?_
          refine tr_region (fun N10 hN => ?_)
          refine lx (op_move rfl) rfl ?_
          refine lx (OpJ.ent (op_quo rfl rfl rfl) (show Ent _ (eqP (.int .u32 (c / 2))) from (by exact entI (u32_half hc1 hc2)))) rfl ?_
          refine lx (op_assign rfl) rfl ?_
          refine lx_end ⟨by kernel_rfl, ?_⟩
          refine pe_then_normal ?_
          refine tr_sub hC (.cons (t := 0) rfl (.cons (t := 3) rfl (.cons (t := 4) rfl (.cons (t := 5) rfl (.cons (t := 6) rfl .nil))))) .nil rfl ?_
          refine tr_seq ?_
          refine tr_region (fun N11 hN => ?_)
          refine lx (op_move rfl) rfl ?_
          refine lx (op_eql rfl rfl) rfl ?_
          refine lx_end ⟨by kernel_rfl, ?_⟩
          refine pe_then_normal ?_
          refine tr_sub hC (.cons (t := 0) rfl (.cons (t := 3) rfl (.cons (t := 4) rfl (.cons (t := 5) rfl (.cons (t := 29) rfl .nil))))) .nil rfl ?_
          refine tr_cond rfl (fun h29 => ?_) (fun h29 => ?_)
          · (try simp only [Bool.and_eq_true, Bool.or_eq_true, Bool.and_eq_false_iff, Bool.or_eq_false_iff, decide_eq_true_eq, decide_eq_false_iff_not, Bool.not_eq_true', Bool.not_eq_false', List.length_map, ne_eq, Decidable.not_not, Int.not_lt, Int.not_le] at h29)
            have hlow : c % 2 = 1 := by omega
            refine tr_region (fun N12 hN => ?_)
            refine lx (op_move rfl) rfl ?_
            refine lx (op_xor rfl rfl) rfl ?_
            refine lx (op_assign rfl) rfl ?_
            refine lx_end ⟨by kernel_rfl, ?_⟩
            refine pe_block_normal ?_
            refine pe_then_normal ?_
            refine tr_sub hC (.cons (t := 0) rfl (.cons (t := 3) rfl (.cons (t := 4) rfl (.cons (t := 5) rfl .nil)))) .nil rfl ?_
            refine tr_region (fun N8 hN => ?_)
            refine lx (op_move rfl) rfl ?_
            refine lx (op_add rfl rfl (by omega)) rfl ?_
            refine lx (op_assign rfl) rfl ?_
            refine lx_end ⟨by kernel_rfl, ?_⟩
            refine pe_round (⟨(j + 1, xorI .u32 (c / 2) 3988292384), by dsimp only; omega, (xor_bd _ _).1, (xor_bd _ _).2, (crc_t hlow (by omega)).trans hc3⟩) (by dsimp only; omega) (pe_st hC ?_ ?_ rfl)
            · try dsimp only [List.cons_append, List.nil_append]
              first | refine SubF.cons rfl ?_ | (refine SubF.ent rfl ?_ ?_; · repeat (first | exact Ents.nil | refine Ents.cons ?_ ?_ | refine Ent.tup ?_ | refine Ent.agg ?_ | exact Ent.row _ _ _ _ | exact Ent.nil _ _ | exact Ent.func _ | exact Ent.refl _ | exact Ent.of_eq rfl | refine Ent.cells ?_))
              first | refine SubF.cons rfl ?_ | (refine SubF.ent rfl ?_ ?_; · repeat (first | exact Ents.nil | refine Ents.cons ?_ ?_ | refine Ent.tup ?_ | refine Ent.agg ?_ | exact Ent.row _ _ _ _ | exact Ent.nil _ _ | exact Ent.func _ | exact Ent.refl _ | exact Ent.of_eq rfl | refine Ent.cells ?_))
              first | refine SubF.cons rfl ?_ | (refine SubF.ent rfl ?_ ?_; · repeat (first | exact Ents.nil | refine Ents.cons ?_ ?_ | refine Ent.tup ?_ | refine Ent.agg ?_ | exact Ent.row _ _ _ _ | exact Ent.nil _ _ | exact Ent.func _ | exact Ent.refl _ | exact Ent.of_eq rfl | refine Ent.cells ?_))
              first | refine SubF.cons rfl ?_ | (refine SubF.ent rfl ?_ ?_; · repeat (first | exact Ents.nil | refine Ents.cons ?_ ?_ | refine Ent.tup ?_ | refine Ent.agg ?_ | exact Ent.row _ _ _ _ | exact Ent.nil _ _ | exact Ent.func _ | exact Ent.refl _ | exact Ent.of_eq rfl | refine Ent.cells ?_))
              exact SubF.nil
            · try dsimp only [List.cons_append, List.nil_append]
              repeat (first | exact SubL.nil | refine SubL.cons rfl ?_)
          · (try simp only [Bool.and_eq_true, Bool.or_eq_true, Bool.and_eq_false_iff, Bool.or_eq_false_iff, decide_eq_true_eq, decide_eq_false_iff_not, Bool.not_eq_true', Bool.not_eq_false', List.length_map, ne_eq, Decidable.not_not, Int.not_lt, Int.not_le] at h29)
            have hlow : ¬ c % 2 = 1 := by omega
            refine tr_skip ?_
            refine pe_block_normal ?_
            refine pe_then_normal ?_
            refine tr_sub hC (.cons (t := 0) rfl (.cons (t := 3) rfl (.cons (t := 4) rfl (.cons (t := 5) rfl .nil)))) .nil rfl ?_
            refine tr_region (fun N8 hN => ?_)
            refine lx (op_move rfl) rfl ?_
            refine lx (op_add rfl rfl (by omega)) rfl ?_
            refine lx (op_assign rfl) rfl ?_
            refine lx_end ⟨by kernel_rfl, ?_⟩
            refine pe_round (⟨(j + 1, c / 2), by dsimp only; omega, by dsimp only; omega, by dsimp only; omega, (crc_f hlow (by omega)).trans hc3⟩) (by dsimp only; omega) (pe_st hC ?_ ?_ rfl)
            · try dsimp only [List.cons_append, List.nil_append]
              first | refine SubF.cons rfl ?_ | (refine SubF.ent rfl ?_ ?_; · repeat (first | exact Ents.nil | refine Ents.cons ?_ ?_ | refine Ent.tup ?_ | refine Ent.agg ?_ | exact Ent.row _ _ _ _ | exact Ent.nil _ _ | exact Ent.func _ | exact Ent.refl _ | exact Ent.of_eq rfl | refine Ent.cells ?_))
              first | refine SubF.cons rfl ?_ | (refine SubF.ent rfl ?_ ?_; · repeat (first | exact Ents.nil | refine Ents.cons ?_ ?_ | refine Ent.tup ?_ | refine Ent.agg ?_ | exact Ent.row _ _ _ _ | exact Ent.nil _ _ | exact Ent.func _ | exact Ent.refl _ | exact Ent.of_eq rfl | refine Ent.cells ?_))
              first | refine SubF.cons rfl ?_ | (refine SubF.ent rfl ?_ ?_; · repeat (first | exact Ents.nil | refine Ents.cons ?_ ?_ | refine Ent.tup ?_ | refine Ent.agg ?_ | exact Ent.row _ _ _ _ | exact Ent.nil _ _ | exact Ent.func _ | exact Ent.refl _ | exact Ent.of_eq rfl | refine Ent.cells ?_))
              first | refine SubF.cons rfl ?_ | (refine SubF.ent rfl ?_ ?_; · repeat (first | exact Ents.nil | refine Ents.cons ?_ ?_ | refine Ent.tup ?_ | refine Ent.agg ?_ | exact Ent.row _ _ _ _ | exact Ent.nil _ _ | exact Ent.func _ | exact Ent.refl _ | exact Ent.of_eq rfl | refine Ent.cells ?_))
              exact SubF.nil
            · try dsimp only [List.cons_append, List.nil_append]
              repeat (first | exact SubL.nil | refine SubL.cons rfl ?_)
        · (try simp only [Bool.and_eq_true, Bool.or_eq_true, Bool.and_eq_false_iff, Bool.or_eq_false_iff, decide_eq_true_eq, decide_eq_false_iff_not, Bool.not_eq_true', Bool.not_eq_false', List.length_map, ne_eq, Decidable.not_not, Int.not_lt, Int.not_le] at h21)
          obtain rfl : j = 8 := by omega
          have hfin : c = crcByte c0 xs[k] := hc3
          refine tr_exit ?_
          refine pe_then_exit ?_
          refine pe_then_exit ?_
          refine pe_block_eq ?_
          refine pe_block_normal ?_
          refine pe_then_normal ?_
          refine tr_sub hC (.cons (t := 0) rfl (.cons (t := 3) rfl (.cons (t := 4) rfl .nil))) .nil rfl ?_
          refine tr_region (fun N4 hN => ?_)
          refine lx (op_move rfl) rfl ?_
          refine lx (op_add rfl rfl (by omega)) rfl ?_
          refine lx (op_assign rfl) rfl ?_
          refine lx_end ⟨by kernel_rfl, ?_⟩
          refine pe_round (⟨(k + 1, c), by dsimp only; omega, by dsimp only; rw [crc_at (by omega : k < xs.length), ← hc0]; exact hfin⟩) (by dsimp only; omega) (pe_st hC ?_ ?_ rfl)
          · try dsimp only [List.cons_append, List.nil_append]
            first | refine SubF.cons rfl ?_ | (refine SubF.ent rfl ?_ ?_; · repeat (first | exact Ents.nil | refine Ents.cons ?_ ?_ | refine Ent.tup ?_ | refine Ent.agg ?_ | exact Ent.row _ _ _ _ | exact Ent.nil _ _ | exact Ent.func _ | exact Ent.refl _ | exact Ent.of_eq rfl | refine Ent.cells ?_))
            first | refine SubF.cons rfl ?_ | (refine SubF.ent rfl ?_ ?_; · repeat (first | exact Ents.nil | refine Ents.cons ?_ ?_ | refine Ent.tup ?_ | refine Ent.agg ?_ | exact Ent.row _ _ _ _ | exact Ent.nil _ _ | exact Ent.func _ | exact Ent.refl _ | exact Ent.of_eq rfl | refine Ent.cells ?_))
            first | refine SubF.cons rfl ?_ | (refine SubF.ent rfl ?_ ?_; · repeat (first | exact Ents.nil | refine Ents.cons ?_ ?_ | refine Ent.tup ?_ | refine Ent.agg ?_ | exact Ent.row _ _ _ _ | exact Ent.nil _ _ | exact Ent.func _ | exact Ent.refl _ | exact Ent.of_eq rfl | refine Ent.cells ?_))
            exact SubF.nil
          · try dsimp only [List.cons_append, List.nil_append]
            repeat (first | exact SubL.nil | refine SubL.cons rfl ?_)
    · (try simp only [Bool.and_eq_true, Bool.or_eq_true, Bool.and_eq_false_iff, Bool.or_eq_false_iff, decide_eq_true_eq, decide_eq_false_iff_not, Bool.not_eq_true', Bool.not_eq_false', List.length_map, ne_eq, Decidable.not_not, Int.not_lt, Int.not_le] at h10)
      obtain rfl : k = xs.length := by omega
      rw [List.take_of_length_le (Nat.le_refl _)] at hc0
      subst hc0
      refine tr_exit ?_
      refine pe_then_exit ?_
      refine pe_then_exit ?_
      refine pe_block_eq ?_
      refine pe_then_normal ?_
      refine tr_sub hC (.cons (t := 3) rfl .nil) .nil rfl ?_
      refine tr_seq ?_
      refine tr_region (fun N13 hN => ?_)
      refine lx (op_move rfl) rfl ?_
      refine lx (op_xor rfl rfl) rfl ?_
      refine lx (op_assign rfl) rfl ?_
      refine lx_end ⟨by kernel_rfl, ?_⟩
      refine pe_then_normal ?_
      refine tr_sub hC (.cons (t := 2) rfl .nil) .nil rfl ?_
      refine tr_ret ?_
      refine pe_ret1 rfl hO rfl (.tmp rfl .nil) ?_
      exact Ent.refl _
theorem summed_ok (xs : List Int) (hx : xs.length ≤ 1000000) : FnP Try.prog 33 [slP byP 1 xs] (slP byP 1 (sumF xs)) := by
  refine fn_pure' Try.func33 rfl Try.ntmps33 rfl ?_
  intro σ0 M ex Rf R hC hO
  simp only [frameOf, tokOf]
  refine tr_seq ?_
  refine tr_region (fun N0 hN => ?_)
  refine lx (op_assign rfl) rfl ?_
  refine lx_end ⟨by kernel_rfl, ?_⟩
  refine pe_then_normal ?_
  refine tr_sub hC (.cons (t := 0) rfl .nil) .nil rfl ?_
  refine tr_seq ?_
  refine tr_region (fun N1 hN => ?_)
  refine lx (op_assign rfl) rfl ?_
  refine lx_end ⟨by kernel_rfl, ?_⟩
  refine pe_then_normal ?_
  refine tr_sub hC (.cons (t := 0) rfl (.cons (t := 3) rfl .nil)) .nil rfl ?_
  refine tr_seq ?_
  refine tr_seq ?_
  refine tr_region (fun N2 hN => ?_)
  refine lx (op_move rfl) rfl ?_
  first | refine lx (op_len rfl el25) rfl ?_ | refine lx (op_len_row rfl el25) rfl ?_ | refine lx (op_len_mv rfl el25) rfl ?_ | refine lx (op_len_nil rfl el25) rfl ?_
  refine lx (op_move rfl) rfl ?_
  refine lx_end ⟨by kernel_rfl, ?_⟩
  refine pe_then_normal ?_
  refine tr_sub hC (.cons (t := 0) rfl (.cons (t := 3) rfl (.cons (t := 7) rfl (.cons (t := 8) rfl (.cons (t := 9) rfl .nil))))) .nil rfl ?_
  refine tr_block ?_
  refine tr_loopK (α := {zz : Nat × Int // zz.1 ≤ xs.length ∧ zz.2 = crcGo 4294967295 (xs.take zz.1)}) (⟨(0, 4294967295), Nat.zero_le _, rfl⟩) (fun zz => [(3, eqP (.int .u32 zz.1.2)), (9, eqP (.int .i64 (zz.1.1 : Int)))]) (fun zz => []) (fun zz => xs.length - zz.1.1) hC (.cons (t := 0) rfl (.cons (t := 7) rfl (.cons (t := 8) rfl .nil))) .nil rfl ?_ ?_ (fun zz => ?_)
  · try dsimp only [List.cons_append, List.nil_append]
    first | refine SubF.cons rfl ?_ | (refine SubF.ent rfl ?_ ?_; · repeat (first | exact Ents.nil | refine Ents.cons ?_ ?_ | refine Ent.tup ?_ | refine Ent.agg ?_ | exact Ent.row _ _ _ _ | exact Ent.nil _ _ | exact Ent.func _ | exact Ent.refl _ | exact Ent.of_eq rfl | refine Ent.cells ?_))
    first | refine SubF.cons rfl ?_ | (refine SubF.ent rfl ?_ ?_; · repeat (first | exact Ents.nil | refine Ents.cons ?_ ?_ | refine Ent.tup ?_ | refine Ent.agg ?_ | exact Ent.row _ _ _ _ | exact Ent.nil _ _ | exact Ent.func _ | exact Ent.refl _ | exact Ent.of_eq rfl | refine Ent.cells ?_))
    exact SubF.nil
  · try dsimp only [List.cons_append, List.nil_append]
    repeat (first | exact SubL.nil | refine SubL.cons rfl ?_)
  · obtain ⟨⟨k, c0⟩, hk, hc0⟩ := zz
    try dsimp only at hk
    try dsimp only at hc0
    dsimp only [List.cons_append, List.nil_append]
    refine tr_seq ?_
    refine tr_region (fun N3 hN => ?_)
    refine lx (op_lss rfl rfl) rfl ?_
    refine lx_end ⟨by kernel_rfl, ?_⟩
    refine pe_then_normal ?_
    refine tr_sub hC (.cons (t := 0) rfl (.cons (t := 3) rfl (.cons (t := 7) rfl (.cons (t := 8) rfl (.cons (t := 9) rfl (.cons (t := 10) rfl .nil)))))) .nil rfl ?_
    refine tr_seq ?_
    refine tr_cond rfl (fun h10 => ?_) (fun h10 => ?_)
    · (try simp only [Bool.and_eq_true, Bool.or_eq_true, Bool.and_eq_false_iff, Bool.or_eq_false_iff, decide_eq_true_eq, decide_eq_false_iff_not, Bool.not_eq_true', Bool.not_eq_false', List.length_map, ne_eq, Decidable.not_not, Int.not_lt, Int.not_le] at h10)
      refine tr_skip ?_
      refine pe_then_normal ?_
      refine tr_sub hC (.cons (t := 0) rfl (.cons (t := 3) rfl (.cons (t := 7) rfl (.cons (t := 8) rfl (.cons (t := 9) rfl .nil))))) .nil rfl ?_
      refine tr_seq ?_
      refine tr_block ?_
      refine tr_seq ?_
      refine tr_region (fun N4 hN => ?_)
      refine lx (op_index rfl rfl el25 sz5 rfl (List.getElem?_eq_getElem (by omega : k < xs.length))) rfl ?_
      refine lx (op_load_one rfl ag5 rfl) rfl ?_
      refine lx (op_assign rfl) rfl ?_
      refine lx_end ⟨by kernel_rfl, ?_⟩
      refine pe_then_normal ?_
      refine tr_sub hC (.cons (t := 0) rfl (.cons (t := 3) rfl (.cons (t := 5) rfl (.cons (t := 7) rfl (.cons (t := 8) rfl (.cons (t := 9) rfl .nil)))))) .nil rfl ?_
      refine tr_seq ?_
      refine tr_region (fun N5 hN => ?_)
      refine lx (op_move rfl) rfl ?_
      refine lx (op_move rfl) rfl ?_
      refine lx (op_convert rfl us5 ik85) rfl ?_
      refine lx (op_xor rfl rfl) rfl ?_
      refine lx (op_assign rfl) rfl ?_
      refine lx_end ⟨by kernel_rfl, ?_⟩
      refine pe_then_normal ?_
      refine tr_sub hC (.cons (t := 0) rfl (.cons (t := 3) rfl (.cons (t := 7) rfl (.cons (t := 8) rfl (.cons (t := 9) rfl .nil))))) .nil rfl ?_
      refine tr_seq ?_
      refine tr_region (fun N6 hN => ?_)
      refine lx (op_move rfl) rfl ?_
      refine lx_end ⟨by kernel_rfl, ?_⟩
      refine pe_then_normal ?_
      refine tr_sub hC (.cons (t := 0) rfl (.cons (t := 3) rfl (.cons (t := 7) rfl (.cons (t := 8) rfl (.cons (t := 9) rfl (.cons (t := 17) rfl .nil)))))) .nil rfl ?_
      refine tr_block ?_
      refine tr_loopK (α := {zz : Nat × Int // zz.1 ≤ 8 ∧ 0 ≤ zz.2 ∧ zz.2 < 4294967296 ∧ crcBits (8 - zz.1) zz.2 = crcByte c0 (xs[k]'(by omega))}) (⟨(0, (xorI .u32 c0 (IntKind.u32.wrap xs[k]))), by omega, (xor_bd _ _).1, (xor_bd _ _).2, rfl⟩) (fun zz => [(3, eqP (.int .u32 zz.1.2)), (17, eqP (.int .i64 (zz.1.1 : Int)))]) (fun zz => []) (fun zz => 8 - zz.1.1) hC (.cons (t := 0) rfl (.cons (t := 7) rfl (.cons (t := 8) rfl (.cons (t := 9) rfl .nil)))) .nil rfl ?_ ?_ (fun zz => ?_)
      · try dsimp only [List.cons_append, List.nil_append]
        first | refine SubF.cons rfl ?_ | (refine SubF.ent rfl ?_ ?_; · repeat (first | exact Ents.nil | refine Ents.cons ?_ ?_ | refine Ent.tup ?_ | refine Ent.agg ?_ | exact Ent.row _ _ _ _ | exact Ent.nil _ _ | exact Ent.func _ | exact Ent.refl _ | exact Ent.of_eq rfl | refine Ent.cells ?_))
        first | refine SubF.cons rfl ?_ | (refine SubF.ent rfl ?_ ?_; · repeat (first | exact Ents.nil | refine Ents.cons ?_ ?_ | refine Ent.tup ?_ | refine Ent.agg ?_ | exact Ent.row _ _ _ _ | exact Ent.nil _ _ | exact Ent.func _ | exact Ent.refl _ | exact Ent.of_eq rfl | refine Ent.cells ?_))
        exact SubF.nil
      · try dsimp only [List.cons_append, List.nil_append]
        repeat (first | exact SubL.nil | refine SubL.cons rfl ?_)
      · obtain ⟨⟨j, c⟩, hj, hc1, hc2, hc3⟩ := zz
        try dsimp only at hj
        try dsimp only at hc1
        try dsimp only at hc2
        try dsimp only at hc3
        dsimp only [List.cons_append, List.nil_append]
        refine tr_seq ?_
        refine tr_region (fun N7 hN => ?_)
        refine lx (op_lss rfl rfl) rfl ?_
        refine lx_end ⟨by kernel_rfl, ?_⟩
        refine pe_then_normal ?_
        refine tr_sub hC (.cons (t := 0) rfl (.cons (t := 3) rfl (.cons (t := 7) rfl (.cons (t := 8) rfl (.cons (t := 9) rfl (.cons (t := 17) rfl (.cons (t := 18) rfl .nil))))))) .nil rfl ?_
        refine tr_seq ?_
        refine tr_cond rfl (fun h18 => ?_) (fun h18 => ?_)
        · (try simp only [Bool.and_eq_true, Bool.or_eq_true, Bool.and_eq_false_iff, Bool.or_eq_false_iff, decide_eq_true_eq, decide_eq_false_iff_not, Bool.not_eq_true', Bool.not_eq_false', List.length_map, ne_eq, Decidable.not_not, Int.not_lt, Int.not_le] at h18)
          refine tr_skip ?_
          refine pe_then_normal ?_
          refine tr_sub hC (.cons (t := 0) rfl (.cons (t := 3) rfl (.cons (t := 7) rfl (.cons (t := 8) rfl (.cons (t := 9) rfl (.cons (t := 17) rfl .nil)))))) .nil rfl ?_
          refine tr_seq ?_
          refine tr_block ?_
          refine tr_seq ?_
          refine tr_region (fun N8 hN => ?_)
          refine lx (op_move rfl) rfl ?_
          refine lx (OpJ.ent (op_and rfl rfl) (show Ent _ (eqP (.int .u32 (c % 2))) from (by exact entI ((and_one hc1 hc2).trans (Int.tmod_eq_emod_of_nonneg hc1))))) rfl ?_
          refine lx (op_assign rfl) rfl ?_
          refine lx_end ⟨by kernel_rfl, ?_⟩
          refine pe_then_normal ?_
          refine tr_sub hC (.cons (t := 0) rfl (.cons (t := 3) rfl (.cons (t := 6) rfl (.cons (t := 7) rfl (.cons (t := 8) rfl (.cons (t := 9) rfl (.cons (t := 17) rfl .nil))))))) .nil rfl ?_
          refine tr_seq ?_
          refine tr_region (fun N9 hN => ?_)
          refine lx (op_move rfl) rfl ?_
          refine lx (OpJ.ent (op_shr rfl rfl rfl) (show Ent _ (eqP (.int .u32 (c / 2))) from (by exact entI (shr_one c)))) rfl ?_
          refine lx (op_assign rfl) rfl ?_
          refine lx_end ⟨by kernel_rfl, ?_⟩
          refine pe_then_normal ?_
          refine tr_sub hC (.cons (t := 0) rfl (.cons (t := 3) rfl (.cons (t := 6) rfl (.cons (t := 7) rfl (.cons (t := 8) rfl (.cons (t := 9) rfl (.cons (t := 17) rfl .nil))))))) .nil rfl ?_
          refine tr_seq ?_
          refine tr_region (fun N10 hN => ?_)
          refine lx (op_move rfl) rfl ?_
          refine lx (op_eql rfl rfl) rfl ?_
          refine lx_end ⟨by kernel_rfl, ?_⟩
          refine pe_then_normal ?_
          refine tr_sub hC (.cons (t := 0) rfl (.cons (t := 3) rfl (.cons (t := 7) rfl (.cons (t := 8) rfl (.cons (t := 9) rfl (.cons (t := 17) rfl (.cons (t := 24) rfl .nil))))))) .nil rfl ?_
          refine tr_cond rfl (fun h24 => ?_) (fun h24 => ?_)
          · (try simp only [Bool.and_eq_true, Bool.or_eq_true, Bool.and_eq_false_iff, Bool.or_eq_false_iff, decide_eq_true_eq, decide_eq_false_iff_not, Bool.not_eq_true', Bool.not_eq_false', List.length_map, ne_eq, Decidable.not_not, Int.not_lt, Int.not_le] at h24)
            have hlow : c % 2 = 1 := by omega
            refine tr_region (fun N11 hN => ?_)
            refine lx (op_move rfl) rfl ?_
            refine lx (op_xor rfl rfl) rfl ?_
            refine lx (op_assign rfl) rfl ?_
            refine lx_end ⟨by kernel_rfl, ?_⟩
            refine pe_block_normal ?_
            refine pe_then_normal ?_
            refine tr_sub hC (.cons (t := 0) rfl (.cons (t := 3) rfl (.cons (t := 7) rfl (.cons (t := 8) rfl (.cons (t := 9) rfl (.cons (t := 17) rfl .nil)))))) .nil rfl ?_
            refine tr_region (fun N12 hN => ?_)
            refine lx (op_add rfl rfl (by omega)) rfl ?_
            refine lx (op_move rfl) rfl ?_
            refine lx_end ⟨by kernel_rfl, ?_⟩
            refine pe_round (⟨(j + 1, xorI .u32 (c / 2) 3988292384), by dsimp only; omega, (xor_bd _ _).1, (xor_bd _ _).2, (crc_t hlow (by omega)).trans hc3⟩) (by dsimp only; omega) (pe_st hC ?_ ?_ rfl)
            · try dsimp only [List.cons_append, List.nil_append]
              first | refine SubF.cons rfl ?_ | (refine SubF.ent rfl ?_ ?_; · repeat (first | exact Ents.nil | refine Ents.cons ?_ ?_ | refine Ent.tup ?_ | refine Ent.agg ?_ | exact Ent.row _ _ _ _ | exact Ent.nil _ _ | exact Ent.func _ | exact Ent.refl _ | exact Ent.of_eq rfl | refine Ent.cells ?_))
              first | refine SubF.cons rfl ?_ | (refine SubF.ent rfl ?_ ?_; · repeat (first | exact Ents.nil | refine Ents.cons ?_ ?_ | refine Ent.tup ?_ | refine Ent.agg ?_ | exact Ent.row _ _ _ _ | exact Ent.nil _ _ | exact Ent.func _ | exact Ent.refl _ | exact Ent.of_eq rfl | refine Ent.cells ?_))
              first | refine SubF.cons rfl ?_ | (refine SubF.ent rfl ?_ ?_; · repeat (first | exact Ents.nil | refine Ents.cons ?_ ?_ | refine Ent.tup ?_ | refine Ent.agg ?_ | exact Ent.row _ _ _ _ | exact Ent.nil _ _ | exact Ent.func _ | exact Ent.refl _ | exact Ent.of_eq rfl | refine Ent.cells ?_))
              first | refine SubF.cons rfl ?_ | (refine SubF.ent rfl ?_ ?_; · repeat (first | exact Ents.nil | refine Ents.cons ?_ ?_ | refine Ent.tup ?_ | refine Ent.agg ?_ | exact Ent.row _ _ _ _ | exact Ent.nil _ _ | exact Ent.func _ | exact Ent.refl _ | exact Ent.of_eq rfl | refine Ent.cells ?_))
              first | refine SubF.cons rfl ?_ | (refine SubF.ent rfl ?_ ?_; · repeat (first | exact Ents.nil | refine Ents.cons ?_ ?_ | refine Ent.tup ?_ | refine Ent.agg ?_ | exact Ent.row _ _ _ _ | exact Ent.nil _ _ | exact Ent.func _ | exact Ent.refl _ | exact Ent.of_eq rfl | refine Ent.cells ?_))
              first | refine SubF.cons rfl ?_ | (refine SubF.ent rfl ?_ ?_; · repeat (first | exact Ents.nil | refine Ents.cons ?_ ?_ | refine Ent.tup ?_ | refine Ent.agg ?_ | exact Ent.row _ _ _ _ | exact Ent.nil _ _ | exact Ent.func _ | exact Ent.refl _ | exact Ent.of_eq rfl | refine Ent.cells ?_))
              exact SubF.nil
            · try dsimp only [List.cons_append, List.nil_append]
              repeat (first | exact SubL.nil | refine SubL.cons rfl ?_)
          · (try simp only [Bool.and_eq_true, Bool.or_eq_true, Bool.and_eq_false_iff, Bool.or_eq_false_iff, decide_eq_true_eq, decide_eq_false_iff_not, Bool.not_eq_true', Bool.not_eq_false', List.length_map, ne_eq, Decidable.not_not, Int.not_lt, Int.not_le] at h24)
            have hlow : ¬ c % 2 = 1 := by omega
            refine tr_skip ?_
            refine pe_block_normal ?_
            refine pe_then_normal ?_
            refine tr_sub hC (.cons (t := 0) rfl (.cons (t := 3) rfl (.cons (t := 7) rfl (.cons (t := 8) rfl (.cons (t := 9) rfl (.cons (t := 17) rfl .nil)))))) .nil rfl ?_
            refine tr_region (fun N12 hN => ?_)
            refine lx (op_add rfl rfl (by omega)) rfl ?_
            refine lx (op_move rfl) rfl ?_
            refine lx_end ⟨by kernel_rfl, ?_⟩
            refine pe_round (⟨(j + 1, c / 2), by dsimp only; omega, by dsimp only; omega, by dsimp only; omega, (crc_f hlow (by omega)).trans hc3⟩) (by dsimp only; omega) (pe_st hC ?_ ?_ rfl)
            · try dsimp only [List.cons_append, List.nil_append]
              first | refine SubF.cons rfl ?_ | (refine SubF.ent rfl ?_ ?_; · repeat (first | exact Ents.nil | refine Ents.cons ?_ ?_ | refine Ent.tup ?_ | refine Ent.agg ?_ | exact Ent.row _ _ _ _ | exact Ent.nil _ _ | exact Ent.func _ | exact Ent.refl _ | exact Ent.of_eq rfl | refine Ent.cells ?_))
              first | refine SubF.cons rfl ?_ | (refine SubF.ent rfl ?_ ?_; · repeat (first | exact Ents.nil | refine Ents.cons ?_ ?_ | refine Ent.tup ?_ | refine Ent.agg ?_ | exact Ent.row _ _ _ _ | exact Ent.nil _ _ | exact Ent.func _ | exact Ent.refl _ | exact Ent.of_eq rfl | refine Ent.cells ?_))
              first | refine SubF.cons rfl ?_ | (refine SubF.ent rfl ?_ ?_; · repeat (first | exact Ents.nil | refine Ents.cons ?_ ?_ | refine Ent.tup ?_ | refine Ent.agg ?_ | exact Ent.row _ _ _ _ | exact Ent.nil _ _ | exact Ent.func _ | exact Ent.refl _ | exact Ent.of_eq rfl | refine Ent.cells ?_))
              first | refine SubF.cons rfl ?_ | (refine SubF.ent rfl ?_ ?_; · repeat (first | exact Ents.nil | refine Ents.cons ?_ ?_ | refine Ent.tup ?_ | refine Ent.agg ?_ | exact Ent.row _ _ _ _ | exact Ent.nil _ _ | exact Ent.func _ | exact Ent.refl _ | exact Ent.of_eq rfl | refine Ent.cells ?_))
              first | refine SubF.cons rfl ?_ | (refine SubF.ent rfl ?_ ?_; · repeat (first | exact Ents.nil | refine Ents.cons ?_ ?_ | refine Ent.tup ?_ | refine Ent.agg ?_ | exact Ent.row _ _ _ _ | exact Ent.nil _ _ | exact Ent.func _ | exact Ent.refl _ | exact Ent.of_eq rfl | refine Ent.cells ?_))
              first | refine SubF.cons rfl ?_ | (refine SubF.ent rfl ?_ ?_; · repeat (first | exact Ents.nil | refine Ents.cons ?_ ?_ | refine Ent.tup ?_ | refine Ent.agg ?_ | exact Ent.row _ _ _ _ | exact Ent.nil _ _ | exact Ent.func _ | exact Ent.refl _ | exact Ent.of_eq rfl | refine Ent.cells ?_))
              exact SubF.nil
            · try dsimp only [List.cons_append, List.nil_append]
              repeat (first | exact SubL.nil | refine SubL.cons rfl ?_)
        · (try simp only [Bool.and_eq_true, Bool.or_eq_true, Bool.and_eq_false_iff, Bool.or_eq_false_iff, decide_eq_true_eq, decide_eq_false_iff_not, Bool.not_eq_true', Bool.not_eq_false', List.length_map, ne_eq, Decidable.not_not, Int.not_lt, Int.not_le] at h18)
          obtain rfl : j = 8 := by omega
          have hfin : c = crcByte c0 xs[k] := hc3
          refine tr_exit ?_
          refine pe_then_exit ?_
          refine pe_then_exit ?_
          refine pe_block_eq ?_
          refine pe_block_normal ?_
          refine pe_then_normal ?_
          refine tr_sub hC (.cons (t := 0) rfl (.cons (t := 3) rfl (.cons (t := 7) rfl (.cons (t := 8) rfl (.cons (t := 9) rfl .nil))))) .nil rfl ?_
          refine tr_region (fun N13 hN => ?_)
          refine lx (op_add rfl rfl (by omega)) rfl ?_
          refine lx (op_move rfl) rfl ?_
          refine lx_end ⟨by kernel_rfl, ?_⟩
          refine pe_round (⟨(k + 1, c), by dsimp only; omega, by dsimp only; rw [crc_at (by omega : k < xs.length), ← hc0]; exact hfin⟩) (by dsimp only; omega) (pe_st hC ?_ ?_ rfl)
          · try dsimp only [List.cons_append, List.nil_append]
            first | refine SubF.cons rfl ?_ | (refine SubF.ent rfl ?_ ?_; · repeat (first | exact Ents.nil | refine Ents.cons ?_ ?_ | refine Ent.tup ?_ | refine Ent.agg ?_ | exact Ent.row _ _ _ _ | exact Ent.nil _ _ | exact Ent.func _ | exact Ent.refl _ | exact Ent.of_eq rfl | refine Ent.cells ?_))
            first | refine SubF.cons rfl ?_ | (refine SubF.ent rfl ?_ ?_; · repeat (first | exact Ents.nil | refine Ents.cons ?_ ?_ | refine Ent.tup ?_ | refine Ent.agg ?_ | exact Ent.row _ _ _ _ | exact Ent.nil _ _ | exact Ent.func _ | exact Ent.refl _ | exact Ent.of_eq rfl | refine Ent.cells ?_))
            first | refine SubF.cons rfl ?_ | (refine SubF.ent rfl ?_ ?_; · repeat (first | exact Ents.nil | refine Ents.cons ?_ ?_ | refine Ent.tup ?_ | refine Ent.agg ?_ | exact Ent.row _ _ _ _ | exact Ent.nil _ _ | exact Ent.func _ | exact Ent.refl _ | exact Ent.of_eq rfl | refine Ent.cells ?_))
            first | refine SubF.cons rfl ?_ | (refine SubF.ent rfl ?_ ?_; · repeat (first | exact Ents.nil | refine Ents.cons ?_ ?_ | refine Ent.tup ?_ | refine Ent.agg ?_ | exact Ent.row _ _ _ _ | exact Ent.nil _ _ | exact Ent.func _ | exact Ent.refl _ | exact Ent.of_eq rfl | refine Ent.cells ?_))
            first | refine SubF.cons rfl ?_ | (refine SubF.ent rfl ?_ ?_; · repeat (first | exact Ents.nil | refine Ents.cons ?_ ?_ | refine Ent.tup ?_ | refine Ent.agg ?_ | exact Ent.row _ _ _ _ | exact Ent.nil _ _ | exact Ent.func _ | exact Ent.refl _ | exact Ent.of_eq rfl | refine Ent.cells ?_))
            exact SubF.nil
          · try dsimp only [List.cons_append, List.nil_append]
            repeat (first | exact SubL.nil | refine SubL.cons rfl ?_)
    · (try simp only [Bool.and_eq_true, Bool.or_eq_true, Bool.and_eq_false_iff, Bool.or_eq_false_iff, decide_eq_true_eq, decide_eq_false_iff_not, Bool.not_eq_true', Bool.not_eq_false', List.length_map, ne_eq, Decidable.not_not, Int.not_lt, Int.not_le] at h10)
      obtain rfl : k = xs.length := by omega
      rw [List.take_of_length_le (Nat.le_refl _)] at hc0
      subst hc0
      refine tr_exit ?_
      refine pe_then_exit ?_
      refine pe_then_exit ?_
      refine pe_block_eq ?_
      refine pe_then_normal ?_
      refine tr_sub hC (.cons (t := 0) rfl (.cons (t := 3) rfl .nil)) .nil rfl ?_
      refine tr_seq ?_
      refine tr_region (fun N14 hN => ?_)
      refine lx (op_move rfl) rfl ?_
      refine lx (OpJ.ent (op_comp rfl rfl) (show Ent _ (eqP (.int .u32 (crcF xs))) from (by exact entI (xor_comm _ _ _)))) rfl ?_
      refine lx (op_assign rfl) rfl ?_
      refine lx_end ⟨by kernel_rfl, ?_⟩
      refine pe_then_normal ?_
      refine tr_sub hC (.cons (t := 0) rfl (.cons (t := 3) rfl .nil)) .nil rfl ?_
      refine tr_seq ?_
      refine tr_region (fun N15 hN => ?_)
      refine lx (op_move rfl) rfl ?_
      first | refine lxn (op_callG (del := []) (add := [(32, ((N15, 32), tail 5 1 (xs.length * 1)))]) (ks := [32]) (clone_own xs (Nat.le_trans hx (by decide))) (.cons rfl .nil) fn38 rfl rfl rfl (by intro x hx; cases hx) (fun x hx => .inl (by cases hx with | head => exact hC.low 32 (by decide) | tail _ h => cases h))) rfl ?_ | refine lxn (op_callG (del := []) (add := [(32, ((N15, 32), tail 5 1 (xs.length * 1)))]) (ks := [32]) (clone_own xs (Nat.le_trans hx (by decide))) (.ent rfl (by repeat (first | exact Ents.nil | refine Ents.cons ?_ ?_ | refine Ent.tup ?_ | refine Ent.agg ?_ | exact Ent.row _ _ _ _ | exact Ent.nil _ _ | exact Ent.func _ | exact Ent.refl _ | exact Ent.of_eq rfl | refine Ent.cells ?_)) .nil) fn38 rfl rfl rfl (by intro x hx; cases hx) (fun x hx => .inl (by cases hx with | head => exact hC.low 32 (by decide) | tail _ h => cases h))) rfl ?_
      refine lx (op_move rfl) rfl ?_
      refine lx (op_shr rfl rfl rfl) rfl ?_
      refine lx (op_convert rfl us85 ik5) rfl ?_
      refine lx (op_move rfl) rfl ?_
      refine lx (op_shr rfl rfl rfl) rfl ?_
      refine lx (op_convert rfl us85 ik5) rfl ?_
      refine lx (op_move rfl) rfl ?_
      refine lx (op_shr rfl rfl rfl) rfl ?_
      refine lx (op_convert rfl us85 ik5) rfl ?_
      refine lx (op_move rfl) rfl ?_
      refine lx (op_convert rfl us85 ik5) rfl ?_
      refine lx (op_buildSlice (f := byP) (xs := [IntKind.u8.wrap ((crcF xs).fdiv (2 ^ (min (24 : Int).toNat IntKind.u32.bits))), IntKind.u8.wrap ((crcF xs).fdiv (2 ^ (min (16 : Int).toNat IntKind.u32.bits))), IntKind.u8.wrap ((crcF xs).fdiv (2 ^ (min (8 : Int).toNat IntKind.u32.bits))), IntKind.u8.wrap (crcF xs)]) (l := [(0, (Go.Operand.tmp 35)), (1, (Go.Operand.tmp 38)), (2, (Go.Operand.tmp 41)), (3, (Go.Operand.tmp 43))]) ze5 rfl rfl (by decide) el25 sz5 byP_len (.cons rfl (.one (by (first | exact One.eq rfl | exact One.mv _ _ _ _ _ | exact One.cl _ _ _ | exact One.map _ | exact One.sl _ _ _ | exact One.row _ _ _ _ | exact One.msl _ _ _ _ | exact One.ptr _ _ | exact One.b _ | exact One.cells _))) (.cons rfl (.one (by (first | exact One.eq rfl | exact One.mv _ _ _ _ _ | exact One.cl _ _ _ | exact One.map _ | exact One.sl _ _ _ | exact One.row _ _ _ _ | exact One.msl _ _ _ _ | exact One.ptr _ _ | exact One.b _ | exact One.cells _))) (.cons rfl (.one (by (first | exact One.eq rfl | exact One.mv _ _ _ _ _ | exact One.cl _ _ _ | exact One.map _ | exact One.sl _ _ _ | exact One.row _ _ _ _ | exact One.msl _ _ _ _ | exact One.ptr _ _ | exact One.b _ | exact One.cells _))) (.cons rfl (.one (by (first | exact One.eq rfl | exact One.mv _ _ _ _ _ | exact One.cl _ _ _ | exact One.map _ | exact One.sl _ _ _ | exact One.row _ _ _ _ | exact One.msl _ _ _ _ | exact One.ptr _ _ | exact One.b _ | exact One.cells _))) .nil)))) rfl (by decide)) rfl ?_
      refine lxr (op_append (m := 32) (m' := 45) (kk := 45) rfl rfl rfl (.inr (by first | exact hC.low _ (by decide) | rfl)) el25 ze5 sz5 by5 rfl byP_len (by simp; omega) (by simp; omega)) rfl ?_
      refine lx (op_assign rfl) rfl ?_
      refine lx_end ⟨by kernel_rfl, ?_⟩
      refine pe_then_normal ?_
      refine tr_sub hC (.cons (t := 2) rfl .nil) (.cons (t := 45) rfl .nil) rfl ?_
      refine tr_ret ?_
      refine pe_ret1 rfl hO rfl (.tmp rfl .nil) ?_
      exact Ent.row _ _ _ _
theorem rSummed_ok (xs : List Int) (hx : xs.length ≤ 1000000) : FnP Try.prog 35 [slP byP 1 xs] (slP byP 1 (sumF xs)) := by
  refine fn_pure' Try.func35 rfl Try.ntmps35 rfl ?_
  intro σ0 M ex Rf R hC hO
  simp only [frameOf, tokOf]
  refine tr_seq ?_
  refine tr_region (fun N0 hN => ?_)
  refine lx (op_assign rfl) rfl ?_
  refine lx_end ⟨by kernel_rfl, ?_⟩
  refine pe_then_normal ?_
  refine tr_sub hC (.cons (t := 0) rfl .nil) .nil rfl ?_
  refine tr_seq ?_
  refine tr_region (fun N1 hN => ?_)
  refine lx (op_move rfl) rfl ?_
  first | refine lx (op_call (l := [(Go.Operand.tmp 4)]) (checksum_ok xs (Nat.le_trans hx (by decide))) (.cons rfl .nil) fn40) rfl ?_ | refine lx (op_call (l := [(Go.Operand.tmp 4)]) (checksum_ok xs (Nat.le_trans hx (by decide))) (.ent rfl (by repeat (first | exact Ents.nil | refine Ents.cons ?_ ?_ | refine Ent.tup ?_ | refine Ent.agg ?_ | exact Ent.row _ _ _ _ | exact Ent.nil _ _ | exact Ent.func _ | exact Ent.refl _ | exact Ent.of_eq rfl | refine Ent.cells ?_)) .nil) fn40) rfl ?_
  refine lx (op_assign rfl) rfl ?_
  refine lx_end ⟨by kernel_rfl, ?_⟩
  refine pe_then_normal ?_
  refine tr_sub hC (.cons (t := 0) rfl (.cons (t := 3) rfl .nil)) .nil rfl ?_
  refine tr_seq ?_
  refine tr_region (fun N2 hN => ?_)
  refine lxn (op_buildEmpty (m' := 6) (kk := 6) (f := byP) el25 sz5 (by first | exact hC.low _ (by decide) | rfl)) rfl ?_
  refine lx (op_move rfl) rfl ?_
  refine lxr (op_append (m := 6) (m' := 8) (kk := 8) rfl rfl rfl (.inr (by first | exact hC.low _ (by decide) | rfl)) el25 ze5 sz5 by5 rfl byP_len (by simp; omega) (by simp; omega)) rfl ?_
  refine lx (op_move rfl) rfl ?_
  refine lx (op_shr rfl rfl rfl) rfl ?_
  refine lx (op_convert rfl us85 ik5) rfl ?_
  refine lx (op_move rfl) rfl ?_
  refine lx (op_shr rfl rfl rfl) rfl ?_
  refine lx (op_convert rfl us85 ik5) rfl ?_
  refine lx (op_move rfl) rfl ?_
  refine lx (op_shr rfl rfl rfl) rfl ?_
  refine lx (op_convert rfl us85 ik5) rfl ?_
  refine lx (op_move rfl) rfl ?_
  refine lx (op_convert rfl us85 ik5) rfl ?_
  refine lx (op_buildSlice (f := byP) (xs := [IntKind.u8.wrap ((crcF xs).fdiv (2 ^ (min (24 : Int).toNat IntKind.u32.bits))), IntKind.u8.wrap ((crcF xs).fdiv (2 ^ (min (16 : Int).toNat IntKind.u32.bits))), IntKind.u8.wrap ((crcF xs).fdiv (2 ^ (min (8 : Int).toNat IntKind.u32.bits))), IntKind.u8.wrap (crcF xs)]) (l := [(0, (Go.Operand.tmp 11)), (1, (Go.Operand.tmp 14)), (2, (Go.Operand.tmp 17)), (3, (Go.Operand.tmp 19))]) ze5 rfl rfl (by decide) el25 sz5 byP_len (.cons rfl (.one (by (first | exact One.eq rfl | exact One.mv _ _ _ _ _ | exact One.cl _ _ _ | exact One.map _ | exact One.sl _ _ _ | exact One.row _ _ _ _ | exact One.msl _ _ _ _ | exact One.ptr _ _ | exact One.b _ | exact One.cells _))) (.cons rfl (.one (by (first | exact One.eq rfl | exact One.mv _ _ _ _ _ | exact One.cl _ _ _ | exact One.map _ | exact One.sl _ _ _ | exact One.row _ _ _ _ | exact One.msl _ _ _ _ | exact One.ptr _ _ | exact One.b _ | exact One.cells _))) (.cons rfl (.one (by (first | exact One.eq rfl | exact One.mv _ _ _ _ _ | exact One.cl _ _ _ | exact One.map _ | exact One.sl _ _ _ | exact One.row _ _ _ _ | exact One.msl _ _ _ _ | exact One.ptr _ _ | exact One.b _ | exact One.cells _))) (.cons rfl (.one (by (first | exact One.eq rfl | exact One.mv _ _ _ _ _ | exact One.cl _ _ _ | exact One.map _ | exact One.sl _ _ _ | exact One.row _ _ _ _ | exact One.msl _ _ _ _ | exact One.ptr _ _ | exact One.b _ | exact One.cells _))) .nil)))) rfl (by decide)) rfl ?_
  refine lxr (op_append (m := 8) (m' := 21) (kk := 21) rfl rfl rfl (.inr (by first | exact hC.low _ (by decide) | rfl)) el25 ze5 sz5 by5 rfl byP_len (by simp; omega) (by simp; omega)) rfl ?_
  refine lx (op_assign rfl) rfl ?_
  refine lx_end ⟨by kernel_rfl, ?_⟩
  refine pe_then_normal ?_
  refine tr_sub hC (.cons (t := 2) rfl .nil) (.cons (t := 21) rfl .nil) rfl ?_
  refine tr_ret ?_
  refine pe_ret1 rfl hO rfl (.tmp rfl .nil) ?_
  exact Ent.row _ _ _ _
theorem number_ok (xs : List Int) (hb : isB xs) : FnP Try.prog 37 [slP byP 1 xs] (tupP [eqP (.int .i64 (rdF xs).1), eqP (.int .i64 (rdF xs).2)]) := by
  obtain ⟨ys, hys⟩ : ∃ ys, ys = xs.take 5 := ⟨_, rfl⟩
  have hyl : ys.length ≤ 5 := by rw [hys, List.length_take]; omega
  have hyb : isB ys := by rw [hys]; exact isB_take hb 5
  have hrd : rdF xs = rdGo ys 0 0 := by rw [hys]; rfl
  refine fn_pure' Try.func37 rfl Try.ntmps37 rfl ?_
  intro σ0 M ex Rf R hC hO
  simp only [frameOf, tokOf]
  refine tr_seq ?_
  refine tr_region (fun N0 hN => ?_)
  refine lx (op_assign rfl) rfl ?_
  refine lx (op_assign rfl) rfl ?_
  refine lx_end ⟨by kernel_rfl, ?_⟩
  refine pe_then_normal ?_
  refine tr_sub hC (.cons (t := 0) rfl .nil) .nil rfl ?_
  refine tr_seq ?_
  refine tr_region (fun N1 hN => ?_)
  refine lx (op_assign rfl) rfl ?_
  refine lx_end ⟨by kernel_rfl, ?_⟩
  refine pe_then_normal ?_
  refine tr_sub hC (.cons (t := 0) rfl (.cons (t := 4) rfl .nil)) .nil rfl ?_
  refine tr_seq ?_
  refine tr_seq ?_
  refine tr_region (fun N2 hN => ?_)
  refine lx (op_move rfl) rfl ?_
  refine lx (op_move rfl) rfl ?_
  first | refine lx (op_len rfl el25) rfl ?_ | refine lx (op_len_row rfl el25) rfl ?_ | refine lx (op_len_mv rfl el25) rfl ?_ | refine lx (op_len_nil rfl el25) rfl ?_
  refine lx (op_min rfl rfl) rfl ?_
  refine lx (OpJ.ent (op_slice_h rfl rfl el25 sz5 (min5 xs) (by omega)) (show Ent _ (slP byP 1 ys) from (by rw [take5, ← hys]; exact Ent.refl _))) rfl ?_
  first | refine lx (op_len rfl el25) rfl ?_ | refine lx (op_len_row rfl el25) rfl ?_ | refine lx (op_len_mv rfl el25) rfl ?_ | refine lx (op_len_nil rfl el25) rfl ?_
  refine lx (op_move rfl) rfl ?_
  refine lx_end ⟨by kernel_rfl, ?_⟩
  refine pe_then_normal ?_
  refine tr_sub hC (.cons (t := 4) rfl (.cons (t := 11) rfl (.cons (t := 12) rfl (.cons (t := 13) rfl .nil)))) .nil rfl ?_
  refine tr_block ?_
  refine tr_loopK (α := {zz : Nat × Int // zz.1 ≤ ys.length ∧ 0 ≤ zz.2 ∧ zz.2 < 2 ^ (7 * zz.1) ∧ rdGo (ys.drop zz.1) zz.1 zz.2 = rdF xs}) (⟨(0, 0), Nat.zero_le _, Int.le_refl _, by simp, hrd.symm⟩) (fun zz => [(4, eqP (.int .i64 zz.1.2)), (13, eqP (.int .i64 (zz.1.1 : Int)))]) (fun zz => []) (fun zz => ys.length - zz.1.1) hC (.cons (t := 11) rfl (.cons (t := 12) rfl .nil)) .nil rfl ?_ ?_ (fun zz => ?_)
  · try dsimp only [List.cons_append, List.nil_append]
    first | refine SubF.cons rfl ?_ | (refine SubF.ent rfl ?_ ?_; · repeat (first | exact Ents.nil | refine Ents.cons ?_ ?_ | refine Ent.tup ?_ | refine Ent.agg ?_ | exact Ent.row _ _ _ _ | exact Ent.nil _ _ | exact Ent.func _ | exact Ent.refl _ | exact Ent.of_eq rfl | refine Ent.cells ?_))
    first | refine SubF.cons rfl ?_ | (refine SubF.ent rfl ?_ ?_; · repeat (first | exact Ents.nil | refine Ents.cons ?_ ?_ | refine Ent.tup ?_ | refine Ent.agg ?_ | exact Ent.row _ _ _ _ | exact Ent.nil _ _ | exact Ent.func _ | exact Ent.refl _ | exact Ent.of_eq rfl | refine Ent.cells ?_))
    exact SubF.nil
  · try dsimp only [List.cons_append, List.nil_append]
    repeat (first | exact SubL.nil | refine SubL.cons rfl ?_)
  · obtain ⟨⟨k, v⟩, hk, hv1, hv2, hr⟩ := zz
    try dsimp only at hk
    try dsimp only at hv1
    try dsimp only at hv2
    try dsimp only at hr
    dsimp only [List.cons_append, List.nil_append]
    refine tr_seq ?_
    refine tr_region (fun N3 hN => ?_)
    refine lx (op_lss rfl rfl) rfl ?_
    refine lx_end ⟨by kernel_rfl, ?_⟩
    refine pe_then_normal ?_
    refine tr_sub hC (.cons (t := 4) rfl (.cons (t := 11) rfl (.cons (t := 12) rfl (.cons (t := 13) rfl (.cons (t := 14) rfl .nil))))) .nil rfl ?_
    refine tr_seq ?_
    refine tr_cond rfl (fun h14 => ?_) (fun h14 => ?_)
    · (try simp only [Bool.and_eq_true, Bool.or_eq_true, Bool.and_eq_false_iff, Bool.or_eq_false_iff, decide_eq_true_eq, decide_eq_false_iff_not, Bool.not_eq_true', Bool.not_eq_false', List.length_map, ne_eq, Decidable.not_not, Int.not_lt, Int.not_le] at h14)
      have hx := hyb _ (List.getElem_mem (by omega : k < ys.length))
      have hbd := rd_bd (x := ys[k]) (by omega : k < 5) ⟨hv1, hv2⟩ hx
      refine tr_skip ?_
      refine pe_then_normal ?_
      refine tr_sub hC (.cons (t := 4) rfl (.cons (t := 11) rfl (.cons (t := 12) rfl (.cons (t := 13) rfl .nil)))) .nil rfl ?_
      refine tr_seq ?_
      refine tr_block ?_
      refine tr_seq ?_
      refine tr_region (fun N4 hN => ?_)
      refine lx (op_move rfl) rfl ?_
      refine lx (op_index rfl rfl el25 sz5 rfl (List.getElem?_eq_getElem (by omega : k < ys.length))) rfl ?_
      refine lx (op_load_one rfl ag5 rfl) rfl ?_
      refine lx (op_assign rfl) rfl ?_
      refine lx (op_assign rfl) rfl ?_
      refine lx_end ⟨by kernel_rfl, ?_⟩
      refine pe_then_normal ?_
      refine tr_sub hC (.cons (t := 4) rfl (.cons (t := 5) rfl (.cons (t := 6) rfl (.cons (t := 11) rfl (.cons (t := 12) rfl (.cons (t := 13) rfl .nil)))))) .nil rfl ?_
      refine tr_seq ?_
      refine tr_region (fun N5 hN => ?_)
      refine lx (op_move rfl) rfl ?_
      refine lx (op_move rfl) rfl ?_
      refine lx (OpJ.ent (op_and rfl rfl) (show Ent _ (eqP (.int .u8 (ys[k].tmod 128))) from (by exact entI (and_127 hx.1 (by omega))))) rfl ?_
      refine lx (OpJ.ent (op_convert rfl us5 ik3) (show Ent _ (eqP (.int .i64 (ys[k].tmod 128))) from (by exact entI (wrap_in (by omega))))) rfl ?_
      refine lx (op_move rfl) rfl ?_
      refine lx (op_mul rfl rfl (by omega)) rfl ?_
      refine lx (OpJ.ent (op_shl rfl rfl (decide_eq_false (by omega))) (show Ent _ (eqP (.int .i64 (ys[k].tmod 128 * 2 ^ (7 * k)))) from (by exact entI (shl_pow (by omega) (by omega))))) rfl ?_
      refine lx (op_add rfl rfl (by omega)) rfl ?_
      refine lx (op_assign rfl) rfl ?_
      refine lx_end ⟨by kernel_rfl, ?_⟩
      refine pe_then_normal ?_
      refine tr_sub hC (.cons (t := 4) rfl (.cons (t := 5) rfl (.cons (t := 6) rfl (.cons (t := 11) rfl (.cons (t := 12) rfl (.cons (t := 13) rfl .nil)))))) .nil rfl ?_
      refine tr_seq ?_
      refine tr_region (fun N6 hN => ?_)
      refine lx (op_move rfl) rfl ?_
      refine lx (op_lss rfl rfl) rfl ?_
      refine lx_end ⟨by kernel_rfl, ?_⟩
      refine pe_then_normal ?_
      refine tr_sub hC (.cons (t := 4) rfl (.cons (t := 5) rfl (.cons (t := 11) rfl (.cons (t := 12) rfl (.cons (t := 13) rfl (.cons (t := 27) rfl .nil)))))) .nil rfl ?_
      refine tr_cond rfl (fun h27 => ?_) (fun h27 => ?_)
      · (try simp only [Bool.and_eq_true, Bool.or_eq_true, Bool.and_eq_false_iff, Bool.or_eq_false_iff, decide_eq_true_eq, decide_eq_false_iff_not, Bool.not_eq_true', Bool.not_eq_false', List.length_map, ne_eq, Decidable.not_not, Int.not_lt, Int.not_le] at h27)
        rw [rd_last (by omega) h27] at hr
        refine tr_seq ?_
        refine tr_region (fun N7 hN => ?_)
        refine lx (op_move rfl) rfl ?_
        refine lx (op_move rfl) rfl ?_
        refine lx (op_add rfl rfl (by omega)) rfl ?_
        refine lx (op_assign rfl) rfl ?_
        refine lx (op_assign rfl) rfl ?_
        refine lx_end ⟨by kernel_rfl, ?_⟩
        refine pe_then_normal ?_
        refine tr_sub hC (.cons (t := 2) rfl (.cons (t := 3) rfl .nil)) .nil rfl ?_
        refine tr_ret ?_
        refine pe_block_ret ?_
        refine pe_then_ret ?_
        refine pe_then_ret ?_
        refine pe_block_ret ?_
        refine pe_then_ret ?_
        refine pe_retN (rs := [.tmp 2, .tmp 3]) rfl rfl hO rfl (.tmp rfl (.tmp rfl .nil)) ?_
        rw [← hr]
        repeat (first | exact Ents.nil | refine Ents.cons ?_ ?_ | refine Ent.tup ?_ | refine Ent.agg ?_ | exact Ent.row _ _ _ _ | exact Ent.nil _ _ | exact Ent.func _ | exact Ent.refl _ | exact Ent.of_eq rfl | refine Ent.cells ?_)
      · (try simp only [Bool.and_eq_true, Bool.or_eq_true, Bool.and_eq_false_iff, Bool.or_eq_false_iff, decide_eq_true_eq, decide_eq_false_iff_not, Bool.not_eq_true', Bool.not_eq_false', List.length_map, ne_eq, Decidable.not_not, Int.not_lt, Int.not_le] at h27)
        refine tr_skip ?_
        refine pe_block_normal ?_
        refine pe_then_normal ?_
        refine tr_sub hC (.cons (t := 4) rfl (.cons (t := 11) rfl (.cons (t := 12) rfl (.cons (t := 13) rfl .nil)))) .nil rfl ?_
        refine tr_region (fun N8 hN => ?_)
        refine lx (op_add rfl rfl (by omega)) rfl ?_
        refine lx (op_move rfl) rfl ?_
        refine lx_end ⟨by kernel_rfl, ?_⟩
        refine pe_round (⟨(k + 1, v + ys[k].tmod 128 * 2 ^ (7 * k)), by dsimp only; omega, by dsimp only; omega, by dsimp only; omega, (rd_next (by omega) (by omega)).trans hr⟩) (by dsimp only; omega) (pe_st hC ?_ ?_ rfl)
        · try dsimp only [List.cons_append, List.nil_append]
          first | refine SubF.cons rfl ?_ | (refine SubF.ent rfl ?_ ?_; · repeat (first | exact Ents.nil | refine Ents.cons ?_ ?_ | refine Ent.tup ?_ | refine Ent.agg ?_ | exact Ent.row _ _ _ _ | exact Ent.nil _ _ | exact Ent.func _ | exact Ent.refl _ | exact Ent.of_eq rfl | refine Ent.cells ?_))
          first | refine SubF.cons rfl ?_ | (refine SubF.ent rfl ?_ ?_; · repeat (first | exact Ents.nil | refine Ents.cons ?_ ?_ | refine Ent.tup ?_ | refine Ent.agg ?_ | exact Ent.row _ _ _ _ | exact Ent.nil _ _ | exact Ent.func _ | exact Ent.refl _ | exact Ent.of_eq rfl | refine Ent.cells ?_))
          first | refine SubF.cons rfl ?_ | (refine SubF.ent rfl ?_ ?_; · repeat (first | exact Ents.nil | refine Ents.cons ?_ ?_ | refine Ent.tup ?_ | refine Ent.agg ?_ | exact Ent.row _ _ _ _ | exact Ent.nil _ _ | exact Ent.func _ | exact Ent.refl _ | exact Ent.of_eq rfl | refine Ent.cells ?_))
          first | refine SubF.cons rfl ?_ | (refine SubF.ent rfl ?_ ?_; · repeat (first | exact Ents.nil | refine Ents.cons ?_ ?_ | refine Ent.tup ?_ | refine Ent.agg ?_ | exact Ent.row _ _ _ _ | exact Ent.nil _ _ | exact Ent.func _ | exact Ent.refl _ | exact Ent.of_eq rfl | refine Ent.cells ?_))
          exact SubF.nil
        · try dsimp only [List.cons_append, List.nil_append]
          repeat (first | exact SubL.nil | refine SubL.cons rfl ?_)
    · (try simp only [Bool.and_eq_true, Bool.or_eq_true, Bool.and_eq_false_iff, Bool.or_eq_false_iff, decide_eq_true_eq, decide_eq_false_iff_not, Bool.not_eq_true', Bool.not_eq_false', List.length_map, ne_eq, Decidable.not_not, Int.not_lt, Int.not_le] at h14)
      rw [rd_none (by omega)] at hr
      refine tr_exit ?_
      refine pe_then_exit ?_
      refine pe_then_exit ?_
      refine pe_block_eq ?_
      refine pe_then_normal ?_
      refine tr_sub hC .nil .nil rfl ?_
      refine tr_seq ?_
      refine tr_region (fun N9 hN => ?_)
      refine lx (op_assign rfl) rfl ?_
      refine lx (op_assign rfl) rfl ?_
      refine lx_end ⟨by kernel_rfl, ?_⟩
      refine pe_then_normal ?_
      refine tr_sub hC (.cons (t := 2) rfl (.cons (t := 3) rfl .nil)) .nil rfl ?_
      refine tr_ret ?_
      refine pe_retN (rs := [.tmp 2, .tmp 3]) rfl rfl hO rfl (.tmp rfl (.tmp rfl .nil)) ?_
      rw [← hr]
      repeat (first | exact Ents.nil | refine Ents.cons ?_ ?_ | refine Ent.tup ?_ | refine Ent.agg ?_ | exact Ent.row _ _ _ _ | exact Ent.nil _ _ | exact Ent.func _ | exact Ent.refl _ | exact Ent.of_eq rfl | refine Ent.cells ?_)
theorem rnumber_ok (xs : List Int) (hb : isB xs) : FnP Try.prog 41 [slP byP 1 xs] (tupP [eqP (.int .i64 (rnumF xs).1), slP byP 1 (rnumF xs).2]) := by
  obtain ⟨ys, hys⟩ : ∃ ys, ys = xs.take 5 := ⟨_, rfl⟩
  have hyl : ys.length = min 5 xs.length := by rw [hys, List.length_take]
  have hyb : isB ys := by rw [hys]; exact isB_take hb 5
  have hrd : rdF xs = rdGo ys 0 0 := by rw [hys]; rfl
  refine fn_pure' Try.func41 rfl Try.ntmps41 rfl ?_
  intro σ0 M ex Rf R hC hO
  simp only [frameOf, tokOf]
  refine tr_seq ?_
  refine tr_region (fun N0 hN => ?_)
  refine lx (op_assign rfl) rfl ?_
  refine lx (op_assign rfl) rfl ?_
  refine lx_end ⟨by kernel_rfl, ?_⟩
  refine pe_then_normal ?_
  refine tr_sub hC (.cons (t := 0) rfl .nil) .nil rfl ?_
  refine tr_seq ?_
  refine tr_region (fun N1 hN => ?_)
  refine lx (op_assign rfl) rfl ?_
  refine lx (op_assign rfl) rfl ?_
  refine lx_end ⟨by kernel_rfl, ?_⟩
  refine pe_then_normal ?_
  refine tr_sub hC (.cons (t := 0) rfl (.cons (t := 4) rfl (.cons (t := 5) rfl .nil))) .nil rfl ?_
  refine tr_seq ?_
  refine tr_seq ?_
  refine tr_region (fun N2 hN => ?_)
  refine lx (op_assign rfl) rfl ?_
  refine lx_end ⟨by kernel_rfl, ?_⟩
  refine pe_then_normal ?_
  refine tr_sub hC (.cons (t := 0) rfl (.cons (t := 4) rfl (.cons (t := 5) rfl (.cons (t := 6) rfl .nil)))) .nil rfl ?_
  refine tr_block ?_
  refine tr_loopK (α := {zz : Nat × Int // zz.1 ≤ ys.length ∧ 0 ≤ zz.2 ∧ zz.2 < 2 ^ (7 * zz.1) ∧ rdGo (ys.drop zz.1) zz.1 zz.2 = rdF xs}) (⟨(0, 0), Nat.zero_le _, Int.le_refl _, by simp, hrd.symm⟩) (fun zz => [(4, eqP (.int .i64 zz.1.2)), (5, eqP (.int .i64 (2 ^ (7 * zz.1.1)))), (6, eqP (.int .i64 (zz.1.1 : Int)))]) (fun zz => []) (fun zz => ys.length - zz.1.1) hC (.cons (t := 0) rfl .nil) .nil rfl ?_ ?_ (fun zz => ?_)
  · try dsimp only [List.cons_append, List.nil_append]
    first | refine SubF.cons rfl ?_ | (refine SubF.ent rfl ?_ ?_; · repeat (first | exact Ents.nil | refine Ents.cons ?_ ?_ | refine Ent.tup ?_ | refine Ent.agg ?_ | exact Ent.row _ _ _ _ | exact Ent.nil _ _ | exact Ent.func _ | exact Ent.refl _ | exact Ent.of_eq rfl | refine Ent.cells ?_))
    first | refine SubF.cons rfl ?_ | (refine SubF.ent rfl ?_ ?_; · repeat (first | exact Ents.nil | refine Ents.cons ?_ ?_ | refine Ent.tup ?_ | refine Ent.agg ?_ | exact Ent.row _ _ _ _ | exact Ent.nil _ _ | exact Ent.func _ | exact Ent.refl _ | exact Ent.of_eq rfl | refine Ent.cells ?_))
    first | refine SubF.cons rfl ?_ | (refine SubF.ent rfl ?_ ?_; · repeat (first | exact Ents.nil | refine Ents.cons ?_ ?_ | refine Ent.tup ?_ | refine Ent.agg ?_ | exact Ent.row _ _ _ _ | exact Ent.nil _ _ | exact Ent.func _ | exact Ent.refl _ | exact Ent.of_eq rfl | refine Ent.cells ?_))
    exact SubF.nil
  · try dsimp only [List.cons_append, List.nil_append]
    repeat (first | exact SubL.nil | refine SubL.cons rfl ?_)
  · obtain ⟨⟨k, v⟩, hk, hv1, hv2, hr⟩ := zz
    try dsimp only at hk
    try dsimp only at hv1
    try dsimp only at hv2
    try dsimp only at hr
    dsimp only [List.cons_append, List.nil_append]
    refine tr_seq ?_
    refine tr_seq ?_
    refine tr_region (fun N3 hN => ?_)
    refine lx (op_move rfl) rfl ?_
    refine lx (op_lss rfl rfl) rfl ?_
    refine lx (op_move rfl) rfl ?_
    refine lxs rfl rfl rfl guard_eq (.cons (t := 6) rfl (fun _ => Ent.refl _) .nil) (op_move rfl) rfl ?_
    refine lxs rfl rfl rfl guard_eq (.cons (t := 0) rfl (fun _ => Ent.refl _) .nil) (op_move rfl) rfl ?_
    first | refine lxs rfl rfl rfl guard_eq (.cons (t := 11) rfl (fun h => entW h) .nil) (op_len rfl el25) rfl ?_ | refine lxs rfl rfl rfl guard_eq (.cons (t := 11) rfl (fun h => entW h) .nil) (op_len_row rfl el25) rfl ?_ | refine lxs rfl rfl rfl guard_eq (.cons (t := 11) rfl (fun h => entW h) .nil) (op_len_mv rfl el25) rfl ?_ | refine lxs rfl rfl rfl guard_eq (.cons (t := 11) rfl (fun h => entW h) .nil) (op_len_nil rfl el25) rfl ?_
    refine lxs rfl rfl rfl guard_eq (.cons (t := 10) rfl (fun h => entW h) (.cons (t := 12) rfl (fun h => entW h) .nil)) (op_lss rfl rfl) rfl ?_
    refine lx (op_pick_and rfl rfl) rfl ?_
    refine lx_end ⟨by kernel_rfl, ?_⟩
    refine pe_then_normal ?_
    refine tr_sub hC (.cons (t := 0) rfl (.cons (t := 4) rfl (.cons (t := 5) rfl (.cons (t := 6) rfl (.cons (t := 14) rfl .nil))))) .nil rfl ?_
    refine tr_cond rfl (fun h14 => ?_) (fun h14 => ?_)
    · (try simp only [Bool.and_eq_true, Bool.or_eq_true, Bool.and_eq_false_iff, Bool.or_eq_false_iff, decide_eq_true_eq, decide_eq_false_iff_not, Bool.not_eq_true', Bool.not_eq_false', List.length_map, ne_eq, Decidable.not_not, Int.not_lt, Int.not_le] at h14)
      have hx := hb _ (List.getElem_mem (by omega : k < xs.length))
      have hbd := rd_bd (x := xs[k]) (by omega : k < 5) ⟨hv1, hv2⟩ hx
      have hpw := pow7_bd (by omega : k < 5)
      have hyx : ys[k]'(by omega) = xs[k] := by subst hys; exact take5_get (by omega) (by omega)
      refine tr_skip ?_
      refine pe_then_normal ?_
      refine tr_sub hC (.cons (t := 0) rfl (.cons (t := 4) rfl (.cons (t := 5) rfl (.cons (t := 6) rfl .nil)))) .nil rfl ?_
      refine tr_seq ?_
      refine tr_block ?_
      refine tr_seq ?_
      refine tr_region (fun N5 hN => ?_)
      refine lx (op_move rfl) rfl ?_
      refine lx (op_move rfl) rfl ?_
      refine lx (op_move rfl) rfl ?_
      refine lx (op_index rfl rfl el25 sz5 rfl (List.getElem?_eq_getElem (by omega : k < xs.length))) rfl ?_
      refine lx (op_load_one rfl ag5 rfl) rfl ?_
      refine lx (OpJ.ent (op_rem rfl rfl rfl) (show Ent _ (eqP (.int .u8 (xs[k].tmod 128))) from (by exact Ent.refl _))) rfl ?_
      refine lx (OpJ.ent (op_convert rfl us5 ik3) (show Ent _ (eqP (.int .i64 (xs[k].tmod 128))) from (by exact entI (wrap_in (by omega))))) rfl ?_
      refine lx (op_move rfl) rfl ?_
      refine lx (op_mul rfl rfl (by omega)) rfl ?_
      refine lx (op_add rfl rfl (by omega)) rfl ?_
      refine lx (op_assign rfl) rfl ?_
      refine lx_end ⟨by kernel_rfl, ?_⟩
      refine pe_then_normal ?_
      refine tr_sub hC (.cons (t := 0) rfl (.cons (t := 4) rfl (.cons (t := 5) rfl (.cons (t := 6) rfl .nil)))) .nil rfl ?_
      refine tr_seq ?_
      refine tr_region (fun N6 hN => ?_)
      refine lx (op_move rfl) rfl ?_
      refine lx (OpJ.ent (op_mul rfl rfl (by omega)) (show Ent _ (eqP (.int .i64 (2 ^ (7 * (k + 1))))) from (by exact entI (pow7 k)))) rfl ?_
      refine lx (op_assign rfl) rfl ?_
      refine lx_end ⟨by kernel_rfl, ?_⟩
      refine pe_then_normal ?_
      refine tr_sub hC (.cons (t := 0) rfl (.cons (t := 4) rfl (.cons (t := 5) rfl (.cons (t := 6) rfl .nil)))) .nil rfl ?_
      refine tr_seq ?_
      refine tr_region (fun N7 hN => ?_)
      refine lx (op_move rfl) rfl ?_
      refine lx (op_move rfl) rfl ?_
      refine lx (op_index rfl rfl el25 sz5 rfl (List.getElem?_eq_getElem (by omega : k < xs.length))) rfl ?_
      refine lx (op_load_one rfl ag5 rfl) rfl ?_
      refine lx (op_lss rfl rfl) rfl ?_
      refine lx_end ⟨by kernel_rfl, ?_⟩
      refine pe_then_normal ?_
      refine tr_sub hC (.cons (t := 0) rfl (.cons (t := 4) rfl (.cons (t := 5) rfl (.cons (t := 6) rfl (.cons (t := 33) rfl .nil))))) .nil rfl ?_
      refine tr_cond rfl (fun h33 => ?_) (fun h33 => ?_)
      · (try simp only [Bool.and_eq_true, Bool.or_eq_true, Bool.and_eq_false_iff, Bool.or_eq_false_iff, decide_eq_true_eq, decide_eq_false_iff_not, Bool.not_eq_true', Bool.not_eq_false', List.length_map, ne_eq, Decidable.not_not, Int.not_lt, Int.not_le] at h33)
        have hr2 : rdF xs = (v + xs[k].tmod 128 * 2 ^ (7 * k), (k : Int) + 1) := by rw [← hr, rd_last (by omega) (by rw [hyx]; exact h33), hyx]
        refine tr_seq ?_
        refine tr_seq ?_
        refine tr_region (fun N8 hN => ?_)
        refine lx (op_move rfl) rfl ?_
        refine lx (op_gtr rfl rfl) rfl ?_
        refine lx (op_move rfl) rfl ?_
        refine lxs rfl rfl rfl guard_eq (.cons (t := 0) rfl (fun _ => Ent.refl _) .nil) (op_move rfl) rfl ?_
        refine lxs rfl rfl rfl guard_eq (.cons (t := 6) rfl (fun _ => Ent.refl _) .nil) (op_move rfl) rfl ?_
        refine lxs rfl rfl rfl guard_eq (.cons (t := 37) rfl (fun h => entW h) (.cons (t := 38) rfl (fun h => entW h) .nil)) (op_index rfl rfl el25 sz5 rfl (List.getElem?_eq_getElem (by omega : k < xs.length))) rfl ?_
        refine lxs rfl rfl rfl guard_eq (.cons (t := 39) rfl (fun h => entW h) .nil) (op_load_one rfl ag5 rfl) rfl ?_
        refine lxs rfl rfl rfl guard_eq (.cons (t := 40) rfl (fun h => entW h) .nil) (op_eql rfl rfl) rfl ?_
        refine lx (op_pick_and rfl rfl) rfl ?_
        refine lx_end ⟨by kernel_rfl, ?_⟩
        refine pe_then_normal ?_
        refine tr_sub hC (.cons (t := 0) rfl (.cons (t := 4) rfl (.cons (t := 6) rfl (.cons (t := 42) rfl .nil)))) .nil rfl ?_
        refine tr_cond rfl (fun h42 => ?_) (fun h42 => ?_)
        · (try simp only [Bool.and_eq_true, Bool.or_eq_true, Bool.and_eq_false_iff, Bool.or_eq_false_iff, decide_eq_true_eq, decide_eq_false_iff_not, Bool.not_eq_true', Bool.not_eq_false', List.length_map, ne_eq, Decidable.not_not, Int.not_lt, Int.not_le] at h42)
          have h := rn_zero (by omega) hr2 (by omega) h42.2
          refine tr_seq ?_
          refine tr_region (fun N9 hN => ?_)
          refine lx (op_assign rfl) rfl ?_
          refine lx (op_assign rfl) rfl ?_
          refine lx_end ⟨by kernel_rfl, ?_⟩
          refine pe_then_normal ?_
          refine tr_sub hC (.cons (t := 2) rfl (.cons (t := 3) rfl .nil)) .nil rfl ?_
          refine tr_ret ?_
          refine pe_then_ret ?_
          refine pe_block_ret ?_
          refine pe_then_ret ?_
          refine pe_then_ret ?_
          refine pe_block_ret ?_
          refine pe_then_ret ?_
          refine pe_retN (rs := [.tmp 2, .tmp 3]) rfl rfl hO rfl (.tmp rfl (.tmp rfl .nil)) ?_
          rw [h]
          repeat (first | exact Ents.nil | refine Ents.cons ?_ ?_ | refine Ent.tup ?_ | refine Ent.agg ?_ | exact Ent.row _ _ _ _ | exact Ent.nil _ _ | exact Ent.func _ | exact Ent.refl _ | exact Ent.of_eq rfl | refine Ent.cells ?_)
        · (try simp only [Bool.and_eq_true, Bool.or_eq_true, Bool.and_eq_false_iff, Bool.or_eq_false_iff, decide_eq_true_eq, decide_eq_false_iff_not, Bool.not_eq_true', Bool.not_eq_false', List.length_map, ne_eq, Decidable.not_not, Int.not_lt, Int.not_le] at h42)
          have h := rn_some (by omega) hr2 (by omega)
          refine tr_skip ?_
          refine pe_then_normal ?_
          refine tr_sub hC (.cons (t := 0) rfl (.cons (t := 4) rfl (.cons (t := 6) rfl .nil))) .nil rfl ?_
          refine tr_seq ?_
          refine tr_drawn mixed (fun N10 hN => ?_)
          refine lx (op_move rfl) rfl ?_
          refine lx (op_move rfl) rfl ?_
          refine lx (op_move rfl) rfl ?_
          refine lx (op_add rfl rfl (by omega)) rfl ?_
          refine lx (op_slice_l rfl rfl el25 sz5 (by omega : (k : Int) + 1 = ((k + 1 : Nat) : Int)) (by omega)) rfl ?_
          refine lx (op_assign rfl) rfl ?_
          refine lx (op_assign rfl) rfl ?_
          refine lx_end ⟨by kernel_rfl, ?_⟩
          refine pe_then_normal ?_
          refine tr_sub hC (.cons (t := 2) rfl (.cons (t := 3) rfl .nil)) .nil rfl ?_
          refine tr_ret ?_
          refine pe_block_ret ?_
          refine pe_then_ret ?_
          refine pe_then_ret ?_
          refine pe_block_ret ?_
          refine pe_then_ret ?_
          refine pe_retN (rs := [.tmp 2, .tmp 3]) rfl rfl hO rfl (.tmp rfl (.tmp rfl .nil)) ?_
          rw [h]
          repeat (first | exact Ents.nil | refine Ents.cons ?_ ?_ | refine Ent.tup ?_ | refine Ent.agg ?_ | exact Ent.row _ _ _ _ | exact Ent.nil _ _ | exact Ent.func _ | exact Ent.refl _ | exact Ent.of_eq rfl | refine Ent.cells ?_)
      · (try simp only [Bool.and_eq_true, Bool.or_eq_true, Bool.and_eq_false_iff, Bool.or_eq_false_iff, decide_eq_true_eq, decide_eq_false_iff_not, Bool.not_eq_true', Bool.not_eq_false', List.length_map, ne_eq, Decidable.not_not, Int.not_lt, Int.not_le] at h33)
        refine tr_skip ?_
        refine pe_block_normal ?_
        refine pe_then_normal ?_
        refine tr_sub hC (.cons (t := 0) rfl (.cons (t := 4) rfl (.cons (t := 5) rfl (.cons (t := 6) rfl .nil)))) .nil rfl ?_
        refine tr_region (fun N4 hN => ?_)
        refine lx (op_move rfl) rfl ?_
        refine lx (op_add rfl rfl (by omega)) rfl ?_
        refine lx (op_assign rfl) rfl ?_
        refine lx_end ⟨by kernel_rfl, ?_⟩
        refine pe_round (⟨(k + 1, v + xs[k].tmod 128 * 2 ^ (7 * k)), by dsimp only; omega, by dsimp only; omega, by dsimp only; omega, (by have := rd_next (v := v) (by omega : k < ys.length) (by rw [hyx]; omega); rw [hyx] at this; exact this.trans hr)⟩) (by dsimp only; omega) (pe_st hC ?_ ?_ rfl)
        · try dsimp only [List.cons_append, List.nil_append]
          first | refine SubF.cons rfl ?_ | (refine SubF.ent rfl ?_ ?_; · repeat (first | exact Ents.nil | refine Ents.cons ?_ ?_ | refine Ent.tup ?_ | refine Ent.agg ?_ | exact Ent.row _ _ _ _ | exact Ent.nil _ _ | exact Ent.func _ | exact Ent.refl _ | exact Ent.of_eq rfl | refine Ent.cells ?_))
          first | refine SubF.cons rfl ?_ | (refine SubF.ent rfl ?_ ?_; · repeat (first | exact Ents.nil | refine Ents.cons ?_ ?_ | refine Ent.tup ?_ | refine Ent.agg ?_ | exact Ent.row _ _ _ _ | exact Ent.nil _ _ | exact Ent.func _ | exact Ent.refl _ | exact Ent.of_eq rfl | refine Ent.cells ?_))
          first | refine SubF.cons rfl ?_ | (refine SubF.ent rfl ?_ ?_; · repeat (first | exact Ents.nil | refine Ents.cons ?_ ?_ | refine Ent.tup ?_ | refine Ent.agg ?_ | exact Ent.row _ _ _ _ | exact Ent.nil _ _ | exact Ent.func _ | exact Ent.refl _ | exact Ent.of_eq rfl | refine Ent.cells ?_))
          first | refine SubF.cons rfl ?_ | (refine SubF.ent rfl ?_ ?_; · repeat (first | exact Ents.nil | refine Ents.cons ?_ ?_ | refine Ent.tup ?_ | refine Ent.agg ?_ | exact Ent.row _ _ _ _ | exact Ent.nil _ _ | exact Ent.func _ | exact Ent.refl _ | exact Ent.of_eq rfl | refine Ent.cells ?_))
          exact SubF.nil
        · try dsimp only [List.cons_append, List.nil_append]
          repeat (first | exact SubL.nil | refine SubL.cons rfl ?_)
    · (try simp only [Bool.and_eq_true, Bool.or_eq_true, Bool.and_eq_false_iff, Bool.or_eq_false_iff, decide_eq_true_eq, decide_eq_false_iff_not, Bool.not_eq_true', Bool.not_eq_false', List.length_map, ne_eq, Decidable.not_not, Int.not_lt, Int.not_le] at h14)
      have h := rn_none (by rw [rd_none (by omega)] at hr; exact hr.symm)
      refine tr_exit ?_
      refine pe_then_exit ?_
      refine pe_then_exit ?_
      refine pe_block_eq ?_
      refine pe_then_normal ?_
      refine tr_sub hC .nil .nil rfl ?_
      refine tr_seq ?_
      refine tr_region (fun N11 hN => ?_)
      refine lx (op_assign rfl) rfl ?_
      refine lx (op_assign rfl) rfl ?_
      refine lx_end ⟨by kernel_rfl, ?_⟩
      refine pe_then_normal ?_
      refine tr_sub hC (.cons (t := 2) rfl (.cons (t := 3) rfl .nil)) .nil rfl ?_
      refine tr_ret ?_
      refine pe_retN (rs := [.tmp 2, .tmp 3]) rfl rfl hO rfl (.tmp rfl (.tmp rfl .nil)) ?_
      rw [h]
      repeat (first | exact Ents.nil | refine Ents.cons ?_ ?_ | refine Ent.tup ?_ | refine Ent.agg ?_ | exact Ent.row _ _ _ _ | exact Ent.nil _ _ | exact Ent.func _ | exact Ent.refl _ | exact Ent.of_eq rfl | refine Ent.cells ?_)
end Go.Proofs.Ytgdhogmghffbaaa


set_option linter.unusedVariables false
set_option linter.unusedSimpArgs false
namespace Go.Proofs.Ytgdhogmghffbaaa
open Go.AL Go.Wr Go.RowKit
theorem ag9 : aggB Try.prog 9 = some false := by kernel_rfl
theorem ag25 : aggB Try.prog 25 = some false := by kernel_rfl
theorem ag27 : aggB Try.prog 27 = some true := by kernel_rfl
theorem ar82 : arrB Try.prog 82 = some (3, 3) := by kernel_rfl
theorem fl23_0 : fldB Try.prog 23 0 = some (0, 3) := by kernel_rfl
theorem fl23_1 : fldB Try.prog 23 1 = some (1, 3) := by kernel_rfl
theorem fl23_2 : fldB Try.prog 23 2 = some (2, 9) := by kernel_rfl
theorem fl27_0 : fldB Try.prog 27 0 = some (0, 3) := by kernel_rfl
theorem fl27_1 : fldB Try.prog 27 1 = some (1, 3) := by kernel_rfl
theorem fl27_2 : fldB Try.prog 27 2 = some (2, 25) := by kernel_rfl
theorem fn10 : fnB Try.prog 10 = true := by kernel_rfl
theorem fn31 : fnB Try.prog 31 = true := by kernel_rfl
theorem fn32 : fnB Try.prog 32 = true := by kernel_rfl
theorem fn33 : fnB Try.prog 33 = true := by kernel_rfl
theorem fn34 : fnB Try.prog 34 = true := by kernel_rfl
theorem fn35 : fnB Try.prog 35 = true := by kernel_rfl
theorem fn36 : fnB Try.prog 36 = true := by kernel_rfl
theorem fn37 : fnB Try.prog 37 = true := by kernel_rfl
theorem fn39 : fnB Try.prog 39 = true := by kernel_rfl
theorem fs27 : sizesB Try.prog 27 = true := by kernel_rfl
theorem sz9 : sizeB Try.prog 9 = some 1 := by kernel_rfl
theorem sz25 : sizeB Try.prog 25 = some 1 := by kernel_rfl
theorem sz27 : sizeB Try.prog 27 = some 3 := by kernel_rfl
theorem ze3 : zeroB Try.prog 3 = some (some (.int .i64 0)) := by kernel_rfl
theorem ze27 : zeroB Try.prog 27 = some (some (.agg #[.int .i64 0, .int .i64 0, .slice none 0 0])) := by kernel_rfl
theorem ze82 : zeroB Try.prog 82 = some (some (.agg #[.int .i64 0, .int .i64 0, .int .i64 0])) := by kernel_rfl
theorem Encode_ok (f : WF) : FnP Try.prog 10 [aggP f.ps] (tupP [slP byP 1 (encodeF f).1, eqP (.int .i64 (encodeF f).2)]) := by
  refine fn_pure' Try.func10 rfl Try.ntmps10 rfl ?_
  intro σ0 M ex Rf R hC hO
  simp only [frameOf, tokOf]
  refine tr_seq ?_
  refine tr_region (fun N0 hN => ?_)
  refine lxn (op_box (m := 1) (k := 1) rfl (.agg rfl) (by first | exact hC.low _ (by decide) | rfl)) rfl ?_
  refine lx (op_assign rfl) rfl ?_
  refine lx (op_assign rfl) rfl ?_
  refine lx_end ⟨by kernel_rfl, ?_⟩
  refine pe_then_normal ?_
  refine tr_sub hC (.cons (t := 1) rfl .nil) (.cons (t := 1) rfl .nil) rfl ?_
  refine tr_seq ?_
  refine tr_seq ?_
  refine tr_region (fun N1 hN => ?_)
  refine lx (op_fieldAddr rfl fl27_0 sz3) rfl ?_
  refine lx (op_bload_one (m := 1) rfl rfl ag3 rfl) rfl ?_
  first | refine lx (op_call (l := [(Go.Operand.tmp 6), (Go.Operand.const (Go.Value.int Go.IntKind.i64 0)), (Go.Operand.const (Go.Value.int Go.IntKind.i64 2147483647))]) (within_ok f.seq 0 2147483647) (.cons rfl (.cons rfl (.cons rfl .nil))) fn31) rfl ?_ | refine lx (op_call (l := [(Go.Operand.tmp 6), (Go.Operand.const (Go.Value.int Go.IntKind.i64 0)), (Go.Operand.const (Go.Value.int Go.IntKind.i64 2147483647))]) (within_ok f.seq 0 2147483647) (.ent rfl (by repeat (first | exact Ents.nil | refine Ents.cons ?_ ?_ | refine Ent.tup ?_ | refine Ent.agg ?_ | exact Ent.row _ _ _ _ | exact Ent.nil _ _ | exact Ent.func _ | exact Ent.refl _ | exact Ent.of_eq rfl | refine Ent.cells ?_)) (.ent rfl (by repeat (first | exact Ents.nil | refine Ents.cons ?_ ?_ | refine Ent.tup ?_ | refine Ent.agg ?_ | exact Ent.row _ _ _ _ | exact Ent.nil _ _ | exact Ent.func _ | exact Ent.refl _ | exact Ent.of_eq rfl | refine Ent.cells ?_)) (.ent rfl (by repeat (first | exact Ents.nil | refine Ents.cons ?_ ?_ | refine Ent.tup ?_ | refine Ent.agg ?_ | exact Ent.row _ _ _ _ | exact Ent.nil _ _ | exact Ent.func _ | exact Ent.refl _ | exact Ent.of_eq rfl | refine Ent.cells ?_)) .nil))) fn31) rfl ?_
  first | refine lx (op_not rfl) rfl ?_ | refine lx (op_not_b rfl) rfl ?_
  refine lx (op_move rfl) rfl ?_
  refine lxs rfl rfl rfl guard_eq (.cons (t := 1) rfl (fun _ => Ent.refl _) .nil) (op_fieldAddr rfl fl27_1 sz3) rfl ?_
  refine lxs rfl rfl rfl guard_eq (.cons (t := 10) rfl (fun h => entW h) .nil) (op_bload_one (m := 1) rfl rfl ag3 rfl) rfl ?_
  first | refine lxs rfl rfl rfl guard_eq (.cons (t := 11) rfl (fun h => entW h) .nil) (op_call (l := [(Go.Operand.tmp 11), (Go.Operand.const (Go.Value.int Go.IntKind.i64 0)), (Go.Operand.const (Go.Value.int Go.IntKind.i64 2147483647))]) (within_ok f.ack 0 2147483647) (.cons rfl (.cons rfl (.cons rfl .nil))) fn31) rfl ?_ | refine lxs rfl rfl rfl guard_eq (.cons (t := 11) rfl (fun h => entW h) .nil) (op_call (l := [(Go.Operand.tmp 11), (Go.Operand.const (Go.Value.int Go.IntKind.i64 0)), (Go.Operand.const (Go.Value.int Go.IntKind.i64 2147483647))]) (within_ok f.ack 0 2147483647) (.ent rfl (by repeat (first | exact Ents.nil | refine Ents.cons ?_ ?_ | refine Ent.tup ?_ | refine Ent.agg ?_ | exact Ent.row _ _ _ _ | exact Ent.nil _ _ | exact Ent.func _ | exact Ent.refl _ | exact Ent.of_eq rfl | refine Ent.cells ?_)) (.ent rfl (by repeat (first | exact Ents.nil | refine Ents.cons ?_ ?_ | refine Ent.tup ?_ | refine Ent.agg ?_ | exact Ent.row _ _ _ _ | exact Ent.nil _ _ | exact Ent.func _ | exact Ent.refl _ | exact Ent.of_eq rfl | refine Ent.cells ?_)) (.ent rfl (by repeat (first | exact Ents.nil | refine Ents.cons ?_ ?_ | refine Ent.tup ?_ | refine Ent.agg ?_ | exact Ent.row _ _ _ _ | exact Ent.nil _ _ | exact Ent.func _ | exact Ent.refl _ | exact Ent.of_eq rfl | refine Ent.cells ?_)) .nil))) fn31) rfl ?_
  first | refine lxs rfl rfl rfl guard_eq (.cons (t := 12) rfl (fun h => entW h) .nil) (op_not rfl) rfl ?_ | refine lxs rfl rfl rfl guard_eq (.cons (t := 12) rfl (fun h => entW h) .nil) (op_not_b rfl) rfl ?_
  refine lx (op_pick_or rfl rfl) rfl ?_
  refine lx (op_move rfl) rfl ?_
  refine lxs rfl rfl rfl guard_eq (.cons (t := 1) rfl (fun _ => Ent.refl _) .nil) (op_fieldAddr rfl fl27_2 sz25) rfl ?_
  refine lxs rfl rfl rfl guard_eq (.cons (t := 16) rfl (fun h => entW h) .nil) (op_bload_one (m := 1) rfl rfl ag25 rfl) rfl ?_
  first | refine lxs rfl rfl rfl guard_eq (.cons (t := 17) rfl (fun h => entW h) .nil) (op_len rfl el25) rfl ?_ | refine lxs rfl rfl rfl guard_eq (.cons (t := 17) rfl (fun h => entW h) .nil) (op_len_row rfl el25) rfl ?_ | refine lxs rfl rfl rfl guard_eq (.cons (t := 17) rfl (fun h => entW h) .nil) (op_len_mv rfl el25) rfl ?_ | refine lxs rfl rfl rfl guard_eq (.cons (t := 17) rfl (fun h => entW h) .nil) (op_len_nil rfl el25) rfl ?_
  refine lxs rfl rfl rfl guard_eq (.cons (t := 18) rfl (fun h => entW h) .nil) (op_gtr rfl rfl) rfl ?_
  refine lx (op_pick_or rfl rfl) rfl ?_
  refine lx (op_move rfl) rfl ?_
  refine lxs rfl rfl rfl guard_eq (.cons (t := 1) rfl (fun _ => Ent.refl _) .nil) (op_fieldAddr rfl fl27_0 sz3) rfl ?_
  refine lxs rfl rfl rfl guard_eq (.cons (t := 22) rfl (fun h => entW h) .nil) (op_bload_one (m := 1) rfl rfl ag3 rfl) rfl ?_
  refine lxs rfl rfl rfl guard_eq (.cons (t := 23) rfl (fun h => entW h) .nil) (op_eql rfl rfl) rfl ?_
  refine lxs rfl rfl rfl guard_eq (.cons (t := 24) rfl (fun h => entW h) .nil) (op_move rfl) rfl ?_
  refine lxs rfl rfl rfl guard_w (.cons (t := 1) rfl (fun _ => Ent.refl _) .nil) (op_fieldAddr rfl fl27_2 sz25) rfl ?_
  refine lxs rfl rfl rfl guard_w (.cons (t := 26) rfl (fun h => entW h) .nil) (op_bload_one (m := 1) rfl rfl ag25 rfl) rfl ?_
  first | refine lxs rfl rfl rfl guard_w (.cons (t := 27) rfl (fun h => entW h) .nil) (op_len rfl el25) rfl ?_ | refine lxs rfl rfl rfl guard_w (.cons (t := 27) rfl (fun h => entW h) .nil) (op_len_row rfl el25) rfl ?_ | refine lxs rfl rfl rfl guard_w (.cons (t := 27) rfl (fun h => entW h) .nil) (op_len_mv rfl el25) rfl ?_ | refine lxs rfl rfl rfl guard_w (.cons (t := 27) rfl (fun h => entW h) .nil) (op_len_nil rfl el25) rfl ?_
  refine lxs rfl rfl rfl guard_w (.cons (t := 28) rfl (fun h => entW h) .nil) (op_gtr rfl rfl) rfl ?_
  refine lxs rfl rfl rfl guard_eq (.cons (t := 25) rfl (fun h => entW h) (.cons (t := 29) rfl (fun h => entS h) .nil)) (op_pick_and rfl rfl) rfl ?_
  refine lx (op_pick_or rfl rfl) rfl ?_
  refine lx_end ⟨by kernel_rfl, ?_⟩
  refine pe_then_normal ?_
  refine tr_sub hC (.cons (t := 1) rfl (.cons (t := 31) rfl .nil)) (.cons (t := 1) rfl .nil) rfl ?_
  refine tr_cond rfl (fun h31 => ?_) (fun h31 => ?_)
  · (try simp only [Bool.and_eq_true, Bool.or_eq_true, Bool.and_eq_false_iff, Bool.or_eq_false_iff, decide_eq_true_eq, decide_eq_false_iff_not, Bool.not_eq_true', Bool.not_eq_false', List.length_map, ne_eq, Decidable.not_not, Int.not_lt, Int.not_le] at h31)
    have h := enc_f (f := f) (by unfold frOK; omega)
    refine tr_seq ?_
    refine tr_region (fun N2 hN => ?_)
    refine lx (op_assign rfl) rfl ?_
    refine lx (op_assign rfl) rfl ?_
    refine lx_end ⟨by kernel_rfl, ?_⟩
    refine pe_then_normal ?_
    refine tr_sub hC (.cons (t := 2) rfl (.cons (t := 3) rfl .nil)) .nil rfl ?_
    refine tr_ret ?_
    refine pe_then_ret ?_
    refine pe_retN (rs := [.tmp 2, .tmp 3]) rfl rfl hO rfl (.tmp rfl (.tmp rfl .nil)) ?_
    rw [h]
    repeat (first | exact Ents.nil | refine Ents.cons ?_ ?_ | refine Ent.tup ?_ | refine Ent.agg ?_ | exact Ent.row _ _ _ _ | exact Ent.nil _ _ | exact Ent.func _ | exact Ent.refl _ | exact Ent.of_eq rfl | refine Ent.cells ?_)
  · (try simp only [Bool.and_eq_true, Bool.or_eq_true, Bool.and_eq_false_iff, Bool.or_eq_false_iff, decide_eq_true_eq, decide_eq_false_iff_not, Bool.not_eq_true', Bool.not_eq_false', List.length_map, ne_eq, Decidable.not_not, Int.not_lt, Int.not_le] at h31)
    have hfr : frOK f := by unfold frOK; omega
    have h := enc_t hfr
    have hnn : ∀ z ∈ [f.seq, f.ack, (f.data.length : Int)], 0 ≤ z ∧ z ≤ 9223372036854775807 := by
      intro z hz
      simp only [List.mem_cons, List.not_mem_nil, or_false] at hz
      unfold frOK at hfr
      rcases hz with rfl | rfl | rfl <;> omega
    have hlen := numsF_len _ fun z h => (hnn z h).2
    have hl3 : [f.seq, f.ack, (f.data.length : Int)].length = 3 := rfl
    unfold frOK at hfr
    refine tr_skip ?_
    refine pe_then_normal ?_
    refine tr_sub hC (.cons (t := 1) rfl .nil) (.cons (t := 1) rfl .nil) rfl ?_
    refine tr_seq ?_
    refine tr_region (fun N3 hN => ?_)
    refine lxn (op_buildRow (m' := 32) (kk := 32) (f := byP) (xs := [70]) (l := [(0, (Go.Operand.const (Go.Value.int Go.IntKind.u8 70)))]) ze5 rfl rfl (by decide) el25 sz5 byP_len (.cons rfl (.one (by (first | exact One.eq rfl | exact One.mv _ _ _ _ _ | exact One.cl _ _ _ | exact One.map _ | exact One.sl _ _ _ | exact One.row _ _ _ _ | exact One.msl _ _ _ _ | exact One.ptr _ _ | exact One.b _ | exact One.cells _))) .nil) rfl (by decide) (by first | exact hC.low _ (by decide) | rfl)) rfl ?_
    refine lx (op_fieldAddr rfl fl27_0 sz3) rfl ?_
    refine lx (op_bload_one (m := 1) rfl rfl ag3 rfl) rfl ?_
    refine lx (op_fieldAddr rfl fl27_1 sz3) rfl ?_
    refine lx (op_bload_one (m := 1) rfl rfl ag3 rfl) rfl ?_
    refine lx (op_fieldAddr rfl fl27_2 sz25) rfl ?_
    refine lx (op_bload_one (m := 1) rfl rfl ag25 rfl) rfl ?_
    first | refine lx (op_len rfl el25) rfl ?_ | refine lx (op_len_row rfl el25) rfl ?_ | refine lx (op_len_mv rfl el25) rfl ?_ | refine lx (op_len_nil rfl el25) rfl ?_
    refine lx (op_buildSlice (f := ip) (xs := [f.seq, f.ack, (f.data.length : Int)]) (l := [(0, (Go.Operand.tmp 34)), (1, (Go.Operand.tmp 36)), (2, (Go.Operand.tmp 39))]) ze3 rfl rfl (by decide) el68 sz3 ip_len (.cons rfl (.one (by (first | exact One.eq rfl | exact One.mv _ _ _ _ _ | exact One.cl _ _ _ | exact One.map _ | exact One.sl _ _ _ | exact One.row _ _ _ _ | exact One.msl _ _ _ _ | exact One.ptr _ _ | exact One.b _ | exact One.cells _))) (.cons rfl (.one (by (first | exact One.eq rfl | exact One.mv _ _ _ _ _ | exact One.cl _ _ _ | exact One.map _ | exact One.sl _ _ _ | exact One.row _ _ _ _ | exact One.msl _ _ _ _ | exact One.ptr _ _ | exact One.b _ | exact One.cells _))) (.cons rfl (.one (by (first | exact One.eq rfl | exact One.mv _ _ _ _ _ | exact One.cl _ _ _ | exact One.map _ | exact One.sl _ _ _ | exact One.row _ _ _ _ | exact One.msl _ _ _ _ | exact One.ptr _ _ | exact One.b _ | exact One.cells _))) .nil))) rfl (by decide)) rfl ?_
    first | refine lx_any rfl (op_callG2 (l := [(Go.Operand.tmp 32), (Go.Operand.tmp 40)]) (add := [(41, ((N3, 100410), tail 5 1 ((([70] : List Int) ++ numsF [f.seq, f.ack, (f.data.length : Int)]).length * 1)))]) (ks := [100410]) (φ := rowP (N3, 100410) byP 1 (([70] : List Int) ++ numsF [f.seq, f.ack, (f.data.length : Int)])) (.cons (m := 32) rfl .nil) (numbers_ok (N3, 32) [70] [f.seq, f.ack, (f.data.length : Int)] (by simp) (by simp) hnn) (.cons rfl (.cons rfl .nil)) fn32 rfl rfl rfl (.new (by first | exact hC.low _ (by decide) | rfl) .nil) rfl) (dOK_spec rfl) ?_ | refine lx_any rfl (op_callG2 (l := [(Go.Operand.tmp 32), (Go.Operand.tmp 40)]) (add := [(41, ((N3, 100410), tail 5 1 ((([70] : List Int) ++ numsF [f.seq, f.ack, (f.data.length : Int)]).length * 1)))]) (ks := [100410]) (φ := rowP (N3, 100410) byP 1 (([70] : List Int) ++ numsF [f.seq, f.ack, (f.data.length : Int)])) (.cons (m := 32) rfl .nil) (numbers_ok (N3, 32) [70] [f.seq, f.ack, (f.data.length : Int)] (by simp) (by simp) hnn) (.ent rfl (by repeat (first | exact Ents.nil | refine Ents.cons ?_ ?_ | refine Ent.tup ?_ | refine Ent.agg ?_ | exact Ent.row _ _ _ _ | exact Ent.nil _ _ | exact Ent.func _ | exact Ent.refl _ | exact Ent.of_eq rfl | refine Ent.cells ?_)) (.ent rfl (by repeat (first | exact Ents.nil | refine Ents.cons ?_ ?_ | refine Ent.tup ?_ | refine Ent.agg ?_ | exact Ent.row _ _ _ _ | exact Ent.nil _ _ | exact Ent.func _ | exact Ent.refl _ | exact Ent.of_eq rfl | refine Ent.cells ?_)) .nil)) fn32 rfl rfl rfl (.new (by first | exact hC.low _ (by decide) | rfl) .nil) rfl) (dOK_spec rfl) ?_
    refine lx (op_assign rfl) rfl ?_
    refine lx_end ⟨by kernel_rfl, ?_⟩
    refine pe_then_normal ?_
    refine tr_sub hC (.cons (t := 1) rfl (.cons (t := 4) rfl .nil)) (.cons (t := 1) rfl (.cons (t := 41) rfl .nil)) rfl ?_
    refine tr_seq ?_
    refine tr_region (fun N4 hN => ?_)
    refine lx (op_move rfl) rfl ?_
    refine lx (op_fieldAddr rfl fl27_2 sz25) rfl ?_
    refine lx (op_bload_one (m := 1) rfl rfl ag25 rfl) rfl ?_
    refine lxr (OpJ.ent (op_append (m := 41) (m' := 45) (kk := 45) rfl rfl rfl (.inr (by first | exact hC.low _ (by decide) | rfl)) el25 ze5 sz5 by5 rfl byP_len (by simp; omega) (by simp; omega)) (show Ent _ (slP byP 1 (bodyF f)) from (by rw [← body_eq]; exact Ent.row _ _ _ _))) rfl ?_
    first | refine lx (op_call (l := [(Go.Operand.tmp 45)]) (summed_ok (bodyF f) (by rw [← body_eq]; simp; omega)) (.cons rfl .nil) fn33) rfl ?_ | refine lx (op_call (l := [(Go.Operand.tmp 45)]) (summed_ok (bodyF f) (by rw [← body_eq]; simp; omega)) (.ent rfl (by repeat (first | exact Ents.nil | refine Ents.cons ?_ ?_ | refine Ent.tup ?_ | refine Ent.agg ?_ | exact Ent.row _ _ _ _ | exact Ent.nil _ _ | exact Ent.func _ | exact Ent.refl _ | exact Ent.of_eq rfl | refine Ent.cells ?_)) .nil) fn33) rfl ?_
    refine lx (op_assign rfl) rfl ?_
    refine lx (op_assign rfl) rfl ?_
    refine lx_end ⟨by kernel_rfl, ?_⟩
    refine pe_then_normal ?_
    refine tr_sub hC (.cons (t := 2) rfl (.cons (t := 3) rfl .nil)) .nil rfl ?_
    refine tr_ret ?_
    refine pe_retN (rs := [.tmp 2, .tmp 3]) rfl rfl hO rfl (.tmp rfl (.tmp rfl .nil)) ?_
    rw [h]
    repeat (first | exact Ents.nil | refine Ents.cons ?_ ?_ | refine Ent.tup ?_ | refine Ent.agg ?_ | exact Ent.row _ _ _ _ | exact Ent.nil _ _ | exact Ent.func _ | exact Ent.refl _ | exact Ent.of_eq rfl | refine Ent.cells ?_)
theorem rEncode_ok (f : RF) : FnP Try.prog 11 [aggP f.ps] (tupP [slP byP 1 (encodeF f.to).1, eqP (.int .i64 (encodeF f.to).2)]) := by
  have hbl := byL_len f.data
  have hz1 : (f.data.toList == (ByteArray.mk #[]).toList) = decide (f.data.size = 0) := by rw [str_beq]; exact decide_eq_decide.mpr (size_zero f.data)
  have e1 : f.to.seq = f.seq := rfl
  have e2 : f.to.ack = f.ack := rfl
  have e3 : f.to.data = byL f.data := rfl
  refine fn_pure' Try.func11 rfl Try.ntmps11 rfl ?_
  intro σ0 M ex Rf R hC hO
  simp only [frameOf, tokOf]
  refine tr_seq ?_
  refine tr_region (fun N0 hN => ?_)
  refine lxn (op_box (m := 1) (k := 1) rfl (.agg rfl) (by first | exact hC.low _ (by decide) | rfl)) rfl ?_
  refine lx (op_assign rfl) rfl ?_
  refine lx (op_assign rfl) rfl ?_
  refine lx_end ⟨by kernel_rfl, ?_⟩
  refine pe_then_normal ?_
  refine tr_sub hC (.cons (t := 1) rfl .nil) (.cons (t := 1) rfl .nil) rfl ?_
  refine tr_seq ?_
  refine tr_seq ?_
  refine tr_region (fun N1 hN => ?_)
  refine lx (op_fieldAddr rfl fl23_0 sz3) rfl ?_
  refine lx (op_bload_one (m := 1) rfl rfl ag3 rfl) rfl ?_
  refine lx (op_lss rfl rfl) rfl ?_
  refine lx (op_move rfl) rfl ?_
  refine lxs rfl rfl rfl guard_eq (.cons (t := 1) rfl (fun _ => Ent.refl _) .nil) (op_fieldAddr rfl fl23_0 sz3) rfl ?_
  refine lxs rfl rfl rfl guard_eq (.cons (t := 9) rfl (fun h => entW h) .nil) (op_bload_one (m := 1) rfl rfl ag3 rfl) rfl ?_
  refine lxs rfl rfl rfl guard_eq (.cons (t := 10) rfl (fun h => entW h) .nil) (op_gtr rfl rfl) rfl ?_
  refine lx (op_pick_or rfl rfl) rfl ?_
  refine lx (op_move rfl) rfl ?_
  refine lxs rfl rfl rfl guard_eq (.cons (t := 1) rfl (fun _ => Ent.refl _) .nil) (op_fieldAddr rfl fl23_1 sz3) rfl ?_
  refine lxs rfl rfl rfl guard_eq (.cons (t := 14) rfl (fun h => entW h) .nil) (op_bload_one (m := 1) rfl rfl ag3 rfl) rfl ?_
  refine lxs rfl rfl rfl guard_eq (.cons (t := 15) rfl (fun h => entW h) .nil) (op_lss rfl rfl) rfl ?_
  refine lx (op_pick_or rfl rfl) rfl ?_
  refine lx (op_move rfl) rfl ?_
  refine lxs rfl rfl rfl guard_eq (.cons (t := 1) rfl (fun _ => Ent.refl _) .nil) (op_fieldAddr rfl fl23_1 sz3) rfl ?_
  refine lxs rfl rfl rfl guard_eq (.cons (t := 19) rfl (fun h => entW h) .nil) (op_bload_one (m := 1) rfl rfl ag3 rfl) rfl ?_
  refine lxs rfl rfl rfl guard_eq (.cons (t := 20) rfl (fun h => entW h) .nil) (op_gtr rfl rfl) rfl ?_
  refine lx (op_pick_or rfl rfl) rfl ?_
  refine lx (op_move rfl) rfl ?_
  refine lxs rfl rfl rfl guard_eq (.cons (t := 1) rfl (fun _ => Ent.refl _) .nil) (op_fieldAddr rfl fl23_2 sz9) rfl ?_
  refine lxs rfl rfl rfl guard_eq (.cons (t := 24) rfl (fun h => entW h) .nil) (op_bload_one (m := 1) rfl rfl ag9 rfl) rfl ?_
  refine lxs rfl rfl rfl guard_eq (.cons (t := 25) rfl (fun h => entW h) .nil) (op_len_str rfl st9) rfl ?_
  refine lxs rfl rfl rfl guard_eq (.cons (t := 26) rfl (fun h => entW h) .nil) (op_gtr rfl rfl) rfl ?_
  refine lx (op_pick_or rfl rfl) rfl ?_
  refine lx (op_move rfl) rfl ?_
  refine lxs rfl rfl rfl guard_eq (.cons (t := 1) rfl (fun _ => Ent.refl _) .nil) (op_fieldAddr rfl fl23_0 sz3) rfl ?_
  refine lxs rfl rfl rfl guard_eq (.cons (t := 30) rfl (fun h => entW h) .nil) (op_bload_one (m := 1) rfl rfl ag3 rfl) rfl ?_
  refine lxs rfl rfl rfl guard_eq (.cons (t := 31) rfl (fun h => entW h) .nil) (op_eql rfl rfl) rfl ?_
  refine lxs rfl rfl rfl guard_eq (.cons (t := 32) rfl (fun h => entW h) .nil) (op_move rfl) rfl ?_
  refine lxs rfl rfl rfl guard_w (.cons (t := 1) rfl (fun _ => Ent.refl _) .nil) (op_fieldAddr rfl fl23_2 sz9) rfl ?_
  refine lxs rfl rfl rfl guard_w (.cons (t := 34) rfl (fun h => entW h) .nil) (op_bload_one (m := 1) rfl rfl ag9 rfl) rfl ?_
  refine lxs rfl rfl rfl guard_w (.cons (t := 35) rfl (fun h => entW h) .nil) (op_neq_str st9 rfl rfl) rfl ?_
  refine lxs rfl rfl rfl guard_eq (.cons (t := 33) rfl (fun h => entW h) (.cons (t := 36) rfl (fun h => entS h) .nil)) (op_pick_and rfl rfl) rfl ?_
  refine lx (op_pick_or rfl rfl) rfl ?_
  refine lx_end ⟨by kernel_rfl, ?_⟩
  refine pe_then_normal ?_
  refine tr_sub hC (.cons (t := 1) rfl (.cons (t := 38) rfl .nil)) (.cons (t := 1) rfl .nil) rfl ?_
  refine tr_cond rfl (fun h38 => ?_) (fun h38 => ?_)
  · rw [hz1] at h38
    (try simp only [Bool.and_eq_true, Bool.or_eq_true, Bool.and_eq_false_iff, Bool.or_eq_false_iff, decide_eq_true_eq, decide_eq_false_iff_not, Bool.not_eq_true', Bool.not_eq_false', List.length_map, ne_eq, Decidable.not_not, Int.not_lt, Int.not_le] at h38)
    have h := enc_f (f := f.to) (by unfold frOK; rw [e1, e2, e3, hbl]; omega)
    refine tr_seq ?_
    refine tr_region (fun N2 hN => ?_)
    refine lx (op_assign rfl) rfl ?_
    refine lx (op_assign rfl) rfl ?_
    refine lx_end ⟨by kernel_rfl, ?_⟩
    refine pe_then_normal ?_
    refine tr_sub hC (.cons (t := 2) rfl (.cons (t := 3) rfl .nil)) .nil rfl ?_
    refine tr_ret ?_
    refine pe_then_ret ?_
    refine pe_retN (rs := [.tmp 2, .tmp 3]) rfl rfl hO rfl (.tmp rfl (.tmp rfl .nil)) ?_
    rw [h]
    repeat (first | exact Ents.nil | refine Ents.cons ?_ ?_ | refine Ent.tup ?_ | refine Ent.agg ?_ | exact Ent.row _ _ _ _ | exact Ent.nil _ _ | exact Ent.func _ | exact Ent.refl _ | exact Ent.of_eq rfl | refine Ent.cells ?_)
  · rw [hz1] at h38
    (try simp only [Bool.and_eq_true, Bool.or_eq_true, Bool.and_eq_false_iff, Bool.or_eq_false_iff, decide_eq_true_eq, decide_eq_false_iff_not, Bool.not_eq_true', Bool.not_eq_false', List.length_map, ne_eq, Decidable.not_not, Int.not_lt, Int.not_le] at h38)
    have hfr : frOK f.to := by unfold frOK; rw [e1, e2, e3, hbl]; omega
    have h := enc_t hfr
    unfold frOK at hfr
    rw [e1, e2, e3, hbl] at hfr
    have l1 := numI_len f.seq (by omega)
    have l2 := numI_len f.ack (by omega)
    have l3 := numI_len (f.data.size : Int) (by omega)
    refine tr_skip ?_
    refine pe_then_normal ?_
    refine tr_sub hC (.cons (t := 1) rfl .nil) (.cons (t := 1) rfl .nil) rfl ?_
    refine tr_seq ?_
    refine tr_region (fun N3 hN => ?_)
    refine lxn (op_buildRow (m' := 39) (kk := 39) (f := byP) (xs := [70]) (l := [(0, (Go.Operand.const (Go.Value.int Go.IntKind.u8 70)))]) ze5 rfl rfl (by decide) el25 sz5 byP_len (.cons rfl (.one (by (first | exact One.eq rfl | exact One.mv _ _ _ _ _ | exact One.cl _ _ _ | exact One.map _ | exact One.sl _ _ _ | exact One.row _ _ _ _ | exact One.msl _ _ _ _ | exact One.ptr _ _ | exact One.b _ | exact One.cells _))) .nil) rfl (by decide) (by first | exact hC.low _ (by decide) | rfl)) rfl ?_
    refine lx (op_assign rfl) rfl ?_
    refine lx_end ⟨by kernel_rfl, ?_⟩
    refine pe_then_normal ?_
    refine tr_sub hC (.cons (t := 1) rfl (.cons (t := 4) rfl .nil)) (.cons (t := 1) rfl (.cons (t := 39) rfl .nil)) rfl ?_
    refine tr_seq ?_
    refine tr_region (fun N4 hN => ?_)
    refine lx (op_move rfl) rfl ?_
    refine lx (op_fieldAddr rfl fl23_0 sz3) rfl ?_
    refine lx (op_bload_one (m := 1) rfl rfl ag3 rfl) rfl ?_
    first | refine lx (op_call (l := [(Go.Operand.tmp 42)]) (rNumber_ok f.seq (by omega) (by omega)) (.cons rfl .nil) fn34) rfl ?_ | refine lx (op_call (l := [(Go.Operand.tmp 42)]) (rNumber_ok f.seq (by omega) (by omega)) (.ent rfl (by repeat (first | exact Ents.nil | refine Ents.cons ?_ ?_ | refine Ent.tup ?_ | refine Ent.agg ?_ | exact Ent.row _ _ _ _ | exact Ent.nil _ _ | exact Ent.func _ | exact Ent.refl _ | exact Ent.of_eq rfl | refine Ent.cells ?_)) .nil) fn34) rfl ?_
    refine lxr (op_append (m := 39) (m' := 44) (kk := 44) rfl rfl rfl (.inr (by first | exact hC.low _ (by decide) | rfl)) el25 ze5 sz5 by5 rfl byP_len (by simp; omega) (by simp; omega)) rfl ?_
    refine lx (op_assign rfl) rfl ?_
    refine lx_end ⟨by kernel_rfl, ?_⟩
    refine pe_then_normal ?_
    refine tr_sub hC (.cons (t := 1) rfl (.cons (t := 4) rfl .nil)) (.cons (t := 1) rfl (.cons (t := 44) rfl .nil)) rfl ?_
    refine tr_seq ?_
    refine tr_region (fun N5 hN => ?_)
    refine lx (op_move rfl) rfl ?_
    refine lx (op_fieldAddr rfl fl23_1 sz3) rfl ?_
    refine lx (op_bload_one (m := 1) rfl rfl ag3 rfl) rfl ?_
    first | refine lx (op_call (l := [(Go.Operand.tmp 47)]) (rNumber_ok f.ack (by omega) (by omega)) (.cons rfl .nil) fn34) rfl ?_ | refine lx (op_call (l := [(Go.Operand.tmp 47)]) (rNumber_ok f.ack (by omega) (by omega)) (.ent rfl (by repeat (first | exact Ents.nil | refine Ents.cons ?_ ?_ | refine Ent.tup ?_ | refine Ent.agg ?_ | exact Ent.row _ _ _ _ | exact Ent.nil _ _ | exact Ent.func _ | exact Ent.refl _ | exact Ent.of_eq rfl | refine Ent.cells ?_)) .nil) fn34) rfl ?_
    refine lxr (op_append (m := 44) (m' := 49) (kk := 49) rfl rfl rfl (.inr (by first | exact hC.low _ (by decide) | rfl)) el25 ze5 sz5 by5 rfl byP_len (by simp; omega) (by simp; omega)) rfl ?_
    refine lx (op_assign rfl) rfl ?_
    refine lx_end ⟨by kernel_rfl, ?_⟩
    refine pe_then_normal ?_
    refine tr_sub hC (.cons (t := 1) rfl (.cons (t := 4) rfl .nil)) (.cons (t := 1) rfl (.cons (t := 49) rfl .nil)) rfl ?_
    refine tr_seq ?_
    refine tr_region (fun N6 hN => ?_)
    refine lx (op_move rfl) rfl ?_
    refine lx (op_fieldAddr rfl fl23_2 sz9) rfl ?_
    refine lx (op_bload_one (m := 1) rfl rfl ag9 rfl) rfl ?_
    refine lx (op_len_str rfl st9) rfl ?_
    first | refine lx (op_call (l := [(Go.Operand.tmp 53)]) (rNumber_ok (f.data.size : Int) (by omega) (by omega)) (.cons rfl .nil) fn34) rfl ?_ | refine lx (op_call (l := [(Go.Operand.tmp 53)]) (rNumber_ok (f.data.size : Int) (by omega) (by omega)) (.ent rfl (by repeat (first | exact Ents.nil | refine Ents.cons ?_ ?_ | refine Ent.tup ?_ | refine Ent.agg ?_ | exact Ent.row _ _ _ _ | exact Ent.nil _ _ | exact Ent.func _ | exact Ent.refl _ | exact Ent.of_eq rfl | refine Ent.cells ?_)) .nil) fn34) rfl ?_
    refine lxr (op_append (m := 49) (m' := 55) (kk := 55) rfl rfl rfl (.inr (by first | exact hC.low _ (by decide) | rfl)) el25 ze5 sz5 by5 rfl byP_len (by simp; omega) (by simp; omega)) rfl ?_
    refine lx (op_assign rfl) rfl ?_
    refine lx_end ⟨by kernel_rfl, ?_⟩
    refine pe_then_normal ?_
    refine tr_sub hC (.cons (t := 1) rfl (.cons (t := 4) rfl .nil)) (.cons (t := 1) rfl (.cons (t := 55) rfl .nil)) rfl ?_
    refine tr_seq ?_
    refine tr_region (fun N7 hN => ?_)
    refine lx (op_move rfl) rfl ?_
    refine lx (op_fieldAddr rfl fl23_2 sz9) rfl ?_
    refine lx (op_bload_one (m := 1) rfl rfl ag9 rfl) rfl ?_
    refine lxr (OpJ.ent (op_append_str (m := 55) (m' := 59) (kk := 59) rfl rfl st9 rfl (.inr (by first | exact hC.low _ (by decide) | rfl)) el25 ze5 sz5 by5 rfl (by simp; omega) (by simp; omega)) (show Ent _ (slP byP 1 (bodyF f.to)) from (by rw [← body_eq2, e1, e2, e3, hbl]; exact Ent.row _ _ _ _))) rfl ?_
    first | refine lx (op_call (l := [(Go.Operand.tmp 59)]) (rSummed_ok (bodyF f.to) (by rw [← body_eq2, e1, e2, e3, hbl]; simp; omega)) (.cons rfl .nil) fn35) rfl ?_ | refine lx (op_call (l := [(Go.Operand.tmp 59)]) (rSummed_ok (bodyF f.to) (by rw [← body_eq2, e1, e2, e3, hbl]; simp; omega)) (.ent rfl (by repeat (first | exact Ents.nil | refine Ents.cons ?_ ?_ | refine Ent.tup ?_ | refine Ent.agg ?_ | exact Ent.row _ _ _ _ | exact Ent.nil _ _ | exact Ent.func _ | exact Ent.refl _ | exact Ent.of_eq rfl | refine Ent.cells ?_)) .nil) fn35) rfl ?_
    refine lx (op_assign rfl) rfl ?_
    refine lx (op_assign rfl) rfl ?_
    refine lx_end ⟨by kernel_rfl, ?_⟩
    refine pe_then_normal ?_
    refine tr_sub hC (.cons (t := 2) rfl (.cons (t := 3) rfl .nil)) .nil rfl ?_
    refine tr_ret ?_
    refine pe_retN (rs := [.tmp 2, .tmp 3]) rfl rfl hO rfl (.tmp rfl (.tmp rfl .nil)) ?_
    rw [h]
    repeat (first | exact Ents.nil | refine Ents.cons ?_ ?_ | refine Ent.tup ?_ | refine Ent.agg ?_ | exact Ent.row _ _ _ _ | exact Ent.nil _ _ | exact Ent.func _ | exact Ent.refl _ | exact Ent.of_eq rfl | refine Ent.cells ?_)
set_option maxHeartbeats 1000000 in
theorem Decode_ok (b : List Int) (hb : isB b) (hl : b.length ≤ 1000000) : FnP Try.prog 12 [slP byP 1 b] (tupP [aggP (decodeF b).1.ps, eqP (.int .i64 (decodeF b).2)]) := by
  have hcl := cut4_len b
  refine fn_pure' Try.func12 rfl Try.ntmps12 rfl ?_
  intro σ0 M ex Rf R hC hO
  simp only [frameOf, tokOf]
  refine tr_seq ?_
  refine tr_region (fun N0 hN => ?_)
  refine lxn (op_alloc (m := 2) (k := 2) (ps := [eqP (.int .i64 0), eqP (.int .i64 0), eqP (.slice none 0 0)]) ze27 rfl rfl (by first | exact hC.low _ (by decide) | rfl)) rfl ?_
  refine lx (op_assign rfl) rfl ?_
  refine lx_end ⟨by kernel_rfl, ?_⟩
  refine pe_then_normal ?_
  refine tr_sub hC (.cons (t := 0) rfl (.cons (t := 2) rfl .nil)) (.cons (t := 2) rfl .nil) rfl ?_
  refine tr_seq ?_
  refine tr_seq ?_
  refine tr_region (fun N1 hN => ?_)
  refine lx (op_move rfl) rfl ?_
  first | refine lx (op_len rfl el25) rfl ?_ | refine lx (op_len_row rfl el25) rfl ?_ | refine lx (op_len_mv rfl el25) rfl ?_ | refine lx (op_len_nil rfl el25) rfl ?_
  refine lx (op_lss rfl rfl) rfl ?_
  refine lx (op_move rfl) rfl ?_
  refine lxs rfl rfl rfl guard_eq (.cons (t := 0) rfl (fun _ => Ent.refl _) .nil) (op_move rfl) rfl ?_
  refine lxsc (rd := [(17, slP byP 1 b)]) (φ := cellsP [eqP (.int .u8 (b.getD 0 0))]) rfl rfl rfl guard_eq (.cons (t := 17) rfl (fun h => entW h) .nil) (fun hgd => ?_) rfl rfl ?_
  · have hlen : 8 ≤ b.length := by
      simp at hgd
      omega
    exact op_index rfl rfl el25 sz5 rfl (get0 (by omega))
  first | refine lxs rfl rfl rfl guard_eq (.cons (t := 18) rfl (fun h => entW h) .nil) (op_load_one rfl ag5 rfl) rfl ?_ | refine lxs rfl rfl rfl guard_eq (.cons (t := 18) rfl (fun h => entW h) .nil) (op_bload_one (m := 2) rfl rfl ag5 rfl) rfl ?_
  refine lxs rfl rfl rfl guard_eq (.cons (t := 19) rfl (fun h => entW h) .nil) (op_neq rfl rfl) rfl ?_
  refine lx (op_pick_or rfl rfl) rfl ?_
  refine lx_end ⟨by kernel_rfl, ?_⟩
  refine pe_then_normal ?_
  refine tr_sub hC (.cons (t := 0) rfl (.cons (t := 2) rfl (.cons (t := 21) rfl .nil))) (.cons (t := 2) rfl .nil) rfl ?_
  refine tr_cond rfl (fun h21 => ?_) (fun h21 => ?_)
  · have h := dec_short (b := b) (dec_h1 h21)
    refine tr_seq ?_
    refine tr_region (fun N2 hN => ?_)
    refine lx (op_build (qs := [_, _, _]) (parts := []) ze27 rfl rfl fs27 .nil rfl rfl) rfl ?_
    refine lxr (op_store_all (m := 2) rfl rfl rfl (.agg rfl) sz27 rfl) rfl ?_
    refine lx (op_assign rfl) rfl ?_
    refine lx_end ⟨by kernel_rfl, ?_⟩
    refine pe_then_normal ?_
    refine tr_sub hC (.cons (t := 2) rfl (.cons (t := 3) rfl .nil)) (.cons (t := 2) rfl .nil) rfl ?_
    refine tr_ret ?_
    refine pe_then_ret ?_
    refine pe_retN (rs := [.cell 2 27, .tmp 3]) rfl rfl hO rfl (.cell (m := 2) rfl rfl ag27 sz27 (.tmp rfl .nil)) ?_
    rw [h]
    repeat (first | exact Ents.nil | refine Ents.cons ?_ ?_ | refine Ent.tup ?_ | refine Ent.agg ?_ | exact Ent.row _ _ _ _ | exact Ent.nil _ _ | exact Ent.func _ | exact Ent.refl _ | exact Ent.of_eq rfl | refine Ent.cells ?_)
  · have hok := dec_h2 h21
    have hlen : 8 ≤ b.length := by omega
    refine tr_skip ?_
    refine pe_then_normal ?_
    refine tr_sub hC (.cons (t := 0) rfl (.cons (t := 2) rfl .nil)) (.cons (t := 2) rfl .nil) rfl ?_
    refine tr_seq ?_
    refine tr_region (fun N3 hN => ?_)
    refine lx (op_move rfl) rfl ?_
    refine lx (op_move rfl) rfl ?_
    first | refine lx (op_len rfl el25) rfl ?_ | refine lx (op_len_row rfl el25) rfl ?_ | refine lx (op_len_mv rfl el25) rfl ?_ | refine lx (op_len_nil rfl el25) rfl ?_
    refine lx (op_sub rfl rfl (by omega)) rfl ?_
    refine lx (OpJ.ent (op_slice_h rfl rfl el25 sz5 (by omega : (b.length : Int) - 4 = ((b.length - 4 : Nat) : Int)) (by omega)) (show Ent _ (slP byP 1 (cut4 b)) from (by exact Ent.refl _))) rfl ?_
    refine lx (op_assign rfl) rfl ?_
    refine lx_end ⟨by kernel_rfl, ?_⟩
    refine pe_then_normal ?_
    refine tr_sub hC (.cons (t := 0) rfl (.cons (t := 2) rfl (.cons (t := 4) rfl .nil))) (.cons (t := 2) rfl .nil) rfl ?_
    refine tr_seq ?_
    refine tr_seq ?_
    refine tr_region (fun N4 hN => ?_)
    refine lx (op_move rfl) rfl ?_
    first | refine lx (op_call (l := [(Go.Operand.tmp 28)]) (summed_ok (cut4 b) (by omega)) (.cons rfl .nil) fn33) rfl ?_ | refine lx (op_call (l := [(Go.Operand.tmp 28)]) (summed_ok (cut4 b) (by omega)) (.ent rfl (by repeat (first | exact Ents.nil | refine Ents.cons ?_ ?_ | refine Ent.tup ?_ | refine Ent.agg ?_ | exact Ent.row _ _ _ _ | exact Ent.nil _ _ | exact Ent.func _ | exact Ent.refl _ | exact Ent.of_eq rfl | refine Ent.cells ?_)) .nil) fn33) rfl ?_
    refine lx (op_move rfl) rfl ?_
    first | refine lx (op_call (l := [(Go.Operand.tmp 29), (Go.Operand.tmp 30)]) (bytesEqual_ok (sumF (cut4 b)) b) (.cons rfl (.cons rfl .nil)) fn36) rfl ?_ | refine lx (op_call (l := [(Go.Operand.tmp 29), (Go.Operand.tmp 30)]) (bytesEqual_ok (sumF (cut4 b)) b) (.ent rfl (by repeat (first | exact Ents.nil | refine Ents.cons ?_ ?_ | refine Ent.tup ?_ | refine Ent.agg ?_ | exact Ent.row _ _ _ _ | exact Ent.nil _ _ | exact Ent.func _ | exact Ent.refl _ | exact Ent.of_eq rfl | refine Ent.cells ?_)) (.ent rfl (by repeat (first | exact Ents.nil | refine Ents.cons ?_ ?_ | refine Ent.tup ?_ | refine Ent.agg ?_ | exact Ent.row _ _ _ _ | exact Ent.nil _ _ | exact Ent.func _ | exact Ent.refl _ | exact Ent.of_eq rfl | refine Ent.cells ?_)) .nil)) fn36) rfl ?_
    first | refine lx (op_not rfl) rfl ?_ | refine lx (op_not_b rfl) rfl ?_
    refine lx_end ⟨by kernel_rfl, ?_⟩
    refine pe_then_normal ?_
    refine tr_sub hC (.cons (t := 0) rfl (.cons (t := 2) rfl (.cons (t := 4) rfl (.cons (t := 32) rfl .nil)))) (.cons (t := 2) rfl .nil) rfl ?_
    refine tr_cond rfl (fun h32 => ?_) (fun h32 => ?_)
    · (try simp only [Bool.and_eq_true, Bool.or_eq_true, Bool.and_eq_false_iff, Bool.or_eq_false_iff, decide_eq_true_eq, decide_eq_false_iff_not, Bool.not_eq_true', Bool.not_eq_false', List.length_map, ne_eq, Decidable.not_not, Int.not_lt, Int.not_le] at h32)
      have h := dec_sum hok (fun e => h32 (congrArg strB e))
      refine tr_seq ?_
      refine tr_region (fun N5 hN => ?_)
      refine lx (op_build (qs := [_, _, _]) (parts := []) ze27 rfl rfl fs27 .nil rfl rfl) rfl ?_
      refine lxr (op_store_all (m := 2) rfl rfl rfl (.agg rfl) sz27 rfl) rfl ?_
      refine lx (op_assign rfl) rfl ?_
      refine lx_end ⟨by kernel_rfl, ?_⟩
      refine pe_then_normal ?_
      refine tr_sub hC (.cons (t := 2) rfl (.cons (t := 3) rfl .nil)) (.cons (t := 2) rfl .nil) rfl ?_
      refine tr_ret ?_
      refine pe_then_ret ?_
      refine pe_retN (rs := [.cell 2 27, .tmp 3]) rfl rfl hO rfl (.cell (m := 2) rfl rfl ag27 sz27 (.tmp rfl .nil)) ?_
      rw [h]
      repeat (first | exact Ents.nil | refine Ents.cons ?_ ?_ | refine Ent.tup ?_ | refine Ent.agg ?_ | exact Ent.row _ _ _ _ | exact Ent.nil _ _ | exact Ent.func _ | exact Ent.refl _ | exact Ent.of_eq rfl | refine Ent.cells ?_)
    · (try simp only [Bool.and_eq_true, Bool.or_eq_true, Bool.and_eq_false_iff, Bool.or_eq_false_iff, decide_eq_true_eq, decide_eq_false_iff_not, Bool.not_eq_true', Bool.not_eq_false', List.length_map, ne_eq, Decidable.not_not, Int.not_lt, Int.not_le] at h32)
      have hsum : sumF (cut4 b) = b := strB_inj (sumF_isB (isB_take hb _)) hb h32
      have hbody := dec_body hok hsum
      refine tr_skip ?_
      refine pe_then_normal ?_
      refine tr_sub hC (.cons (t := 0) rfl (.cons (t := 2) rfl (.cons (t := 4) rfl .nil))) (.cons (t := 2) rfl .nil) rfl ?_
      refine tr_seq ?_
      refine tr_region (fun N6 hN => ?_)
      refine lx (op_move rfl) rfl ?_
      refine lx (OpJ.ent (op_slice_l rfl rfl el25 sz5 (lo := 1) rfl (by omega)) (show Ent _ (slP byP 1 ((cut4 b).drop 1)) from (by exact Ent.refl _))) rfl ?_
      refine lx (op_assign rfl) rfl ?_
      refine lx_end ⟨by kernel_rfl, ?_⟩
      refine pe_then_normal ?_
      refine tr_sub hC (.cons (t := 0) rfl (.cons (t := 2) rfl (.cons (t := 5) rfl .nil))) (.cons (t := 2) rfl .nil) rfl ?_
      refine tr_seq ?_
      refine tr_region (fun N7 hN => ?_)
      refine lxn (op_alloc (m := 6) (k := 6) (ps := [eqP (.int .i64 0), eqP (.int .i64 0), eqP (.int .i64 0)]) ze82 rfl rfl (by first | exact hC.low _ (by decide) | rfl)) rfl ?_
      refine lx_end ⟨by kernel_rfl, ?_⟩
      refine pe_then_normal ?_
      refine tr_sub hC (.cons (t := 0) rfl (.cons (t := 2) rfl (.cons (t := 5) rfl (.cons (t := 6) rfl .nil)))) (.cons (t := 2) rfl (.cons (t := 6) rfl .nil)) rfl ?_
      refine tr_seq ?_
      refine tr_seq ?_
      refine tr_region (fun N8 hN => ?_)
      refine lx (op_move rfl) rfl ?_
      refine lx_end ⟨by kernel_rfl, ?_⟩
      refine pe_then_normal ?_
      refine tr_sub hC (.cons (t := 0) rfl (.cons (t := 2) rfl (.cons (t := 5) rfl (.cons (t := 6) rfl (.cons (t := 36) rfl .nil))))) (.cons (t := 2) rfl (.cons (t := 6) rfl .nil)) rfl ?_
      refine tr_block ?_
      refine tr_loopK (α := {zz : Nat × Int × Int × Int × (List Int) // zz.1 ≤ 3 ∧ zz.2.2.2.2.length ≤ b.length ∧ isB zz.2.2.2.2 ∧ decP b (3 - zz.1) (([zz.2.1, zz.2.2.1, zz.2.2.2.1] : List Int).take zz.1) zz.2.2.2.2 = decodeF b}) (⟨(0, 0, 0, 0, (cut4 b).drop 1), by dsimp only; omega, by dsimp only; rw [List.length_drop]; omega, isB_drop (isB_take hb _) _, hbody⟩) (fun zz => [(5, slP byP 1 zz.1.2.2.2.2), (36, eqP (.int .i64 (zz.1.1 : Int)))]) (fun zz => [(6, some ((N7, 6), blk 82 [eqP (.int .i64 zz.1.2.1), eqP (.int .i64 zz.1.2.2.1), eqP (.int .i64 zz.1.2.2.2.1)]))]) (fun zz => 3 - zz.1.1) hC (.cons (t := 0) rfl (.cons (t := 2) rfl (.cons (t := 6) rfl .nil))) (.cons (t := 2) rfl .nil) rfl ?_ ?_ (fun zz => ?_)
      · try dsimp only [List.cons_append, List.nil_append]
        first | refine SubF.cons rfl ?_ | (refine SubF.ent rfl ?_ ?_; · repeat (first | exact Ents.nil | refine Ents.cons ?_ ?_ | refine Ent.tup ?_ | refine Ent.agg ?_ | exact Ent.row _ _ _ _ | exact Ent.nil _ _ | exact Ent.func _ | exact Ent.refl _ | exact Ent.of_eq rfl | refine Ent.cells ?_))
        first | refine SubF.cons rfl ?_ | (refine SubF.ent rfl ?_ ?_; · repeat (first | exact Ents.nil | refine Ents.cons ?_ ?_ | refine Ent.tup ?_ | refine Ent.agg ?_ | exact Ent.row _ _ _ _ | exact Ent.nil _ _ | exact Ent.func _ | exact Ent.refl _ | exact Ent.of_eq rfl | refine Ent.cells ?_))
        exact SubF.nil
      · try dsimp only [List.cons_append, List.nil_append]
        repeat (first | exact SubL.nil | refine SubL.cons rfl ?_)
      · obtain ⟨⟨i, a0, a1, a2, rest⟩, hi, hrl, hrb, hd⟩ := zz
        try dsimp only at hi
        try dsimp only at hrl
        try dsimp only at hrb
        try dsimp only at hd
        dsimp only [List.cons_append, List.nil_append]
        rcases (by omega : i = 0 ∨ i = 1 ∨ i = 2 ∨ i = 3) with rfl | rfl | rfl | rfl
        · refine tr_seq ?_
          refine tr_region (fun N9 hN => ?_)
          refine lx (op_lss rfl rfl) rfl ?_
          refine lx_end ⟨by kernel_rfl, ?_⟩
          refine pe_then_normal ?_
          refine tr_sub hC (.cons (t := 0) rfl (.cons (t := 2) rfl (.cons (t := 5) rfl (.cons (t := 6) rfl (.cons (t := 36) rfl (.cons (t := 37) rfl .nil)))))) (.cons (t := 6) rfl (.cons (t := 2) rfl .nil)) rfl ?_
          refine tr_seq ?_
          refine tr_cond rfl (fun h37 => ?_) (fun h37 => ?_)
          · (try simp only [Bool.and_eq_true, Bool.or_eq_true, Bool.and_eq_false_iff, Bool.or_eq_false_iff, decide_eq_true_eq, decide_eq_false_iff_not, Bool.not_eq_true', Bool.not_eq_false', List.length_map, ne_eq, Decidable.not_not, Int.not_lt, Int.not_le] at h37)
            refine tr_skip ?_
            refine pe_then_normal ?_
            refine tr_sub hC (.cons (t := 0) rfl (.cons (t := 2) rfl (.cons (t := 5) rfl (.cons (t := 6) rfl (.cons (t := 36) rfl .nil))))) (.cons (t := 6) rfl (.cons (t := 2) rfl .nil)) rfl ?_
            refine tr_seq ?_
            refine tr_block ?_
            refine tr_seq ?_
            refine tr_region (fun N10 hN => ?_)
            refine lx (op_move rfl) rfl ?_
            refine lx (op_assign rfl) rfl ?_
            refine lx_end ⟨by kernel_rfl, ?_⟩
            refine pe_then_normal ?_
            refine tr_sub hC (.cons (t := 0) rfl (.cons (t := 2) rfl (.cons (t := 5) rfl (.cons (t := 6) rfl (.cons (t := 7) rfl (.cons (t := 36) rfl .nil)))))) (.cons (t := 6) rfl (.cons (t := 2) rfl .nil)) rfl ?_
            refine tr_seq ?_
            refine tr_region (fun N11 hN => ?_)
            refine lx (op_move rfl) rfl ?_
            first | refine lx (op_call (l := [(Go.Operand.tmp 40)]) (number_ok rest hrb) (.cons rfl .nil) fn37) rfl ?_ | refine lx (op_call (l := [(Go.Operand.tmp 40)]) (number_ok rest hrb) (.ent rfl (by repeat (first | exact Ents.nil | refine Ents.cons ?_ ?_ | refine Ent.tup ?_ | refine Ent.agg ?_ | exact Ent.row _ _ _ _ | exact Ent.nil _ _ | exact Ent.func _ | exact Ent.refl _ | exact Ent.of_eq rfl | refine Ent.cells ?_)) .nil) fn37) rfl ?_
            refine lx (op_move rfl) rfl ?_
            refine lx (op_extract rfl rfl) rfl ?_
            refine lx (op_extract rfl rfl) rfl ?_
            refine lx (op_assign rfl) rfl ?_
            refine lx (op_assign rfl) rfl ?_
            refine lx_end ⟨by kernel_rfl, ?_⟩
            refine pe_then_normal ?_
            refine tr_sub hC (.cons (t := 0) rfl (.cons (t := 2) rfl (.cons (t := 5) rfl (.cons (t := 6) rfl (.cons (t := 7) rfl (.cons (t := 8) rfl (.cons (t := 9) rfl (.cons (t := 36) rfl .nil)))))))) (.cons (t := 6) rfl (.cons (t := 2) rfl .nil)) rfl ?_
            refine tr_seq ?_
            refine tr_seq ?_
            refine tr_region (fun N12 hN => ?_)
            refine lx (op_move rfl) rfl ?_
            refine lx (op_eql rfl rfl) rfl ?_
            refine lx (op_move rfl) rfl ?_
            refine lxs rfl rfl rfl guard_eq (.cons (t := 8) rfl (fun _ => Ent.refl _) .nil) (op_move rfl) rfl ?_
            refine lxs rfl rfl rfl guard_eq (.cons (t := 47) rfl (fun h => entW h) .nil) (op_gtr rfl rfl) rfl ?_
            refine lx (op_pick_or rfl rfl) rfl ?_
            refine lx_end ⟨by kernel_rfl, ?_⟩
            refine pe_then_normal ?_
            refine tr_sub hC (.cons (t := 0) rfl (.cons (t := 2) rfl (.cons (t := 5) rfl (.cons (t := 6) rfl (.cons (t := 7) rfl (.cons (t := 8) rfl (.cons (t := 9) rfl (.cons (t := 36) rfl (.cons (t := 49) rfl .nil))))))))) (.cons (t := 6) rfl (.cons (t := 2) rfl .nil)) rfl ?_
            refine tr_cond rfl (fun h49 => ?_) (fun h49 => ?_)
            · (try simp only [Bool.and_eq_true, Bool.or_eq_true, Bool.and_eq_false_iff, Bool.or_eq_false_iff, decide_eq_true_eq, decide_eq_false_iff_not, Bool.not_eq_true', Bool.not_eq_false', List.length_map, ne_eq, Decidable.not_not, Int.not_lt, Int.not_le] at h49)
              have h : decodeF b = (WF0, 8) := by rw [← hd]; exact dec_bad (by omega)
              refine tr_seq ?_
              refine tr_region (fun N13 hN => ?_)
              refine lx (op_build (qs := [_, _, _]) (parts := []) ze27 rfl rfl fs27 .nil rfl rfl) rfl ?_
              refine lxr (op_store_all (m := 2) rfl rfl rfl (.agg rfl) sz27 rfl) rfl ?_
              refine lx (op_assign rfl) rfl ?_
              refine lx_end ⟨by kernel_rfl, ?_⟩
              refine pe_then_normal ?_
              refine tr_sub hC (.cons (t := 2) rfl (.cons (t := 3) rfl .nil)) (.cons (t := 2) rfl .nil) rfl ?_
              refine tr_ret ?_
              refine pe_then_ret ?_
              refine pe_block_ret ?_
              refine pe_then_ret ?_
              refine pe_then_ret ?_
              refine pe_block_ret ?_
              refine pe_then_ret ?_
              refine pe_retN (rs := [.cell 2 27, .tmp 3]) rfl rfl hO rfl (.cell (m := 2) rfl rfl ag27 sz27 (.tmp rfl .nil)) ?_
              rw [h]
              repeat (first | exact Ents.nil | refine Ents.cons ?_ ?_ | refine Ent.tup ?_ | refine Ent.agg ?_ | exact Ent.row _ _ _ _ | exact Ent.nil _ _ | exact Ent.func _ | exact Ent.refl _ | exact Ent.of_eq rfl | refine Ent.cells ?_)
            · (try simp only [Bool.and_eq_true, Bool.or_eq_true, Bool.and_eq_false_iff, Bool.or_eq_false_iff, decide_eq_true_eq, decide_eq_false_iff_not, Bool.not_eq_true', Bool.not_eq_false', List.length_map, ne_eq, Decidable.not_not, Int.not_lt, Int.not_le] at h49)
              have hrn := rdF_len rest
              refine tr_skip ?_
              refine pe_then_normal ?_
              refine tr_sub hC (.cons (t := 0) rfl (.cons (t := 2) rfl (.cons (t := 5) rfl (.cons (t := 6) rfl (.cons (t := 7) rfl (.cons (t := 8) rfl (.cons (t := 9) rfl (.cons (t := 36) rfl .nil)))))))) (.cons (t := 6) rfl (.cons (t := 2) rfl .nil)) rfl ?_
              refine tr_drawn mixed (fun N14 hN => ?_)
              refine lx (op_move rfl) rfl ?_
              refine lx (op_move rfl) rfl ?_
              refine lx (op_move rfl) rfl ?_
              refine lx (op_move rfl) rfl ?_
              refine lx (op_slice_l rfl rfl el25 sz5 (by omega : (rdF rest).2 = (((rdF rest).2.toNat : Nat) : Int)) (by omega)) rfl ?_
              refine lx (op_aindex rfl rfl ar82 sz3 rfl (by decide)) rfl ?_
              refine lxr (op_store (m := 6) (rs := [_, _, _]) rfl rfl rfl (.one (by (first | exact One.eq rfl | exact One.mv _ _ _ _ _ | exact One.cl _ _ _ | exact One.map _ | exact One.sl _ _ _ | exact One.row _ _ _ _ | exact One.msl _ _ _ _ | exact One.ptr _ _ | exact One.b _ | exact One.cells _))) sz3 rfl rfl rfl) rfl ?_
              refine lx (op_assign rfl) rfl ?_
              refine lx_end ⟨by kernel_rfl, ?_⟩
              refine pe_block_normal ?_
              refine pe_then_normal ?_
              refine tr_sub hC (.cons (t := 0) rfl (.cons (t := 2) rfl (.cons (t := 5) rfl (.cons (t := 6) rfl (.cons (t := 36) rfl .nil))))) (.cons (t := 6) rfl (.cons (t := 2) rfl .nil)) rfl ?_
              refine tr_region (fun N15 hN => ?_)
              refine lx (op_add rfl rfl (by omega)) rfl ?_
              refine lx (op_move rfl) rfl ?_
              refine lx_end ⟨by kernel_rfl, ?_⟩
              refine pe_round (⟨(1, (rdF rest).1, a1, a2, rest.drop (rdF rest).2.toNat), by dsimp only; omega, Nat.le_trans (by simp) hrl, isB_drop hrb _, by rw [dec_step (by omega)] at hd; exact hd⟩) (by dsimp only; omega) (pe_st hC ?_ ?_ rfl)
              · try dsimp only [List.cons_append, List.nil_append]
                first | refine SubF.cons rfl ?_ | (refine SubF.ent rfl ?_ ?_; · repeat (first | exact Ents.nil | refine Ents.cons ?_ ?_ | refine Ent.tup ?_ | refine Ent.agg ?_ | exact Ent.row _ _ _ _ | exact Ent.nil _ _ | exact Ent.func _ | exact Ent.refl _ | exact Ent.of_eq rfl | refine Ent.cells ?_))
                first | refine SubF.cons rfl ?_ | (refine SubF.ent rfl ?_ ?_; · repeat (first | exact Ents.nil | refine Ents.cons ?_ ?_ | refine Ent.tup ?_ | refine Ent.agg ?_ | exact Ent.row _ _ _ _ | exact Ent.nil _ _ | exact Ent.func _ | exact Ent.refl _ | exact Ent.of_eq rfl | refine Ent.cells ?_))
                first | refine SubF.cons rfl ?_ | (refine SubF.ent rfl ?_ ?_; · repeat (first | exact Ents.nil | refine Ents.cons ?_ ?_ | refine Ent.tup ?_ | refine Ent.agg ?_ | exact Ent.row _ _ _ _ | exact Ent.nil _ _ | exact Ent.func _ | exact Ent.refl _ | exact Ent.of_eq rfl | refine Ent.cells ?_))
                first | refine SubF.cons rfl ?_ | (refine SubF.ent rfl ?_ ?_; · repeat (first | exact Ents.nil | refine Ents.cons ?_ ?_ | refine Ent.tup ?_ | refine Ent.agg ?_ | exact Ent.row _ _ _ _ | exact Ent.nil _ _ | exact Ent.func _ | exact Ent.refl _ | exact Ent.of_eq rfl | refine Ent.cells ?_))
                first | refine SubF.cons rfl ?_ | (refine SubF.ent rfl ?_ ?_; · repeat (first | exact Ents.nil | refine Ents.cons ?_ ?_ | refine Ent.tup ?_ | refine Ent.agg ?_ | exact Ent.row _ _ _ _ | exact Ent.nil _ _ | exact Ent.func _ | exact Ent.refl _ | exact Ent.of_eq rfl | refine Ent.cells ?_))
                exact SubF.nil
              · try dsimp only [List.cons_append, List.nil_append]
                repeat (first | exact SubL.nil | refine SubL.cons rfl ?_)
          · (try simp only [Bool.and_eq_true, Bool.or_eq_true, Bool.and_eq_false_iff, Bool.or_eq_false_iff, decide_eq_true_eq, decide_eq_false_iff_not, Bool.not_eq_true', Bool.not_eq_false', List.length_map, ne_eq, Decidable.not_not, Int.not_lt, Int.not_le] at h37)
            omega
        · refine tr_seq ?_
          refine tr_region (fun N9 hN => ?_)
          refine lx (op_lss rfl rfl) rfl ?_
          refine lx_end ⟨by kernel_rfl, ?_⟩
          refine pe_then_normal ?_
          refine tr_sub hC (.cons (t := 0) rfl (.cons (t := 2) rfl (.cons (t := 5) rfl (.cons (t := 6) rfl (.cons (t := 36) rfl (.cons (t := 37) rfl .nil)))))) (.cons (t := 6) rfl (.cons (t := 2) rfl .nil)) rfl ?_
          refine tr_seq ?_
          refine tr_cond rfl (fun h37 => ?_) (fun h37 => ?_)
          · (try simp only [Bool.and_eq_true, Bool.or_eq_true, Bool.and_eq_false_iff, Bool.or_eq_false_iff, decide_eq_true_eq, decide_eq_false_iff_not, Bool.not_eq_true', Bool.not_eq_false', List.length_map, ne_eq, Decidable.not_not, Int.not_lt, Int.not_le] at h37)
            refine tr_skip ?_
            refine pe_then_normal ?_
            refine tr_sub hC (.cons (t := 0) rfl (.cons (t := 2) rfl (.cons (t := 5) rfl (.cons (t := 6) rfl (.cons (t := 36) rfl .nil))))) (.cons (t := 6) rfl (.cons (t := 2) rfl .nil)) rfl ?_
            refine tr_seq ?_
            refine tr_block ?_
            refine tr_seq ?_
            refine tr_region (fun N10 hN => ?_)
            refine lx (op_move rfl) rfl ?_
            refine lx (op_assign rfl) rfl ?_
            refine lx_end ⟨by kernel_rfl, ?_⟩
            refine pe_then_normal ?_
            refine tr_sub hC (.cons (t := 0) rfl (.cons (t := 2) rfl (.cons (t := 5) rfl (.cons (t := 6) rfl (.cons (t := 7) rfl (.cons (t := 36) rfl .nil)))))) (.cons (t := 6) rfl (.cons (t := 2) rfl .nil)) rfl ?_
            refine tr_seq ?_
            refine tr_region (fun N11 hN => ?_)
            refine lx (op_move rfl) rfl ?_
            first | refine lx (op_call (l := [(Go.Operand.tmp 40)]) (number_ok rest hrb) (.cons rfl .nil) fn37) rfl ?_ | refine lx (op_call (l := [(Go.Operand.tmp 40)]) (number_ok rest hrb) (.ent rfl (by repeat (first | exact Ents.nil | refine Ents.cons ?_ ?_ | refine Ent.tup ?_ | refine Ent.agg ?_ | exact Ent.row _ _ _ _ | exact Ent.nil _ _ | exact Ent.func _ | exact Ent.refl _ | exact Ent.of_eq rfl | refine Ent.cells ?_)) .nil) fn37) rfl ?_
            refine lx (op_move rfl) rfl ?_
            refine lx (op_extract rfl rfl) rfl ?_
            refine lx (op_extract rfl rfl) rfl ?_
            refine lx (op_assign rfl) rfl ?_
            refine lx (op_assign rfl) rfl ?_
            refine lx_end ⟨by kernel_rfl, ?_⟩
            refine pe_then_normal ?_
            refine tr_sub hC (.cons (t := 0) rfl (.cons (t := 2) rfl (.cons (t := 5) rfl (.cons (t := 6) rfl (.cons (t := 7) rfl (.cons (t := 8) rfl (.cons (t := 9) rfl (.cons (t := 36) rfl .nil)))))))) (.cons (t := 6) rfl (.cons (t := 2) rfl .nil)) rfl ?_
            refine tr_seq ?_
            refine tr_seq ?_
            refine tr_region (fun N12 hN => ?_)
            refine lx (op_move rfl) rfl ?_
            refine lx (op_eql rfl rfl) rfl ?_
            refine lx (op_move rfl) rfl ?_
            refine lxs rfl rfl rfl guard_eq (.cons (t := 8) rfl (fun _ => Ent.refl _) .nil) (op_move rfl) rfl ?_
            refine lxs rfl rfl rfl guard_eq (.cons (t := 47) rfl (fun h => entW h) .nil) (op_gtr rfl rfl) rfl ?_
            refine lx (op_pick_or rfl rfl) rfl ?_
            refine lx_end ⟨by kernel_rfl, ?_⟩
            refine pe_then_normal ?_
            refine tr_sub hC (.cons (t := 0) rfl (.cons (t := 2) rfl (.cons (t := 5) rfl (.cons (t := 6) rfl (.cons (t := 7) rfl (.cons (t := 8) rfl (.cons (t := 9) rfl (.cons (t := 36) rfl (.cons (t := 49) rfl .nil))))))))) (.cons (t := 6) rfl (.cons (t := 2) rfl .nil)) rfl ?_
            refine tr_cond rfl (fun h49 => ?_) (fun h49 => ?_)
            · (try simp only [Bool.and_eq_true, Bool.or_eq_true, Bool.and_eq_false_iff, Bool.or_eq_false_iff, decide_eq_true_eq, decide_eq_false_iff_not, Bool.not_eq_true', Bool.not_eq_false', List.length_map, ne_eq, Decidable.not_not, Int.not_lt, Int.not_le] at h49)
              have h : decodeF b = (WF0, 8) := by rw [← hd]; exact dec_bad (by omega)
              refine tr_seq ?_
              refine tr_region (fun N13 hN => ?_)
              refine lx (op_build (qs := [_, _, _]) (parts := []) ze27 rfl rfl fs27 .nil rfl rfl) rfl ?_
              refine lxr (op_store_all (m := 2) rfl rfl rfl (.agg rfl) sz27 rfl) rfl ?_
              refine lx (op_assign rfl) rfl ?_
              refine lx_end ⟨by kernel_rfl, ?_⟩
              refine pe_then_normal ?_
              refine tr_sub hC (.cons (t := 2) rfl (.cons (t := 3) rfl .nil)) (.cons (t := 2) rfl .nil) rfl ?_
              refine tr_ret ?_
              refine pe_then_ret ?_
              refine pe_block_ret ?_
              refine pe_then_ret ?_
              refine pe_then_ret ?_
              refine pe_block_ret ?_
              refine pe_then_ret ?_
              refine pe_retN (rs := [.cell 2 27, .tmp 3]) rfl rfl hO rfl (.cell (m := 2) rfl rfl ag27 sz27 (.tmp rfl .nil)) ?_
              rw [h]
              repeat (first | exact Ents.nil | refine Ents.cons ?_ ?_ | refine Ent.tup ?_ | refine Ent.agg ?_ | exact Ent.row _ _ _ _ | exact Ent.nil _ _ | exact Ent.func _ | exact Ent.refl _ | exact Ent.of_eq rfl | refine Ent.cells ?_)
            · (try simp only [Bool.and_eq_true, Bool.or_eq_true, Bool.and_eq_false_iff, Bool.or_eq_false_iff, decide_eq_true_eq, decide_eq_false_iff_not, Bool.not_eq_true', Bool.not_eq_false', List.length_map, ne_eq, Decidable.not_not, Int.not_lt, Int.not_le] at h49)
              have hrn := rdF_len rest
              refine tr_skip ?_
              refine pe_then_normal ?_
              refine tr_sub hC (.cons (t := 0) rfl (.cons (t := 2) rfl (.cons (t := 5) rfl (.cons (t := 6) rfl (.cons (t := 7) rfl (.cons (t := 8) rfl (.cons (t := 9) rfl (.cons (t := 36) rfl .nil)))))))) (.cons (t := 6) rfl (.cons (t := 2) rfl .nil)) rfl ?_
              refine tr_drawn mixed (fun N14 hN => ?_)
              refine lx (op_move rfl) rfl ?_
              refine lx (op_move rfl) rfl ?_
              refine lx (op_move rfl) rfl ?_
              refine lx (op_move rfl) rfl ?_
              refine lx (op_slice_l rfl rfl el25 sz5 (by omega : (rdF rest).2 = (((rdF rest).2.toNat : Nat) : Int)) (by omega)) rfl ?_
              refine lx (op_aindex rfl rfl ar82 sz3 rfl (by decide)) rfl ?_
              refine lxr (op_store (m := 6) (rs := [_, _, _]) rfl rfl rfl (.one (by (first | exact One.eq rfl | exact One.mv _ _ _ _ _ | exact One.cl _ _ _ | exact One.map _ | exact One.sl _ _ _ | exact One.row _ _ _ _ | exact One.msl _ _ _ _ | exact One.ptr _ _ | exact One.b _ | exact One.cells _))) sz3 rfl rfl rfl) rfl ?_
              refine lx (op_assign rfl) rfl ?_
              refine lx_end ⟨by kernel_rfl, ?_⟩
              refine pe_block_normal ?_
              refine pe_then_normal ?_
              refine tr_sub hC (.cons (t := 0) rfl (.cons (t := 2) rfl (.cons (t := 5) rfl (.cons (t := 6) rfl (.cons (t := 36) rfl .nil))))) (.cons (t := 6) rfl (.cons (t := 2) rfl .nil)) rfl ?_
              refine tr_region (fun N15 hN => ?_)
              refine lx (op_add rfl rfl (by omega)) rfl ?_
              refine lx (op_move rfl) rfl ?_
              refine lx_end ⟨by kernel_rfl, ?_⟩
              refine pe_round (⟨(2, a0, (rdF rest).1, a2, rest.drop (rdF rest).2.toNat), by dsimp only; omega, Nat.le_trans (by simp) hrl, isB_drop hrb _, by rw [dec_step (by omega)] at hd; exact hd⟩) (by dsimp only; omega) (pe_st hC ?_ ?_ rfl)
              · try dsimp only [List.cons_append, List.nil_append]
                first | refine SubF.cons rfl ?_ | (refine SubF.ent rfl ?_ ?_; · repeat (first | exact Ents.nil | refine Ents.cons ?_ ?_ | refine Ent.tup ?_ | refine Ent.agg ?_ | exact Ent.row _ _ _ _ | exact Ent.nil _ _ | exact Ent.func _ | exact Ent.refl _ | exact Ent.of_eq rfl | refine Ent.cells ?_))
                first | refine SubF.cons rfl ?_ | (refine SubF.ent rfl ?_ ?_; · repeat (first | exact Ents.nil | refine Ents.cons ?_ ?_ | refine Ent.tup ?_ | refine Ent.agg ?_ | exact Ent.row _ _ _ _ | exact Ent.nil _ _ | exact Ent.func _ | exact Ent.refl _ | exact Ent.of_eq rfl | refine Ent.cells ?_))
                first | refine SubF.cons rfl ?_ | (refine SubF.ent rfl ?_ ?_; · repeat (first | exact Ents.nil | refine Ents.cons ?_ ?_ | refine Ent.tup ?_ | refine Ent.agg ?_ | exact Ent.row _ _ _ _ | exact Ent.nil _ _ | exact Ent.func _ | exact Ent.refl _ | exact Ent.of_eq rfl | refine Ent.cells ?_))
                first | refine SubF.cons rfl ?_ | (refine SubF.ent rfl ?_ ?_; · repeat (first | exact Ents.nil | refine Ents.cons ?_ ?_ | refine Ent.tup ?_ | refine Ent.agg ?_ | exact Ent.row _ _ _ _ | exact Ent.nil _ _ | exact Ent.func _ | exact Ent.refl _ | exact Ent.of_eq rfl | refine Ent.cells ?_))
                first | refine SubF.cons rfl ?_ | (refine SubF.ent rfl ?_ ?_; · repeat (first | exact Ents.nil | refine Ents.cons ?_ ?_ | refine Ent.tup ?_ | refine Ent.agg ?_ | exact Ent.row _ _ _ _ | exact Ent.nil _ _ | exact Ent.func _ | exact Ent.refl _ | exact Ent.of_eq rfl | refine Ent.cells ?_))
                exact SubF.nil
              · try dsimp only [List.cons_append, List.nil_append]
                repeat (first | exact SubL.nil | refine SubL.cons rfl ?_)
          · (try simp only [Bool.and_eq_true, Bool.or_eq_true, Bool.and_eq_false_iff, Bool.or_eq_false_iff, decide_eq_true_eq, decide_eq_false_iff_not, Bool.not_eq_true', Bool.not_eq_false', List.length_map, ne_eq, Decidable.not_not, Int.not_lt, Int.not_le] at h37)
            omega
        · refine tr_seq ?_
          refine tr_region (fun N9 hN => ?_)
          refine lx (op_lss rfl rfl) rfl ?_
          refine lx_end ⟨by kernel_rfl, ?_⟩
          refine pe_then_normal ?_
          refine tr_sub hC (.cons (t := 0) rfl (.cons (t := 2) rfl (.cons (t := 5) rfl (.cons (t := 6) rfl (.cons (t := 36) rfl (.cons (t := 37) rfl .nil)))))) (.cons (t := 6) rfl (.cons (t := 2) rfl .nil)) rfl ?_
          refine tr_seq ?_
          refine tr_cond rfl (fun h37 => ?_) (fun h37 => ?_)
          · (try simp only [Bool.and_eq_true, Bool.or_eq_true, Bool.and_eq_false_iff, Bool.or_eq_false_iff, decide_eq_true_eq, decide_eq_false_iff_not, Bool.not_eq_true', Bool.not_eq_false', List.length_map, ne_eq, Decidable.not_not, Int.not_lt, Int.not_le] at h37)
            refine tr_skip ?_
            refine pe_then_normal ?_
            refine tr_sub hC (.cons (t := 0) rfl (.cons (t := 2) rfl (.cons (t := 5) rfl (.cons (t := 6) rfl (.cons (t := 36) rfl .nil))))) (.cons (t := 6) rfl (.cons (t := 2) rfl .nil)) rfl ?_
            refine tr_seq ?_
            refine tr_block ?_
            refine tr_seq ?_
            refine tr_region (fun N10 hN => ?_)
            refine lx (op_move rfl) rfl ?_
            refine lx (op_assign rfl) rfl ?_
            refine lx_end ⟨by kernel_rfl, ?_⟩
            refine pe_then_normal ?_
            refine tr_sub hC (.cons (t := 0) rfl (.cons (t := 2) rfl (.cons (t := 5) rfl (.cons (t := 6) rfl (.cons (t := 7) rfl (.cons (t := 36) rfl .nil)))))) (.cons (t := 6) rfl (.cons (t := 2) rfl .nil)) rfl ?_
            refine tr_seq ?_
            refine tr_region (fun N11 hN => ?_)
            refine lx (op_move rfl) rfl ?_
            first | refine lx (op_call (l := [(Go.Operand.tmp 40)]) (number_ok rest hrb) (.cons rfl .nil) fn37) rfl ?_ | refine lx (op_call (l := [(Go.Operand.tmp 40)]) (number_ok rest hrb) (.ent rfl (by repeat (first | exact Ents.nil | refine Ents.cons ?_ ?_ | refine Ent.tup ?_ | refine Ent.agg ?_ | exact Ent.row _ _ _ _ | exact Ent.nil _ _ | exact Ent.func _ | exact Ent.refl _ | exact Ent.of_eq rfl | refine Ent.cells ?_)) .nil) fn37) rfl ?_
            refine lx (op_move rfl) rfl ?_
            refine lx (op_extract rfl rfl) rfl ?_
            refine lx (op_extract rfl rfl) rfl ?_
            refine lx (op_assign rfl) rfl ?_
            refine lx (op_assign rfl) rfl ?_
            refine lx_end ⟨by kernel_rfl, ?_⟩
            refine pe_then_normal ?_
            refine tr_sub hC (.cons (t := 0) rfl (.cons (t := 2) rfl (.cons (t := 5) rfl (.cons (t := 6) rfl (.cons (t := 7) rfl (.cons (t := 8) rfl (.cons (t := 9) rfl (.cons (t := 36) rfl .nil)))))))) (.cons (t := 6) rfl (.cons (t := 2) rfl .nil)) rfl ?_
            refine tr_seq ?_
            refine tr_seq ?_
            refine tr_region (fun N12 hN => ?_)
            refine lx (op_move rfl) rfl ?_
            refine lx (op_eql rfl rfl) rfl ?_
            refine lx (op_move rfl) rfl ?_
            refine lxs rfl rfl rfl guard_eq (.cons (t := 8) rfl (fun _ => Ent.refl _) .nil) (op_move rfl) rfl ?_
            refine lxs rfl rfl rfl guard_eq (.cons (t := 47) rfl (fun h => entW h) .nil) (op_gtr rfl rfl) rfl ?_
            refine lx (op_pick_or rfl rfl) rfl ?_
            refine lx_end ⟨by kernel_rfl, ?_⟩
            refine pe_then_normal ?_
            refine tr_sub hC (.cons (t := 0) rfl (.cons (t := 2) rfl (.cons (t := 5) rfl (.cons (t := 6) rfl (.cons (t := 7) rfl (.cons (t := 8) rfl (.cons (t := 9) rfl (.cons (t := 36) rfl (.cons (t := 49) rfl .nil))))))))) (.cons (t := 6) rfl (.cons (t := 2) rfl .nil)) rfl ?_
            refine tr_cond rfl (fun h49 => ?_) (fun h49 => ?_)
            · (try simp only [Bool.and_eq_true, Bool.or_eq_true, Bool.and_eq_false_iff, Bool.or_eq_false_iff, decide_eq_true_eq, decide_eq_false_iff_not, Bool.not_eq_true', Bool.not_eq_false', List.length_map, ne_eq, Decidable.not_not, Int.not_lt, Int.not_le] at h49)
              have h : decodeF b = (WF0, 8) := by rw [← hd]; exact dec_bad (by omega)
              refine tr_seq ?_
              refine tr_region (fun N13 hN => ?_)
              refine lx (op_build (qs := [_, _, _]) (parts := []) ze27 rfl rfl fs27 .nil rfl rfl) rfl ?_
              refine lxr (op_store_all (m := 2) rfl rfl rfl (.agg rfl) sz27 rfl) rfl ?_
              refine lx (op_assign rfl) rfl ?_
              refine lx_end ⟨by kernel_rfl, ?_⟩
              refine pe_then_normal ?_
              refine tr_sub hC (.cons (t := 2) rfl (.cons (t := 3) rfl .nil)) (.cons (t := 2) rfl .nil) rfl ?_
              refine tr_ret ?_
              refine pe_then_ret ?_
              refine pe_block_ret ?_
              refine pe_then_ret ?_
              refine pe_then_ret ?_
              refine pe_block_ret ?_
              refine pe_then_ret ?_
              refine pe_retN (rs := [.cell 2 27, .tmp 3]) rfl rfl hO rfl (.cell (m := 2) rfl rfl ag27 sz27 (.tmp rfl .nil)) ?_
              rw [h]
              repeat (first | exact Ents.nil | refine Ents.cons ?_ ?_ | refine Ent.tup ?_ | refine Ent.agg ?_ | exact Ent.row _ _ _ _ | exact Ent.nil _ _ | exact Ent.func _ | exact Ent.refl _ | exact Ent.of_eq rfl | refine Ent.cells ?_)
            · (try simp only [Bool.and_eq_true, Bool.or_eq_true, Bool.and_eq_false_iff, Bool.or_eq_false_iff, decide_eq_true_eq, decide_eq_false_iff_not, Bool.not_eq_true', Bool.not_eq_false', List.length_map, ne_eq, Decidable.not_not, Int.not_lt, Int.not_le] at h49)
              have hrn := rdF_len rest
              refine tr_skip ?_
              refine pe_then_normal ?_
              refine tr_sub hC (.cons (t := 0) rfl (.cons (t := 2) rfl (.cons (t := 5) rfl (.cons (t := 6) rfl (.cons (t := 7) rfl (.cons (t := 8) rfl (.cons (t := 9) rfl (.cons (t := 36) rfl .nil)))))))) (.cons (t := 6) rfl (.cons (t := 2) rfl .nil)) rfl ?_
              refine tr_drawn mixed (fun N14 hN => ?_)
              refine lx (op_move rfl) rfl ?_
              refine lx (op_move rfl) rfl ?_
              refine lx (op_move rfl) rfl ?_
              refine lx (op_move rfl) rfl ?_
              refine lx (op_slice_l rfl rfl el25 sz5 (by omega : (rdF rest).2 = (((rdF rest).2.toNat : Nat) : Int)) (by omega)) rfl ?_
              refine lx (op_aindex rfl rfl ar82 sz3 rfl (by decide)) rfl ?_
              refine lxr (op_store (m := 6) (rs := [_, _, _]) rfl rfl rfl (.one (by (first | exact One.eq rfl | exact One.mv _ _ _ _ _ | exact One.cl _ _ _ | exact One.map _ | exact One.sl _ _ _ | exact One.row _ _ _ _ | exact One.msl _ _ _ _ | exact One.ptr _ _ | exact One.b _ | exact One.cells _))) sz3 rfl rfl rfl) rfl ?_
              refine lx (op_assign rfl) rfl ?_
              refine lx_end ⟨by kernel_rfl, ?_⟩
              refine pe_block_normal ?_
              refine pe_then_normal ?_
              refine tr_sub hC (.cons (t := 0) rfl (.cons (t := 2) rfl (.cons (t := 5) rfl (.cons (t := 6) rfl (.cons (t := 36) rfl .nil))))) (.cons (t := 6) rfl (.cons (t := 2) rfl .nil)) rfl ?_
              refine tr_region (fun N15 hN => ?_)
              refine lx (op_add rfl rfl (by omega)) rfl ?_
              refine lx (op_move rfl) rfl ?_
              refine lx_end ⟨by kernel_rfl, ?_⟩
              refine pe_round (⟨(3, a0, a1, (rdF rest).1, rest.drop (rdF rest).2.toNat), by dsimp only; omega, Nat.le_trans (by simp) hrl, isB_drop hrb _, by rw [dec_step (by omega)] at hd; exact hd⟩) (by dsimp only; omega) (pe_st hC ?_ ?_ rfl)
              · try dsimp only [List.cons_append, List.nil_append]
                first | refine SubF.cons rfl ?_ | (refine SubF.ent rfl ?_ ?_; · repeat (first | exact Ents.nil | refine Ents.cons ?_ ?_ | refine Ent.tup ?_ | refine Ent.agg ?_ | exact Ent.row _ _ _ _ | exact Ent.nil _ _ | exact Ent.func _ | exact Ent.refl _ | exact Ent.of_eq rfl | refine Ent.cells ?_))
                first | refine SubF.cons rfl ?_ | (refine SubF.ent rfl ?_ ?_; · repeat (first | exact Ents.nil | refine Ents.cons ?_ ?_ | refine Ent.tup ?_ | refine Ent.agg ?_ | exact Ent.row _ _ _ _ | exact Ent.nil _ _ | exact Ent.func _ | exact Ent.refl _ | exact Ent.of_eq rfl | refine Ent.cells ?_))
                first | refine SubF.cons rfl ?_ | (refine SubF.ent rfl ?_ ?_; · repeat (first | exact Ents.nil | refine Ents.cons ?_ ?_ | refine Ent.tup ?_ | refine Ent.agg ?_ | exact Ent.row _ _ _ _ | exact Ent.nil _ _ | exact Ent.func _ | exact Ent.refl _ | exact Ent.of_eq rfl | refine Ent.cells ?_))
                first | refine SubF.cons rfl ?_ | (refine SubF.ent rfl ?_ ?_; · repeat (first | exact Ents.nil | refine Ents.cons ?_ ?_ | refine Ent.tup ?_ | refine Ent.agg ?_ | exact Ent.row _ _ _ _ | exact Ent.nil _ _ | exact Ent.func _ | exact Ent.refl _ | exact Ent.of_eq rfl | refine Ent.cells ?_))
                first | refine SubF.cons rfl ?_ | (refine SubF.ent rfl ?_ ?_; · repeat (first | exact Ents.nil | refine Ents.cons ?_ ?_ | refine Ent.tup ?_ | refine Ent.agg ?_ | exact Ent.row _ _ _ _ | exact Ent.nil _ _ | exact Ent.func _ | exact Ent.refl _ | exact Ent.of_eq rfl | refine Ent.cells ?_))
                exact SubF.nil
              · try dsimp only [List.cons_append, List.nil_append]
                repeat (first | exact SubL.nil | refine SubL.cons rfl ?_)
          · (try simp only [Bool.and_eq_true, Bool.or_eq_true, Bool.and_eq_false_iff, Bool.or_eq_false_iff, decide_eq_true_eq, decide_eq_false_iff_not, Bool.not_eq_true', Bool.not_eq_false', List.length_map, ne_eq, Decidable.not_not, Int.not_lt, Int.not_le] at h37)
            omega
        · refine tr_seq ?_
          refine tr_region (fun N9 hN => ?_)
          refine lx (op_lss rfl rfl) rfl ?_
          refine lx_end ⟨by kernel_rfl, ?_⟩
          refine pe_then_normal ?_
          refine tr_sub hC (.cons (t := 0) rfl (.cons (t := 2) rfl (.cons (t := 5) rfl (.cons (t := 6) rfl (.cons (t := 36) rfl (.cons (t := 37) rfl .nil)))))) (.cons (t := 6) rfl (.cons (t := 2) rfl .nil)) rfl ?_
          refine tr_seq ?_
          refine tr_cond rfl (fun h37 => ?_) (fun h37 => ?_)
          · (try simp only [Bool.and_eq_true, Bool.or_eq_true, Bool.and_eq_false_iff, Bool.or_eq_false_iff, decide_eq_true_eq, decide_eq_false_iff_not, Bool.not_eq_true', Bool.not_eq_false', List.length_map, ne_eq, Decidable.not_not, Int.not_lt, Int.not_le] at h37)
            omega
          · (try simp only [Bool.and_eq_true, Bool.or_eq_true, Bool.and_eq_false_iff, Bool.or_eq_false_iff, decide_eq_true_eq, decide_eq_false_iff_not, Bool.not_eq_true', Bool.not_eq_false', List.length_map, ne_eq, Decidable.not_not, Int.not_lt, Int.not_le] at h37)
            refine tr_exit ?_
            refine pe_then_exit ?_
            refine pe_then_exit ?_
            refine pe_block_eq ?_
            refine pe_then_normal ?_
            refine tr_sub hC (.cons (t := 0) rfl (.cons (t := 2) rfl (.cons (t := 5) rfl (.cons (t := 6) rfl .nil)))) (.cons (t := 6) rfl (.cons (t := 2) rfl .nil)) rfl ?_
            refine tr_seq ?_
            refine tr_drawn mixed (fun N16 hN => ?_)
            refine lx (op_aindex rfl rfl ar82 sz3 rfl (by decide)) rfl ?_
            refine lx (op_bload_one (m := 6) rfl rfl ag3 rfl) rfl ?_
            refine lx (op_aindex rfl rfl ar82 sz3 rfl (by decide)) rfl ?_
            refine lx (op_bload_one (m := 6) rfl rfl ag3 rfl) rfl ?_
            refine lx (op_move rfl) rfl ?_
            first | refine lx (op_call (l := [(Go.Operand.tmp 62)]) (clone_ok rest (by omega)) (.cons rfl .nil) fn38) rfl ?_ | refine lx (op_call (l := [(Go.Operand.tmp 62)]) (clone_ok rest (by omega)) (.ent rfl (by repeat (first | exact Ents.nil | refine Ents.cons ?_ ?_ | refine Ent.tup ?_ | refine Ent.agg ?_ | exact Ent.row _ _ _ _ | exact Ent.nil _ _ | exact Ent.func _ | exact Ent.refl _ | exact Ent.of_eq rfl | refine Ent.cells ?_)) .nil) fn38) rfl ?_
            refine lx (op_build (qs := [_, _, _]) (parts := [(0, (Go.Operand.tmp 59)), (1, (Go.Operand.tmp 61)), (2, (Go.Operand.tmp 63))]) ze27 rfl rfl fs27 (.cons rfl (.one (by (first | exact One.eq rfl | exact One.mv _ _ _ _ _ | exact One.cl _ _ _ | exact One.map _ | exact One.sl _ _ _ | exact One.row _ _ _ _ | exact One.msl _ _ _ _ | exact One.ptr _ _ | exact One.b _ | exact One.cells _))) fl27_0 sz3 rfl (.cons rfl (.one (by (first | exact One.eq rfl | exact One.mv _ _ _ _ _ | exact One.cl _ _ _ | exact One.map _ | exact One.sl _ _ _ | exact One.row _ _ _ _ | exact One.msl _ _ _ _ | exact One.ptr _ _ | exact One.b _ | exact One.cells _))) fl27_1 sz3 rfl (.cons rfl (.one (by (first | exact One.eq rfl | exact One.mv _ _ _ _ _ | exact One.cl _ _ _ | exact One.map _ | exact One.sl _ _ _ | exact One.row _ _ _ _ | exact One.msl _ _ _ _ | exact One.ptr _ _ | exact One.b _ | exact One.cells _))) fl27_2 sz25 rfl .nil))) rfl rfl) rfl ?_
            refine lxn (op_alloc (m := 10) (k := 10) (ps := [eqP (.int .i64 0), eqP (.int .i64 0), eqP (.slice none 0 0)]) ze27 rfl rfl (by first | exact hC.low _ (by decide) | rfl)) rfl ?_
            refine lxr (op_store_all (m := 10) rfl rfl rfl (.agg rfl) sz27 rfl) rfl ?_
            refine lx_end ⟨by kernel_rfl, ?_⟩
            refine pe_then_normal ?_
            refine tr_sub hC (.cons (t := 0) rfl (.cons (t := 2) rfl (.cons (t := 10) rfl .nil))) (.cons (t := 2) rfl (.cons (t := 10) rfl .nil)) rfl ?_
            refine tr_seq ?_
            refine tr_seq ?_
            refine tr_region (fun N17 hN => ?_)
            refine lx (op_bload (m := 10) rfl rfl ag27 sz27) rfl ?_
            first | refine lx (op_call (l := [(Go.Operand.tmp 66)]) (Encode_ok ⟨a0, a1, rest⟩) (.cons rfl .nil) fn10) rfl ?_ | refine lx (op_call (l := [(Go.Operand.tmp 66)]) (Encode_ok ⟨a0, a1, rest⟩) (.ent rfl (by repeat (first | exact Ents.nil | refine Ents.cons ?_ ?_ | refine Ent.tup ?_ | refine Ent.agg ?_ | exact Ent.row _ _ _ _ | exact Ent.nil _ _ | exact Ent.func _ | exact Ent.refl _ | exact Ent.of_eq rfl | refine Ent.cells ?_)) .nil) fn10) rfl ?_
            refine lx (op_move rfl) rfl ?_
            refine lx (op_extract rfl rfl) rfl ?_
            refine lx (op_extract rfl rfl) rfl ?_
            refine lx (op_assign rfl) rfl ?_
            refine lx (op_assign rfl) rfl ?_
            refine lx_end ⟨by kernel_rfl, ?_⟩
            refine pe_then_normal ?_
            refine tr_sub hC (.cons (t := 0) rfl (.cons (t := 2) rfl (.cons (t := 10) rfl (.cons (t := 11) rfl (.cons (t := 12) rfl .nil))))) (.cons (t := 2) rfl (.cons (t := 10) rfl .nil)) rfl ?_
            refine tr_seq ?_
            refine tr_region (fun N18 hN => ?_)
            refine lx (op_move rfl) rfl ?_
            refine lx (op_neq rfl rfl) rfl ?_
            refine lx (op_move rfl) rfl ?_
            refine lxs rfl rfl rfl guard_eq (.cons (t := 11) rfl (fun _ => Ent.refl _) .nil) (op_move rfl) rfl ?_
            refine lxs rfl rfl rfl guard_eq (.cons (t := 0) rfl (fun _ => Ent.refl _) .nil) (op_move rfl) rfl ?_
            first | refine lxs rfl rfl rfl guard_eq (.cons (t := 73) rfl (fun h => entW h) (.cons (t := 74) rfl (fun h => entW h) .nil)) (op_call (l := [(Go.Operand.tmp 73), (Go.Operand.tmp 74)]) (bytesEq_ok (encodeF ⟨a0, a1, rest⟩).1 b (by have := enc_len2 (f := ⟨a0, a1, rest⟩); omega)) (.cons rfl (.cons rfl .nil)) fn39) rfl ?_ | refine lxs rfl rfl rfl guard_eq (.cons (t := 73) rfl (fun h => entW h) (.cons (t := 74) rfl (fun h => entW h) .nil)) (op_call (l := [(Go.Operand.tmp 73), (Go.Operand.tmp 74)]) (bytesEq_ok (encodeF ⟨a0, a1, rest⟩).1 b (by have := enc_len2 (f := ⟨a0, a1, rest⟩); omega)) (.ent rfl (by repeat (first | exact Ents.nil | refine Ents.cons ?_ ?_ | refine Ent.tup ?_ | refine Ent.agg ?_ | exact Ent.row _ _ _ _ | exact Ent.nil _ _ | exact Ent.func _ | exact Ent.refl _ | exact Ent.of_eq rfl | refine Ent.cells ?_)) (.ent rfl (by repeat (first | exact Ents.nil | refine Ents.cons ?_ ?_ | refine Ent.tup ?_ | refine Ent.agg ?_ | exact Ent.row _ _ _ _ | exact Ent.nil _ _ | exact Ent.func _ | exact Ent.refl _ | exact Ent.of_eq rfl | refine Ent.cells ?_)) .nil)) fn39) rfl ?_
            first | refine lxs rfl rfl rfl guard_eq (.cons (t := 75) rfl (fun h => entW h) .nil) (op_not rfl) rfl ?_ | refine lxs rfl rfl rfl guard_eq (.cons (t := 75) rfl (fun h => entW h) .nil) (op_not_b rfl) rfl ?_
            refine lx (op_pick_or rfl rfl) rfl ?_
            refine lx_end ⟨by kernel_rfl, ?_⟩
            refine pe_then_normal ?_
            refine tr_sub hC (.cons (t := 2) rfl (.cons (t := 10) rfl (.cons (t := 77) rfl .nil))) (.cons (t := 2) rfl (.cons (t := 10) rfl .nil)) rfl ?_
            refine tr_cond rfl (fun h77 => ?_) (fun h77 => ?_)
            · have h : decodeF b = (WF0, 8) := by rw [← hd]; exact dec_end_bad h77
              refine tr_seq ?_
              refine tr_region (fun N19 hN => ?_)
              refine lx (op_build (qs := [_, _, _]) (parts := []) ze27 rfl rfl fs27 .nil rfl rfl) rfl ?_
              refine lxr (op_store_all (m := 2) rfl rfl rfl (.agg rfl) sz27 rfl) rfl ?_
              refine lx (op_assign rfl) rfl ?_
              refine lx_end ⟨by kernel_rfl, ?_⟩
              refine pe_then_normal ?_
              refine tr_sub hC (.cons (t := 2) rfl (.cons (t := 3) rfl .nil)) (.cons (t := 2) rfl .nil) rfl ?_
              refine tr_ret ?_
              refine pe_then_ret ?_
              refine pe_retN (rs := [.cell 2 27, .tmp 3]) rfl rfl hO rfl (.cell (m := 2) rfl rfl ag27 sz27 (.tmp rfl .nil)) ?_
              rw [h]
              repeat (first | exact Ents.nil | refine Ents.cons ?_ ?_ | refine Ent.tup ?_ | refine Ent.agg ?_ | exact Ent.row _ _ _ _ | exact Ent.nil _ _ | exact Ent.func _ | exact Ent.refl _ | exact Ent.of_eq rfl | refine Ent.cells ?_)
            · have h : decodeF b = (⟨a0, a1, rest⟩, 0) := by rw [← hd]; exact dec_end_ok h77
              refine tr_skip ?_
              refine pe_then_normal ?_
              refine tr_sub hC (.cons (t := 2) rfl (.cons (t := 10) rfl .nil)) (.cons (t := 2) rfl (.cons (t := 10) rfl .nil)) rfl ?_
              refine tr_seq ?_
              refine tr_region (fun N20 hN => ?_)
              refine lx (op_bload (m := 10) rfl rfl ag27 sz27) rfl ?_
              refine lxr (op_store_all (m := 2) rfl rfl rfl (.agg rfl) sz27 rfl) rfl ?_
              refine lx (op_assign rfl) rfl ?_
              refine lx_end ⟨by kernel_rfl, ?_⟩
              refine pe_then_normal ?_
              refine tr_sub hC (.cons (t := 2) rfl (.cons (t := 3) rfl .nil)) (.cons (t := 2) rfl .nil) rfl ?_
              refine tr_ret ?_
              refine pe_retN (rs := [.cell 2 27, .tmp 3]) rfl rfl hO rfl (.cell (m := 2) rfl rfl ag27 sz27 (.tmp rfl .nil)) ?_
              rw [h]
              repeat (first | exact Ents.nil | refine Ents.cons ?_ ?_ | refine Ent.tup ?_ | refine Ent.agg ?_ | exact Ent.row _ _ _ _ | exact Ent.nil _ _ | exact Ent.func _ | exact Ent.refl _ | exact Ent.of_eq rfl | refine Ent.cells ?_)
end Go.Proofs.Ytgdhogmghffbaaa


namespace Go.AL
open Go.RowKit
section
variable {P : Program} {n N : Nat} {F : Fr} {R : Toks} {d : Option Nat} {T : TypeId} {pos : String} {after : Array Edge} {α : Type} {f : α → List Pred} {k bytes : Nat} {t e : TypeId}
end
end Go.AL


namespace Go.AL
open Go.RowKit
section
variable {P : Program} {n N : Nat} {F : Fr} {R : Toks} {d : Option Nat} {T : TypeId} {pos : String} {after : Array Edge} {α : Type} {f : α → List Pred} {k bytes : Nat} {t e : TypeId}
theorem op_makeRow0 {lx cx : Operand} {c : Nat} {ci : Int} {lk ck : IntKind} {m' kk : Nat} {z : Value} (hl : opd F lx = some (eqP (.int lk 0))) (hc : opd F cx = some (eqP (.int ck ci))) (hci : ci = (c : Int)) (hm' : R m' = none)
    (ht : elemB P t = some e) (hz : zeroB P e = some (some z)) (hs : sizeB P e = some k) (hby : bytesB P e = some bytes) (hzk : Nat.beq z.cells.size k = true) (hk : ∀ z, (f z).length = k)
    (hc1 : bytes * c ≤ 281474976710656) (hc2 : c ≤ maxLen) :
    OpJ P n N F R ⟨d, .makeSlice t lx cx, T, pos, after, none⟩ ⟨rdo lx (eqP (.int lk 0)) ++ rdo cx (eqP (.int ck ci)), [], [], [(m', ((N, kk), tail e k (([] : List α).length * k)))], [kk], rowP (N, kk) f k []⟩ where
  loc := by
    intro σ W R a K hm h2 h3 h4 h5 h6 h7 h8 h9 Q
    have hid := h8 kk (by simp)
    have hRm' : R m' = none := by have h := h7 (m', ((N, kk), tail e k (([] : List α).length * k))) (by simp); simpa using h
    have e1 : a.eval lx = .int lk 0 := holds_of hl fun w hw => h4 w (List.mem_append_left _ hw)
    have e2 : a.eval cx = .int ck ci := holds_of hc fun w hw => h4 w (List.mem_append_right _ hw)
    subst hci
    obtain ⟨i, hi, hiz, his, hib⟩ := info_of hz hs hby
    have hzsz : z.cells.size = k := Nat.eq_of_beq_eq_true hzk
    have h63 : ((c : Nat) : Int) ≤ 9223372036854775807 := by unfold maxLen at hc2; omega
    have hbb : (i.bytes : Int) * ((c : Nat) : Int) ≤ 281474976710656 := by
      rw [hib]
      have h : ((bytes * c : Nat) : Int) ≤ 281474976710656 := by omega
      rwa [Int.natCast_mul] at h
    have hr := run_make (P := P) W t e i z (elem_of ht) hi hiz lk ck 0 (c : Int) (by omega) (by omega) hbb h63
    rw [Int.toNat_natCast, his] at hr
    have hml : (madeCells z.cells (c * k)).toList.length = c * k := by
      simp [madeCells]
    obtain ⟨hmod, hrow⟩ := hm.rowNew (f := f) (e := e) (xs := ([] : List α)) (vals := []) (rest := (madeCells z.cells (c * k)).toList) hid hRm' hk (Vs.eqs (zs := []) rfl) (cap := c) (by rw [List.nil_append, hml]) (Nat.zero_le _) hc2 _ rfl
    refine wp_value (v := .slice (some ⟨W.heap.size, 0, none⟩) 0 c) (W' := W.alloc (.cells (madeCells z.cells (c * k)) e)) ?_ (h9 _ _ _ (le_bindC hid) (fun q _ hq => bind_ne _ _ _ _ _ (hq kk (by simp))) (by
      have e3 : ([] ++ (madeCells z.cells (c * k)).toList).toArray = madeCells z.cells (c * k) := by simp
      rw [e3] at hmod
      exact hmod.congr (updR_new ..)) hrow)
    simp only [execOp, e1, e2, Sem.run_bind, hr, Result.andThen_ok, Sem.run_pure]
    rfl
  rd := rd_app (rd_of hl) (rd_of hc)
  use := by simp
  del := by simp
  add := by simpa using hm'
end
end Go.AL
namespace Go.AL
section
variable {P : Program} {C : Cx} {F : Fr} {L : Tk} {Q : Exit → Act → World → Prop} {c : Code}
/-- of a block of the call's own less is said -/
theorem tr_prefTok {id : Id} {m κ : Nat} {B : TypeId} (ps : List Pred) {qs : List Pred} (hm : lk L m = some (some (id, blkX κ B qs))) (he : ∃ rs, qs = ps ++ rs) (h : Tr P C c F ((m, some (id, blkX κ B ps)) :: L) Q) : Tr P C c F L Q := by
  rintro a W ⟨σ, h1, h2, h3⟩
  obtain ⟨rs, rfl⟩ := he
  refine h a W ⟨σ, h1, h2, h3.size, h3.defers, h3.mod.resMono (fun n => n) (fun n m h _ _ => h) ?_, h3.fr⟩
  intro n y hy
  rw [tkf_cons] at hy
  simp only at hy
  split at hy
  · rename_i e
    subst e
    cases hy
    refine ⟨blkX κ B (ps ++ rs), by simp [tkf, hm], ?_⟩
    rintro b o ⟨cs, rest, ho, hv, hz, hn⟩
    refine ⟨cs.take ps.length, cs.drop ps.length ++ rest, by rw [← List.append_assoc, List.take_append_drop]; exact ho, ?_, fun hk => by rw [← List.append_assoc, List.take_append_drop]; exact hz hk, hn⟩
    have := hv.take' ps.length
    rwa [List.take_left] at this
  · exact ⟨y.2, hy, fun b o h => h⟩
end
end Go.AL


set_option linter.unusedVariables false
set_option linter.unusedSimpArgs false
namespace Go.Proofs.Ytgdhogmghffbaaa
open Go.AL Go.Wr Go.RowKit
theorem ag23 : aggB Try.prog 23 = some true := by kernel_rfl
theorem fn11 : fnB Try.prog 11 = true := by kernel_rfl
theorem fn41 : fnB Try.prog 41 = true := by kernel_rfl
theorem fs23 : sizesB Try.prog 23 = true := by kernel_rfl
theorem sz23 : sizeB Try.prog 23 = some 3 := by kernel_rfl
theorem ze23 : zeroB Try.prog 23 = some (some (.agg #[.int .i64 0, .int .i64 0, .string ⟨#[]⟩])) := by kernel_rfl
set_option maxHeartbeats 1000000 in
theorem rDecode_ok (b : List Int) (hb : isB b) (hl : b.length ≤ 1000000) : FnP Try.prog 13 [slP byP 1 b] (tupP [aggP (decodeF b).1.to.ps, eqP (.int .i64 (decodeF b).2)]) := by
  have hcl := cut4_len b
  have hbc : isB (cut4 b) := isB_take hb _
  have hb0 : isB ((cut4 b).drop 1) := isB_drop hbc 1
  have hb1 := rnumF_isB hb0
  have hb2 := rnumF_isB hb1
  have hb3 := rnumF_isB hb2
  refine fn_pure' Try.func13 rfl Try.ntmps13 rfl ?_
  intro σ0 M ex Rf R hC hO
  simp only [frameOf, tokOf]
  refine tr_seq ?_
  refine tr_region (fun N0 hN => ?_)
  refine lxn (op_alloc (m := 2) (k := 2) (ps := [eqP (.int .i64 0), eqP (.int .i64 0), eqP (.string ⟨#[]⟩)]) ze23 rfl rfl (by first | exact hC.low _ (by decide) | rfl)) rfl ?_
  refine lx (op_assign rfl) rfl ?_
  refine lx_end ⟨by kernel_rfl, ?_⟩
  refine pe_then_normal ?_
  refine tr_sub hC (.cons (t := 0) rfl (.cons (t := 2) rfl .nil)) (.cons (t := 2) rfl .nil) rfl ?_
  refine tr_seq ?_
  refine tr_seq ?_
  refine tr_region (fun N1 hN => ?_)
  refine lx (op_move rfl) rfl ?_
  first | refine lx (op_len rfl el25) rfl ?_ | refine lx (op_len_row rfl el25) rfl ?_ | refine lx (op_len_mv rfl el25) rfl ?_ | refine lx (op_len_nil rfl el25) rfl ?_
  refine lx (op_lss rfl rfl) rfl ?_
  refine lx (op_move rfl) rfl ?_
  refine lxs rfl rfl rfl guard_eq (.cons (t := 0) rfl (fun _ => Ent.refl _) .nil) (op_move rfl) rfl ?_
  refine lxsc (rd := [(17, slP byP 1 b)]) (φ := cellsP [eqP (.int .u8 (b.getD 0 0))]) rfl rfl rfl guard_eq (.cons (t := 17) rfl (fun h => entW h) .nil) (fun hgd => ?_) rfl rfl ?_
  · have hlen : 8 ≤ b.length := by
      simp at hgd
      omega
    exact op_index rfl rfl el25 sz5 rfl (get0 (by omega))
  first | refine lxs rfl rfl rfl guard_eq (.cons (t := 18) rfl (fun h => entW h) .nil) (op_load_one rfl ag5 rfl) rfl ?_ | refine lxs rfl rfl rfl guard_eq (.cons (t := 18) rfl (fun h => entW h) .nil) (op_bload_one (m := 2) rfl rfl ag5 rfl) rfl ?_
  refine lxs rfl rfl rfl guard_eq (.cons (t := 19) rfl (fun h => entW h) .nil) (op_neq rfl rfl) rfl ?_
  refine lx (op_pick_or rfl rfl) rfl ?_
  refine lx_end ⟨by kernel_rfl, ?_⟩
  refine pe_then_normal ?_
  refine tr_sub hC (.cons (t := 0) rfl (.cons (t := 2) rfl (.cons (t := 21) rfl .nil))) (.cons (t := 2) rfl .nil) rfl ?_
  refine tr_cond rfl (fun h21 => ?_) (fun h21 => ?_)
  · have h := dec_short (b := b) (dec_h1 h21)
    refine tr_seq ?_
    refine tr_region (fun N2 hN => ?_)
    refine lx (op_build (qs := [_, _, _]) (parts := []) ze23 rfl rfl fs23 .nil rfl rfl) rfl ?_
    refine lxr (op_store_all (m := 2) rfl rfl rfl (.agg rfl) sz23 rfl) rfl ?_
    refine lx (op_assign rfl) rfl ?_
    refine lx_end ⟨by kernel_rfl, ?_⟩
    refine pe_then_normal ?_
    refine tr_sub hC (.cons (t := 2) rfl (.cons (t := 3) rfl .nil)) (.cons (t := 2) rfl .nil) rfl ?_
    refine tr_ret ?_
    refine pe_then_ret ?_
    refine pe_retN (rs := [.cell 2 23, .tmp 3]) rfl rfl hO rfl (.cell (m := 2) rfl rfl ag23 sz23 (.tmp rfl .nil)) ?_
    rw [h]
    repeat (first | exact Ents.nil | refine Ents.cons ?_ ?_ | refine Ent.tup ?_ | refine Ent.agg ?_ | exact Ent.row _ _ _ _ | exact Ent.nil _ _ | exact Ent.func _ | exact Ent.refl _ | exact Ent.of_eq rfl | refine Ent.cells ?_)
  · have hok := dec_h2 h21
    have hlen : 8 ≤ b.length := by omega
    refine tr_skip ?_
    refine pe_then_normal ?_
    refine tr_sub hC (.cons (t := 0) rfl (.cons (t := 2) rfl .nil)) (.cons (t := 2) rfl .nil) rfl ?_
    refine tr_seq ?_
    refine tr_region (fun N3 hN => ?_)
    refine lx (op_move rfl) rfl ?_
    first | refine lx (op_len rfl el25) rfl ?_ | refine lx (op_len_row rfl el25) rfl ?_ | refine lx (op_len_mv rfl el25) rfl ?_ | refine lx (op_len_nil rfl el25) rfl ?_
    refine lx (op_sub rfl rfl (by omega)) rfl ?_
    refine lx (op_assign rfl) rfl ?_
    refine lx_end ⟨by kernel_rfl, ?_⟩
    refine pe_then_normal ?_
    refine tr_sub hC (.cons (t := 0) rfl (.cons (t := 2) rfl (.cons (t := 4) rfl .nil))) (.cons (t := 2) rfl .nil) rfl ?_
    refine tr_seq ?_
    refine tr_region (fun N4 hN => ?_)
    refine lx (op_move rfl) rfl ?_
    refine lx (op_move rfl) rfl ?_
    refine lx (OpJ.ent (op_slice_h rfl rfl el25 sz5 (by omega : (b.length : Int) - 4 = ((b.length - 4 : Nat) : Int)) (by omega)) (show Ent _ (slP byP 1 (cut4 b)) from (by exact Ent.refl _))) rfl ?_
    first | refine lx (op_call (l := [(Go.Operand.tmp 28)]) (checksum_ok (cut4 b) (by omega)) (.cons rfl .nil) fn40) rfl ?_ | refine lx (op_call (l := [(Go.Operand.tmp 28)]) (checksum_ok (cut4 b) (by omega)) (.ent rfl (by repeat (first | exact Ents.nil | refine Ents.cons ?_ ?_ | refine Ent.tup ?_ | refine Ent.agg ?_ | exact Ent.row _ _ _ _ | exact Ent.nil _ _ | exact Ent.func _ | exact Ent.refl _ | exact Ent.of_eq rfl | refine Ent.cells ?_)) .nil) fn40) rfl ?_
    refine lx (op_assign rfl) rfl ?_
    refine lx_end ⟨by kernel_rfl, ?_⟩
    refine pe_then_normal ?_
    refine tr_sub hC (.cons (t := 0) rfl (.cons (t := 2) rfl (.cons (t := 4) rfl (.cons (t := 5) rfl .nil)))) (.cons (t := 2) rfl .nil) rfl ?_
    refine tr_seq ?_
    refine tr_seq ?_
    refine tr_region (fun N5 hN => ?_)
    refine lx (op_move rfl) rfl ?_
    refine lx (op_move rfl) rfl ?_
    refine lx (op_index rfl rfl el25 sz5 (by omega : (b.length : Int) - 4 = ((b.length - 4 : Nat) : Int)) (List.getElem?_eq_getElem (by omega : b.length - 4 < b.length))) rfl ?_
    first | refine lx (op_load_one rfl ag5 rfl) rfl ?_ | refine lx (op_bload_one (m := 2) rfl rfl ag5 rfl) rfl ?_
    refine lx (op_move rfl) rfl ?_
    refine lx (op_shr rfl rfl rfl) rfl ?_
    refine lx (op_convert rfl us85 ik5) rfl ?_
    refine lx (op_neq rfl rfl) rfl ?_
    refine lx (op_move rfl) rfl ?_
    refine lxs rfl rfl rfl guard_eq (.cons (t := 0) rfl (fun _ => Ent.refl _) .nil) (op_move rfl) rfl ?_
    refine lxs rfl rfl rfl guard_eq (.cons (t := 4) rfl (fun _ => Ent.refl _) .nil) (op_move rfl) rfl ?_
    refine lxs rfl rfl rfl guard_eq (.cons (t := 40) rfl (fun h => entW h) .nil) (op_add rfl rfl (by omega)) rfl ?_
    refine lxs rfl rfl rfl guard_eq (.cons (t := 39) rfl (fun h => entW h) (.cons (t := 41) rfl (fun h => entW h) .nil)) (op_index rfl rfl el25 sz5 (by omega : (b.length : Int) - 4 + 1 = ((b.length - 3 : Nat) : Int)) (List.getElem?_eq_getElem (by omega : b.length - 3 < b.length))) rfl ?_
    first | refine lxs rfl rfl rfl guard_eq (.cons (t := 42) rfl (fun h => entW h) .nil) (op_load_one rfl ag5 rfl) rfl ?_ | refine lxs rfl rfl rfl guard_eq (.cons (t := 42) rfl (fun h => entW h) .nil) (op_bload_one (m := 2) rfl rfl ag5 rfl) rfl ?_
    refine lxs rfl rfl rfl guard_eq (.cons (t := 5) rfl (fun _ => Ent.refl _) .nil) (op_move rfl) rfl ?_
    refine lxs rfl rfl rfl guard_eq (.cons (t := 44) rfl (fun h => entW h) .nil) (op_shr rfl rfl rfl) rfl ?_
    refine lxs rfl rfl rfl guard_eq (.cons (t := 45) rfl (fun h => entW h) .nil) (op_convert rfl us85 ik5) rfl ?_
    refine lxs rfl rfl rfl guard_eq (.cons (t := 43) rfl (fun h => entW h) (.cons (t := 46) rfl (fun h => entW h) .nil)) (op_neq rfl rfl) rfl ?_
    refine lx (op_pick_or rfl rfl) rfl ?_
    refine lx (op_move rfl) rfl ?_
    refine lxs rfl rfl rfl guard_eq (.cons (t := 0) rfl (fun _ => Ent.refl _) .nil) (op_move rfl) rfl ?_
    refine lxs rfl rfl rfl guard_eq (.cons (t := 4) rfl (fun _ => Ent.refl _) .nil) (op_move rfl) rfl ?_
    refine lxs rfl rfl rfl guard_eq (.cons (t := 51) rfl (fun h => entW h) .nil) (op_add rfl rfl (by omega)) rfl ?_
    refine lxs rfl rfl rfl guard_eq (.cons (t := 50) rfl (fun h => entW h) (.cons (t := 52) rfl (fun h => entW h) .nil)) (op_index rfl rfl el25 sz5 (by omega : (b.length : Int) - 4 + 2 = ((b.length - 2 : Nat) : Int)) (List.getElem?_eq_getElem (by omega : b.length - 2 < b.length))) rfl ?_
    first | refine lxs rfl rfl rfl guard_eq (.cons (t := 53) rfl (fun h => entW h) .nil) (op_load_one rfl ag5 rfl) rfl ?_ | refine lxs rfl rfl rfl guard_eq (.cons (t := 53) rfl (fun h => entW h) .nil) (op_bload_one (m := 2) rfl rfl ag5 rfl) rfl ?_
    refine lxs rfl rfl rfl guard_eq (.cons (t := 5) rfl (fun _ => Ent.refl _) .nil) (op_move rfl) rfl ?_
    refine lxs rfl rfl rfl guard_eq (.cons (t := 55) rfl (fun h => entW h) .nil) (op_shr rfl rfl rfl) rfl ?_
    refine lxs rfl rfl rfl guard_eq (.cons (t := 56) rfl (fun h => entW h) .nil) (op_convert rfl us85 ik5) rfl ?_
    refine lxs rfl rfl rfl guard_eq (.cons (t := 54) rfl (fun h => entW h) (.cons (t := 57) rfl (fun h => entW h) .nil)) (op_neq rfl rfl) rfl ?_
    refine lx (op_pick_or rfl rfl) rfl ?_
    refine lx (op_move rfl) rfl ?_
    refine lxs rfl rfl rfl guard_eq (.cons (t := 0) rfl (fun _ => Ent.refl _) .nil) (op_move rfl) rfl ?_
    refine lxs rfl rfl rfl guard_eq (.cons (t := 4) rfl (fun _ => Ent.refl _) .nil) (op_move rfl) rfl ?_
    refine lxs rfl rfl rfl guard_eq (.cons (t := 62) rfl (fun h => entW h) .nil) (op_add rfl rfl (by omega)) rfl ?_
    refine lxs rfl rfl rfl guard_eq (.cons (t := 61) rfl (fun h => entW h) (.cons (t := 63) rfl (fun h => entW h) .nil)) (op_index rfl rfl el25 sz5 (by omega : (b.length : Int) - 4 + 3 = ((b.length - 1 : Nat) : Int)) (List.getElem?_eq_getElem (by omega : b.length - 1 < b.length))) rfl ?_
    first | refine lxs rfl rfl rfl guard_eq (.cons (t := 64) rfl (fun h => entW h) .nil) (op_load_one rfl ag5 rfl) rfl ?_ | refine lxs rfl rfl rfl guard_eq (.cons (t := 64) rfl (fun h => entW h) .nil) (op_bload_one (m := 2) rfl rfl ag5 rfl) rfl ?_
    refine lxs rfl rfl rfl guard_eq (.cons (t := 5) rfl (fun _ => Ent.refl _) .nil) (op_move rfl) rfl ?_
    refine lxs rfl rfl rfl guard_eq (.cons (t := 66) rfl (fun h => entW h) .nil) (op_convert rfl us85 ik5) rfl ?_
    refine lxs rfl rfl rfl guard_eq (.cons (t := 65) rfl (fun h => entW h) (.cons (t := 67) rfl (fun h => entW h) .nil)) (op_neq rfl rfl) rfl ?_
    refine lx (op_pick_or rfl rfl) rfl ?_
    refine lx_end ⟨by kernel_rfl, ?_⟩
    refine pe_then_normal ?_
    refine tr_sub hC (.cons (t := 0) rfl (.cons (t := 2) rfl (.cons (t := 4) rfl (.cons (t := 69) rfl .nil)))) (.cons (t := 2) rfl .nil) rfl ?_
    refine tr_cond rfl (fun h69 => ?_) (fun h69 => ?_)
    · rw [sum_test hlen] at h69
      have h := dec_sum hok (of_decide_eq_true h69)
      refine tr_seq ?_
      refine tr_region (fun N6 hN => ?_)
      refine lx (op_build (qs := [_, _, _]) (parts := []) ze23 rfl rfl fs23 .nil rfl rfl) rfl ?_
      refine lxr (op_store_all (m := 2) rfl rfl rfl (.agg rfl) sz23 rfl) rfl ?_
      refine lx (op_assign rfl) rfl ?_
      refine lx_end ⟨by kernel_rfl, ?_⟩
      refine pe_then_normal ?_
      refine tr_sub hC (.cons (t := 2) rfl (.cons (t := 3) rfl .nil)) (.cons (t := 2) rfl .nil) rfl ?_
      refine tr_ret ?_
      refine pe_then_ret ?_
      refine pe_retN (rs := [.cell 2 23, .tmp 3]) rfl rfl hO rfl (.cell (m := 2) rfl rfl ag23 sz23 (.tmp rfl .nil)) ?_
      rw [h]
      repeat (first | exact Ents.nil | refine Ents.cons ?_ ?_ | refine Ent.tup ?_ | refine Ent.agg ?_ | exact Ent.row _ _ _ _ | exact Ent.nil _ _ | exact Ent.func _ | exact Ent.refl _ | exact Ent.of_eq rfl | refine Ent.cells ?_)
    · rw [sum_test hlen] at h69
      have hsum : sumF (cut4 b) = b := Decidable.not_not.1 (of_decide_eq_false h69)
      have hbody := dec_body hok hsum
      rw [← rdec_eq] at hbody
      refine tr_skip ?_
      refine pe_then_normal ?_
      refine tr_sub hC (.cons (t := 0) rfl (.cons (t := 2) rfl (.cons (t := 4) rfl .nil))) (.cons (t := 2) rfl .nil) rfl ?_
      refine tr_seq ?_
      refine tr_region (fun N7 hN => ?_)
      refine lx (op_move rfl) rfl ?_
      refine lx (op_move rfl) rfl ?_
      refine lx (OpJ.ent (op_slice_lh rfl rfl rfl el25 sz5 (lo := 1) (hi := b.length - 4) rfl (by omega) (by omega) (by omega)) (show Ent _ (slP byP 1 ((cut4 b).drop 1)) from (by exact Ent.refl _))) rfl ?_
      first | refine lx (op_call (l := [(Go.Operand.tmp 74)]) (rnumber_ok ((cut4 b).drop 1) hb0) (.cons rfl .nil) fn41) rfl ?_ | refine lx (op_call (l := [(Go.Operand.tmp 74)]) (rnumber_ok ((cut4 b).drop 1) hb0) (.ent rfl (by repeat (first | exact Ents.nil | refine Ents.cons ?_ ?_ | refine Ent.tup ?_ | refine Ent.agg ?_ | exact Ent.row _ _ _ _ | exact Ent.nil _ _ | exact Ent.func _ | exact Ent.refl _ | exact Ent.of_eq rfl | refine Ent.cells ?_)) .nil) fn41) rfl ?_
      refine lx (op_move rfl) rfl ?_
      refine lx (op_extract rfl rfl) rfl ?_
      refine lx (op_extract rfl rfl) rfl ?_
      refine lx (op_assign rfl) rfl ?_
      refine lx (op_assign rfl) rfl ?_
      refine lx_end ⟨by kernel_rfl, ?_⟩
      refine pe_then_normal ?_
      refine tr_sub hC (.cons (t := 0) rfl (.cons (t := 2) rfl (.cons (t := 6) rfl (.cons (t := 7) rfl .nil)))) (.cons (t := 2) rfl .nil) rfl ?_
      refine tr_seq ?_
      refine tr_region (fun N8 hN => ?_)
      refine lx (op_move rfl) rfl ?_
      first | refine lx (op_call (l := [(Go.Operand.tmp 79)]) (rnumber_ok ((rnumF ((cut4 b).drop 1)).2) hb1) (.cons rfl .nil) fn41) rfl ?_ | refine lx (op_call (l := [(Go.Operand.tmp 79)]) (rnumber_ok ((rnumF ((cut4 b).drop 1)).2) hb1) (.ent rfl (by repeat (first | exact Ents.nil | refine Ents.cons ?_ ?_ | refine Ent.tup ?_ | refine Ent.agg ?_ | exact Ent.row _ _ _ _ | exact Ent.nil _ _ | exact Ent.func _ | exact Ent.refl _ | exact Ent.of_eq rfl | refine Ent.cells ?_)) .nil) fn41) rfl ?_
      refine lx (op_move rfl) rfl ?_
      refine lx (op_extract rfl rfl) rfl ?_
      refine lx (op_extract rfl rfl) rfl ?_
      refine lx (op_assign rfl) rfl ?_
      refine lx (op_assign rfl) rfl ?_
      refine lx_end ⟨by kernel_rfl, ?_⟩
      refine pe_then_normal ?_
      refine tr_sub hC (.cons (t := 0) rfl (.cons (t := 2) rfl (.cons (t := 6) rfl (.cons (t := 7) rfl (.cons (t := 8) rfl .nil))))) (.cons (t := 2) rfl .nil) rfl ?_
      refine tr_seq ?_
      refine tr_region (fun N9 hN => ?_)
      refine lx (op_move rfl) rfl ?_
      first | refine lx (op_call (l := [(Go.Operand.tmp 84)]) (rnumber_ok ((rnumF ((rnumF ((cut4 b).drop 1)).2)).2) hb2) (.cons rfl .nil) fn41) rfl ?_ | refine lx (op_call (l := [(Go.Operand.tmp 84)]) (rnumber_ok ((rnumF ((rnumF ((cut4 b).drop 1)).2)).2) hb2) (.ent rfl (by repeat (first | exact Ents.nil | refine Ents.cons ?_ ?_ | refine Ent.tup ?_ | refine Ent.agg ?_ | exact Ent.row _ _ _ _ | exact Ent.nil _ _ | exact Ent.func _ | exact Ent.refl _ | exact Ent.of_eq rfl | refine Ent.cells ?_)) .nil) fn41) rfl ?_
      refine lx (op_move rfl) rfl ?_
      refine lx (op_extract rfl rfl) rfl ?_
      refine lx (op_extract rfl rfl) rfl ?_
      refine lx (op_assign rfl) rfl ?_
      refine lx (op_assign rfl) rfl ?_
      refine lx_end ⟨by kernel_rfl, ?_⟩
      refine pe_then_normal ?_
      refine tr_sub hC (.cons (t := 0) rfl (.cons (t := 2) rfl (.cons (t := 6) rfl (.cons (t := 7) rfl (.cons (t := 8) rfl (.cons (t := 9) rfl .nil)))))) (.cons (t := 2) rfl .nil) rfl ?_
      refine tr_seq ?_
      refine tr_seq ?_
      refine tr_region (fun N10 hN => ?_)
      refine lx (op_move rfl) rfl ?_
      refine lx (op_lss rfl rfl) rfl ?_
      refine lx (op_move rfl) rfl ?_
      refine lxs rfl rfl rfl guard_eq (.cons (t := 8) rfl (fun _ => Ent.refl _) .nil) (op_move rfl) rfl ?_
      refine lxs rfl rfl rfl guard_eq (.cons (t := 91) rfl (fun h => entW h) .nil) (op_lss rfl rfl) rfl ?_
      refine lx (op_pick_or rfl rfl) rfl ?_
      refine lx (op_move rfl) rfl ?_
      refine lxs rfl rfl rfl guard_eq (.cons (t := 9) rfl (fun _ => Ent.refl _) .nil) (op_move rfl) rfl ?_
      refine lxs rfl rfl rfl guard_eq (.cons (t := 95) rfl (fun h => entW h) .nil) (op_lss rfl rfl) rfl ?_
      refine lx (op_pick_or rfl rfl) rfl ?_
      refine lx (op_move rfl) rfl ?_
      refine lxs rfl rfl rfl guard_eq (.cons (t := 9) rfl (fun _ => Ent.refl _) .nil) (op_move rfl) rfl ?_
      refine lxs rfl rfl rfl guard_eq (.cons (t := 7) rfl (fun _ => Ent.refl _) .nil) (op_move rfl) rfl ?_
      first | refine lxs rfl rfl rfl guard_eq (.cons (t := 100) rfl (fun h => entW h) .nil) (op_len rfl el25) rfl ?_ | refine lxs rfl rfl rfl guard_eq (.cons (t := 100) rfl (fun h => entW h) .nil) (op_len_row rfl el25) rfl ?_ | refine lxs rfl rfl rfl guard_eq (.cons (t := 100) rfl (fun h => entW h) .nil) (op_len_mv rfl el25) rfl ?_ | refine lxs rfl rfl rfl guard_eq (.cons (t := 100) rfl (fun h => entW h) .nil) (op_len_nil rfl el25) rfl ?_
      refine lxs rfl rfl rfl guard_eq (.cons (t := 99) rfl (fun h => entW h) (.cons (t := 101) rfl (fun h => entW h) .nil)) (op_neq rfl rfl) rfl ?_
      refine lx (op_pick_or rfl rfl) rfl ?_
      refine lx_end ⟨by kernel_rfl, ?_⟩
      refine pe_then_normal ?_
      refine tr_sub hC (.cons (t := 0) rfl (.cons (t := 2) rfl (.cons (t := 6) rfl (.cons (t := 7) rfl (.cons (t := 8) rfl (.cons (t := 103) rfl .nil)))))) (.cons (t := 2) rfl .nil) rfl ?_
      refine tr_cond rfl (fun h103 => ?_) (fun h103 => ?_)
      · have h : decodeF b = (WF0, 8) := by rw [← hbody]; exact rdec_bad1 h103
        refine tr_seq ?_
        refine tr_region (fun N11 hN => ?_)
        refine lx (op_build (qs := [_, _, _]) (parts := []) ze23 rfl rfl fs23 .nil rfl rfl) rfl ?_
        refine lxr (op_store_all (m := 2) rfl rfl rfl (.agg rfl) sz23 rfl) rfl ?_
        refine lx (op_assign rfl) rfl ?_
        refine lx_end ⟨by kernel_rfl, ?_⟩
        refine pe_then_normal ?_
        refine tr_sub hC (.cons (t := 2) rfl (.cons (t := 3) rfl .nil)) (.cons (t := 2) rfl .nil) rfl ?_
        refine tr_ret ?_
        refine pe_then_ret ?_
        refine pe_retN (rs := [.cell 2 23, .tmp 3]) rfl rfl hO rfl (.cell (m := 2) rfl rfl ag23 sz23 (.tmp rfl .nil)) ?_
        rw [h]
        repeat (first | exact Ents.nil | refine Ents.cons ?_ ?_ | refine Ent.tup ?_ | refine Ent.agg ?_ | exact Ent.row _ _ _ _ | exact Ent.nil _ _ | exact Ent.func _ | exact Ent.refl _ | exact Ent.of_eq rfl | refine Ent.cells ?_)
      · rw [rdec_good1 h103] at hbody
        refine tr_skip ?_
        refine pe_then_normal ?_
        refine tr_sub hC (.cons (t := 0) rfl (.cons (t := 2) rfl (.cons (t := 6) rfl (.cons (t := 7) rfl (.cons (t := 8) rfl .nil))))) (.cons (t := 2) rfl .nil) rfl ?_
        refine tr_seq ?_
        refine tr_region (fun N12 hN => ?_)
        refine lx (op_move rfl) rfl ?_
        refine lx (op_move rfl) rfl ?_
        refine lx (op_move rfl) rfl ?_
        refine lx (op_bytes_str rfl (elem_of el25) st9 ik5) rfl ?_
        refine lx (op_build (qs := [_, _, _]) (parts := [(0, (Go.Operand.tmp 105)), (1, (Go.Operand.tmp 106)), (2, (Go.Operand.tmp 108))]) ze23 rfl rfl fs23 (.cons rfl (.one (by (first | exact One.eq rfl | exact One.mv _ _ _ _ _ | exact One.cl _ _ _ | exact One.map _ | exact One.sl _ _ _ | exact One.row _ _ _ _ | exact One.msl _ _ _ _ | exact One.ptr _ _ | exact One.b _ | exact One.cells _))) fl23_0 sz3 rfl (.cons rfl (.one (by (first | exact One.eq rfl | exact One.mv _ _ _ _ _ | exact One.cl _ _ _ | exact One.map _ | exact One.sl _ _ _ | exact One.row _ _ _ _ | exact One.msl _ _ _ _ | exact One.ptr _ _ | exact One.b _ | exact One.cells _))) fl23_1 sz3 rfl (.cons rfl (.one (by (first | exact One.eq rfl | exact One.mv _ _ _ _ _ | exact One.cl _ _ _ | exact One.map _ | exact One.sl _ _ _ | exact One.row _ _ _ _ | exact One.msl _ _ _ _ | exact One.ptr _ _ | exact One.b _ | exact One.cells _))) fl23_2 sz9 rfl .nil))) rfl rfl) rfl ?_
        refine lxn (op_alloc (m := 10) (k := 10) (ps := [eqP (.int .i64 0), eqP (.int .i64 0), eqP (.string ⟨#[]⟩)]) ze23 rfl rfl (by first | exact hC.low _ (by decide) | rfl)) rfl ?_
        refine lxr (op_store_all (m := 10) rfl rfl rfl (.agg rfl) sz23 rfl) rfl ?_
        refine lx_end ⟨by kernel_rfl, ?_⟩
        refine pe_then_normal ?_
        refine tr_sub hC (.cons (t := 0) rfl (.cons (t := 2) rfl (.cons (t := 10) rfl .nil))) (.cons (t := 2) rfl (.cons (t := 10) rfl .nil)) rfl ?_
        refine tr_seq ?_
        refine tr_region (fun N13 hN => ?_)
        refine lx (op_bload (m := 10) rfl rfl ag23 sz23) rfl ?_
        first | refine lx (OpJ.ent (op_call (l := [(Go.Operand.tmp 111)]) (rEncode_ok ⟨(rnumF ((cut4 b).drop 1)).1, (rnumF ((rnumF ((cut4 b).drop 1)).2)).1, strB (rnumF ((rnumF ((rnumF ((cut4 b).drop 1)).2)).2)).2⟩) (.cons rfl .nil) fn11) (show Ent _ (tupP [slP byP 1 (encodeF ⟨(rnumF ((cut4 b).drop 1)).1, (rnumF ((rnumF ((cut4 b).drop 1)).2)).1, (rnumF ((rnumF ((rnumF ((cut4 b).drop 1)).2)).2)).2⟩).1, eqP (.int .i64 (encodeF ⟨(rnumF ((cut4 b).drop 1)).1, (rnumF ((rnumF ((cut4 b).drop 1)).2)).1, (rnumF ((rnumF ((rnumF ((cut4 b).drop 1)).2)).2)).2⟩).2)]) from (by rw [rto hb3]; exact Ent.refl _))) rfl ?_ | refine lx (OpJ.ent (op_call (l := [(Go.Operand.tmp 111)]) (rEncode_ok ⟨(rnumF ((cut4 b).drop 1)).1, (rnumF ((rnumF ((cut4 b).drop 1)).2)).1, strB (rnumF ((rnumF ((rnumF ((cut4 b).drop 1)).2)).2)).2⟩) (.ent rfl (by repeat (first | exact Ents.nil | refine Ents.cons ?_ ?_ | refine Ent.tup ?_ | refine Ent.agg ?_ | exact Ent.row _ _ _ _ | exact Ent.nil _ _ | exact Ent.func _ | exact Ent.refl _ | exact Ent.of_eq rfl | refine Ent.cells ?_)) .nil) fn11) (show Ent _ (tupP [slP byP 1 (encodeF ⟨(rnumF ((cut4 b).drop 1)).1, (rnumF ((rnumF ((cut4 b).drop 1)).2)).1, (rnumF ((rnumF ((rnumF ((cut4 b).drop 1)).2)).2)).2⟩).1, eqP (.int .i64 (encodeF ⟨(rnumF ((cut4 b).drop 1)).1, (rnumF ((rnumF ((cut4 b).drop 1)).2)).1, (rnumF ((rnumF ((rnumF ((cut4 b).drop 1)).2)).2)).2⟩).2)]) from (by rw [rto hb3]; exact Ent.refl _))) rfl ?_
        refine lx (op_move rfl) rfl ?_
        refine lx (op_extract rfl rfl) rfl ?_
        refine lx (op_extract rfl rfl) rfl ?_
        refine lx (op_assign rfl) rfl ?_
        refine lx (op_assign rfl) rfl ?_
        refine lx_end ⟨by kernel_rfl, ?_⟩
        refine pe_then_normal ?_
        refine tr_sub hC (.cons (t := 0) rfl (.cons (t := 2) rfl (.cons (t := 10) rfl (.cons (t := 11) rfl (.cons (t := 12) rfl .nil))))) (.cons (t := 2) rfl (.cons (t := 10) rfl .nil)) rfl ?_
        refine tr_seq ?_
        refine tr_seq ?_
        refine tr_region (fun N14 hN => ?_)
        refine lx (op_move rfl) rfl ?_
        refine lx (op_neq rfl rfl) rfl ?_
        refine lx (op_move rfl) rfl ?_
        refine lxs rfl rfl rfl guard_eq (.cons (t := 11) rfl (fun _ => Ent.refl _) .nil) (op_move rfl) rfl ?_
        refine lxs rfl rfl rfl guard_eq (.cons (t := 118) rfl (fun h => entW h) .nil) (op_bytes_str rfl (elem_of el25) st9 ik5) rfl ?_
        refine lxs rfl rfl rfl guard_eq (.cons (t := 0) rfl (fun _ => Ent.refl _) .nil) (op_move rfl) rfl ?_
        refine lxs rfl rfl rfl guard_eq (.cons (t := 120) rfl (fun h => entW h) .nil) (op_bytes_str rfl (elem_of el25) st9 ik5) rfl ?_
        refine lxs rfl rfl rfl guard_eq (.cons (t := 119) rfl (fun h => entW h) (.cons (t := 121) rfl (fun h => entW h) .nil)) (op_neq_str st9 rfl rfl) rfl ?_
        refine lx (op_pick_or rfl rfl) rfl ?_
        refine lx_end ⟨by kernel_rfl, ?_⟩
        refine pe_then_normal ?_
        refine tr_sub hC (.cons (t := 2) rfl (.cons (t := 10) rfl (.cons (t := 123) rfl .nil))) (.cons (t := 2) rfl (.cons (t := 10) rfl .nil)) rfl ?_
        refine tr_cond rfl (fun h123 => ?_) (fun h123 => ?_)
        · have h : decodeF b = (WF0, 8) := by rw [← hbody]; exact if_neg (renc_bad h123)
          refine tr_seq ?_
          refine tr_region (fun N15 hN => ?_)
          refine lx (op_build (qs := [_, _, _]) (parts := []) ze23 rfl rfl fs23 .nil rfl rfl) rfl ?_
          refine lxr (op_store_all (m := 2) rfl rfl rfl (.agg rfl) sz23 rfl) rfl ?_
          refine lx (op_assign rfl) rfl ?_
          refine lx_end ⟨by kernel_rfl, ?_⟩
          refine pe_then_normal ?_
          refine tr_sub hC (.cons (t := 2) rfl (.cons (t := 3) rfl .nil)) (.cons (t := 2) rfl .nil) rfl ?_
          refine tr_ret ?_
          refine pe_then_ret ?_
          refine pe_retN (rs := [.cell 2 23, .tmp 3]) rfl rfl hO rfl (.cell (m := 2) rfl rfl ag23 sz23 (.tmp rfl .nil)) ?_
          rw [h]
          repeat (first | exact Ents.nil | refine Ents.cons ?_ ?_ | refine Ent.tup ?_ | refine Ent.agg ?_ | exact Ent.row _ _ _ _ | exact Ent.nil _ _ | exact Ent.func _ | exact Ent.refl _ | exact Ent.of_eq rfl | refine Ent.cells ?_)
        · have h : decodeF b = (⟨(rnumF ((cut4 b).drop 1)).1, (rnumF ((rnumF ((cut4 b).drop 1)).2)).1, (rnumF ((rnumF ((rnumF ((cut4 b).drop 1)).2)).2)).2⟩, 0) := by rw [← hbody]; exact if_pos (renc_ok hb3 hb h123)
          refine tr_skip ?_
          refine pe_then_normal ?_
          refine tr_sub hC (.cons (t := 2) rfl (.cons (t := 10) rfl .nil)) (.cons (t := 2) rfl (.cons (t := 10) rfl .nil)) rfl ?_
          refine tr_seq ?_
          refine tr_region (fun N16 hN => ?_)
          refine lx (op_bload (m := 10) rfl rfl ag23 sz23) rfl ?_
          refine lxr (op_store_all (m := 2) rfl rfl rfl (.agg rfl) sz23 rfl) rfl ?_
          refine lx (op_assign rfl) rfl ?_
          refine lx_end ⟨by kernel_rfl, ?_⟩
          refine pe_then_normal ?_
          refine tr_sub hC (.cons (t := 2) rfl (.cons (t := 3) rfl .nil)) (.cons (t := 2) rfl .nil) rfl ?_
          refine tr_ret ?_
          refine pe_retN (rs := [.cell 2 23, .tmp 3]) rfl rfl hO rfl (.cell (m := 2) rfl rfl ag23 sz23 (.tmp rfl .nil)) ?_
          rw [h]
          repeat (first | exact Ents.nil | refine Ents.cons ?_ ?_ | refine Ent.tup ?_ | refine Ent.agg ?_ | exact Ent.row _ _ _ _ | exact Ent.nil _ _ | exact Ent.func _ | exact Ent.refl _ | exact Ent.of_eq rfl | refine Ent.cells ?_)
end Go.Proofs.Ytgdhogmghffbaaa
