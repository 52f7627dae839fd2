/- Walks of the functions of layer 18 and of the statements about it. -/
import Derived.Test.YtopnkekmbohgoaaLkTypes
import Derived.Test.YtopnkekmbohgoaaChecked
set_option linter.unusedVariables false
set_option linter.unusedSimpArgs false
namespace Go.Proofs.Ytopnkekmbohgoaa
open Go.AL Go.Lk Go.RowKit
theorem ag3 : aggB Try.prog 3 = some false := by kernel_rfl
theorem ag22 : aggB Try.prog 22 = some false := by kernel_rfl
theorem ag24 : aggB Try.prog 24 = some true := by kernel_rfl
theorem by3 : bytesB Try.prog 3 = some 8 := by kernel_rfl
theorem el22 : elemB Try.prog 22 = some 3 := by kernel_rfl
theorem fl24_0 : fldB Try.prog 24 0 = some (0, 3) := by kernel_rfl
theorem fl24_1 : fldB Try.prog 24 1 = some (1, 3) := by kernel_rfl
theorem fl24_2 : fldB Try.prog 24 2 = some (2, 3) := by kernel_rfl
theorem fl24_3 : fldB Try.prog 24 3 = some (3, 3) := by kernel_rfl
theorem fl24_4 : fldB Try.prog 24 4 = some (4, 22) := by kernel_rfl
theorem fl24_5 : fldB Try.prog 24 5 = some (5, 3) := by kernel_rfl
theorem fn14 : fnB Try.prog 14 = true := by kernel_rfl
theorem fn15 : fnB Try.prog 15 = true := by kernel_rfl
theorem fn16 : fnB Try.prog 16 = true := by kernel_rfl
theorem fn17 : fnB Try.prog 17 = true := by kernel_rfl
theorem fn18 : fnB Try.prog 18 = true := by kernel_rfl
theorem fn19 : fnB Try.prog 19 = true := by kernel_rfl
theorem fn28 : fnB Try.prog 28 = true := by kernel_rfl
theorem fn29 : fnB Try.prog 29 = true := by kernel_rfl
theorem fn30 : fnB Try.prog 30 = true := by kernel_rfl
theorem fn31 : fnB Try.prog 31 = true := by kernel_rfl
theorem fn32 : fnB Try.prog 32 = true := by kernel_rfl
theorem fn33 : fnB Try.prog 33 = true := by kernel_rfl
theorem fn34 : fnB Try.prog 34 = true := by kernel_rfl
theorem fn35 : fnB Try.prog 35 = true := by kernel_rfl
theorem fn36 : fnB Try.prog 36 = true := by kernel_rfl
theorem fs24 : sizesB Try.prog 24 = true := by kernel_rfl
theorem mixed : Try.prog.follows .mixedOrders = true := by kernel_rfl
theorem sz3 : sizeB Try.prog 3 = some 1 := by kernel_rfl
theorem sz22 : sizeB Try.prog 22 = some 1 := by kernel_rfl
theorem sz24 : sizeB Try.prog 24 = some 6 := by kernel_rfl
theorem ze3 : zeroB Try.prog 3 = some (some (.int .i64 0)) := by kernel_rfl
theorem ze24 : zeroB Try.prog 24 = some (some (.agg #[.int .i64 0, .int .i64 0, .int .i64 0, .int .i64 0, .slice none 0 0, .int .i64 0])) := by kernel_rfl
theorem goro_ok (g : Int) : FnP Try.prog 29 [eqP (.int .i64 g)] (eqP (.bool (goro g))) := by
  refine fn_pure' Try.func29 rfl Try.ntmps29 rfl ?_
  intro σ0 M ex Rf R hC hO
  simp only [frameOf, tokOf]
  refine tr_seq ?_
  refine tr_region (fun N0 hN => ?_)
  refine lx (op_assign rfl) rfl ?_
  refine lx_end ⟨by kernel_rfl, ?_⟩
  refine pe_then_normal ?_
  refine tr_sub hC (.cons (t := 0) rfl .nil) .nil rfl ?_
  refine tr_seq ?_
  refine tr_region (fun N1 hN => ?_)
  refine lx (op_move rfl) rfl ?_
  refine lx (op_leq rfl rfl) rfl ?_
  refine lx (op_move rfl) rfl ?_
  refine lxs rfl rfl rfl guard_eq (.cons (t := 0) rfl (fun _ => Ent.refl _) .nil) (op_move rfl) rfl ?_
  refine lxs rfl rfl rfl guard_eq (.cons (t := 6) rfl (fun h => entW h) .nil) (op_lss rfl rfl) rfl ?_
  refine lx (op_pick_and rfl rfl) rfl ?_
  refine lx (op_assign rfl) rfl ?_
  refine lx_end ⟨by kernel_rfl, ?_⟩
  refine pe_then_normal ?_
  refine tr_sub hC (.cons (t := 2) rfl .nil) .nil rfl ?_
  refine tr_ret ?_
  refine pe_ret1 rfl hO rfl (.tmp rfl .nil) ?_
  repeat (first | exact Ent.refl _ | exact Ents.nil | exact Ent.nil _ _ | exact Ent.row _ _ _ _ | exact Ent.func _ | refine Ents.cons ?_ ?_ | refine Ent.tup ?_ | refine Ent.agg ?_ | refine Ent.cells ?_ | exact Ent.of_eq rfl)

theorem rgoro_ok (g : Int) : FnP Try.prog 35 [eqP (.int .i64 g)] (eqP (.bool (goro g))) := by
  refine fn_pure' Try.func35 rfl Try.ntmps35 rfl ?_
  intro σ0 M ex Rf R hC hO
  simp only [frameOf, tokOf]
  refine tr_seq ?_
  refine tr_region (fun N0 hN => ?_)
  refine lx (op_assign rfl) rfl ?_
  refine lx_end ⟨by kernel_rfl, ?_⟩
  refine pe_then_normal ?_
  refine tr_sub hC (.cons (t := 0) rfl .nil) .nil rfl ?_
  refine tr_seq ?_
  refine tr_region (fun N1 hN => ?_)
  refine lx (op_move rfl) rfl ?_
  refine lx (op_geq rfl rfl) rfl ?_
  refine lx (op_move rfl) rfl ?_
  refine lxs rfl rfl rfl guard_eq (.cons (t := 0) rfl (fun _ => Ent.refl _) .nil) (op_move rfl) rfl ?_
  refine lxs rfl rfl rfl guard_eq (.cons (t := 6) rfl (fun h => entW h) .nil) (op_lss rfl rfl) rfl ?_
  refine lx (op_pick_and rfl rfl) rfl ?_
  refine lx (op_assign rfl) rfl ?_
  refine lx_end ⟨by kernel_rfl, ?_⟩
  refine pe_then_normal ?_
  refine tr_sub hC (.cons (t := 2) rfl .nil) .nil rfl ?_
  refine tr_ret ?_
  refine pe_ret1 rfl hO rfl (.tmp rfl .nil) ?_
  repeat (first | exact Ent.refl _ | exact Ents.nil | exact Ent.nil _ _ | exact Ent.row _ _ _ _ | exact Ent.func _ | refine Ents.cons ?_ ?_ | refine Ent.tup ?_ | refine Ent.agg ?_ | refine Ent.cells ?_ | exact Ent.of_eq rfl)

theorem notg_ok (g : Int) : FnP Try.prog 31 [eqP (.int .i64 g)] (eqP (.bool (!goro g))) := by
  refine fn_pure' Try.func31 rfl Try.ntmps31 rfl ?_
  intro σ0 M ex Rf R hC hO
  simp only [frameOf, tokOf]
  refine tr_seq ?_
  refine tr_region (fun N0 hN => ?_)
  refine lx (op_assign rfl) rfl ?_
  refine lx_end ⟨by kernel_rfl, ?_⟩
  refine pe_then_normal ?_
  refine tr_sub hC (.cons (t := 0) rfl .nil) .nil rfl ?_
  refine tr_seq ?_
  refine tr_region (fun N1 hN => ?_)
  refine lx (op_move rfl) rfl ?_
  first | refine lx (op_call (l := [(Go.Operand.tmp 3)]) (goro_ok _) (.cons rfl .nil) fn29) rfl ?_ | refine lx (op_call (l := [(Go.Operand.tmp 3)]) (goro_ok _) (.ent rfl (by repeat (first | exact Ent.refl _ | exact Ents.nil | exact Ent.nil _ _ | exact Ent.row _ _ _ _ | exact Ent.func _ | refine Ents.cons ?_ ?_ | refine Ent.tup ?_ | refine Ent.agg ?_ | refine Ent.cells ?_ | exact Ent.of_eq rfl)) .nil) fn29) rfl ?_
  first | refine lx (op_not rfl) rfl ?_ | refine lx (op_not_b rfl) rfl ?_
  refine lx (op_assign rfl) rfl ?_
  refine lx_end ⟨by kernel_rfl, ?_⟩
  refine pe_then_normal ?_
  refine tr_sub hC (.cons (t := 2) rfl .nil) .nil rfl ?_
  refine tr_ret ?_
  refine pe_ret1 rfl hO rfl (.tmp rfl .nil) ?_
  repeat (first | exact Ent.refl _ | exact Ents.nil | exact Ent.nil _ _ | exact Ent.row _ _ _ _ | exact Ent.func _ | refine Ents.cons ?_ ?_ | refine Ent.tup ?_ | refine Ent.agg ?_ | refine Ent.cells ?_ | exact Ent.of_eq rfl)

theorem index_ok (q : FuncId) (φ : Int → Bool) (hq : ∀ x, FnP Try.prog q [eqP (.int .i64 x)] (eqP (.bool (φ x)))) (hf : fnB Try.prog q = true) (xs : List Int) (hx : xs.length ≤ 1000000) : FnP Try.prog 36 [slP ip 1 xs, clP q [] []] (eqP (.int .i64 (idxF φ xs))) := by
  refine fn_pure' Try.func36 rfl Try.ntmps36 rfl ?_
  intro σ0 M ex Rf R hC hO
  simp only [frameOf, tokOf]
  refine tr_seq ?_
  refine tr_region (fun N0 hN => ?_)
  refine lx (op_assign rfl) rfl ?_
  refine lx_end ⟨by kernel_rfl, ?_⟩
  refine pe_then_normal ?_
  refine tr_sub hC (.cons (t := 0) rfl (.cons (t := 1) rfl .nil)) .nil rfl ?_
  refine tr_seq ?_
  refine tr_seq ?_
  refine tr_region (fun N1 hN => ?_)
  refine lx (op_move rfl) rfl ?_
  first | refine lx (op_len rfl el22) rfl ?_ | refine lx (op_len_row rfl el22) rfl ?_ | refine lx (op_len_mv rfl el22) rfl ?_
  refine lx (op_move rfl) rfl ?_
  refine lx_end ⟨by kernel_rfl, ?_⟩
  refine pe_then_normal ?_
  refine tr_sub hC (.cons (t := 0) rfl (.cons (t := 1) rfl (.cons (t := 7) rfl (.cons (t := 8) rfl .nil)))) .nil rfl ?_
  refine tr_block ?_
  refine tr_loop (α := {k : Nat // k ≤ xs.length ∧ ∀ x ∈ xs.take k, φ x = false}) (⟨0, Nat.zero_le _, by simp⟩) (fun x => [(0, slP ip 1 xs), (1, clP q [] []), (7, eqP (.int .i64 xs.length)), (8, eqP (.int .i64 (x.1 : Int)))]) (fun x => []) (fun x => xs.length - x.1) (pe_st hC ?_ ?_ rfl) (fun x => ?_)
  · try dsimp only
    first | refine SubF.cons rfl ?_ | (refine SubF.ent rfl ?_ ?_; · repeat (first | exact Ent.refl _ | exact Ents.nil | exact Ent.nil _ _ | exact Ent.row _ _ _ _ | exact Ent.func _ | refine Ents.cons ?_ ?_ | refine Ent.tup ?_ | refine Ent.agg ?_ | refine Ent.cells ?_ | exact Ent.of_eq rfl))
    first | refine SubF.cons rfl ?_ | (refine SubF.ent rfl ?_ ?_; · repeat (first | exact Ent.refl _ | exact Ents.nil | exact Ent.nil _ _ | exact Ent.row _ _ _ _ | exact Ent.func _ | refine Ents.cons ?_ ?_ | refine Ent.tup ?_ | refine Ent.agg ?_ | refine Ent.cells ?_ | exact Ent.of_eq rfl))
    first | refine SubF.cons rfl ?_ | (refine SubF.ent rfl ?_ ?_; · repeat (first | exact Ent.refl _ | exact Ents.nil | exact Ent.nil _ _ | exact Ent.row _ _ _ _ | exact Ent.func _ | refine Ents.cons ?_ ?_ | refine Ent.tup ?_ | refine Ent.agg ?_ | refine Ent.cells ?_ | exact Ent.of_eq rfl))
    first | refine SubF.cons rfl ?_ | (refine SubF.ent rfl ?_ ?_; · repeat (first | exact Ent.refl _ | exact Ents.nil | exact Ent.nil _ _ | exact Ent.row _ _ _ _ | exact Ent.func _ | refine Ents.cons ?_ ?_ | refine Ent.tup ?_ | refine Ent.agg ?_ | refine Ent.cells ?_ | exact Ent.of_eq rfl))
    exact SubF.nil
  · try dsimp only
    repeat (first | exact SubL.nil | refine SubL.cons rfl ?_)
  · obtain ⟨k, hk1, hk2⟩ := x
    dsimp only
    refine tr_seq ?_
    refine tr_region (fun N2 hN => ?_)
    refine lx (op_lss rfl rfl) rfl ?_
    refine lx_end ⟨by kernel_rfl, ?_⟩
    refine pe_then_normal ?_
    refine tr_sub hC (.cons (t := 0) rfl (.cons (t := 1) rfl (.cons (t := 7) rfl (.cons (t := 8) rfl (.cons (t := 9) rfl .nil))))) .nil rfl ?_
    refine tr_seq ?_
    refine tr_cond rfl (fun h9 => ?_) (fun h9 => ?_)
    · (try simp only [Bool.and_eq_true, Bool.or_eq_true, Bool.and_eq_false_iff, Bool.or_eq_false_iff, decide_eq_true_eq, decide_eq_false_iff_not, Bool.not_eq_true', Bool.not_eq_false', ne_eq, Decidable.not_not, Int.not_lt, Int.not_le] at h9)
      refine tr_skip ?_
      refine pe_then_normal ?_
      refine tr_sub hC (.cons (t := 0) rfl (.cons (t := 1) rfl (.cons (t := 7) rfl (.cons (t := 8) rfl .nil)))) .nil rfl ?_
      refine tr_seq ?_
      refine tr_block ?_
      refine tr_seq ?_
      refine tr_region (fun N3 hN => ?_)
      refine lx (op_move rfl) rfl ?_
      refine lx (op_assign rfl) rfl ?_
      refine lx_end ⟨by kernel_rfl, ?_⟩
      refine pe_then_normal ?_
      refine tr_sub hC (.cons (t := 0) rfl (.cons (t := 1) rfl (.cons (t := 5) rfl (.cons (t := 7) rfl (.cons (t := 8) rfl .nil))))) .nil rfl ?_
      refine tr_seq ?_
      refine tr_region (fun N4 hN => ?_)
      refine lx (op_move rfl) rfl ?_
      refine lx (op_move rfl) rfl ?_
      refine lx (op_move rfl) rfl ?_
      refine lx (op_index rfl rfl el22 sz3 rfl (List.getElem?_eq_getElem (by omega : k < xs.length))) rfl ?_
      refine lx (op_load_one rfl ag3 rfl) rfl ?_
      first | refine lx (op_callV (l := [(Go.Operand.tmp 15)]) rfl (hq _) (.cons rfl .nil) hf) rfl ?_ | refine lx (op_callV (l := [(Go.Operand.tmp 15)]) rfl (hq _) (.ent rfl (by repeat (first | exact Ent.refl _ | exact Ents.nil | exact Ent.nil _ _ | exact Ent.row _ _ _ _ | exact Ent.func _ | refine Ents.cons ?_ ?_ | refine Ent.tup ?_ | refine Ent.agg ?_ | refine Ent.cells ?_ | exact Ent.of_eq rfl)) .nil) hf) rfl ?_
      refine lx_end ⟨by kernel_rfl, ?_⟩
      refine pe_then_normal ?_
      refine tr_sub hC (.cons (t := 0) rfl (.cons (t := 1) rfl (.cons (t := 5) rfl (.cons (t := 7) rfl (.cons (t := 8) rfl (.cons (t := 16) rfl .nil)))))) .nil rfl ?_
      refine tr_cond rfl (fun h16 => ?_) (fun h16 => ?_)
      · (try simp only [Bool.and_eq_true, Bool.or_eq_true, Bool.and_eq_false_iff, Bool.or_eq_false_iff, decide_eq_true_eq, decide_eq_false_iff_not, Bool.not_eq_true', Bool.not_eq_false', ne_eq, Decidable.not_not, Int.not_lt, Int.not_le] at h16)
        refine tr_seq ?_
        refine tr_region (fun N5 hN => ?_)
        refine lx (op_move rfl) rfl ?_
        refine lx (op_assign rfl) rfl ?_
        refine lx_end ⟨by kernel_rfl, ?_⟩
        refine pe_then_normal ?_
        refine tr_sub hC (.cons (t := 4) rfl .nil) .nil rfl ?_
        refine tr_ret ?_
        refine pe_block_ret ?_
        refine pe_then_ret ?_
        refine pe_then_ret ?_
        refine pe_block_ret ?_
        refine pe_then_ret ?_
        refine pe_ret1 rfl hO rfl (.tmp rfl .nil) ?_
        exact entI (idxF_at (by omega) hk2 h16).symm
      · (try simp only [Bool.and_eq_true, Bool.or_eq_true, Bool.and_eq_false_iff, Bool.or_eq_false_iff, decide_eq_true_eq, decide_eq_false_iff_not, Bool.not_eq_true', Bool.not_eq_false', ne_eq, Decidable.not_not, Int.not_lt, Int.not_le] at h16)
        refine tr_skip ?_
        refine pe_block_normal ?_
        refine pe_then_normal ?_
        refine tr_sub hC (.cons (t := 0) rfl (.cons (t := 1) rfl (.cons (t := 7) rfl (.cons (t := 8) rfl .nil)))) .nil rfl ?_
        refine tr_region (fun N6 hN => ?_)
        refine lx (op_add rfl rfl (by omega)) rfl ?_
        refine lx (op_move rfl) rfl ?_
        refine lx_end ⟨by kernel_rfl, ?_⟩
        refine pe_round (⟨k + 1, by omega, take_all hk2 (by omega) h16⟩) (by dsimp only; omega) (pe_st hC ?_ ?_ rfl)
        · try dsimp only
          first | refine SubF.cons rfl ?_ | (refine SubF.ent rfl ?_ ?_; · repeat (first | exact Ent.refl _ | exact Ents.nil | exact Ent.nil _ _ | exact Ent.row _ _ _ _ | exact Ent.func _ | refine Ents.cons ?_ ?_ | refine Ent.tup ?_ | refine Ent.agg ?_ | refine Ent.cells ?_ | exact Ent.of_eq rfl))
          first | refine SubF.cons rfl ?_ | (refine SubF.ent rfl ?_ ?_; · repeat (first | exact Ent.refl _ | exact Ents.nil | exact Ent.nil _ _ | exact Ent.row _ _ _ _ | exact Ent.func _ | refine Ents.cons ?_ ?_ | refine Ent.tup ?_ | refine Ent.agg ?_ | refine Ent.cells ?_ | exact Ent.of_eq rfl))
          first | refine SubF.cons rfl ?_ | (refine SubF.ent rfl ?_ ?_; · repeat (first | exact Ent.refl _ | exact Ents.nil | exact Ent.nil _ _ | exact Ent.row _ _ _ _ | exact Ent.func _ | refine Ents.cons ?_ ?_ | refine Ent.tup ?_ | refine Ent.agg ?_ | refine Ent.cells ?_ | exact Ent.of_eq rfl))
          first | refine SubF.cons rfl ?_ | (refine SubF.ent rfl ?_ ?_; · repeat (first | exact Ent.refl _ | exact Ents.nil | exact Ent.nil _ _ | exact Ent.row _ _ _ _ | exact Ent.func _ | refine Ents.cons ?_ ?_ | refine Ent.tup ?_ | refine Ent.agg ?_ | refine Ent.cells ?_ | exact Ent.of_eq rfl))
          exact SubF.nil
        · try dsimp only
          repeat (first | exact SubL.nil | refine SubL.cons rfl ?_)
    · (try simp only [Bool.and_eq_true, Bool.or_eq_true, Bool.and_eq_false_iff, Bool.or_eq_false_iff, decide_eq_true_eq, decide_eq_false_iff_not, Bool.not_eq_true', Bool.not_eq_false', ne_eq, Decidable.not_not, Int.not_lt, Int.not_le] at h9)
      have hk3 : k = xs.length := by omega
      refine tr_exit ?_
      refine pe_then_exit ?_
      refine pe_then_exit ?_
      refine pe_block_eq ?_
      refine pe_then_normal ?_
      refine tr_sub hC .nil .nil rfl ?_
      refine tr_seq ?_
      refine tr_region (fun N7 hN => ?_)
      refine lx (op_assign rfl) rfl ?_
      refine lx_end ⟨by kernel_rfl, ?_⟩
      refine pe_then_normal ?_
      refine tr_sub hC (.cons (t := 4) rfl .nil) .nil rfl ?_
      refine tr_ret ?_
      refine pe_ret1 rfl hO rfl (.tmp rfl .nil) ?_
      exact entI (idxF_none (by rwa [hk3, List.take_of_length_le (Nat.le_refl _)] at hk2)).symm

theorem contains_ok (q : FuncId) (φ : Int → Bool) (hq : ∀ x, FnP Try.prog q [eqP (.int .i64 x)] (eqP (.bool (φ x)))) (hf : fnB Try.prog q = true) (xs : List Int) (hx : xs.length ≤ 1000000) : FnP Try.prog 30 [slP ip 1 xs, clP q [] []] (eqP (.bool (xs.any φ))) := by
  refine fn_pure' Try.func30 rfl Try.ntmps30 rfl ?_
  intro σ0 M ex Rf R hC hO
  simp only [frameOf, tokOf]
  refine tr_seq ?_
  refine tr_region (fun N0 hN => ?_)
  refine lx (op_assign rfl) rfl ?_
  refine lx_end ⟨by kernel_rfl, ?_⟩
  refine pe_then_normal ?_
  refine tr_sub hC (.cons (t := 0) rfl (.cons (t := 1) rfl .nil)) .nil rfl ?_
  refine tr_seq ?_
  refine tr_region (fun N1 hN => ?_)
  refine lx (op_move rfl) rfl ?_
  refine lx (op_move rfl) rfl ?_
  first | refine lx (op_call (l := [(Go.Operand.tmp 5), (Go.Operand.tmp 6)]) (index_ok _ _ hq hf _ hx) (.cons rfl (.cons rfl .nil)) fn36) rfl ?_ | refine lx (op_call (l := [(Go.Operand.tmp 5), (Go.Operand.tmp 6)]) (index_ok _ _ hq hf _ hx) (.ent rfl (by repeat (first | exact Ent.refl _ | exact Ents.nil | exact Ent.nil _ _ | exact Ent.row _ _ _ _ | exact Ent.func _ | refine Ents.cons ?_ ?_ | refine Ent.tup ?_ | refine Ent.agg ?_ | refine Ent.cells ?_ | exact Ent.of_eq rfl)) (.ent rfl (by repeat (first | exact Ent.refl _ | exact Ents.nil | exact Ent.nil _ _ | exact Ent.row _ _ _ _ | exact Ent.func _ | refine Ents.cons ?_ ?_ | refine Ent.tup ?_ | refine Ent.agg ?_ | refine Ent.cells ?_ | exact Ent.of_eq rfl)) .nil)) fn36) rfl ?_
  refine lx (op_geq rfl rfl) rfl ?_
  refine lx (op_assign rfl) rfl ?_
  refine lx_end ⟨by kernel_rfl, ?_⟩
  refine pe_then_normal ?_
  refine tr_sub hC (.cons (t := 4) rfl .nil) .nil rfl ?_
  refine tr_ret ?_
  refine pe_ret1 rfl hO rfl (.tmp rfl .nil) ?_
  exact entB (idxF_any φ xs)

theorem clone_ok (xs : List Int) (hx : xs.length ≤ 1000000) : Fn1 Try.prog 33 [slP ip 1 xs] (fun id => rowP id ip 1 xs) (tail 3 1 (xs.length * 1)) := by
  refine fn_own (Ren.row _ _ _ _ _) Try.func33 rfl Try.ntmps33 rfl ?_
  intro σ0 M Rf R hC hO
  simp only [frameOf, tokOf]
  refine tr_seq ?_
  refine tr_region (fun N0 hN => ?_)
  refine lx (op_assign rfl) rfl ?_
  refine lx_end ⟨by kernel_rfl, ?_⟩
  refine pe_then_normal ?_
  refine tr_sub hC (.cons (t := 0) rfl .nil) .nil rfl ?_
  refine tr_seq ?_
  refine tr_seq ?_
  refine tr_region (fun N1 hN => ?_)
  refine lx (op_move rfl) rfl ?_
  refine lx (op_eqnil rfl el22) rfl ?_
  refine lx_end ⟨by kernel_rfl, ?_⟩
  refine pe_then_normal ?_
  refine tr_sub hC (.cons (t := 0) rfl (.cons (t := 4) rfl .nil)) .nil rfl ?_
  refine tr_cond_b rfl (fun h4 => ?_) (fun h4 => ?_)
  · (try simp only [Bool.and_eq_true, Bool.or_eq_true, Bool.and_eq_false_iff, Bool.or_eq_false_iff, decide_eq_true_eq, decide_eq_false_iff_not, Bool.not_eq_true', Bool.not_eq_false', ne_eq, Decidable.not_not, Int.not_lt, Int.not_le] at h4)
    have hxs : xs = [] := by first | exact h4 rfl | exact h4 trivial
    subst hxs
    refine tr_seq ?_
    refine tr_region (fun N2 hN => ?_)
    refine lx (op_assign rfl) rfl ?_
    refine lx_end ⟨by kernel_rfl, ?_⟩
    refine pe_then_normal ?_
    refine tr_sub hC (.cons (t := 2) rfl .nil) .nil rfl ?_
    refine tr_nilrow ip 1 3 2 2 rfl (by first | exact hC.low _ (by decide) | rfl) (fun idN => ?_)
    refine tr_ret ?_
    refine pe_then_ret ?_
    refine pe_own (m := 2) rfl hO rfl rfl rfl ?_
    repeat (first | exact Ent.refl _ | exact Ents.nil | exact Ent.nil _ _ | exact Ent.row _ _ _ _ | exact Ent.func _ | refine Ents.cons ?_ ?_ | refine Ent.tup ?_ | refine Ent.agg ?_ | refine Ent.cells ?_ | exact Ent.of_eq rfl)
  · (try simp only [Bool.and_eq_true, Bool.or_eq_true, Bool.and_eq_false_iff, Bool.or_eq_false_iff, decide_eq_true_eq, decide_eq_false_iff_not, Bool.not_eq_true', Bool.not_eq_false', ne_eq, Decidable.not_not, Int.not_lt, Int.not_le] at h4)
    refine tr_skip ?_
    refine pe_then_normal ?_
    refine tr_sub hC (.cons (t := 0) rfl .nil) .nil rfl ?_
    refine tr_seq ?_
    refine tr_region (fun N3 hN => ?_)
    refine lxn (op_buildEmpty (m' := 5) (kk := 5) (f := ip) el22 sz3 (by first | exact hC.low _ (by decide) | rfl)) rfl ?_
    refine lx (op_move rfl) rfl ?_
    refine lxr (op_append (m := 5) (m' := 7) (kk := 7) rfl rfl rfl (.inr (by first | exact hC.low _ (by decide) | rfl)) el22 ze3 sz3 by3 rfl ip_len (by simp; omega) (by simp; omega)) rfl ?_
    refine lx (op_assign rfl) rfl ?_
    refine lx_end ⟨by kernel_rfl, ?_⟩
    refine pe_then_normal ?_
    refine tr_sub hC (.cons (t := 2) rfl .nil) (.cons (t := 7) rfl .nil) rfl ?_
    refine tr_ret ?_
    refine pe_own (m := 7) rfl hO rfl rfl rfl ?_
    repeat (first | exact Ent.refl _ | exact Ents.nil | exact Ent.nil _ _ | exact Ent.row _ _ _ _ | exact Ent.func _ | refine Ents.cons ?_ ?_ | refine Ent.tup ?_ | refine Ent.agg ?_ | refine Ent.cells ?_ | exact Ent.of_eq rfl)

theorem mclone_ok (xs : List Int) (hx : xs.length ≤ 1000000) : Fn1 Try.prog 33 [slP ip 1 xs] (fun id => mvP id 1 0 xs.length xs.length) (blkX 1 3 (xs.flatMap ip)) := by
  refine fn_own (Ren.mv _ _ _ _ _ _ _) Try.func33 rfl Try.ntmps33 rfl ?_
  intro σ0 M Rf R hC hO
  simp only [frameOf, tokOf]
  refine tr_seq ?_
  refine tr_region (fun N0 hN => ?_)
  refine lx (op_assign rfl) rfl ?_
  refine lx_end ⟨by kernel_rfl, ?_⟩
  refine pe_then_normal ?_
  refine tr_sub hC (.cons (t := 0) rfl .nil) .nil rfl ?_
  refine tr_seq ?_
  refine tr_seq ?_
  refine tr_region (fun N1 hN => ?_)
  refine lx (op_move rfl) rfl ?_
  refine lx (op_eqnil rfl el22) rfl ?_
  refine lx_end ⟨by kernel_rfl, ?_⟩
  refine pe_then_normal ?_
  refine tr_sub hC (.cons (t := 0) rfl (.cons (t := 4) rfl .nil)) .nil rfl ?_
  refine tr_cond_b rfl (fun h4 => ?_) (fun h4 => ?_)
  · (try simp only [Bool.and_eq_true, Bool.or_eq_true, Bool.and_eq_false_iff, Bool.or_eq_false_iff, decide_eq_true_eq, decide_eq_false_iff_not, Bool.not_eq_true', Bool.not_eq_false', ne_eq, Decidable.not_not, Int.not_lt, Int.not_le] at h4)
    have hxs : xs = [] := by first | exact h4 rfl | exact h4 trivial
    subst hxs
    refine tr_seq ?_
    refine tr_region (fun N2 hN => ?_)
    refine lx (op_assign rfl) rfl ?_
    refine lx_end ⟨by kernel_rfl, ?_⟩
    refine pe_then_normal ?_
    refine tr_sub hC (.cons (t := 2) rfl .nil) .nil rfl ?_
    refine tr_nilmv 1 3 2 2 rfl (by first | exact hC.low _ (by decide) | rfl) (fun idN => ?_)
    refine tr_ret ?_
    refine pe_then_ret ?_
    refine pe_own (m := 2) rfl hO rfl rfl rfl ?_
    exact Ent.refl _
  · (try simp only [Bool.and_eq_true, Bool.or_eq_true, Bool.and_eq_false_iff, Bool.or_eq_false_iff, decide_eq_true_eq, decide_eq_false_iff_not, Bool.not_eq_true', Bool.not_eq_false', ne_eq, Decidable.not_not, Int.not_lt, Int.not_le] at h4)
    refine tr_skip ?_
    refine pe_then_normal ?_
    refine tr_sub hC (.cons (t := 0) rfl .nil) .nil rfl ?_
    refine tr_seq ?_
    refine tr_region (fun N3 hN => ?_)
    refine lxn (op_buildEmptyM (m' := 5) (kk := 5) el22 sz3 (by first | exact hC.low _ (by decide) | rfl)) rfl ?_
    refine lx (op_move rfl) rfl ?_
    refine lxr (op_append_mut (m := 5) (m' := 7) (kk := 7) (f := ip) rfl rfl rfl (.inr (by first | exact hC.low _ (by decide) | rfl)) el22 ze3 sz3 by3 rfl (by decide) (by simp) ip_len (by simp; omega) (by simp; omega)) rfl ?_
    refine lx (op_assign rfl) rfl ?_
    refine lx_end ⟨by kernel_rfl, ?_⟩
    refine pe_then_normal ?_
    refine tr_sub hC (.cons (t := 2) rfl .nil) (.cons (t := 7) rfl .nil) rfl ?_
    refine tr_ret ?_
    refine pe_own (m := 7) rfl hO rfl rfl rfl ?_
    exact Ent.of_eq (by simp)

theorem delete_ok (id : AL.Id) (xs : List Int) (i : Nat) (hi : i < xs.length) (hx : xs.length ≤ 1000000) : FnOK Try.prog 34 [mvP id 1 0 xs.length xs.length, eqP (.int .i64 (i : Int)), eqP (.int .i64 ((i : Int) + 1))] [(id, blkX 1 3 (xs.flatMap ip))] 0 (fun _ => slP ip 1 (xs.take i ++ xs.drop (i + 1))) (fun _ => []) := by
  refine fn_need Try.func34 rfl Try.ntmps34 rfl ?_
  intro σ0 M ex Rf R hC hO
  simp only [frameOf, tokOf]
  refine tr_seq ?_
  refine tr_region (fun N0 hN => ?_)
  refine lx (op_assign rfl) rfl ?_
  refine lx_end ⟨by kernel_rfl, ?_⟩
  refine pe_then_normal ?_
  refine tr_sub hC (.cons (t := 0) rfl (.cons (t := 1) rfl (.cons (t := 2) rfl .nil))) (.cons (t := 0) rfl .nil) rfl ?_
  refine tr_seq ?_
  refine tr_region (fun N1 hN => ?_)
  refine lx (op_move rfl) rfl ?_
  refine lx (op_move rfl) rfl ?_
  refine lx (op_move rfl) rfl ?_
  refine lx (op_move rfl) rfl ?_
  first | refine lx (op_len rfl el22) rfl ?_ | refine lx (op_len_row rfl el22) rfl ?_ | refine lx (op_len_mv rfl el22) rfl ?_
  refine lx (op_mslice3 rfl rfl rfl rfl el22 sz3 rfl (by omega : ((i : Int) + 1) = ((i + 1 : Nat) : Int)) rfl (by omega) (by omega) (by omega)) rfl ?_
  refine lx_end ⟨by kernel_rfl, ?_⟩
  refine pe_then_normal ?_
  refine tr_sub hC (.cons (t := 0) rfl (.cons (t := 1) rfl (.cons (t := 2) rfl .nil))) (.cons (t := 0) rfl .nil) rfl ?_
  refine tr_seq ?_
  refine tr_seq ?_
  refine tr_region (fun N2 hN => ?_)
  refine lx (op_move rfl) rfl ?_
  refine lx (op_move rfl) rfl ?_
  refine lxk (op_eql rfl rfl) (decide_eq_false (by omega)) rfl ?_
  refine lx_end ⟨by kernel_rfl, ?_⟩
  refine pe_then_normal ?_
  refine tr_sub hC (.cons (t := 0) rfl (.cons (t := 1) rfl (.cons (t := 2) rfl (.cons (t := 16) rfl .nil)))) (.cons (t := 0) rfl .nil) rfl ?_
  refine tr_cond_f rfl ?_
  refine tr_skip ?_
  refine pe_then_normal ?_
  refine tr_sub hC (.cons (t := 0) rfl (.cons (t := 1) rfl (.cons (t := 2) rfl .nil))) (.cons (t := 0) rfl .nil) rfl ?_
  refine tr_seq ?_
  refine tr_region (fun N4 hN => ?_)
  refine lx (op_move rfl) rfl ?_
  first | refine lx (op_len rfl el22) rfl ?_ | refine lx (op_len_row rfl el22) rfl ?_ | refine lx (op_len_mv rfl el22) rfl ?_
  refine lx (op_assign rfl) rfl ?_
  refine lx_end ⟨by kernel_rfl, ?_⟩
  refine pe_then_normal ?_
  refine tr_sub hC (.cons (t := 0) rfl (.cons (t := 1) rfl (.cons (t := 2) rfl (.cons (t := 7) rfl .nil)))) (.cons (t := 0) rfl .nil) rfl ?_
  refine tr_seq ?_
  refine tr_drawn mixed (fun N5 hN => ?_)
  refine lx (op_move rfl) rfl ?_
  refine lx (op_move rfl) rfl ?_
  refine lx (op_mslice_h rfl rfl el22 sz3 rfl (by omega)) rfl ?_
  refine lx (op_move rfl) rfl ?_
  refine lx (op_move rfl) rfl ?_
  refine lx (op_mslice_l rfl rfl el22 sz3 (by omega : ((i : Int) + 1) = ((i + 1 : Nat) : Int)) (by omega)) rfl ?_
  refine lxr (op_append_in (m := 0) rfl rfl rfl (by decide) el22 ze3 sz3 by3 (by have := flat_ip xs; omega) (by omega)) rfl ?_
  refine lx (op_assign rfl) rfl ?_
  refine lx_end ⟨by kernel_rfl, ?_⟩
  refine pe_then_normal ?_
  refine tr_sub hC (.cons (t := 0) rfl (.cons (t := 7) rfl .nil)) (.cons (t := 0) rfl .nil) rfl ?_
  refine tr_seq ?_
  refine tr_region (fun N6 hN => ?_)
  refine lx (op_move rfl) rfl ?_
  refine lx (op_move rfl) rfl ?_
  first | refine lx (op_len rfl el22) rfl ?_ | refine lx (op_len_row rfl el22) rfl ?_ | refine lx (op_len_mv rfl el22) rfl ?_
  refine lx (op_move rfl) rfl ?_
  refine lx (op_mslice_x rfl rfl rfl el22 sz3 rfl rfl (by omega) (by omega)) rfl ?_
  refine lxr (op_clear (m := 0) rfl rfl (by decide) el22 ze3 rfl rfl rfl (by have h1 := flat_ip xs; rw [splice_len (by simp only [List.length_take, List.length_drop]; omega)]; omega)) rfl ?_
  refine lx_end ⟨by kernel_rfl, ?_⟩
  refine pe_then_normal ?_
  refine tr_sub hC (.cons (t := 0) rfl .nil) (.cons (t := 0) rfl .nil) rfl ?_
  refine tr_freeze (m := 0) rfl (.ent (t := 0) rfl (FEnt.mv (xs := xs.take i ++ xs.drop (i + 1)) (by simp; omega) (cut_cells (by omega) (by omega) (by omega) (by omega) (by omega) hi) ip_len) .nil) ?_
  refine tr_seq ?_
  refine tr_region (fun N7 hN => ?_)
  refine lx (op_move rfl) rfl ?_
  refine lx (op_assign rfl) rfl ?_
  refine lx_end ⟨by kernel_rfl, ?_⟩
  refine pe_then_normal ?_
  refine tr_sub hC (.cons (t := 6) rfl .nil) .nil rfl ?_
  refine tr_ret ?_
  refine pe_ret1 rfl hO rfl (.tmp rfl .nil) ?_
  repeat (first | exact Ent.refl _ | exact Ents.nil | exact Ent.nil _ _ | exact Ent.row _ _ _ _ | exact Ent.func _ | refine Ents.cons ?_ ?_ | refine Ent.tup ?_ | refine Ent.agg ?_ | refine Ent.cells ?_ | exact Ent.of_eq rfl)

theorem ints_ok (xs ys : List Int) (hx : xs.length ≤ 1000000) : FnP Try.prog 28 [slP ip 1 xs, slP ip 1 ys] (eqP (.bool (decide (xs = ys)))) := by
  refine fn_pure' Try.func28 rfl Try.ntmps28 rfl ?_
  intro σ0 M ex Rf R hC hO
  simp only [frameOf, tokOf]
  refine tr_seq ?_
  refine tr_region (fun N0 hN => ?_)
  refine lx (op_assign rfl) rfl ?_
  refine lx_end ⟨by kernel_rfl, ?_⟩
  refine pe_then_normal ?_
  refine tr_sub hC (.cons (t := 0) rfl (.cons (t := 1) rfl .nil)) .nil rfl ?_
  refine tr_seq ?_
  refine tr_seq ?_
  refine tr_region (fun N1 hN => ?_)
  refine lx (op_move rfl) rfl ?_
  first | refine lx (op_len rfl el22) rfl ?_ | refine lx (op_len_row rfl el22) rfl ?_ | refine lx (op_len_mv rfl el22) rfl ?_
  refine lx (op_move rfl) rfl ?_
  first | refine lx (op_len rfl el22) rfl ?_ | refine lx (op_len_row rfl el22) rfl ?_ | refine lx (op_len_mv rfl el22) rfl ?_
  refine lx (op_neq rfl rfl) rfl ?_
  refine lx_end ⟨by kernel_rfl, ?_⟩
  refine pe_then_normal ?_
  refine tr_sub hC (.cons (t := 0) rfl (.cons (t := 1) rfl (.cons (t := 10) rfl .nil))) .nil rfl ?_
  refine tr_cond rfl (fun h10 => ?_) (fun h10 => ?_)
  · (try simp only [Bool.and_eq_true, Bool.or_eq_true, Bool.and_eq_false_iff, Bool.or_eq_false_iff, decide_eq_true_eq, decide_eq_false_iff_not, Bool.not_eq_true', Bool.not_eq_false', ne_eq, Decidable.not_not, Int.not_lt, Int.not_le] at h10)
    have hne : xs ≠ ys := fun e => h10 (by rw [e])
    refine tr_seq ?_
    refine tr_region (fun N2 hN => ?_)
    refine lx (op_assign rfl) rfl ?_
    refine lx_end ⟨by kernel_rfl, ?_⟩
    refine pe_then_normal ?_
    refine tr_sub hC (.cons (t := 4) rfl .nil) .nil rfl ?_
    refine tr_ret ?_
    refine pe_then_ret ?_
    refine pe_ret1 rfl hO rfl (.tmp rfl .nil) ?_
    exact entB (decide_eq_false hne).symm
  · (try simp only [Bool.and_eq_true, Bool.or_eq_true, Bool.and_eq_false_iff, Bool.or_eq_false_iff, decide_eq_true_eq, decide_eq_false_iff_not, Bool.not_eq_true', Bool.not_eq_false', ne_eq, Decidable.not_not, Int.not_lt, Int.not_le] at h10)
    have hlen : xs.length = ys.length := by omega
    refine tr_skip ?_
    refine pe_then_normal ?_
    refine tr_sub hC (.cons (t := 0) rfl (.cons (t := 1) rfl .nil)) .nil rfl ?_
    refine tr_seq ?_
    refine tr_seq ?_
    refine tr_region (fun N3 hN => ?_)
    refine lx (op_assign rfl) rfl ?_
    refine lx_end ⟨by kernel_rfl, ?_⟩
    refine pe_then_normal ?_
    refine tr_sub hC (.cons (t := 0) rfl (.cons (t := 1) rfl (.cons (t := 5) rfl .nil))) .nil rfl ?_
    refine tr_block ?_
    refine tr_loop (α := {k : Nat // k ≤ xs.length ∧ xs.take k = ys.take k}) (⟨0, Nat.zero_le _, by simp⟩) (fun x => [(0, slP ip 1 xs), (1, slP ip 1 ys), (5, eqP (.int .i64 (x.1 : Int)))]) (fun x => []) (fun x => xs.length - x.1) (pe_st hC ?_ ?_ rfl) (fun x => ?_)
    · try dsimp only
      first | refine SubF.cons rfl ?_ | (refine SubF.ent rfl ?_ ?_; · repeat (first | exact Ent.refl _ | exact Ents.nil | exact Ent.nil _ _ | exact Ent.row _ _ _ _ | exact Ent.func _ | refine Ents.cons ?_ ?_ | refine Ent.tup ?_ | refine Ent.agg ?_ | refine Ent.cells ?_ | exact Ent.of_eq rfl))
      first | refine SubF.cons rfl ?_ | (refine SubF.ent rfl ?_ ?_; · repeat (first | exact Ent.refl _ | exact Ents.nil | exact Ent.nil _ _ | exact Ent.row _ _ _ _ | exact Ent.func _ | refine Ents.cons ?_ ?_ | refine Ent.tup ?_ | refine Ent.agg ?_ | refine Ent.cells ?_ | exact Ent.of_eq rfl))
      first | refine SubF.cons rfl ?_ | (refine SubF.ent rfl ?_ ?_; · repeat (first | exact Ent.refl _ | exact Ents.nil | exact Ent.nil _ _ | exact Ent.row _ _ _ _ | exact Ent.func _ | refine Ents.cons ?_ ?_ | refine Ent.tup ?_ | refine Ent.agg ?_ | refine Ent.cells ?_ | exact Ent.of_eq rfl))
      exact SubF.nil
    · try dsimp only
      repeat (first | exact SubL.nil | refine SubL.cons rfl ?_)
    · obtain ⟨k, hk1, hk2⟩ := x
      dsimp only
      refine tr_seq ?_
      refine tr_seq ?_
      refine tr_region (fun N4 hN => ?_)
      refine lx (op_move rfl) rfl ?_
      refine lx (op_move rfl) rfl ?_
      first | refine lx (op_len rfl el22) rfl ?_ | refine lx (op_len_row rfl el22) rfl ?_ | refine lx (op_len_mv rfl el22) rfl ?_
      refine lx (op_lss rfl rfl) rfl ?_
      refine lx_end ⟨by kernel_rfl, ?_⟩
      refine pe_then_normal ?_
      refine tr_sub hC (.cons (t := 0) rfl (.cons (t := 1) rfl (.cons (t := 5) rfl (.cons (t := 14) rfl .nil)))) .nil rfl ?_
      refine tr_cond rfl (fun h14 => ?_) (fun h14 => ?_)
      · (try simp only [Bool.and_eq_true, Bool.or_eq_true, Bool.and_eq_false_iff, Bool.or_eq_false_iff, decide_eq_true_eq, decide_eq_false_iff_not, Bool.not_eq_true', Bool.not_eq_false', ne_eq, Decidable.not_not, Int.not_lt, Int.not_le] at h14)
        refine tr_skip ?_
        refine pe_then_normal ?_
        refine tr_sub hC (.cons (t := 0) rfl (.cons (t := 1) rfl (.cons (t := 5) rfl .nil))) .nil rfl ?_
        refine tr_seq ?_
        refine tr_block ?_
        refine tr_seq ?_
        refine tr_drawn mixed (fun N6 hN => ?_)
        refine lx (op_move rfl) rfl ?_
        refine lx (op_move rfl) rfl ?_
        refine lx (op_index rfl rfl el22 sz3 rfl (List.getElem?_eq_getElem (by omega : k < xs.length))) rfl ?_
        refine lx (op_load_one rfl ag3 rfl) rfl ?_
        refine lx (op_move rfl) rfl ?_
        refine lx (op_move rfl) rfl ?_
        refine lx (op_index rfl rfl el22 sz3 rfl (List.getElem?_eq_getElem (by omega : k < ys.length))) rfl ?_
        refine lx (op_load_one rfl ag3 rfl) rfl ?_
        refine lx (op_neq rfl rfl) rfl ?_
        refine lx_end ⟨by kernel_rfl, ?_⟩
        refine pe_then_normal ?_
        refine tr_sub hC (.cons (t := 0) rfl (.cons (t := 1) rfl (.cons (t := 5) rfl (.cons (t := 25) rfl .nil)))) .nil rfl ?_
        refine tr_cond rfl (fun h25 => ?_) (fun h25 => ?_)
        · (try simp only [Bool.and_eq_true, Bool.or_eq_true, Bool.and_eq_false_iff, Bool.or_eq_false_iff, decide_eq_true_eq, decide_eq_false_iff_not, Bool.not_eq_true', Bool.not_eq_false', ne_eq, Decidable.not_not, Int.not_lt, Int.not_le] at h25)
          have hne : xs ≠ ys := fun e => h25 (by subst e; rfl)
          refine tr_seq ?_
          refine tr_region (fun N7 hN => ?_)
          refine lx (op_assign rfl) rfl ?_
          refine lx_end ⟨by kernel_rfl, ?_⟩
          refine pe_then_normal ?_
          refine tr_sub hC (.cons (t := 4) rfl .nil) .nil rfl ?_
          refine tr_ret ?_
          refine pe_block_ret ?_
          refine pe_then_ret ?_
          refine pe_then_ret ?_
          refine pe_block_ret ?_
          refine pe_then_ret ?_
          refine pe_ret1 rfl hO rfl (.tmp rfl .nil) ?_
          exact entB (decide_eq_false hne).symm
        · (try simp only [Bool.and_eq_true, Bool.or_eq_true, Bool.and_eq_false_iff, Bool.or_eq_false_iff, decide_eq_true_eq, decide_eq_false_iff_not, Bool.not_eq_true', Bool.not_eq_false', ne_eq, Decidable.not_not, Int.not_lt, Int.not_le] at h25)
          refine tr_skip ?_
          refine pe_block_normal ?_
          refine pe_then_normal ?_
          refine tr_sub hC (.cons (t := 0) rfl (.cons (t := 1) rfl (.cons (t := 5) rfl .nil))) .nil rfl ?_
          refine tr_region (fun N5 hN => ?_)
          refine lx (op_move rfl) rfl ?_
          refine lx (op_add rfl rfl (by omega)) rfl ?_
          refine lx (op_assign rfl) rfl ?_
          refine lx_end ⟨by kernel_rfl, ?_⟩
          refine pe_round (⟨k + 1, by omega, take_step hk2 (by omega) (by omega) (by simpa using h25)⟩) (by dsimp only; omega) (pe_st hC ?_ ?_ rfl)
          · try dsimp only
            first | refine SubF.cons rfl ?_ | (refine SubF.ent rfl ?_ ?_; · repeat (first | exact Ent.refl _ | exact Ents.nil | exact Ent.nil _ _ | exact Ent.row _ _ _ _ | exact Ent.func _ | refine Ents.cons ?_ ?_ | refine Ent.tup ?_ | refine Ent.agg ?_ | refine Ent.cells ?_ | exact Ent.of_eq rfl))
            first | refine SubF.cons rfl ?_ | (refine SubF.ent rfl ?_ ?_; · repeat (first | exact Ent.refl _ | exact Ents.nil | exact Ent.nil _ _ | exact Ent.row _ _ _ _ | exact Ent.func _ | refine Ents.cons ?_ ?_ | refine Ent.tup ?_ | refine Ent.agg ?_ | refine Ent.cells ?_ | exact Ent.of_eq rfl))
            first | refine SubF.cons rfl ?_ | (refine SubF.ent rfl ?_ ?_; · repeat (first | exact Ent.refl _ | exact Ents.nil | exact Ent.nil _ _ | exact Ent.row _ _ _ _ | exact Ent.func _ | refine Ents.cons ?_ ?_ | refine Ent.tup ?_ | refine Ent.agg ?_ | refine Ent.cells ?_ | exact Ent.of_eq rfl))
            exact SubF.nil
          · try dsimp only
            repeat (first | exact SubL.nil | refine SubL.cons rfl ?_)
      · (try simp only [Bool.and_eq_true, Bool.or_eq_true, Bool.and_eq_false_iff, Bool.or_eq_false_iff, decide_eq_true_eq, decide_eq_false_iff_not, Bool.not_eq_true', Bool.not_eq_false', ne_eq, Decidable.not_not, Int.not_lt, Int.not_le] at h14)
        have hk3 : k = xs.length := by omega
        refine tr_exit ?_
        refine pe_then_exit ?_
        refine pe_then_exit ?_
        refine pe_block_eq ?_
        refine pe_then_normal ?_
        refine tr_sub hC .nil .nil rfl ?_
        refine tr_seq ?_
        refine tr_region (fun N8 hN => ?_)
        refine lx (op_assign rfl) rfl ?_
        refine lx_end ⟨by kernel_rfl, ?_⟩
        refine pe_then_normal ?_
        refine tr_sub hC (.cons (t := 4) rfl .nil) .nil rfl ?_
        refine tr_ret ?_
        refine pe_ret1 rfl hO rfl (.tmp rfl .nil) ?_
        exact entB (decide_eq_true (by rw [hk3, List.take_of_length_le (Nat.le_refl _), List.take_of_length_le (by omega)] at hk2; exact hk2)).symm

theorem same_ok (a b : Sy) (hx : a.readers.length ≤ 1000000) : FnP Try.prog 13 [aggP a.ps, aggP b.ps] (eqP (.bool (decide (a = b)))) := by
  refine fn_pure' Try.func13 rfl Try.ntmps13 rfl ?_
  intro σ0 M ex Rf R hC hO
  simp only [frameOf, tokOf]
  refine tr_seq ?_
  refine tr_region (fun N0 hN => ?_)
  refine lxn (op_box (m := 2) (k := 2) rfl (.agg rfl) (by first | exact hC.low _ (by decide) | rfl)) rfl ?_
  refine lxn (op_box (m := 3) (k := 3) rfl (.agg rfl) (by first | exact hC.low _ (by decide) | rfl)) rfl ?_
  refine lx (op_assign rfl) rfl ?_
  refine lx_end ⟨by kernel_rfl, ?_⟩
  refine pe_then_normal ?_
  refine tr_sub hC (.cons (t := 2) rfl (.cons (t := 3) rfl .nil)) (.cons (t := 2) rfl (.cons (t := 3) rfl .nil)) rfl ?_
  refine tr_seq ?_
  refine tr_region (fun N1 hN => ?_)
  refine lx (op_fieldAddr rfl fl24_0 sz3) rfl ?_
  refine lx (op_bload_one (m := 2) rfl rfl ag3 rfl) rfl ?_
  refine lx (op_fieldAddr rfl fl24_0 sz3) rfl ?_
  refine lx (op_bload_one (m := 3) rfl rfl ag3 rfl) rfl ?_
  refine lx (op_eql rfl rfl) rfl ?_
  refine lx (op_move rfl) rfl ?_
  refine lxs rfl rfl rfl guard_eq (.cons (t := 2) rfl (fun _ => Ent.refl _) .nil) (op_fieldAddr rfl fl24_1 sz3) rfl ?_
  refine lxs rfl rfl rfl guard_eq (.cons (t := 11) rfl (fun h => entW h) .nil) (op_bload_one (m := 2) rfl rfl ag3 rfl) rfl ?_
  refine lxs rfl rfl rfl guard_eq (.cons (t := 3) rfl (fun _ => Ent.refl _) .nil) (op_fieldAddr rfl fl24_1 sz3) rfl ?_
  refine lxs rfl rfl rfl guard_eq (.cons (t := 13) rfl (fun h => entW h) .nil) (op_bload_one (m := 3) rfl rfl ag3 rfl) rfl ?_
  refine lxs rfl rfl rfl guard_eq (.cons (t := 12) rfl (fun h => entW h) (.cons (t := 14) rfl (fun h => entW h) .nil)) (op_eql rfl rfl) rfl ?_
  refine lx (op_pick_and rfl rfl) rfl ?_
  refine lx (op_move rfl) rfl ?_
  refine lxs rfl rfl rfl guard_eq (.cons (t := 2) rfl (fun _ => Ent.refl _) .nil) (op_fieldAddr rfl fl24_2 sz3) rfl ?_
  refine lxs rfl rfl rfl guard_eq (.cons (t := 18) rfl (fun h => entW h) .nil) (op_bload_one (m := 2) rfl rfl ag3 rfl) rfl ?_
  refine lxs rfl rfl rfl guard_eq (.cons (t := 3) rfl (fun _ => Ent.refl _) .nil) (op_fieldAddr rfl fl24_2 sz3) rfl ?_
  refine lxs rfl rfl rfl guard_eq (.cons (t := 20) rfl (fun h => entW h) .nil) (op_bload_one (m := 3) rfl rfl ag3 rfl) rfl ?_
  refine lxs rfl rfl rfl guard_eq (.cons (t := 19) rfl (fun h => entW h) (.cons (t := 21) rfl (fun h => entW h) .nil)) (op_eql rfl rfl) rfl ?_
  refine lx (op_pick_and rfl rfl) rfl ?_
  refine lx (op_move rfl) rfl ?_
  refine lxs rfl rfl rfl guard_eq (.cons (t := 2) rfl (fun _ => Ent.refl _) .nil) (op_fieldAddr rfl fl24_3 sz3) rfl ?_
  refine lxs rfl rfl rfl guard_eq (.cons (t := 25) rfl (fun h => entW h) .nil) (op_bload_one (m := 2) rfl rfl ag3 rfl) rfl ?_
  refine lxs rfl rfl rfl guard_eq (.cons (t := 3) rfl (fun _ => Ent.refl _) .nil) (op_fieldAddr rfl fl24_3 sz3) rfl ?_
  refine lxs rfl rfl rfl guard_eq (.cons (t := 27) rfl (fun h => entW h) .nil) (op_bload_one (m := 3) rfl rfl ag3 rfl) rfl ?_
  refine lxs rfl rfl rfl guard_eq (.cons (t := 26) rfl (fun h => entW h) (.cons (t := 28) rfl (fun h => entW h) .nil)) (op_eql rfl rfl) rfl ?_
  refine lx (op_pick_and rfl rfl) rfl ?_
  refine lx (op_move rfl) rfl ?_
  refine lxs rfl rfl rfl guard_eq (.cons (t := 2) rfl (fun _ => Ent.refl _) .nil) (op_fieldAddr rfl fl24_5 sz3) rfl ?_
  refine lxs rfl rfl rfl guard_eq (.cons (t := 32) rfl (fun h => entW h) .nil) (op_bload_one (m := 2) rfl rfl ag3 rfl) rfl ?_
  refine lxs rfl rfl rfl guard_eq (.cons (t := 3) rfl (fun _ => Ent.refl _) .nil) (op_fieldAddr rfl fl24_5 sz3) rfl ?_
  refine lxs rfl rfl rfl guard_eq (.cons (t := 34) rfl (fun h => entW h) .nil) (op_bload_one (m := 3) rfl rfl ag3 rfl) rfl ?_
  refine lxs rfl rfl rfl guard_eq (.cons (t := 33) rfl (fun h => entW h) (.cons (t := 35) rfl (fun h => entW h) .nil)) (op_eql rfl rfl) rfl ?_
  refine lx (op_pick_and rfl rfl) rfl ?_
  refine lx (op_move rfl) rfl ?_
  refine lxs rfl rfl rfl guard_eq (.cons (t := 2) rfl (fun _ => Ent.refl _) .nil) (op_fieldAddr rfl fl24_4 sz22) rfl ?_
  refine lxs rfl rfl rfl guard_eq (.cons (t := 39) rfl (fun h => entW h) .nil) (op_bload_one (m := 2) rfl rfl ag22 rfl) rfl ?_
  refine lxs rfl rfl rfl guard_eq (.cons (t := 3) rfl (fun _ => Ent.refl _) .nil) (op_fieldAddr rfl fl24_4 sz22) rfl ?_
  refine lxs rfl rfl rfl guard_eq (.cons (t := 41) rfl (fun h => entW h) .nil) (op_bload_one (m := 3) rfl rfl ag22 rfl) rfl ?_
  first | refine lxs rfl rfl rfl guard_eq (.cons (t := 40) rfl (fun h => entW h) (.cons (t := 42) rfl (fun h => entW h) .nil)) (op_call (l := [(Go.Operand.tmp 40), (Go.Operand.tmp 42)]) (ints_ok a.readers b.readers hx) (.cons rfl (.cons rfl .nil)) fn28) rfl ?_ | refine lxs rfl rfl rfl guard_eq (.cons (t := 40) rfl (fun h => entW h) (.cons (t := 42) rfl (fun h => entW h) .nil)) (op_call (l := [(Go.Operand.tmp 40), (Go.Operand.tmp 42)]) (ints_ok a.readers b.readers hx) (.ent rfl (by repeat (first | exact Ent.refl _ | exact Ents.nil | exact Ent.nil _ _ | exact Ent.row _ _ _ _ | exact Ent.func _ | refine Ents.cons ?_ ?_ | refine Ent.tup ?_ | refine Ent.agg ?_ | refine Ent.cells ?_ | exact Ent.of_eq rfl)) (.ent rfl (by repeat (first | exact Ent.refl _ | exact Ents.nil | exact Ent.nil _ _ | exact Ent.row _ _ _ _ | exact Ent.func _ | refine Ents.cons ?_ ?_ | refine Ent.tup ?_ | refine Ent.agg ?_ | refine Ent.cells ?_ | exact Ent.of_eq rfl)) .nil)) fn28) rfl ?_
  refine lx (op_pick_and rfl rfl) rfl ?_
  refine lx (op_assign rfl) rfl ?_
  refine lx_end ⟨by kernel_rfl, ?_⟩
  refine pe_then_normal ?_
  refine tr_sub hC (.cons (t := 4) rfl .nil) .nil rfl ?_
  refine tr_ret ?_
  refine pe_ret1 rfl hO rfl (.tmp rfl .nil) ?_
  exact entB (same_eq a b)

theorem few_ok (s : Sy) : FnP Try.prog 10 [aggP s.ps] (eqP (.bool (decide ((s.readers.length : Int) ≤ 40)))) := by
  refine fn_pure' Try.func10 rfl Try.ntmps10 rfl ?_
  intro σ0 M ex Rf R hC hO
  simp only [frameOf, tokOf]
  refine tr_seq ?_
  refine tr_region (fun N0 hN => ?_)
  refine lxn (op_box (m := 1) (k := 1) rfl (.agg rfl) (by first | exact hC.low _ (by decide) | rfl)) rfl ?_
  refine lx (op_assign rfl) rfl ?_
  refine lx_end ⟨by kernel_rfl, ?_⟩
  refine pe_then_normal ?_
  refine tr_sub hC (.cons (t := 1) rfl .nil) (.cons (t := 1) rfl .nil) rfl ?_
  refine tr_seq ?_
  refine tr_region (fun N1 hN => ?_)
  refine lx (op_fieldAddr rfl fl24_4 sz22) rfl ?_
  refine lx (op_bload_one (m := 1) rfl rfl ag22 rfl) rfl ?_
  first | refine lx (op_len rfl el22) rfl ?_ | refine lx (op_len_row rfl el22) rfl ?_ | refine lx (op_len_mv rfl el22) rfl ?_
  refine lx (op_leq rfl rfl) rfl ?_
  refine lx (op_assign rfl) rfl ?_
  refine lx_end ⟨by kernel_rfl, ?_⟩
  refine pe_then_normal ?_
  refine tr_sub hC (.cons (t := 2) rfl .nil) .nil rfl ?_
  refine tr_ret ?_
  refine pe_ret1 rfl hO rfl (.tmp rfl .nil) ?_
  repeat (first | exact Ent.refl _ | exact Ents.nil | exact Ent.nil _ _ | exact Ent.row _ _ _ _ | exact Ent.func _ | refine Ents.cons ?_ ?_ | refine Ent.tup ?_ | refine Ent.agg ?_ | refine Ent.cells ?_ | exact Ent.of_eq rfl)

theorem valid_ok (s : Sy) (hx : s.readers.length ≤ 1000000) : FnP Try.prog 14 [aggP s.ps] (eqP (.bool (validF s))) := by
  refine fn_pure' Try.func14 rfl Try.ntmps14 rfl ?_
  intro σ0 M ex Rf R hC hO
  simp only [frameOf, tokOf]
  refine tr_seq ?_
  refine tr_region (fun N0 hN => ?_)
  refine lxn (op_box (m := 1) (k := 1) rfl (.agg rfl) (by first | exact hC.low _ (by decide) | rfl)) rfl ?_
  refine lx (op_assign rfl) rfl ?_
  refine lx_end ⟨by kernel_rfl, ?_⟩
  refine pe_then_normal ?_
  refine tr_sub hC (.cons (t := 1) rfl .nil) (.cons (t := 1) rfl .nil) rfl ?_
  refine tr_seq ?_
  refine tr_seq ?_
  refine tr_region (fun N1 hN => ?_)
  refine lx (op_fieldAddr rfl fl24_2 sz3) rfl ?_
  refine lx (op_bload_one (m := 1) rfl rfl ag3 rfl) rfl ?_
  refine lx (op_neq rfl rfl) rfl ?_
  refine lx (op_move rfl) rfl ?_
  refine lxs rfl rfl rfl guard_eq (.cons (t := 1) rfl (fun _ => Ent.refl _) .nil) (op_fieldAddr rfl fl24_2 sz3) rfl ?_
  refine lxs rfl rfl rfl guard_eq (.cons (t := 7) rfl (fun h => entW h) .nil) (op_bload_one (m := 1) rfl rfl ag3 rfl) rfl ?_
  refine lxs rfl rfl rfl guard_eq (.cons (t := 8) rfl (fun h => entW h) .nil) (op_neq rfl rfl) rfl ?_
  refine lx (op_pick_and rfl rfl) rfl ?_
  refine lx (op_move rfl) rfl ?_
  refine lxs rfl rfl rfl guard_eq (.cons (t := 1) rfl (fun _ => Ent.refl _) .nil) (op_fieldAddr rfl fl24_0 sz3) rfl ?_
  refine lxs rfl rfl rfl guard_eq (.cons (t := 12) rfl (fun h => entW h) .nil) (op_bload_one (m := 1) rfl rfl ag3 rfl) rfl ?_
  refine lxs rfl rfl rfl guard_eq (.cons (t := 1) rfl (fun _ => Ent.refl _) .nil) (op_fieldAddr rfl fl24_1 sz3) rfl ?_
  refine lxs rfl rfl rfl guard_eq (.cons (t := 14) rfl (fun h => entW h) .nil) (op_bload_one (m := 1) rfl rfl ag3 rfl) rfl ?_
  refine lxs rfl rfl rfl guard_eq (.cons (t := 13) rfl (fun h => entW h) (.cons (t := 15) rfl (fun h => entW h) .nil)) (op_min rfl rfl) rfl ?_
  refine lxs rfl rfl rfl guard_eq (.cons (t := 16) rfl (fun h => entW h) .nil) (op_lss rfl rfl) rfl ?_
  refine lx (op_pick_or rfl rfl) rfl ?_
  refine lx (op_move rfl) rfl ?_
  refine lxs rfl rfl rfl guard_eq (.cons (t := 1) rfl (fun _ => Ent.refl _) .nil) (op_fieldAddr rfl fl24_5 sz3) rfl ?_
  refine lxs rfl rfl rfl guard_eq (.cons (t := 20) rfl (fun h => entW h) .nil) (op_bload_one (m := 1) rfl rfl ag3 rfl) rfl ?_
  refine lxs rfl rfl rfl guard_eq (.cons (t := 21) rfl (fun h => entW h) .nil) (op_neq rfl rfl) rfl ?_
  refine lx (op_pick_or rfl rfl) rfl ?_
  refine lx (op_move rfl) rfl ?_
  refine lxs rfl rfl rfl guard_eq (.cons (t := 1) rfl (fun _ => Ent.refl _) .nil) (op_fieldAddr rfl fl24_3 sz3) rfl ?_
  refine lxs rfl rfl rfl guard_eq (.cons (t := 25) rfl (fun h => entW h) .nil) (op_bload_one (m := 1) rfl rfl ag3 rfl) rfl ?_
  refine lxs rfl rfl rfl guard_eq (.cons (t := 26) rfl (fun h => entW h) .nil) (op_neq rfl rfl) rfl ?_
  refine lxs rfl rfl rfl guard_eq (.cons (t := 27) rfl (fun h => entW h) .nil) (op_move rfl) rfl ?_
  refine lxs rfl rfl rfl guard_w (.cons (t := 1) rfl (fun _ => Ent.refl _) .nil) (op_fieldAddr rfl fl24_3 sz3) rfl ?_
  refine lxs rfl rfl rfl guard_w (.cons (t := 29) rfl (fun h => entW h) .nil) (op_bload_one (m := 1) rfl rfl ag3 rfl) rfl ?_
  first | refine lxs rfl rfl rfl guard_w (.cons (t := 30) rfl (fun h => entW h) .nil) (op_call (l := [(Go.Operand.tmp 30)]) (goro_ok _) (.cons rfl .nil) fn29) rfl ?_ | refine lxs rfl rfl rfl guard_w (.cons (t := 30) rfl (fun h => entW h) .nil) (op_call (l := [(Go.Operand.tmp 30)]) (goro_ok _) (.ent rfl (by repeat (first | exact Ent.refl _ | exact Ents.nil | exact Ent.nil _ _ | exact Ent.row _ _ _ _ | exact Ent.func _ | refine Ents.cons ?_ ?_ | refine Ent.tup ?_ | refine Ent.agg ?_ | refine Ent.cells ?_ | exact Ent.of_eq rfl)) .nil) fn29) rfl ?_
  first | refine lxs rfl rfl rfl guard_w (.cons (t := 31) rfl (fun h => entW h) .nil) (op_not rfl) rfl ?_ | refine lxs rfl rfl rfl guard_w (.cons (t := 31) rfl (fun h => entW h) .nil) (op_not_b rfl) rfl ?_
  refine lxs rfl rfl rfl guard_eq (.cons (t := 28) rfl (fun h => entW h) (.cons (t := 32) rfl (fun h => entS h) .nil)) (op_pick_and rfl rfl) rfl ?_
  refine lx (op_pick_or rfl rfl) rfl ?_
  refine lx_end ⟨by kernel_rfl, ?_⟩
  refine pe_then_normal ?_
  refine tr_sub hC (.cons (t := 1) rfl (.cons (t := 34) rfl .nil)) (.cons (t := 1) rfl .nil) rfl ?_
  refine tr_cond rfl (fun h34 => ?_) (fun h34 => ?_)
  · (try simp only [Bool.and_eq_true, Bool.or_eq_true, Bool.and_eq_false_iff, Bool.or_eq_false_iff, decide_eq_true_eq, decide_eq_false_iff_not, Bool.not_eq_true', Bool.not_eq_false', ne_eq, Decidable.not_not, Int.not_lt, Int.not_le] at h34)
    refine tr_seq ?_
    refine tr_region (fun N2 hN => ?_)
    refine lx (op_assign rfl) rfl ?_
    refine lx_end ⟨by kernel_rfl, ?_⟩
    refine pe_then_normal ?_
    refine tr_sub hC (.cons (t := 2) rfl .nil) .nil rfl ?_
    refine tr_ret ?_
    refine pe_then_ret ?_
    refine pe_ret1 rfl hO rfl (.tmp rfl .nil) ?_
    exact entB (validF_no (by simp only [headOK, goro] at h34 ⊢; first | omega | (simp at h34; omega))).symm
  · (try simp only [Bool.and_eq_true, Bool.or_eq_true, Bool.and_eq_false_iff, Bool.or_eq_false_iff, decide_eq_true_eq, decide_eq_false_iff_not, Bool.not_eq_true', Bool.not_eq_false', ne_eq, Decidable.not_not, Int.not_lt, Int.not_le] at h34)
    refine tr_skip ?_
    refine pe_then_normal ?_
    refine tr_sub hC (.cons (t := 1) rfl .nil) (.cons (t := 1) rfl .nil) rfl ?_
    refine tr_seq ?_
    refine tr_seq ?_
    refine tr_region (fun N3 hN => ?_)
    refine lx (op_fieldAddr rfl fl24_4 sz22) rfl ?_
    refine lx (op_bload_one (m := 1) rfl rfl ag22 rfl) rfl ?_
    first | refine lx (op_len rfl el22) rfl ?_ | refine lx (op_len_row rfl el22) rfl ?_ | refine lx (op_len_mv rfl el22) rfl ?_
    refine lx (op_gtr rfl rfl) rfl ?_
    refine lx (op_move rfl) rfl ?_
    refine lxs rfl rfl rfl guard_eq (.cons (t := 1) rfl (fun _ => Ent.refl _) .nil) (op_fieldAddr rfl fl24_2 sz3) rfl ?_
    refine lxs rfl rfl rfl guard_eq (.cons (t := 40) rfl (fun h => entW h) .nil) (op_bload_one (m := 1) rfl rfl ag3 rfl) rfl ?_
    refine lxs rfl rfl rfl guard_eq (.cons (t := 41) rfl (fun h => entW h) .nil) (op_eql rfl rfl) rfl ?_
    refine lxs rfl rfl rfl guard_eq (.cons (t := 42) rfl (fun h => entW h) .nil) (op_move rfl) rfl ?_
    refine lxs rfl rfl rfl guard_w (.cons (t := 1) rfl (fun _ => Ent.refl _) .nil) (op_fieldAddr rfl fl24_3 sz3) rfl ?_
    refine lxs rfl rfl rfl guard_w (.cons (t := 44) rfl (fun h => entW h) .nil) (op_bload_one (m := 1) rfl rfl ag3 rfl) rfl ?_
    refine lxs rfl rfl rfl guard_w (.cons (t := 45) rfl (fun h => entW h) .nil) (op_neq rfl rfl) rfl ?_
    refine lxs rfl rfl rfl guard_eq (.cons (t := 43) rfl (fun h => entW h) (.cons (t := 46) rfl (fun h => entS h) .nil)) (op_pick_or rfl rfl) rfl ?_
    refine lx (op_pick_and rfl rfl) rfl ?_
    refine lx_end ⟨by kernel_rfl, ?_⟩
    refine pe_then_normal ?_
    refine tr_sub hC (.cons (t := 1) rfl (.cons (t := 48) rfl .nil)) (.cons (t := 1) rfl .nil) rfl ?_
    refine tr_cond rfl (fun h48 => ?_) (fun h48 => ?_)
    · (try simp only [Bool.and_eq_true, Bool.or_eq_true, Bool.and_eq_false_iff, Bool.or_eq_false_iff, decide_eq_true_eq, decide_eq_false_iff_not, Bool.not_eq_true', Bool.not_eq_false', ne_eq, Decidable.not_not, Int.not_lt, Int.not_le] at h48)
      refine tr_seq ?_
      refine tr_region (fun N4 hN => ?_)
      refine lx (op_assign rfl) rfl ?_
      refine lx_end ⟨by kernel_rfl, ?_⟩
      refine pe_then_normal ?_
      refine tr_sub hC (.cons (t := 2) rfl .nil) .nil rfl ?_
      refine tr_ret ?_
      refine pe_then_ret ?_
      refine pe_ret1 rfl hO rfl (.tmp rfl .nil) ?_
      exact entB (validF_no2 (by simp only [sharedOK] at h48 ⊢; first | omega | (simp at h48; omega))).symm
    · (try simp only [Bool.and_eq_true, Bool.or_eq_true, Bool.and_eq_false_iff, Bool.or_eq_false_iff, decide_eq_true_eq, decide_eq_false_iff_not, Bool.not_eq_true', Bool.not_eq_false', ne_eq, Decidable.not_not, Int.not_lt, Int.not_le] at h48)
      refine tr_skip ?_
      refine pe_then_normal ?_
      refine tr_sub hC (.cons (t := 1) rfl .nil) (.cons (t := 1) rfl .nil) rfl ?_
      refine tr_seq ?_
      refine tr_region (fun N5 hN => ?_)
      refine lx (op_fieldAddr rfl fl24_4 sz22) rfl ?_
      refine lx (op_bload_one (m := 1) rfl rfl ag22 rfl) rfl ?_
      first | refine lx (op_call (l := [(Go.Operand.tmp 50), (Go.Operand.func 31)]) (contains_ok 31 _ notg_ok fn31 s.readers hx) (.cons rfl (.cons rfl .nil)) fn30) rfl ?_ | refine lx (op_call (l := [(Go.Operand.tmp 50), (Go.Operand.func 31)]) (contains_ok 31 _ notg_ok fn31 s.readers hx) (.ent rfl (by repeat (first | exact Ent.refl _ | exact Ents.nil | exact Ent.nil _ _ | exact Ent.row _ _ _ _ | exact Ent.func _ | refine Ents.cons ?_ ?_ | refine Ent.tup ?_ | refine Ent.agg ?_ | refine Ent.cells ?_ | exact Ent.of_eq rfl)) (.ent rfl (by repeat (first | exact Ent.refl _ | exact Ents.nil | exact Ent.nil _ _ | exact Ent.row _ _ _ _ | exact Ent.func _ | refine Ents.cons ?_ ?_ | refine Ent.tup ?_ | refine Ent.agg ?_ | refine Ent.cells ?_ | exact Ent.of_eq rfl)) .nil)) fn30) rfl ?_
      first | refine lx (op_not rfl) rfl ?_ | refine lx (op_not_b rfl) rfl ?_
      refine lx (op_assign rfl) rfl ?_
      refine lx_end ⟨by kernel_rfl, ?_⟩
      refine pe_then_normal ?_
      refine tr_sub hC (.cons (t := 2) rfl .nil) .nil rfl ?_
      refine tr_ret ?_
      refine pe_ret1 rfl hO rfl (.tmp rfl .nil) ?_
      exact entB (validF_yes (by simp only [headOK, goro] at h34 ⊢; first | omega | (simp at h34; omega)) (by simp only [sharedOK] at h48 ⊢; first | omega | (simp at h48; omega))).symm

theorem rvalid_ok (s : Sy) (hx : s.readers.length ≤ 1000000) : FnP Try.prog 15 [aggP s.ps] (eqP (.bool (validF s))) := by
  refine fn_pure' Try.func15 rfl Try.ntmps15 rfl ?_
  intro σ0 M ex Rf R hC hO
  simp only [frameOf, tokOf]
  refine tr_seq ?_
  refine tr_region (fun N0 hN => ?_)
  refine lxn (op_box (m := 1) (k := 1) rfl (.agg rfl) (by first | exact hC.low _ (by decide) | rfl)) rfl ?_
  refine lx (op_assign rfl) rfl ?_
  refine lx_end ⟨by kernel_rfl, ?_⟩
  refine pe_then_normal ?_
  refine tr_sub hC (.cons (t := 1) rfl .nil) (.cons (t := 1) rfl .nil) rfl ?_
  refine tr_seq ?_
  refine tr_seq ?_
  refine tr_region (fun N1 hN => ?_)
  refine lx (op_fieldAddr rfl fl24_2 sz3) rfl ?_
  refine lx (op_bload_one (m := 1) rfl rfl ag3 rfl) rfl ?_
  refine lx (op_neq rfl rfl) rfl ?_
  refine lx (op_move rfl) rfl ?_
  refine lxs rfl rfl rfl guard_eq (.cons (t := 1) rfl (fun _ => Ent.refl _) .nil) (op_fieldAddr rfl fl24_2 sz3) rfl ?_
  refine lxs rfl rfl rfl guard_eq (.cons (t := 8) rfl (fun h => entW h) .nil) (op_bload_one (m := 1) rfl rfl ag3 rfl) rfl ?_
  refine lxs rfl rfl rfl guard_eq (.cons (t := 9) rfl (fun h => entW h) .nil) (op_neq rfl rfl) rfl ?_
  refine lx (op_pick_and rfl rfl) rfl ?_
  refine lx (op_move rfl) rfl ?_
  refine lxs rfl rfl rfl guard_eq (.cons (t := 1) rfl (fun _ => Ent.refl _) .nil) (op_fieldAddr rfl fl24_0 sz3) rfl ?_
  refine lxs rfl rfl rfl guard_eq (.cons (t := 13) rfl (fun h => entW h) .nil) (op_bload_one (m := 1) rfl rfl ag3 rfl) rfl ?_
  refine lxs rfl rfl rfl guard_eq (.cons (t := 14) rfl (fun h => entW h) .nil) (op_lss rfl rfl) rfl ?_
  refine lx (op_pick_or rfl rfl) rfl ?_
  refine lx (op_move rfl) rfl ?_
  refine lxs rfl rfl rfl guard_eq (.cons (t := 1) rfl (fun _ => Ent.refl _) .nil) (op_fieldAddr rfl fl24_1 sz3) rfl ?_
  refine lxs rfl rfl rfl guard_eq (.cons (t := 18) rfl (fun h => entW h) .nil) (op_bload_one (m := 1) rfl rfl ag3 rfl) rfl ?_
  refine lxs rfl rfl rfl guard_eq (.cons (t := 19) rfl (fun h => entW h) .nil) (op_lss rfl rfl) rfl ?_
  refine lx (op_pick_or rfl rfl) rfl ?_
  refine lx (op_move rfl) rfl ?_
  refine lxs rfl rfl rfl guard_eq (.cons (t := 1) rfl (fun _ => Ent.refl _) .nil) (op_fieldAddr rfl fl24_5 sz3) rfl ?_
  refine lxs rfl rfl rfl guard_eq (.cons (t := 23) rfl (fun h => entW h) .nil) (op_bload_one (m := 1) rfl rfl ag3 rfl) rfl ?_
  refine lxs rfl rfl rfl guard_eq (.cons (t := 24) rfl (fun h => entW h) .nil) (op_neq rfl rfl) rfl ?_
  refine lx (op_pick_or rfl rfl) rfl ?_
  refine lx (op_move rfl) rfl ?_
  refine lxs rfl rfl rfl guard_eq (.cons (t := 1) rfl (fun _ => Ent.refl _) .nil) (op_fieldAddr rfl fl24_3 sz3) rfl ?_
  refine lxs rfl rfl rfl guard_eq (.cons (t := 28) rfl (fun h => entW h) .nil) (op_bload_one (m := 1) rfl rfl ag3 rfl) rfl ?_
  refine lxs rfl rfl rfl guard_eq (.cons (t := 29) rfl (fun h => entW h) .nil) (op_lss rfl rfl) rfl ?_
  refine lx (op_pick_or rfl rfl) rfl ?_
  refine lx (op_move rfl) rfl ?_
  refine lxs rfl rfl rfl guard_eq (.cons (t := 1) rfl (fun _ => Ent.refl _) .nil) (op_fieldAddr rfl fl24_3 sz3) rfl ?_
  refine lxs rfl rfl rfl guard_eq (.cons (t := 33) rfl (fun h => entW h) .nil) (op_bload_one (m := 1) rfl rfl ag3 rfl) rfl ?_
  refine lxs rfl rfl rfl guard_eq (.cons (t := 34) rfl (fun h => entW h) .nil) (op_geq rfl rfl) rfl ?_
  refine lx (op_pick_or rfl rfl) rfl ?_
  refine lx_end ⟨by kernel_rfl, ?_⟩
  refine pe_then_normal ?_
  refine tr_sub hC (.cons (t := 1) rfl (.cons (t := 36) rfl .nil)) (.cons (t := 1) rfl .nil) rfl ?_
  refine tr_cond rfl (fun h36 => ?_) (fun h36 => ?_)
  · (try simp only [Bool.and_eq_true, Bool.or_eq_true, Bool.and_eq_false_iff, Bool.or_eq_false_iff, decide_eq_true_eq, decide_eq_false_iff_not, Bool.not_eq_true', Bool.not_eq_false', ne_eq, Decidable.not_not, Int.not_lt, Int.not_le] at h36)
    refine tr_seq ?_
    refine tr_region (fun N2 hN => ?_)
    refine lx (op_assign rfl) rfl ?_
    refine lx_end ⟨by kernel_rfl, ?_⟩
    refine pe_then_normal ?_
    refine tr_sub hC (.cons (t := 2) rfl .nil) .nil rfl ?_
    refine tr_ret ?_
    refine pe_then_ret ?_
    refine pe_ret1 rfl hO rfl (.tmp rfl .nil) ?_
    exact entB (validF_no (by simp only [headOK] at h36 ⊢; first | omega | (simp at h36; omega))).symm
  · (try simp only [Bool.and_eq_true, Bool.or_eq_true, Bool.and_eq_false_iff, Bool.or_eq_false_iff, decide_eq_true_eq, decide_eq_false_iff_not, Bool.not_eq_true', Bool.not_eq_false', ne_eq, Decidable.not_not, Int.not_lt, Int.not_le] at h36)
    have hh : headOK s := by simp only [headOK] at h36 ⊢; first | omega | (simp at h36; omega)
    refine tr_skip ?_
    refine pe_then_normal ?_
    refine tr_sub hC (.cons (t := 1) rfl .nil) (.cons (t := 1) rfl .nil) rfl ?_
    refine tr_seq ?_
    refine tr_seq ?_
    refine tr_region (fun N3 hN => ?_)
    refine lx (op_fieldAddr rfl fl24_4 sz22) rfl ?_
    refine lx (op_bload_one (m := 1) rfl rfl ag22 rfl) rfl ?_
    first | refine lx (op_len rfl el22) rfl ?_ | refine lx (op_len_row rfl el22) rfl ?_ | refine lx (op_len_mv rfl el22) rfl ?_
    refine lx (op_gtr rfl rfl) rfl ?_
    refine lx (op_move rfl) rfl ?_
    refine lxs rfl rfl rfl guard_eq (.cons (t := 1) rfl (fun _ => Ent.refl _) .nil) (op_fieldAddr rfl fl24_2 sz3) rfl ?_
    refine lxs rfl rfl rfl guard_eq (.cons (t := 42) rfl (fun h => entW h) .nil) (op_bload_one (m := 1) rfl rfl ag3 rfl) rfl ?_
    refine lxs rfl rfl rfl guard_eq (.cons (t := 43) rfl (fun h => entW h) .nil) (op_eql rfl rfl) rfl ?_
    refine lxs rfl rfl rfl guard_eq (.cons (t := 44) rfl (fun h => entW h) .nil) (op_move rfl) rfl ?_
    refine lxs rfl rfl rfl guard_w (.cons (t := 1) rfl (fun _ => Ent.refl _) .nil) (op_fieldAddr rfl fl24_3 sz3) rfl ?_
    refine lxs rfl rfl rfl guard_w (.cons (t := 46) rfl (fun h => entW h) .nil) (op_bload_one (m := 1) rfl rfl ag3 rfl) rfl ?_
    refine lxs rfl rfl rfl guard_w (.cons (t := 47) rfl (fun h => entW h) .nil) (op_geq rfl rfl) rfl ?_
    refine lxs rfl rfl rfl guard_eq (.cons (t := 45) rfl (fun h => entW h) (.cons (t := 48) rfl (fun h => entS h) .nil)) (op_pick_or rfl rfl) rfl ?_
    refine lx (op_pick_and rfl rfl) rfl ?_
    refine lx_end ⟨by kernel_rfl, ?_⟩
    refine pe_then_normal ?_
    refine tr_sub hC (.cons (t := 1) rfl (.cons (t := 50) rfl .nil)) (.cons (t := 1) rfl .nil) rfl ?_
    refine tr_cond rfl (fun h50 => ?_) (fun h50 => ?_)
    · (try simp only [Bool.and_eq_true, Bool.or_eq_true, Bool.and_eq_false_iff, Bool.or_eq_false_iff, decide_eq_true_eq, decide_eq_false_iff_not, Bool.not_eq_true', Bool.not_eq_false', ne_eq, Decidable.not_not, Int.not_lt, Int.not_le] at h50)
      refine tr_seq ?_
      refine tr_region (fun N4 hN => ?_)
      refine lx (op_assign rfl) rfl ?_
      refine lx_end ⟨by kernel_rfl, ?_⟩
      refine pe_then_normal ?_
      refine tr_sub hC (.cons (t := 2) rfl .nil) .nil rfl ?_
      refine tr_ret ?_
      refine pe_then_ret ?_
      refine pe_ret1 rfl hO rfl (.tmp rfl .nil) ?_
      exact entB (validF_no2 (by simp only [sharedOK] at h50 ⊢; first | omega | (simp at h50; omega))).symm
    · (try simp only [Bool.and_eq_true, Bool.or_eq_true, Bool.and_eq_false_iff, Bool.or_eq_false_iff, decide_eq_true_eq, decide_eq_false_iff_not, Bool.not_eq_true', Bool.not_eq_false', ne_eq, Decidable.not_not, Int.not_lt, Int.not_le] at h50)
      have hs : sharedOK s := by simp only [sharedOK] at h50 ⊢; simp only [headOK] at hh; first | omega | (simp at h50; omega)
      refine tr_skip ?_
      refine pe_then_normal ?_
      refine tr_sub hC (.cons (t := 1) rfl .nil) (.cons (t := 1) rfl .nil) rfl ?_
      refine tr_seq ?_
      refine tr_seq ?_
      refine tr_region (fun N5 hN => ?_)
      refine lx (op_assign rfl) rfl ?_
      refine lx_end ⟨by kernel_rfl, ?_⟩
      refine pe_then_normal ?_
      refine tr_sub hC (.cons (t := 1) rfl (.cons (t := 3) rfl .nil)) (.cons (t := 1) rfl .nil) rfl ?_
      refine tr_block ?_
      refine tr_loop (α := {k : Nat // k ≤ s.readers.length ∧ (s.readers.take k).all goro = true}) (⟨0, Nat.zero_le _, by simp⟩) (fun x => [(1, ptrP (N0, 1) 0), (3, eqP (.int .i64 (x.1 : Int)))]) (fun x => [(1, some ((N0, 1), blk 24 s.ps))]) (fun x => s.readers.length - x.1) (pe_st hC ?_ ?_ rfl) (fun x => ?_)
      · try dsimp only
        first | refine SubF.cons rfl ?_ | (refine SubF.ent rfl ?_ ?_; · repeat (first | exact Ent.refl _ | exact Ents.nil | exact Ent.nil _ _ | exact Ent.row _ _ _ _ | exact Ent.func _ | refine Ents.cons ?_ ?_ | refine Ent.tup ?_ | refine Ent.agg ?_ | refine Ent.cells ?_ | exact Ent.of_eq rfl))
        first | refine SubF.cons rfl ?_ | (refine SubF.ent rfl ?_ ?_; · repeat (first | exact Ent.refl _ | exact Ents.nil | exact Ent.nil _ _ | exact Ent.row _ _ _ _ | exact Ent.func _ | refine Ents.cons ?_ ?_ | refine Ent.tup ?_ | refine Ent.agg ?_ | refine Ent.cells ?_ | exact Ent.of_eq rfl))
        exact SubF.nil
      · try dsimp only
        repeat (first | exact SubL.nil | refine SubL.cons rfl ?_)
      · obtain ⟨k, hk1, hk2⟩ := x
        dsimp only
        refine tr_seq ?_
        refine tr_seq ?_
        refine tr_region (fun N6 hN => ?_)
        refine lx (op_move rfl) rfl ?_
        refine lx (op_fieldAddr rfl fl24_4 sz22) rfl ?_
        refine lx (op_bload_one (m := 1) rfl rfl ag22 rfl) rfl ?_
        first | refine lx (op_len rfl el22) rfl ?_ | refine lx (op_len_row rfl el22) rfl ?_ | refine lx (op_len_mv rfl el22) rfl ?_
        refine lx (op_lss rfl rfl) rfl ?_
        refine lx_end ⟨by kernel_rfl, ?_⟩
        refine pe_then_normal ?_
        refine tr_sub hC (.cons (t := 1) rfl (.cons (t := 3) rfl (.cons (t := 55) rfl .nil))) (.cons (t := 1) rfl .nil) rfl ?_
        refine tr_cond rfl (fun h55 => ?_) (fun h55 => ?_)
        · (try simp only [Bool.and_eq_true, Bool.or_eq_true, Bool.and_eq_false_iff, Bool.or_eq_false_iff, decide_eq_true_eq, decide_eq_false_iff_not, Bool.not_eq_true', Bool.not_eq_false', ne_eq, Decidable.not_not, Int.not_lt, Int.not_le] at h55)
          refine tr_skip ?_
          refine pe_then_normal ?_
          refine tr_sub hC (.cons (t := 1) rfl (.cons (t := 3) rfl .nil)) (.cons (t := 1) rfl .nil) rfl ?_
          refine tr_seq ?_
          refine tr_block ?_
          refine tr_seq ?_
          refine tr_region (fun N8 hN => ?_)
          refine lx (op_fieldAddr rfl fl24_4 sz22) rfl ?_
          refine lx (op_bload_one (m := 1) rfl rfl ag22 rfl) rfl ?_
          refine lx (op_move rfl) rfl ?_
          refine lx (op_index rfl rfl el22 sz3 rfl (List.getElem?_eq_getElem (by omega : k < s.readers.length))) rfl ?_
          first | refine lx (op_load_one rfl ag3 rfl) rfl ?_ | refine lx (op_bload_one (m := 1) rfl rfl ag3 rfl) rfl ?_
          refine lx (op_lss rfl rfl) rfl ?_
          refine lx (op_move rfl) rfl ?_
          refine lxs rfl rfl rfl guard_eq (.cons (t := 1) rfl (fun _ => Ent.refl _) .nil) (op_fieldAddr rfl fl24_4 sz22) rfl ?_
          refine lxs rfl rfl rfl guard_eq (.cons (t := 65) rfl (fun h => entW h) .nil) (op_bload_one (m := 1) rfl rfl ag22 rfl) rfl ?_
          refine lxs rfl rfl rfl guard_eq (.cons (t := 3) rfl (fun _ => Ent.refl _) .nil) (op_move rfl) rfl ?_
          refine lxs rfl rfl rfl guard_eq (.cons (t := 66) rfl (fun h => entW h) (.cons (t := 67) rfl (fun h => entW h) .nil)) (op_index rfl rfl el22 sz3 rfl (List.getElem?_eq_getElem (by omega : k < s.readers.length))) rfl ?_
          first | refine lxs rfl rfl rfl guard_eq (.cons (t := 68) rfl (fun h => entW h) .nil) (op_load_one rfl ag3 rfl) rfl ?_ | refine lxs rfl rfl rfl guard_eq (.cons (t := 68) rfl (fun h => entW h) .nil) (op_bload_one (m := 1) rfl rfl ag3 rfl) rfl ?_
          refine lxs rfl rfl rfl guard_eq (.cons (t := 69) rfl (fun h => entW h) .nil) (op_geq rfl rfl) rfl ?_
          refine lx (op_pick_or rfl rfl) rfl ?_
          refine lx_end ⟨by kernel_rfl, ?_⟩
          refine pe_then_normal ?_
          refine tr_sub hC (.cons (t := 1) rfl (.cons (t := 3) rfl (.cons (t := 71) rfl .nil))) (.cons (t := 1) rfl .nil) rfl ?_
          refine tr_cond rfl (fun h71 => ?_) (fun h71 => ?_)
          · (try simp only [Bool.and_eq_true, Bool.or_eq_true, Bool.and_eq_false_iff, Bool.or_eq_false_iff, decide_eq_true_eq, decide_eq_false_iff_not, Bool.not_eq_true', Bool.not_eq_false', ne_eq, Decidable.not_not, Int.not_lt, Int.not_le] at h71)
            have hbad : goro s.readers[k] = false := by simp only [goro] at h71 ⊢; first | omega | (simp at h71 ⊢; omega)
            refine tr_seq ?_
            refine tr_region (fun N9 hN => ?_)
            refine lx (op_assign rfl) rfl ?_
            refine lx_end ⟨by kernel_rfl, ?_⟩
            refine pe_then_normal ?_
            refine tr_sub hC (.cons (t := 2) rfl .nil) .nil rfl ?_
            refine tr_ret ?_
            refine pe_block_ret ?_
            refine pe_then_ret ?_
            refine pe_then_ret ?_
            refine pe_block_ret ?_
            refine pe_then_ret ?_
            refine pe_ret1 rfl hO rfl (.tmp rfl .nil) ?_
            exact entB (validF_at (by omega) hbad).symm
          · (try simp only [Bool.and_eq_true, Bool.or_eq_true, Bool.and_eq_false_iff, Bool.or_eq_false_iff, decide_eq_true_eq, decide_eq_false_iff_not, Bool.not_eq_true', Bool.not_eq_false', ne_eq, Decidable.not_not, Int.not_lt, Int.not_le] at h71)
            have hgood : goro s.readers[k] = true := by simp only [goro] at h71 ⊢; first | omega | (simp at h71 ⊢; omega)
            refine tr_skip ?_
            refine pe_block_normal ?_
            refine pe_then_normal ?_
            refine tr_sub hC (.cons (t := 1) rfl (.cons (t := 3) rfl .nil)) (.cons (t := 1) rfl .nil) rfl ?_
            refine tr_region (fun N7 hN => ?_)
            refine lx (op_move rfl) rfl ?_
            refine lx (op_add rfl rfl (by omega)) rfl ?_
            refine lx (op_assign rfl) rfl ?_
            refine lx_end ⟨by kernel_rfl, ?_⟩
            refine pe_round (⟨k + 1, by omega, all_step hk2 (by omega) hgood⟩) (by dsimp only; omega) (pe_st hC ?_ ?_ rfl)
            · try dsimp only
              first | refine SubF.cons rfl ?_ | (refine SubF.ent rfl ?_ ?_; · repeat (first | exact Ent.refl _ | exact Ents.nil | exact Ent.nil _ _ | exact Ent.row _ _ _ _ | exact Ent.func _ | refine Ents.cons ?_ ?_ | refine Ent.tup ?_ | refine Ent.agg ?_ | refine Ent.cells ?_ | exact Ent.of_eq rfl))
              first | refine SubF.cons rfl ?_ | (refine SubF.ent rfl ?_ ?_; · repeat (first | exact Ent.refl _ | exact Ents.nil | exact Ent.nil _ _ | exact Ent.row _ _ _ _ | exact Ent.func _ | refine Ents.cons ?_ ?_ | refine Ent.tup ?_ | refine Ent.agg ?_ | refine Ent.cells ?_ | exact Ent.of_eq rfl))
              exact SubF.nil
            · try dsimp only
              repeat (first | exact SubL.nil | refine SubL.cons rfl ?_)
        · (try simp only [Bool.and_eq_true, Bool.or_eq_true, Bool.and_eq_false_iff, Bool.or_eq_false_iff, decide_eq_true_eq, decide_eq_false_iff_not, Bool.not_eq_true', Bool.not_eq_false', ne_eq, Decidable.not_not, Int.not_lt, Int.not_le] at h55)
          have hk3 : k = s.readers.length := by omega
          refine tr_exit ?_
          refine pe_then_exit ?_
          refine pe_then_exit ?_
          refine pe_block_eq ?_
          refine pe_then_normal ?_
          refine tr_sub hC .nil .nil rfl ?_
          refine tr_seq ?_
          refine tr_region (fun N10 hN => ?_)
          refine lx (op_assign rfl) rfl ?_
          refine lx_end ⟨by kernel_rfl, ?_⟩
          refine pe_then_normal ?_
          refine tr_sub hC (.cons (t := 2) rfl .nil) .nil rfl ?_
          refine tr_ret ?_
          refine pe_ret1 rfl hO rfl (.tmp rfl .nil) ?_
          exact entB (by rw [validF_all hh hs]; rwa [hk3, List.take_of_length_le (Nat.le_refl _), eq_comm] at hk2)

theorem canL_ok (s : Sy) : FnP Try.prog 16 [aggP s.ps] (eqP (.bool (canL s))) := by
  refine fn_pure' Try.func16 rfl Try.ntmps16 rfl ?_
  intro σ0 M ex Rf R hC hO
  simp only [frameOf, tokOf]
  refine tr_seq ?_
  refine tr_region (fun N0 hN => ?_)
  refine lxn (op_box (m := 1) (k := 1) rfl (.agg rfl) (by first | exact hC.low _ (by decide) | rfl)) rfl ?_
  refine lx (op_assign rfl) rfl ?_
  refine lx_end ⟨by kernel_rfl, ?_⟩
  refine pe_then_normal ?_
  refine tr_sub hC (.cons (t := 1) rfl .nil) (.cons (t := 1) rfl .nil) rfl ?_
  refine tr_seq ?_
  refine tr_region (fun N1 hN => ?_)
  refine lx (op_fieldAddr rfl fl24_3 sz3) rfl ?_
  refine lx (op_bload_one (m := 1) rfl rfl ag3 rfl) rfl ?_
  refine lx (op_lss rfl rfl) rfl ?_
  refine lx (op_move rfl) rfl ?_
  refine lxs rfl rfl rfl guard_eq (.cons (t := 1) rfl (fun _ => Ent.refl _) .nil) (op_fieldAddr rfl fl24_4 sz22) rfl ?_
  refine lxs rfl rfl rfl guard_eq (.cons (t := 7) rfl (fun h => entW h) .nil) (op_bload_one (m := 1) rfl rfl ag22 rfl) rfl ?_
  first | refine lxs rfl rfl rfl guard_eq (.cons (t := 8) rfl (fun h => entW h) .nil) (op_len rfl el22) rfl ?_ | refine lxs rfl rfl rfl guard_eq (.cons (t := 8) rfl (fun h => entW h) .nil) (op_len_row rfl el22) rfl ?_ | refine lxs rfl rfl rfl guard_eq (.cons (t := 8) rfl (fun h => entW h) .nil) (op_len_mv rfl el22) rfl ?_
  refine lxs rfl rfl rfl guard_eq (.cons (t := 9) rfl (fun h => entW h) .nil) (op_eql rfl rfl) rfl ?_
  refine lx (op_pick_and rfl rfl) rfl ?_
  refine lx (op_assign rfl) rfl ?_
  refine lx_end ⟨by kernel_rfl, ?_⟩
  refine pe_then_normal ?_
  refine tr_sub hC (.cons (t := 2) rfl .nil) .nil rfl ?_
  refine tr_ret ?_
  refine pe_ret1 rfl hO rfl (.tmp rfl .nil) ?_
  exact entB (by simp [canL])

theorem rcanL_ok (s : Sy) : FnP Try.prog 17 [aggP s.ps] (eqP (.bool (canL s))) := by
  refine fn_pure' Try.func17 rfl Try.ntmps17 rfl ?_
  intro σ0 M ex Rf R hC hO
  simp only [frameOf, tokOf]
  refine tr_seq ?_
  refine tr_region (fun N0 hN => ?_)
  refine lxn (op_box (m := 1) (k := 1) rfl (.agg rfl) (by first | exact hC.low _ (by decide) | rfl)) rfl ?_
  refine lx (op_assign rfl) rfl ?_
  refine lx_end ⟨by kernel_rfl, ?_⟩
  refine pe_then_normal ?_
  refine tr_sub hC (.cons (t := 1) rfl .nil) (.cons (t := 1) rfl .nil) rfl ?_
  refine tr_seq ?_
  refine tr_region (fun N1 hN => ?_)
  refine lx (op_fieldAddr rfl fl24_3 sz3) rfl ?_
  refine lx (op_bload_one (m := 1) rfl rfl ag3 rfl) rfl ?_
  refine lx (op_lss rfl rfl) rfl ?_
  refine lx (op_move rfl) rfl ?_
  refine lxs rfl rfl rfl guard_eq (.cons (t := 1) rfl (fun _ => Ent.refl _) .nil) (op_fieldAddr rfl fl24_4 sz22) rfl ?_
  refine lxs rfl rfl rfl guard_eq (.cons (t := 7) rfl (fun h => entW h) .nil) (op_bload_one (m := 1) rfl rfl ag22 rfl) rfl ?_
  first | refine lxs rfl rfl rfl guard_eq (.cons (t := 8) rfl (fun h => entW h) .nil) (op_len rfl el22) rfl ?_ | refine lxs rfl rfl rfl guard_eq (.cons (t := 8) rfl (fun h => entW h) .nil) (op_len_row rfl el22) rfl ?_ | refine lxs rfl rfl rfl guard_eq (.cons (t := 8) rfl (fun h => entW h) .nil) (op_len_mv rfl el22) rfl ?_
  refine lxs rfl rfl rfl guard_eq (.cons (t := 9) rfl (fun h => entW h) .nil) (op_eql rfl rfl) rfl ?_
  refine lx (op_pick_and rfl rfl) rfl ?_
  refine lx (op_assign rfl) rfl ?_
  refine lx_end ⟨by kernel_rfl, ?_⟩
  refine pe_then_normal ?_
  refine tr_sub hC (.cons (t := 2) rfl .nil) .nil rfl ?_
  refine tr_ret ?_
  refine pe_ret1 rfl hO rfl (.tmp rfl .nil) ?_
  exact entB (by simp [canL])

theorem canR_ok (s : Sy) : FnP Try.prog 18 [aggP s.ps] (eqP (.bool (canR s))) := by
  refine fn_pure' Try.func18 rfl Try.ntmps18 rfl ?_
  intro σ0 M ex Rf R hC hO
  simp only [frameOf, tokOf]
  refine tr_seq ?_
  refine tr_region (fun N0 hN => ?_)
  refine lxn (op_box (m := 1) (k := 1) rfl (.agg rfl) (by first | exact hC.low _ (by decide) | rfl)) rfl ?_
  refine lx (op_assign rfl) rfl ?_
  refine lx_end ⟨by kernel_rfl, ?_⟩
  refine pe_then_normal ?_
  refine tr_sub hC (.cons (t := 1) rfl .nil) (.cons (t := 1) rfl .nil) rfl ?_
  refine tr_seq ?_
  refine tr_region (fun N1 hN => ?_)
  refine lx (op_fieldAddr rfl fl24_2 sz3) rfl ?_
  refine lx (op_bload_one (m := 1) rfl rfl ag3 rfl) rfl ?_
  refine lx (op_eql rfl rfl) rfl ?_
  refine lx (op_move rfl) rfl ?_
  refine lxs rfl rfl rfl guard_eq (.cons (t := 1) rfl (fun _ => Ent.refl _) .nil) (op_fieldAddr rfl fl24_3 sz3) rfl ?_
  refine lxs rfl rfl rfl guard_eq (.cons (t := 7) rfl (fun h => entW h) .nil) (op_bload_one (m := 1) rfl rfl ag3 rfl) rfl ?_
  refine lxs rfl rfl rfl guard_eq (.cons (t := 8) rfl (fun h => entW h) .nil) (op_lss rfl rfl) rfl ?_
  refine lx (op_pick_and rfl rfl) rfl ?_
  refine lx (op_assign rfl) rfl ?_
  refine lx_end ⟨by kernel_rfl, ?_⟩
  refine pe_then_normal ?_
  refine tr_sub hC (.cons (t := 2) rfl .nil) .nil rfl ?_
  refine tr_ret ?_
  refine pe_ret1 rfl hO rfl (.tmp rfl .nil) ?_
  exact entB (by simp [canR])

theorem rcanR_ok (s : Sy) : FnP Try.prog 19 [aggP s.ps] (eqP (.bool (canR s))) := by
  refine fn_pure' Try.func19 rfl Try.ntmps19 rfl ?_
  intro σ0 M ex Rf R hC hO
  simp only [frameOf, tokOf]
  refine tr_seq ?_
  refine tr_region (fun N0 hN => ?_)
  refine lxn (op_box (m := 1) (k := 1) rfl (.agg rfl) (by first | exact hC.low _ (by decide) | rfl)) rfl ?_
  refine lx (op_assign rfl) rfl ?_
  refine lx_end ⟨by kernel_rfl, ?_⟩
  refine pe_then_normal ?_
  refine tr_sub hC (.cons (t := 1) rfl .nil) (.cons (t := 1) rfl .nil) rfl ?_
  refine tr_seq ?_
  refine tr_region (fun N1 hN => ?_)
  refine lx (op_fieldAddr rfl fl24_2 sz3) rfl ?_
  refine lx (op_bload_one (m := 1) rfl rfl ag3 rfl) rfl ?_
  refine lx (op_eql rfl rfl) rfl ?_
  refine lx (op_move rfl) rfl ?_
  refine lxs rfl rfl rfl guard_eq (.cons (t := 1) rfl (fun _ => Ent.refl _) .nil) (op_fieldAddr rfl fl24_3 sz3) rfl ?_
  refine lxs rfl rfl rfl guard_eq (.cons (t := 7) rfl (fun h => entW h) .nil) (op_bload_one (m := 1) rfl rfl ag3 rfl) rfl ?_
  refine lxs rfl rfl rfl guard_eq (.cons (t := 8) rfl (fun h => entW h) .nil) (op_lss rfl rfl) rfl ?_
  refine lx (op_pick_and rfl rfl) rfl ?_
  refine lx (op_assign rfl) rfl ?_
  refine lx_end ⟨by kernel_rfl, ?_⟩
  refine pe_then_normal ?_
  refine tr_sub hC (.cons (t := 2) rfl .nil) .nil rfl ?_
  refine tr_ret ?_
  refine pe_ret1 rfl hO rfl (.tmp rfl .nil) ?_
  exact entB (by simp [canR])

theorem check_ok (s : Sy) (g : Int) (p : Bool) (hx : s.readers.length ≤ 1000000) : FnP Try.prog 32 [aggP s.ps, eqP (.int .i64 g), eqP (.bool p)] (eqP (.int .i64 (checkF s g p))) := by
  refine fn_pure' Try.func32 rfl Try.ntmps32 rfl ?_
  intro σ0 M ex Rf R hC hO
  simp only [frameOf, tokOf]
  refine tr_seq ?_
  refine tr_region (fun N0 hN => ?_)
  refine lxn (op_box (m := 3) (k := 3) rfl (.agg rfl) (by first | exact hC.low _ (by decide) | rfl)) rfl ?_
  refine lx (op_assign rfl) rfl ?_
  refine lx_end ⟨by kernel_rfl, ?_⟩
  refine pe_then_normal ?_
  refine tr_sub hC (.cons (t := 1) rfl (.cons (t := 2) rfl (.cons (t := 3) rfl .nil))) (.cons (t := 3) rfl .nil) rfl ?_
  refine tr_seq ?_
  refine tr_block ?_
  refine tr_seq ?_
  refine tr_region (fun N1 hN => ?_)
  first | refine lx (op_bload (m := 3) rfl rfl ag24 sz24) rfl ?_ | refine lx (op_bload_part (m := 3) rfl rfl ag24 sz24 rfl rfl) rfl ?_
  first | refine lx (op_call (l := [(Go.Operand.tmp 8)]) (valid_ok s hx) (.cons rfl .nil) fn14) rfl ?_ | refine lx (op_call (l := [(Go.Operand.tmp 8)]) (valid_ok s hx) (.ent rfl (by repeat (first | exact Ent.refl _ | exact Ents.nil | exact Ent.nil _ _ | exact Ent.row _ _ _ _ | exact Ent.func _ | refine Ents.cons ?_ ?_ | refine Ent.tup ?_ | refine Ent.agg ?_ | refine Ent.cells ?_ | exact Ent.of_eq rfl)) .nil) fn14) rfl ?_
  first | refine lx (op_not rfl) rfl ?_ | refine lx (op_not_b rfl) rfl ?_
  refine lx (op_move rfl) rfl ?_
  refine lxs rfl rfl rfl guard_eq (.cons (t := 1) rfl (fun _ => Ent.refl _) .nil) (op_move rfl) rfl ?_
  first | refine lxs rfl rfl rfl guard_eq (.cons (t := 12) rfl (fun h => entW h) .nil) (op_call (l := [(Go.Operand.tmp 12)]) (goro_ok _) (.cons rfl .nil) fn29) rfl ?_ | refine lxs rfl rfl rfl guard_eq (.cons (t := 12) rfl (fun h => entW h) .nil) (op_call (l := [(Go.Operand.tmp 12)]) (goro_ok _) (.ent rfl (by repeat (first | exact Ent.refl _ | exact Ents.nil | exact Ent.nil _ _ | exact Ent.row _ _ _ _ | exact Ent.func _ | refine Ents.cons ?_ ?_ | refine Ent.tup ?_ | refine Ent.agg ?_ | refine Ent.cells ?_ | exact Ent.of_eq rfl)) .nil) fn29) rfl ?_
  first | refine lxs rfl rfl rfl guard_eq (.cons (t := 13) rfl (fun h => entW h) .nil) (op_not rfl) rfl ?_ | refine lxs rfl rfl rfl guard_eq (.cons (t := 13) rfl (fun h => entW h) .nil) (op_not_b rfl) rfl ?_
  refine lx (op_pick_or rfl rfl) rfl ?_
  refine lx (op_assign rfl) rfl ?_
  refine lx_end ⟨by kernel_rfl, ?_⟩
  refine pe_then_normal ?_
  refine tr_sub hC (.cons (t := 2) rfl (.cons (t := 7) rfl .nil)) .nil rfl ?_
  refine tr_cond rfl (fun h7 => ?_) (fun h7 => ?_)
  · (try simp only [Bool.and_eq_true, Bool.or_eq_true, Bool.and_eq_false_iff, Bool.or_eq_false_iff, decide_eq_true_eq, decide_eq_false_iff_not, Bool.not_eq_true', Bool.not_eq_false', ne_eq, Decidable.not_not, Int.not_lt, Int.not_le] at h7)
    refine tr_seq ?_
    refine tr_region (fun N2 hN => ?_)
    refine lx (op_assign rfl) rfl ?_
    refine lx_end ⟨by kernel_rfl, ?_⟩
    refine pe_then_normal ?_
    refine tr_sub hC (.cons (t := 6) rfl .nil) .nil rfl ?_
    refine tr_ret ?_
    refine pe_block_ret ?_
    refine pe_then_ret ?_
    refine pe_ret1 rfl hO rfl (.tmp rfl .nil) ?_
    exact entI (by simp [checkF, h7])
  · (try simp only [Bool.and_eq_true, Bool.or_eq_true, Bool.and_eq_false_iff, Bool.or_eq_false_iff, decide_eq_true_eq, decide_eq_false_iff_not, Bool.not_eq_true', Bool.not_eq_false', ne_eq, Decidable.not_not, Int.not_lt, Int.not_le] at h7)
    refine tr_seq ?_
    refine tr_region (fun N3 hN => ?_)
    refine lx (op_move rfl) rfl ?_
    first | refine lx (op_not rfl) rfl ?_ | refine lx (op_not_b rfl) rfl ?_
    refine lx (op_assign rfl) rfl ?_
    refine lx_end ⟨by kernel_rfl, ?_⟩
    refine pe_then_normal ?_
    refine tr_sub hC (.cons (t := 16) rfl .nil) .nil rfl ?_
    refine tr_cond rfl (fun h16 => ?_) (fun h16 => ?_)
    · (try simp only [Bool.and_eq_true, Bool.or_eq_true, Bool.and_eq_false_iff, Bool.or_eq_false_iff, decide_eq_true_eq, decide_eq_false_iff_not, Bool.not_eq_true', Bool.not_eq_false', ne_eq, Decidable.not_not, Int.not_lt, Int.not_le] at h16)
      refine tr_seq ?_
      refine tr_region (fun N4 hN => ?_)
      refine lx (op_assign rfl) rfl ?_
      refine lx_end ⟨by kernel_rfl, ?_⟩
      refine pe_then_normal ?_
      refine tr_sub hC (.cons (t := 6) rfl .nil) .nil rfl ?_
      refine tr_ret ?_
      refine pe_block_ret ?_
      refine pe_then_ret ?_
      refine pe_ret1 rfl hO rfl (.tmp rfl .nil) ?_
      exact entI (by simp [checkF, h7, h16])
    · (try simp only [Bool.and_eq_true, Bool.or_eq_true, Bool.and_eq_false_iff, Bool.or_eq_false_iff, decide_eq_true_eq, decide_eq_false_iff_not, Bool.not_eq_true', Bool.not_eq_false', ne_eq, Decidable.not_not, Int.not_lt, Int.not_le] at h16)
      refine tr_skip ?_
      refine pe_block_normal ?_
      refine pe_then_normal ?_
      refine tr_sub hC .nil .nil rfl ?_
      refine tr_seq ?_
      refine tr_region (fun N5 hN => ?_)
      refine lx (op_assign rfl) rfl ?_
      refine lx_end ⟨by kernel_rfl, ?_⟩
      refine pe_then_normal ?_
      refine tr_sub hC (.cons (t := 6) rfl .nil) .nil rfl ?_
      refine tr_ret ?_
      refine pe_ret1 rfl hO rfl (.tmp rfl .nil) ?_
      exact entI (by simp [checkF, h7, h16])

theorem new_ok (kind obj off : Int) : FnP Try.prog 11 [eqP (.int .i64 kind), eqP (.int .i64 obj), eqP (.int .i64 off)] (syE (newF kind obj off)) := by
  refine fn_pure' Try.func11 rfl Try.ntmps11 rfl ?_
  intro σ0 M ex Rf R hC hO
  simp only [frameOf, tokOf]
  refine tr_seq ?_
  refine tr_region (fun N0 hN => ?_)
  refine lxn (op_alloc (m := 6) (k := 6) (ps := zps) ze24 rfl rfl (by first | exact hC.low _ (by decide) | rfl)) rfl ?_
  refine lx (op_assign rfl) rfl ?_
  refine lx_end ⟨by kernel_rfl, ?_⟩
  refine pe_then_normal ?_
  refine tr_sub hC (.cons (t := 0) rfl (.cons (t := 1) rfl (.cons (t := 2) rfl (.cons (t := 6) rfl .nil)))) (.cons (t := 6) rfl .nil) rfl ?_
  refine tr_seq ?_
  refine tr_seq ?_
  refine tr_region (fun N1 hN => ?_)
  refine lx (op_move rfl) rfl ?_
  refine lx (op_neq rfl rfl) rfl ?_
  refine lx (op_move rfl) rfl ?_
  refine lxs rfl rfl rfl guard_eq (.cons (t := 0) rfl (fun _ => Ent.refl _) .nil) (op_move rfl) rfl ?_
  refine lxs rfl rfl rfl guard_eq (.cons (t := 11) rfl (fun h => entW h) .nil) (op_neq rfl rfl) rfl ?_
  refine lx (op_pick_and rfl rfl) rfl ?_
  refine lx (op_move rfl) rfl ?_
  refine lxs rfl rfl rfl guard_eq (.cons (t := 1) rfl (fun _ => Ent.refl _) .nil) (op_move rfl) rfl ?_
  refine lxs rfl rfl rfl guard_eq (.cons (t := 2) rfl (fun _ => Ent.refl _) .nil) (op_move rfl) rfl ?_
  refine lxs rfl rfl rfl guard_eq (.cons (t := 15) rfl (fun h => entW h) (.cons (t := 16) rfl (fun h => entW h) .nil)) (op_min rfl rfl) rfl ?_
  refine lxs rfl rfl rfl guard_eq (.cons (t := 17) rfl (fun h => entW h) .nil) (op_lss rfl rfl) rfl ?_
  refine lx (op_pick_or rfl rfl) rfl ?_
  refine lx_end ⟨by kernel_rfl, ?_⟩
  refine pe_then_normal ?_
  refine tr_sub hC (.cons (t := 0) rfl (.cons (t := 1) rfl (.cons (t := 2) rfl (.cons (t := 6) rfl (.cons (t := 19) rfl .nil))))) (.cons (t := 6) rfl .nil) rfl ?_
  refine tr_cond rfl (fun h19 => ?_) (fun h19 => ?_)
  · (try simp only [Bool.and_eq_true, Bool.or_eq_true, Bool.and_eq_false_iff, Bool.or_eq_false_iff, decide_eq_true_eq, decide_eq_false_iff_not, Bool.not_eq_true', Bool.not_eq_false', ne_eq, Decidable.not_not, Int.not_lt, Int.not_le] at h19)
    refine tr_seq ?_
    refine tr_region (fun N2 hN => ?_)
    refine lx (op_build (parts := []) ze24 rfl rfl fs24 .nil rfl rfl) rfl ?_
    first | refine lxr (op_store_all (m := 6) rfl rfl rfl (.agg rfl) sz24 rfl) rfl ?_ | refine lxr (op_store (m := 6) rfl rfl rfl (.agg rfl) sz24 rfl rfl rfl) rfl ?_
    refine lx (op_assign rfl) rfl ?_
    refine lx_end ⟨by kernel_rfl, ?_⟩
    refine pe_then_normal ?_
    refine tr_sub hC (.cons (t := 6) rfl (.cons (t := 7) rfl .nil)) (.cons (t := 6) rfl .nil) rfl ?_
    refine tr_ret ?_
    refine pe_then_ret ?_
    refine pe_retN (rs := [.cell 6 24, .tmp 7]) rfl rfl hO rfl (.cell (m := 6) rfl rfl ag24 sz24 (.tmp rfl .nil)) ?_
    refine entSy (r := (Sy.zero, 1)) (by dsimp only [syE, Sy.ps, Sy.zero]; repeat (first | exact Ent.refl _ | exact Ents.nil | exact Ent.nil _ _ | exact Ent.row _ _ _ _ | exact Ent.func _ | refine Ents.cons ?_ ?_ | refine Ent.tup ?_ | refine Ent.agg ?_ | refine Ent.cells ?_ | exact Ent.of_eq rfl)) ((newF_no (by first | omega | (simp at h19; omega))).symm)
  · (try simp only [Bool.and_eq_true, Bool.or_eq_true, Bool.and_eq_false_iff, Bool.or_eq_false_iff, decide_eq_true_eq, decide_eq_false_iff_not, Bool.not_eq_true', Bool.not_eq_false', ne_eq, Decidable.not_not, Int.not_lt, Int.not_le] at h19)
    refine tr_skip ?_
    refine pe_then_normal ?_
    refine tr_sub hC (.cons (t := 0) rfl (.cons (t := 1) rfl (.cons (t := 2) rfl (.cons (t := 6) rfl .nil)))) (.cons (t := 6) rfl .nil) rfl ?_
    refine tr_seq ?_
    refine tr_region (fun N3 hN => ?_)
    refine lx (op_move rfl) rfl ?_
    refine lx (op_move rfl) rfl ?_
    refine lx (op_move rfl) rfl ?_
    refine lx (op_build (parts := [(0, (Go.Operand.tmp 21)), (1, (Go.Operand.tmp 22)), (2, (Go.Operand.tmp 23)), (3, (Go.Operand.const (Go.Value.int Go.IntKind.i64 (-1))))]) ze24 rfl rfl fs24 (.cons rfl (.one (by (first | exact One.eq rfl | exact One.mv _ _ _ _ _ | exact One.cl _ _ _ | exact One.sl _ _ _ | exact One.row _ _ _ _ | exact One.msl _ _ _ _ | exact One.ptr _ _ | exact One.b _ | exact One.cells _))) fl24_0 sz3 rfl (.cons rfl (.one (by (first | exact One.eq rfl | exact One.mv _ _ _ _ _ | exact One.cl _ _ _ | exact One.sl _ _ _ | exact One.row _ _ _ _ | exact One.msl _ _ _ _ | exact One.ptr _ _ | exact One.b _ | exact One.cells _))) fl24_1 sz3 rfl (.cons rfl (.one (by (first | exact One.eq rfl | exact One.mv _ _ _ _ _ | exact One.cl _ _ _ | exact One.sl _ _ _ | exact One.row _ _ _ _ | exact One.msl _ _ _ _ | exact One.ptr _ _ | exact One.b _ | exact One.cells _))) fl24_2 sz3 rfl (.cons rfl (.one (by (first | exact One.eq rfl | exact One.mv _ _ _ _ _ | exact One.cl _ _ _ | exact One.sl _ _ _ | exact One.row _ _ _ _ | exact One.msl _ _ _ _ | exact One.ptr _ _ | exact One.b _ | exact One.cells _))) fl24_3 sz3 rfl .nil)))) rfl rfl) rfl ?_
    first | refine lxr (op_store_all (m := 6) rfl rfl rfl (.agg rfl) sz24 rfl) rfl ?_ | refine lxr (op_store (m := 6) rfl rfl rfl (.agg rfl) sz24 rfl rfl rfl) rfl ?_
    refine lx (op_assign rfl) rfl ?_
    refine lx_end ⟨by kernel_rfl, ?_⟩
    refine pe_then_normal ?_
    refine tr_sub hC (.cons (t := 6) rfl (.cons (t := 7) rfl .nil)) (.cons (t := 6) rfl .nil) rfl ?_
    refine tr_ret ?_
    refine pe_retN (rs := [.cell 6 24, .tmp 7]) rfl rfl hO rfl (.cell (m := 6) rfl rfl ag24 sz24 (.tmp rfl .nil)) ?_
    refine entSy (r := (⟨obj, off, kind, -1, [], 0⟩, 0)) (by dsimp only [syE, Sy.ps, Sy.zero]; repeat (first | exact Ent.refl _ | exact Ents.nil | exact Ent.nil _ _ | exact Ent.row _ _ _ _ | exact Ent.func _ | refine Ents.cons ?_ ?_ | refine Ent.tup ?_ | refine Ent.agg ?_ | refine Ent.cells ?_ | exact Ent.of_eq rfl)) ((newF_yes (by first | omega | (simp at h19; omega))).symm)

theorem rnew_ok (kind obj off : Int) : FnP Try.prog 12 [eqP (.int .i64 kind), eqP (.int .i64 obj), eqP (.int .i64 off)] (syE (newF kind obj off)) := by
  refine fn_pure' Try.func12 rfl Try.ntmps12 rfl ?_
  intro σ0 M ex Rf R hC hO
  simp only [frameOf, tokOf]
  refine tr_seq ?_
  refine tr_region (fun N0 hN => ?_)
  refine lxn (op_alloc (m := 6) (k := 6) (ps := zps) ze24 rfl rfl (by first | exact hC.low _ (by decide) | rfl)) rfl ?_
  refine lx (op_assign rfl) rfl ?_
  refine lx_end ⟨by kernel_rfl, ?_⟩
  refine pe_then_normal ?_
  refine tr_sub hC (.cons (t := 0) rfl (.cons (t := 1) rfl (.cons (t := 2) rfl (.cons (t := 6) rfl .nil)))) (.cons (t := 6) rfl .nil) rfl ?_
  refine tr_seq ?_
  refine tr_seq ?_
  refine tr_region (fun N1 hN => ?_)
  refine lx (op_move rfl) rfl ?_
  refine lx (op_neq rfl rfl) rfl ?_
  refine lx (op_move rfl) rfl ?_
  refine lxs rfl rfl rfl guard_eq (.cons (t := 0) rfl (fun _ => Ent.refl _) .nil) (op_move rfl) rfl ?_
  refine lxs rfl rfl rfl guard_eq (.cons (t := 11) rfl (fun h => entW h) .nil) (op_neq rfl rfl) rfl ?_
  refine lx (op_pick_and rfl rfl) rfl ?_
  refine lx (op_move rfl) rfl ?_
  refine lxs rfl rfl rfl guard_eq (.cons (t := 1) rfl (fun _ => Ent.refl _) .nil) (op_move rfl) rfl ?_
  refine lxs rfl rfl rfl guard_eq (.cons (t := 15) rfl (fun h => entW h) .nil) (op_lss rfl rfl) rfl ?_
  refine lx (op_pick_or rfl rfl) rfl ?_
  refine lx (op_move rfl) rfl ?_
  refine lxs rfl rfl rfl guard_eq (.cons (t := 2) rfl (fun _ => Ent.refl _) .nil) (op_move rfl) rfl ?_
  refine lxs rfl rfl rfl guard_eq (.cons (t := 19) rfl (fun h => entW h) .nil) (op_lss rfl rfl) rfl ?_
  refine lx (op_pick_or rfl rfl) rfl ?_
  refine lx_end ⟨by kernel_rfl, ?_⟩
  refine pe_then_normal ?_
  refine tr_sub hC (.cons (t := 0) rfl (.cons (t := 1) rfl (.cons (t := 2) rfl (.cons (t := 6) rfl (.cons (t := 21) rfl .nil))))) (.cons (t := 6) rfl .nil) rfl ?_
  refine tr_cond rfl (fun h21 => ?_) (fun h21 => ?_)
  · (try simp only [Bool.and_eq_true, Bool.or_eq_true, Bool.and_eq_false_iff, Bool.or_eq_false_iff, decide_eq_true_eq, decide_eq_false_iff_not, Bool.not_eq_true', Bool.not_eq_false', ne_eq, Decidable.not_not, Int.not_lt, Int.not_le] at h21)
    refine tr_seq ?_
    refine tr_region (fun N2 hN => ?_)
    refine lx (op_build (parts := []) ze24 rfl rfl fs24 .nil rfl rfl) rfl ?_
    first | refine lxr (op_store_all (m := 6) rfl rfl rfl (.agg rfl) sz24 rfl) rfl ?_ | refine lxr (op_store (m := 6) rfl rfl rfl (.agg rfl) sz24 rfl rfl rfl) rfl ?_
    refine lx (op_assign rfl) rfl ?_
    refine lx_end ⟨by kernel_rfl, ?_⟩
    refine pe_then_normal ?_
    refine tr_sub hC (.cons (t := 6) rfl (.cons (t := 7) rfl .nil)) (.cons (t := 6) rfl .nil) rfl ?_
    refine tr_ret ?_
    refine pe_then_ret ?_
    refine pe_retN (rs := [.cell 6 24, .tmp 7]) rfl rfl hO rfl (.cell (m := 6) rfl rfl ag24 sz24 (.tmp rfl .nil)) ?_
    refine entSy (r := (Sy.zero, 1)) (by dsimp only [syE, Sy.ps, Sy.zero]; repeat (first | exact Ent.refl _ | exact Ents.nil | exact Ent.nil _ _ | exact Ent.row _ _ _ _ | exact Ent.func _ | refine Ents.cons ?_ ?_ | refine Ent.tup ?_ | refine Ent.agg ?_ | refine Ent.cells ?_ | exact Ent.of_eq rfl)) ((newF_no (by first | omega | (simp at h21; omega))).symm)
  · (try simp only [Bool.and_eq_true, Bool.or_eq_true, Bool.and_eq_false_iff, Bool.or_eq_false_iff, decide_eq_true_eq, decide_eq_false_iff_not, Bool.not_eq_true', Bool.not_eq_false', ne_eq, Decidable.not_not, Int.not_lt, Int.not_le] at h21)
    refine tr_skip ?_
    refine pe_then_normal ?_
    refine tr_sub hC (.cons (t := 0) rfl (.cons (t := 1) rfl (.cons (t := 2) rfl (.cons (t := 6) rfl .nil)))) (.cons (t := 6) rfl .nil) rfl ?_
    refine tr_seq ?_
    refine tr_region (fun N3 hN => ?_)
    refine lx (op_move rfl) rfl ?_
    refine lx (op_move rfl) rfl ?_
    refine lx (op_move rfl) rfl ?_
    refine lx (op_build (parts := [(0, (Go.Operand.tmp 23)), (1, (Go.Operand.tmp 24)), (2, (Go.Operand.tmp 25)), (3, (Go.Operand.const (Go.Value.int Go.IntKind.i64 (-1))))]) ze24 rfl rfl fs24 (.cons rfl (.one (by (first | exact One.eq rfl | exact One.mv _ _ _ _ _ | exact One.cl _ _ _ | exact One.sl _ _ _ | exact One.row _ _ _ _ | exact One.msl _ _ _ _ | exact One.ptr _ _ | exact One.b _ | exact One.cells _))) fl24_0 sz3 rfl (.cons rfl (.one (by (first | exact One.eq rfl | exact One.mv _ _ _ _ _ | exact One.cl _ _ _ | exact One.sl _ _ _ | exact One.row _ _ _ _ | exact One.msl _ _ _ _ | exact One.ptr _ _ | exact One.b _ | exact One.cells _))) fl24_1 sz3 rfl (.cons rfl (.one (by (first | exact One.eq rfl | exact One.mv _ _ _ _ _ | exact One.cl _ _ _ | exact One.sl _ _ _ | exact One.row _ _ _ _ | exact One.msl _ _ _ _ | exact One.ptr _ _ | exact One.b _ | exact One.cells _))) fl24_2 sz3 rfl (.cons rfl (.one (by (first | exact One.eq rfl | exact One.mv _ _ _ _ _ | exact One.cl _ _ _ | exact One.sl _ _ _ | exact One.row _ _ _ _ | exact One.msl _ _ _ _ | exact One.ptr _ _ | exact One.b _ | exact One.cells _))) fl24_3 sz3 rfl .nil)))) rfl rfl) rfl ?_
    first | refine lxr (op_store_all (m := 6) rfl rfl rfl (.agg rfl) sz24 rfl) rfl ?_ | refine lxr (op_store (m := 6) rfl rfl rfl (.agg rfl) sz24 rfl rfl rfl) rfl ?_
    refine lx (op_assign rfl) rfl ?_
    refine lx_end ⟨by kernel_rfl, ?_⟩
    refine pe_then_normal ?_
    refine tr_sub hC (.cons (t := 6) rfl (.cons (t := 7) rfl .nil)) (.cons (t := 6) rfl .nil) rfl ?_
    refine tr_ret ?_
    refine pe_retN (rs := [.cell 6 24, .tmp 7]) rfl rfl hO rfl (.cell (m := 6) rfl rfl ag24 sz24 (.tmp rfl .nil)) ?_
    refine entSy (r := (⟨obj, off, kind, -1, [], 0⟩, 0)) (by dsimp only [syE, Sy.ps, Sy.zero]; repeat (first | exact Ent.refl _ | exact Ents.nil | exact Ent.nil _ _ | exact Ent.row _ _ _ _ | exact Ent.func _ | refine Ents.cons ?_ ?_ | refine Ent.tup ?_ | refine Ent.agg ?_ | refine Ent.cells ?_ | exact Ent.of_eq rfl)) ((newF_yes (by first | omega | (simp at h21; omega))).symm)

theorem lock_ok  (s : Sy) (g : Int) (hx : s.readers.length ≤ 1000000) : FnP Try.prog 20 [aggP s.ps, eqP (.int .i64 g)] (syE (lockF s g)) := by
  refine fn_pure' Try.func20 rfl Try.ntmps20 rfl ?_
  intro σ0 M ex Rf R hC hO
  simp only [frameOf, tokOf]
  refine tr_seq ?_
  refine tr_region (fun N0 hN => ?_)
  refine lxn (op_box (m := 2) (k := 2) rfl (.agg rfl) (by first | exact hC.low _ (by decide) | rfl)) rfl ?_
  refine lxn (op_alloc (m := 4) (k := 4) (ps := zps) ze24 rfl rfl (by first | exact hC.low _ (by decide) | rfl)) rfl ?_
  refine lx (op_assign rfl) rfl ?_
  refine lx_end ⟨by kernel_rfl, ?_⟩
  refine pe_then_normal ?_
  refine tr_sub hC (.cons (t := 1) rfl (.cons (t := 2) rfl (.cons (t := 4) rfl .nil))) (.cons (t := 2) rfl (.cons (t := 4) rfl .nil)) rfl ?_
  refine tr_seq ?_
  refine tr_seq ?_
  refine tr_drawn mixed (fun N1 hN => ?_)
  first | refine lx (op_bload (m := 2) rfl rfl ag24 sz24) rfl ?_ | refine lx (op_bload_part (m := 2) rfl rfl ag24 sz24 rfl rfl) rfl ?_
  refine lx (op_move rfl) rfl ?_
  first | refine lx (op_bload (m := 2) rfl rfl ag24 sz24) rfl ?_ | refine lx (op_bload_part (m := 2) rfl rfl ag24 sz24 rfl rfl) rfl ?_
  first | refine lx (op_call (l := [(Go.Operand.tmp 9)]) (canL_ok s) (.cons rfl .nil) fn16) rfl ?_ | refine lx (op_call (l := [(Go.Operand.tmp 9)]) (canL_ok s) (.ent rfl (by repeat (first | exact Ent.refl _ | exact Ents.nil | exact Ent.nil _ _ | exact Ent.row _ _ _ _ | exact Ent.func _ | refine Ents.cons ?_ ?_ | refine Ent.tup ?_ | refine Ent.agg ?_ | refine Ent.cells ?_ | exact Ent.of_eq rfl)) .nil) fn16) rfl ?_
  first | refine lx (op_call (l := [(Go.Operand.tmp 7), (Go.Operand.tmp 8), (Go.Operand.tmp 10)]) (check_ok s g (canL s) hx) (.cons rfl (.cons rfl (.cons rfl .nil))) fn32) rfl ?_ | refine lx (op_call (l := [(Go.Operand.tmp 7), (Go.Operand.tmp 8), (Go.Operand.tmp 10)]) (check_ok s g (canL s) hx) (.ent rfl (by repeat (first | exact Ent.refl _ | exact Ents.nil | exact Ent.nil _ _ | exact Ent.row _ _ _ _ | exact Ent.func _ | refine Ents.cons ?_ ?_ | refine Ent.tup ?_ | refine Ent.agg ?_ | refine Ent.cells ?_ | exact Ent.of_eq rfl)) (.ent rfl (by repeat (first | exact Ent.refl _ | exact Ents.nil | exact Ent.nil _ _ | exact Ent.row _ _ _ _ | exact Ent.func _ | refine Ents.cons ?_ ?_ | refine Ent.tup ?_ | refine Ent.agg ?_ | refine Ent.cells ?_ | exact Ent.of_eq rfl)) (.ent rfl (by repeat (first | exact Ent.refl _ | exact Ents.nil | exact Ent.nil _ _ | exact Ent.row _ _ _ _ | exact Ent.func _ | refine Ents.cons ?_ ?_ | refine Ent.tup ?_ | refine Ent.agg ?_ | refine Ent.cells ?_ | exact Ent.of_eq rfl)) .nil))) fn32) rfl ?_
  refine lx (op_assign rfl) rfl ?_
  refine lx_end ⟨by kernel_rfl, ?_⟩
  refine pe_then_normal ?_
  refine tr_sub hC (.cons (t := 1) rfl (.cons (t := 2) rfl (.cons (t := 4) rfl (.cons (t := 6) rfl .nil)))) (.cons (t := 2) rfl (.cons (t := 4) rfl .nil)) rfl ?_
  refine tr_seq ?_
  refine tr_region (fun N2 hN => ?_)
  refine lx (op_move rfl) rfl ?_
  refine lx (op_neq rfl rfl) rfl ?_
  refine lx_end ⟨by kernel_rfl, ?_⟩
  refine pe_then_normal ?_
  refine tr_sub hC (.cons (t := 1) rfl (.cons (t := 2) rfl (.cons (t := 4) rfl (.cons (t := 6) rfl (.cons (t := 13) rfl .nil))))) (.cons (t := 2) rfl (.cons (t := 4) rfl .nil)) rfl ?_
  refine tr_cond rfl (fun h13 => ?_) (fun h13 => ?_)
  · (try simp only [Bool.and_eq_true, Bool.or_eq_true, Bool.and_eq_false_iff, Bool.or_eq_false_iff, decide_eq_true_eq, decide_eq_false_iff_not, Bool.not_eq_true', Bool.not_eq_false', ne_eq, Decidable.not_not, Int.not_lt, Int.not_le] at h13)
    refine tr_seq ?_
    refine tr_region (fun N3 hN => ?_)
    refine lx (op_build (parts := []) ze24 rfl rfl fs24 .nil rfl rfl) rfl ?_
    refine lx (op_move rfl) rfl ?_
    first | refine lxr (op_store_all (m := 4) rfl rfl rfl (.agg rfl) sz24 rfl) rfl ?_ | refine lxr (op_store (m := 4) rfl rfl rfl (.agg rfl) sz24 rfl rfl rfl) rfl ?_
    refine lx (op_assign rfl) rfl ?_
    refine lx_end ⟨by kernel_rfl, ?_⟩
    refine pe_then_normal ?_
    refine tr_sub hC (.cons (t := 4) rfl (.cons (t := 5) rfl .nil)) (.cons (t := 4) rfl .nil) rfl ?_
    refine tr_ret ?_
    refine pe_then_ret ?_
    refine pe_retN (rs := [.cell 4 24, .tmp 5]) rfl rfl hO rfl (.cell (m := 4) rfl rfl ag24 sz24 (.tmp rfl .nil)) ?_
    refine entSy (r := (Sy.zero, checkF s g (canL s))) (by dsimp only [syE, Sy.ps, Sy.zero]; repeat (first | exact Ent.refl _ | exact Ents.nil | exact Ent.nil _ _ | exact Ent.row _ _ _ _ | exact Ent.func _ | refine Ents.cons ?_ ?_ | refine Ent.tup ?_ | refine Ent.agg ?_ | refine Ent.cells ?_ | exact Ent.of_eq rfl)) (by simp [lockF, h13])
  · (try simp only [Bool.and_eq_true, Bool.or_eq_true, Bool.and_eq_false_iff, Bool.or_eq_false_iff, decide_eq_true_eq, decide_eq_false_iff_not, Bool.not_eq_true', Bool.not_eq_false', ne_eq, Decidable.not_not, Int.not_lt, Int.not_le] at h13)
    refine tr_skip ?_
    refine pe_then_normal ?_
    refine tr_sub hC (.cons (t := 1) rfl (.cons (t := 2) rfl (.cons (t := 4) rfl .nil))) (.cons (t := 2) rfl (.cons (t := 4) rfl .nil)) rfl ?_
    refine tr_seq ?_
    refine tr_region (fun N4 hN => ?_)
    refine lx (op_move rfl) rfl ?_
    refine lx (op_fieldAddr rfl fl24_3 sz3) rfl ?_
    refine lxr (op_store_one (m := 2) rfl rfl rfl (by (first | exact One.eq rfl | exact One.mv _ _ _ _ _ | exact One.cl _ _ _ | exact One.sl _ _ _ | exact One.row _ _ _ _ | exact One.msl _ _ _ _ | exact One.ptr _ _ | exact One.b _ | exact One.cells _)) sz3 rfl) rfl ?_
    refine lx (op_fieldAddr rfl fl24_4 sz22) rfl ?_
    refine lxr (op_store_one (m := 2) rfl rfl rfl (by (first | exact One.eq rfl | exact One.mv _ _ _ _ _ | exact One.cl _ _ _ | exact One.sl _ _ _ | exact One.row _ _ _ _ | exact One.msl _ _ _ _ | exact One.ptr _ _ | exact One.b _ | exact One.cells _)) sz22 rfl) rfl ?_
    refine lx_end ⟨by kernel_rfl, ?_⟩
    refine pe_then_normal ?_
    refine tr_sub hC (.cons (t := 2) rfl (.cons (t := 4) rfl .nil)) (.cons (t := 2) rfl (.cons (t := 4) rfl .nil)) rfl ?_
    refine tr_seq ?_
    refine tr_region (fun N5 hN => ?_)
    first | refine lx (op_bload (m := 2) rfl rfl ag24 sz24) rfl ?_ | refine lx (op_bload_part (m := 2) rfl rfl ag24 sz24 rfl rfl) rfl ?_
    first | refine lxr (op_store_all (m := 4) rfl rfl rfl (.agg rfl) sz24 rfl) rfl ?_ | refine lxr (op_store (m := 4) rfl rfl rfl (.agg rfl) sz24 rfl rfl rfl) rfl ?_
    refine lx (op_assign rfl) rfl ?_
    refine lx_end ⟨by kernel_rfl, ?_⟩
    refine pe_then_normal ?_
    refine tr_sub hC (.cons (t := 4) rfl (.cons (t := 5) rfl .nil)) (.cons (t := 4) rfl .nil) rfl ?_
    refine tr_ret ?_
    refine pe_retN (rs := [.cell 4 24, .tmp 5]) rfl rfl hO rfl (.cell (m := 4) rfl rfl ag24 sz24 (.tmp rfl .nil)) ?_
    refine entSy (r := ({ s with owner := g, readers := [] }, 0)) (by dsimp only [syE, Sy.ps, Sy.zero]; repeat (first | exact Ent.refl _ | exact Ents.nil | exact Ent.nil _ _ | exact Ent.row _ _ _ _ | exact Ent.func _ | refine Ents.cons ?_ ?_ | refine Ent.tup ?_ | refine Ent.agg ?_ | refine Ent.cells ?_ | exact Ent.of_eq rfl)) (by simp [lockF, h13])

theorem rlock0_ok  (s : Sy) (g : Int) (hx : s.readers.length ≤ 1000000) : FnP Try.prog 23 [aggP s.ps, eqP (.int .i64 g)] (syE (lockF s g)) := by
  refine fn_pure' Try.func23 rfl Try.ntmps23 rfl ?_
  intro σ0 M ex Rf R hC hO
  simp only [frameOf, tokOf]
  refine tr_seq ?_
  refine tr_region (fun N0 hN => ?_)
  refine lxn (op_box (m := 2) (k := 2) rfl (.agg rfl) (by first | exact hC.low _ (by decide) | rfl)) rfl ?_
  refine lxn (op_alloc (m := 4) (k := 4) (ps := zps) ze24 rfl rfl (by first | exact hC.low _ (by decide) | rfl)) rfl ?_
  refine lx (op_assign rfl) rfl ?_
  refine lx_end ⟨by kernel_rfl, ?_⟩
  refine pe_then_normal ?_
  refine tr_sub hC (.cons (t := 1) rfl (.cons (t := 2) rfl (.cons (t := 4) rfl .nil))) (.cons (t := 2) rfl (.cons (t := 4) rfl .nil)) rfl ?_
  refine tr_seq ?_
  refine tr_seq ?_
  refine tr_region (fun N1 hN => ?_)
  first | refine lx (op_bload (m := 2) rfl rfl ag24 sz24) rfl ?_ | refine lx (op_bload_part (m := 2) rfl rfl ag24 sz24 rfl rfl) rfl ?_
  first | refine lx (op_call (l := [(Go.Operand.tmp 6)]) (rvalid_ok s hx) (.cons rfl .nil) fn15) rfl ?_ | refine lx (op_call (l := [(Go.Operand.tmp 6)]) (rvalid_ok s hx) (.ent rfl (by repeat (first | exact Ent.refl _ | exact Ents.nil | exact Ent.nil _ _ | exact Ent.row _ _ _ _ | exact Ent.func _ | refine Ents.cons ?_ ?_ | refine Ent.tup ?_ | refine Ent.agg ?_ | refine Ent.cells ?_ | exact Ent.of_eq rfl)) .nil) fn15) rfl ?_
  first | refine lx (op_not rfl) rfl ?_ | refine lx (op_not_b rfl) rfl ?_
  refine lx (op_move rfl) rfl ?_
  refine lxs rfl rfl rfl guard_eq (.cons (t := 1) rfl (fun _ => Ent.refl _) .nil) (op_move rfl) rfl ?_
  first | refine lxs rfl rfl rfl guard_eq (.cons (t := 10) rfl (fun h => entW h) .nil) (op_call (l := [(Go.Operand.tmp 10)]) (rgoro_ok _) (.cons rfl .nil) fn35) rfl ?_ | refine lxs rfl rfl rfl guard_eq (.cons (t := 10) rfl (fun h => entW h) .nil) (op_call (l := [(Go.Operand.tmp 10)]) (rgoro_ok _) (.ent rfl (by repeat (first | exact Ent.refl _ | exact Ents.nil | exact Ent.nil _ _ | exact Ent.row _ _ _ _ | exact Ent.func _ | refine Ents.cons ?_ ?_ | refine Ent.tup ?_ | refine Ent.agg ?_ | refine Ent.cells ?_ | exact Ent.of_eq rfl)) .nil) fn35) rfl ?_
  first | refine lxs rfl rfl rfl guard_eq (.cons (t := 11) rfl (fun h => entW h) .nil) (op_not rfl) rfl ?_ | refine lxs rfl rfl rfl guard_eq (.cons (t := 11) rfl (fun h => entW h) .nil) (op_not_b rfl) rfl ?_
  refine lx (op_pick_or rfl rfl) rfl ?_
  refine lx_end ⟨by kernel_rfl, ?_⟩
  refine pe_then_normal ?_
  refine tr_sub hC (.cons (t := 1) rfl (.cons (t := 2) rfl (.cons (t := 4) rfl (.cons (t := 13) rfl .nil)))) (.cons (t := 2) rfl (.cons (t := 4) rfl .nil)) rfl ?_
  refine tr_cond rfl (fun h13 => ?_) (fun h13 => ?_)
  · (try simp only [Bool.and_eq_true, Bool.or_eq_true, Bool.and_eq_false_iff, Bool.or_eq_false_iff, decide_eq_true_eq, decide_eq_false_iff_not, Bool.not_eq_true', Bool.not_eq_false', ne_eq, Decidable.not_not, Int.not_lt, Int.not_le] at h13)
    refine tr_seq ?_
    refine tr_region (fun N2 hN => ?_)
    refine lx (op_build (parts := []) ze24 rfl rfl fs24 .nil rfl rfl) rfl ?_
    first | refine lxr (op_store_all (m := 4) rfl rfl rfl (.agg rfl) sz24 rfl) rfl ?_ | refine lxr (op_store (m := 4) rfl rfl rfl (.agg rfl) sz24 rfl rfl rfl) rfl ?_
    refine lx (op_assign rfl) rfl ?_
    refine lx_end ⟨by kernel_rfl, ?_⟩
    refine pe_then_normal ?_
    refine tr_sub hC (.cons (t := 4) rfl (.cons (t := 5) rfl .nil)) (.cons (t := 4) rfl .nil) rfl ?_
    refine tr_ret ?_
    refine pe_then_ret ?_
    refine pe_retN (rs := [.cell 4 24, .tmp 5]) rfl rfl hO rfl (.cell (m := 4) rfl rfl ag24 sz24 (.tmp rfl .nil)) ?_
    refine entSy (r := (Sy.zero, 1)) (by dsimp only [syE, Sy.ps, Sy.zero]; repeat (first | exact Ent.refl _ | exact Ents.nil | exact Ent.nil _ _ | exact Ent.row _ _ _ _ | exact Ent.func _ | refine Ents.cons ?_ ?_ | refine Ent.tup ?_ | refine Ent.agg ?_ | refine Ent.cells ?_ | exact Ent.of_eq rfl)) (by simp [lockF, checkF, h13])
  · (try simp only [Bool.and_eq_true, Bool.or_eq_true, Bool.and_eq_false_iff, Bool.or_eq_false_iff, decide_eq_true_eq, decide_eq_false_iff_not, Bool.not_eq_true', Bool.not_eq_false', ne_eq, Decidable.not_not, Int.not_lt, Int.not_le] at h13)
    refine tr_skip ?_
    refine pe_then_normal ?_
    refine tr_sub hC (.cons (t := 1) rfl (.cons (t := 2) rfl (.cons (t := 4) rfl .nil))) (.cons (t := 2) rfl (.cons (t := 4) rfl .nil)) rfl ?_
    refine tr_seq ?_
    refine tr_seq ?_
    refine tr_region (fun N3 hN => ?_)
    first | refine lx (op_bload (m := 2) rfl rfl ag24 sz24) rfl ?_ | refine lx (op_bload_part (m := 2) rfl rfl ag24 sz24 rfl rfl) rfl ?_
    first | refine lx (op_call (l := [(Go.Operand.tmp 15)]) (rcanL_ok s) (.cons rfl .nil) fn17) rfl ?_ | refine lx (op_call (l := [(Go.Operand.tmp 15)]) (rcanL_ok s) (.ent rfl (by repeat (first | exact Ent.refl _ | exact Ents.nil | exact Ent.nil _ _ | exact Ent.row _ _ _ _ | exact Ent.func _ | refine Ents.cons ?_ ?_ | refine Ent.tup ?_ | refine Ent.agg ?_ | refine Ent.cells ?_ | exact Ent.of_eq rfl)) .nil) fn17) rfl ?_
    first | refine lx (op_not rfl) rfl ?_ | refine lx (op_not_b rfl) rfl ?_
    refine lx_end ⟨by kernel_rfl, ?_⟩
    refine pe_then_normal ?_
    refine tr_sub hC (.cons (t := 1) rfl (.cons (t := 2) rfl (.cons (t := 4) rfl (.cons (t := 17) rfl .nil)))) (.cons (t := 2) rfl (.cons (t := 4) rfl .nil)) rfl ?_
    refine tr_cond rfl (fun h17 => ?_) (fun h17 => ?_)
    · (try simp only [Bool.and_eq_true, Bool.or_eq_true, Bool.and_eq_false_iff, Bool.or_eq_false_iff, decide_eq_true_eq, decide_eq_false_iff_not, Bool.not_eq_true', Bool.not_eq_false', ne_eq, Decidable.not_not, Int.not_lt, Int.not_le] at h17)
      refine tr_seq ?_
      refine tr_region (fun N4 hN => ?_)
      refine lx (op_build (parts := []) ze24 rfl rfl fs24 .nil rfl rfl) rfl ?_
      first | refine lxr (op_store_all (m := 4) rfl rfl rfl (.agg rfl) sz24 rfl) rfl ?_ | refine lxr (op_store (m := 4) rfl rfl rfl (.agg rfl) sz24 rfl rfl rfl) rfl ?_
      refine lx (op_assign rfl) rfl ?_
      refine lx_end ⟨by kernel_rfl, ?_⟩
      refine pe_then_normal ?_
      refine tr_sub hC (.cons (t := 4) rfl (.cons (t := 5) rfl .nil)) (.cons (t := 4) rfl .nil) rfl ?_
      refine tr_ret ?_
      refine pe_then_ret ?_
      refine pe_retN (rs := [.cell 4 24, .tmp 5]) rfl rfl hO rfl (.cell (m := 4) rfl rfl ag24 sz24 (.tmp rfl .nil)) ?_
      refine entSy (r := (Sy.zero, 11)) (by dsimp only [syE, Sy.ps, Sy.zero]; repeat (first | exact Ent.refl _ | exact Ents.nil | exact Ent.nil _ _ | exact Ent.row _ _ _ _ | exact Ent.func _ | refine Ents.cons ?_ ?_ | refine Ent.tup ?_ | refine Ent.agg ?_ | refine Ent.cells ?_ | exact Ent.of_eq rfl)) (by simp [lockF, checkF, h13, h17])
    · (try simp only [Bool.and_eq_true, Bool.or_eq_true, Bool.and_eq_false_iff, Bool.or_eq_false_iff, decide_eq_true_eq, decide_eq_false_iff_not, Bool.not_eq_true', Bool.not_eq_false', ne_eq, Decidable.not_not, Int.not_lt, Int.not_le] at h17)
      refine tr_skip ?_
      refine pe_then_normal ?_
      refine tr_sub hC (.cons (t := 1) rfl (.cons (t := 2) rfl (.cons (t := 4) rfl .nil))) (.cons (t := 2) rfl (.cons (t := 4) rfl .nil)) rfl ?_
      refine tr_seq ?_
      refine tr_region (fun N5 hN => ?_)
      refine lx (op_move rfl) rfl ?_
      refine lx (op_fieldAddr rfl fl24_3 sz3) rfl ?_
      refine lxr (op_store_one (m := 2) rfl rfl rfl (by (first | exact One.eq rfl | exact One.mv _ _ _ _ _ | exact One.cl _ _ _ | exact One.sl _ _ _ | exact One.row _ _ _ _ | exact One.msl _ _ _ _ | exact One.ptr _ _ | exact One.b _ | exact One.cells _)) sz3 rfl) rfl ?_
      refine lx_end ⟨by kernel_rfl, ?_⟩
      refine pe_then_normal ?_
      refine tr_sub hC (.cons (t := 2) rfl (.cons (t := 4) rfl .nil)) (.cons (t := 2) rfl (.cons (t := 4) rfl .nil)) rfl ?_
      refine tr_seq ?_
      refine tr_region (fun N6 hN => ?_)
      refine lx (op_fieldAddr rfl fl24_4 sz22) rfl ?_
      refine lxr (op_store_one (m := 2) rfl rfl rfl (by (first | exact One.eq rfl | exact One.mv _ _ _ _ _ | exact One.cl _ _ _ | exact One.sl _ _ _ | exact One.row _ _ _ _ | exact One.msl _ _ _ _ | exact One.ptr _ _ | exact One.b _ | exact One.cells _)) sz22 rfl) rfl ?_
      refine lx_end ⟨by kernel_rfl, ?_⟩
      refine pe_then_normal ?_
      refine tr_sub hC (.cons (t := 2) rfl (.cons (t := 4) rfl .nil)) (.cons (t := 2) rfl (.cons (t := 4) rfl .nil)) rfl ?_
      refine tr_seq ?_
      refine tr_region (fun N7 hN => ?_)
      first | refine lx (op_bload (m := 2) rfl rfl ag24 sz24) rfl ?_ | refine lx (op_bload_part (m := 2) rfl rfl ag24 sz24 rfl rfl) rfl ?_
      first | refine lxr (op_store_all (m := 4) rfl rfl rfl (.agg rfl) sz24 rfl) rfl ?_ | refine lxr (op_store (m := 4) rfl rfl rfl (.agg rfl) sz24 rfl rfl rfl) rfl ?_
      refine lx (op_assign rfl) rfl ?_
      refine lx_end ⟨by kernel_rfl, ?_⟩
      refine pe_then_normal ?_
      refine tr_sub hC (.cons (t := 4) rfl (.cons (t := 5) rfl .nil)) (.cons (t := 4) rfl .nil) rfl ?_
      refine tr_ret ?_
      refine pe_retN (rs := [.cell 4 24, .tmp 5]) rfl rfl hO rfl (.cell (m := 4) rfl rfl ag24 sz24 (.tmp rfl .nil)) ?_
      refine entSy (r := ({ s with owner := g, readers := [] }, 0)) (by dsimp only [syE, Sy.ps, Sy.zero]; repeat (first | exact Ent.refl _ | exact Ents.nil | exact Ent.nil _ _ | exact Ent.row _ _ _ _ | exact Ent.func _ | refine Ents.cons ?_ ?_ | refine Ent.tup ?_ | refine Ent.agg ?_ | refine Ent.cells ?_ | exact Ent.of_eq rfl)) (by simp [lockF, checkF, h13, h17])

theorem rlock_ok  (s : Sy) (g : Int) (hx : s.readers.length ≤ 1000000) : FnP Try.prog 21 [aggP s.ps, eqP (.int .i64 g)] (syE (rlockF s g)) := by
  refine fn_pure' Try.func21 rfl Try.ntmps21 rfl ?_
  intro σ0 M ex Rf R hC hO
  simp only [frameOf, tokOf]
  refine tr_seq ?_
  refine tr_region (fun N0 hN => ?_)
  refine lxn (op_box (m := 2) (k := 2) rfl (.agg rfl) (by first | exact hC.low _ (by decide) | rfl)) rfl ?_
  refine lxn (op_alloc (m := 4) (k := 4) (ps := zps) ze24 rfl rfl (by first | exact hC.low _ (by decide) | rfl)) rfl ?_
  refine lx (op_assign rfl) rfl ?_
  refine lx_end ⟨by kernel_rfl, ?_⟩
  refine pe_then_normal ?_
  refine tr_sub hC (.cons (t := 1) rfl (.cons (t := 2) rfl (.cons (t := 4) rfl .nil))) (.cons (t := 2) rfl (.cons (t := 4) rfl .nil)) rfl ?_
  refine tr_seq ?_
  refine tr_seq ?_
  refine tr_drawn mixed (fun N1 hN => ?_)
  first | refine lx (op_bload (m := 2) rfl rfl ag24 sz24) rfl ?_ | refine lx (op_bload_part (m := 2) rfl rfl ag24 sz24 rfl rfl) rfl ?_
  refine lx (op_move rfl) rfl ?_
  first | refine lx (op_bload (m := 2) rfl rfl ag24 sz24) rfl ?_ | refine lx (op_bload_part (m := 2) rfl rfl ag24 sz24 rfl rfl) rfl ?_
  first | refine lx (op_call (l := [(Go.Operand.tmp 9)]) (canR_ok s) (.cons rfl .nil) fn18) rfl ?_ | refine lx (op_call (l := [(Go.Operand.tmp 9)]) (canR_ok s) (.ent rfl (by repeat (first | exact Ent.refl _ | exact Ents.nil | exact Ent.nil _ _ | exact Ent.row _ _ _ _ | exact Ent.func _ | refine Ents.cons ?_ ?_ | refine Ent.tup ?_ | refine Ent.agg ?_ | refine Ent.cells ?_ | exact Ent.of_eq rfl)) .nil) fn18) rfl ?_
  first | refine lx (op_call (l := [(Go.Operand.tmp 7), (Go.Operand.tmp 8), (Go.Operand.tmp 10)]) (check_ok s g (canR s) hx) (.cons rfl (.cons rfl (.cons rfl .nil))) fn32) rfl ?_ | refine lx (op_call (l := [(Go.Operand.tmp 7), (Go.Operand.tmp 8), (Go.Operand.tmp 10)]) (check_ok s g (canR s) hx) (.ent rfl (by repeat (first | exact Ent.refl _ | exact Ents.nil | exact Ent.nil _ _ | exact Ent.row _ _ _ _ | exact Ent.func _ | refine Ents.cons ?_ ?_ | refine Ent.tup ?_ | refine Ent.agg ?_ | refine Ent.cells ?_ | exact Ent.of_eq rfl)) (.ent rfl (by repeat (first | exact Ent.refl _ | exact Ents.nil | exact Ent.nil _ _ | exact Ent.row _ _ _ _ | exact Ent.func _ | refine Ents.cons ?_ ?_ | refine Ent.tup ?_ | refine Ent.agg ?_ | refine Ent.cells ?_ | exact Ent.of_eq rfl)) (.ent rfl (by repeat (first | exact Ent.refl _ | exact Ents.nil | exact Ent.nil _ _ | exact Ent.row _ _ _ _ | exact Ent.func _ | refine Ents.cons ?_ ?_ | refine Ent.tup ?_ | refine Ent.agg ?_ | refine Ent.cells ?_ | exact Ent.of_eq rfl)) .nil))) fn32) rfl ?_
  refine lx (op_assign rfl) rfl ?_
  refine lx_end ⟨by kernel_rfl, ?_⟩
  refine pe_then_normal ?_
  refine tr_sub hC (.cons (t := 1) rfl (.cons (t := 2) rfl (.cons (t := 4) rfl (.cons (t := 6) rfl .nil)))) (.cons (t := 2) rfl (.cons (t := 4) rfl .nil)) rfl ?_
  refine tr_seq ?_
  refine tr_region (fun N2 hN => ?_)
  refine lx (op_move rfl) rfl ?_
  refine lx (op_neq rfl rfl) rfl ?_
  refine lx_end ⟨by kernel_rfl, ?_⟩
  refine pe_then_normal ?_
  refine tr_sub hC (.cons (t := 1) rfl (.cons (t := 2) rfl (.cons (t := 4) rfl (.cons (t := 6) rfl (.cons (t := 13) rfl .nil))))) (.cons (t := 2) rfl (.cons (t := 4) rfl .nil)) rfl ?_
  refine tr_cond rfl (fun h13 => ?_) (fun h13 => ?_)
  · (try simp only [Bool.and_eq_true, Bool.or_eq_true, Bool.and_eq_false_iff, Bool.or_eq_false_iff, decide_eq_true_eq, decide_eq_false_iff_not, Bool.not_eq_true', Bool.not_eq_false', ne_eq, Decidable.not_not, Int.not_lt, Int.not_le] at h13)
    refine tr_seq ?_
    refine tr_region (fun N3 hN => ?_)
    refine lx (op_build (parts := []) ze24 rfl rfl fs24 .nil rfl rfl) rfl ?_
    refine lx (op_move rfl) rfl ?_
    first | refine lxr (op_store_all (m := 4) rfl rfl rfl (.agg rfl) sz24 rfl) rfl ?_ | refine lxr (op_store (m := 4) rfl rfl rfl (.agg rfl) sz24 rfl rfl rfl) rfl ?_
    refine lx (op_assign rfl) rfl ?_
    refine lx_end ⟨by kernel_rfl, ?_⟩
    refine pe_then_normal ?_
    refine tr_sub hC (.cons (t := 4) rfl (.cons (t := 5) rfl .nil)) (.cons (t := 4) rfl .nil) rfl ?_
    refine tr_ret ?_
    refine pe_then_ret ?_
    refine pe_retN (rs := [.cell 4 24, .tmp 5]) rfl rfl hO rfl (.cell (m := 4) rfl rfl ag24 sz24 (.tmp rfl .nil)) ?_
    refine entSy (r := (Sy.zero, checkF s g (canR s))) (by dsimp only [syE, Sy.ps, Sy.zero]; repeat (first | exact Ent.refl _ | exact Ents.nil | exact Ent.nil _ _ | exact Ent.row _ _ _ _ | exact Ent.func _ | refine Ents.cons ?_ ?_ | refine Ent.tup ?_ | refine Ent.agg ?_ | refine Ent.cells ?_ | exact Ent.of_eq rfl)) (by simp [rlockF, h13])
  · (try simp only [Bool.and_eq_true, Bool.or_eq_true, Bool.and_eq_false_iff, Bool.or_eq_false_iff, decide_eq_true_eq, decide_eq_false_iff_not, Bool.not_eq_true', Bool.not_eq_false', ne_eq, Decidable.not_not, Int.not_lt, Int.not_le] at h13)
    refine tr_skip ?_
    refine pe_then_normal ?_
    refine tr_sub hC (.cons (t := 1) rfl (.cons (t := 2) rfl (.cons (t := 4) rfl .nil))) (.cons (t := 2) rfl (.cons (t := 4) rfl .nil)) rfl ?_
    refine tr_seq ?_
    refine tr_region (fun N4 hN => ?_)
    refine lx (op_fieldAddr rfl fl24_4 sz22) rfl ?_
    refine lx (op_bload_one (m := 2) rfl rfl ag22 rfl) rfl ?_
    first | refine lxn (op_callG (del := []) (add := [(18, ((N4, 18), tail 3 1 (s.readers.length * 1)))]) (ks := [18]) (clone_ok s.readers hx) (.cons rfl .nil) fn33 rfl rfl rfl (by intro x hx; cases hx) (fun x hx => .inl (by cases hx with | head => exact hC.low 18 (by decide) | tail _ h => cases h))) rfl ?_ | refine lxn (op_callG (del := []) (add := [(18, ((N4, 18), tail 3 1 (s.readers.length * 1)))]) (ks := [18]) (clone_ok s.readers hx) (.ent rfl (by repeat (first | exact Ent.refl _ | exact Ents.nil | exact Ent.nil _ _ | exact Ent.row _ _ _ _ | exact Ent.func _ | refine Ents.cons ?_ ?_ | refine Ent.tup ?_ | refine Ent.agg ?_ | refine Ent.cells ?_ | exact Ent.of_eq rfl)) .nil) fn33 rfl rfl rfl (by intro x hx; cases hx) (fun x hx => .inl (by cases hx with | head => exact hC.low 18 (by decide) | tail _ h => cases h))) rfl ?_
    refine lx (op_move rfl) rfl ?_
    refine lx (op_buildSlice (f := ip) (xs := [g]) (l := [(0, (Go.Operand.tmp 19))]) ze3 rfl rfl (by decide) el22 sz3 ip_len (.cons rfl (.one (by (first | exact One.eq rfl | exact One.mv _ _ _ _ _ | exact One.cl _ _ _ | exact One.sl _ _ _ | exact One.row _ _ _ _ | exact One.msl _ _ _ _ | exact One.ptr _ _ | exact One.b _ | exact One.cells _))) .nil) rfl (by decide)) rfl ?_
    refine lxr (op_append (m := 18) (m' := 21) (kk := 21) rfl rfl rfl (.inr (by first | exact hC.low _ (by decide) | rfl)) el22 ze3 sz3 by3 rfl ip_len (by simp; omega) (by simp; omega)) rfl ?_
    refine lx (op_fieldAddr rfl fl24_4 sz22) rfl ?_
    refine lxr (op_store_one (m := 2) rfl rfl rfl (by (first | exact One.eq rfl | exact One.mv _ _ _ _ _ | exact One.cl _ _ _ | exact One.sl _ _ _ | exact One.row _ _ _ _ | exact One.msl _ _ _ _ | exact One.ptr _ _ | exact One.b _ | exact One.cells _)) sz22 rfl) rfl ?_
    refine lx_end ⟨by kernel_rfl, ?_⟩
    refine pe_then_normal ?_
    refine tr_sub hC (.cons (t := 2) rfl (.cons (t := 4) rfl .nil)) (.cons (t := 2) rfl (.cons (t := 4) rfl .nil)) rfl ?_
    refine tr_seq ?_
    refine tr_region (fun N5 hN => ?_)
    first | refine lx (op_bload (m := 2) rfl rfl ag24 sz24) rfl ?_ | refine lx (op_bload_part (m := 2) rfl rfl ag24 sz24 rfl rfl) rfl ?_
    first | refine lxr (op_store_all (m := 4) rfl rfl rfl (.agg rfl) sz24 rfl) rfl ?_ | refine lxr (op_store (m := 4) rfl rfl rfl (.agg rfl) sz24 rfl rfl rfl) rfl ?_
    refine lx (op_assign rfl) rfl ?_
    refine lx_end ⟨by kernel_rfl, ?_⟩
    refine pe_then_normal ?_
    refine tr_sub hC (.cons (t := 4) rfl (.cons (t := 5) rfl .nil)) (.cons (t := 4) rfl .nil) rfl ?_
    refine tr_ret ?_
    refine pe_retN (rs := [.cell 4 24, .tmp 5]) rfl rfl hO rfl (.cell (m := 4) rfl rfl ag24 sz24 (.tmp rfl .nil)) ?_
    refine entSy (r := ({ s with readers := s.readers ++ [g] }, 0)) (by dsimp only [syE, Sy.ps, Sy.zero]; repeat (first | exact Ent.refl _ | exact Ents.nil | exact Ent.nil _ _ | exact Ent.row _ _ _ _ | exact Ent.func _ | refine Ents.cons ?_ ?_ | refine Ent.tup ?_ | refine Ent.agg ?_ | refine Ent.cells ?_ | exact Ent.of_eq rfl)) (by simp [rlockF, h13])

theorem rrlock_ok  (s : Sy) (g : Int) (hx : s.readers.length ≤ 1000000) : FnP Try.prog 24 [aggP s.ps, eqP (.int .i64 g)] (syE (rlockF s g)) := by
  refine fn_pure' Try.func24 rfl Try.ntmps24 rfl ?_
  intro σ0 M ex Rf R hC hO
  simp only [frameOf, tokOf]
  refine tr_seq ?_
  refine tr_region (fun N0 hN => ?_)
  refine lxn (op_box (m := 2) (k := 2) rfl (.agg rfl) (by first | exact hC.low _ (by decide) | rfl)) rfl ?_
  refine lxn (op_alloc (m := 4) (k := 4) (ps := zps) ze24 rfl rfl (by first | exact hC.low _ (by decide) | rfl)) rfl ?_
  refine lx (op_assign rfl) rfl ?_
  refine lx_end ⟨by kernel_rfl, ?_⟩
  refine pe_then_normal ?_
  refine tr_sub hC (.cons (t := 1) rfl (.cons (t := 2) rfl (.cons (t := 4) rfl .nil))) (.cons (t := 2) rfl (.cons (t := 4) rfl .nil)) rfl ?_
  refine tr_seq ?_
  refine tr_seq ?_
  refine tr_region (fun N1 hN => ?_)
  first | refine lx (op_bload (m := 2) rfl rfl ag24 sz24) rfl ?_ | refine lx (op_bload_part (m := 2) rfl rfl ag24 sz24 rfl rfl) rfl ?_
  first | refine lx (op_call (l := [(Go.Operand.tmp 7)]) (rvalid_ok s hx) (.cons rfl .nil) fn15) rfl ?_ | refine lx (op_call (l := [(Go.Operand.tmp 7)]) (rvalid_ok s hx) (.ent rfl (by repeat (first | exact Ent.refl _ | exact Ents.nil | exact Ent.nil _ _ | exact Ent.row _ _ _ _ | exact Ent.func _ | refine Ents.cons ?_ ?_ | refine Ent.tup ?_ | refine Ent.agg ?_ | refine Ent.cells ?_ | exact Ent.of_eq rfl)) .nil) fn15) rfl ?_
  first | refine lx (op_not rfl) rfl ?_ | refine lx (op_not_b rfl) rfl ?_
  refine lx (op_move rfl) rfl ?_
  refine lxs rfl rfl rfl guard_eq (.cons (t := 1) rfl (fun _ => Ent.refl _) .nil) (op_move rfl) rfl ?_
  first | refine lxs rfl rfl rfl guard_eq (.cons (t := 11) rfl (fun h => entW h) .nil) (op_call (l := [(Go.Operand.tmp 11)]) (rgoro_ok _) (.cons rfl .nil) fn35) rfl ?_ | refine lxs rfl rfl rfl guard_eq (.cons (t := 11) rfl (fun h => entW h) .nil) (op_call (l := [(Go.Operand.tmp 11)]) (rgoro_ok _) (.ent rfl (by repeat (first | exact Ent.refl _ | exact Ents.nil | exact Ent.nil _ _ | exact Ent.row _ _ _ _ | exact Ent.func _ | refine Ents.cons ?_ ?_ | refine Ent.tup ?_ | refine Ent.agg ?_ | refine Ent.cells ?_ | exact Ent.of_eq rfl)) .nil) fn35) rfl ?_
  first | refine lxs rfl rfl rfl guard_eq (.cons (t := 12) rfl (fun h => entW h) .nil) (op_not rfl) rfl ?_ | refine lxs rfl rfl rfl guard_eq (.cons (t := 12) rfl (fun h => entW h) .nil) (op_not_b rfl) rfl ?_
  refine lx (op_pick_or rfl rfl) rfl ?_
  refine lx_end ⟨by kernel_rfl, ?_⟩
  refine pe_then_normal ?_
  refine tr_sub hC (.cons (t := 1) rfl (.cons (t := 2) rfl (.cons (t := 4) rfl (.cons (t := 14) rfl .nil)))) (.cons (t := 2) rfl (.cons (t := 4) rfl .nil)) rfl ?_
  refine tr_cond rfl (fun h14 => ?_) (fun h14 => ?_)
  · (try simp only [Bool.and_eq_true, Bool.or_eq_true, Bool.and_eq_false_iff, Bool.or_eq_false_iff, decide_eq_true_eq, decide_eq_false_iff_not, Bool.not_eq_true', Bool.not_eq_false', ne_eq, Decidable.not_not, Int.not_lt, Int.not_le] at h14)
    refine tr_seq ?_
    refine tr_region (fun N2 hN => ?_)
    refine lx (op_build (parts := []) ze24 rfl rfl fs24 .nil rfl rfl) rfl ?_
    first | refine lxr (op_store_all (m := 4) rfl rfl rfl (.agg rfl) sz24 rfl) rfl ?_ | refine lxr (op_store (m := 4) rfl rfl rfl (.agg rfl) sz24 rfl rfl rfl) rfl ?_
    refine lx (op_assign rfl) rfl ?_
    refine lx_end ⟨by kernel_rfl, ?_⟩
    refine pe_then_normal ?_
    refine tr_sub hC (.cons (t := 4) rfl (.cons (t := 5) rfl .nil)) (.cons (t := 4) rfl .nil) rfl ?_
    refine tr_ret ?_
    refine pe_then_ret ?_
    refine pe_retN (rs := [.cell 4 24, .tmp 5]) rfl rfl hO rfl (.cell (m := 4) rfl rfl ag24 sz24 (.tmp rfl .nil)) ?_
    refine entSy (r := (Sy.zero, 1)) (by dsimp only [syE, Sy.ps, Sy.zero]; repeat (first | exact Ent.refl _ | exact Ents.nil | exact Ent.nil _ _ | exact Ent.row _ _ _ _ | exact Ent.func _ | refine Ents.cons ?_ ?_ | refine Ent.tup ?_ | refine Ent.agg ?_ | refine Ent.cells ?_ | exact Ent.of_eq rfl)) (by simp [rlockF, checkF, h14])
  · (try simp only [Bool.and_eq_true, Bool.or_eq_true, Bool.and_eq_false_iff, Bool.or_eq_false_iff, decide_eq_true_eq, decide_eq_false_iff_not, Bool.not_eq_true', Bool.not_eq_false', ne_eq, Decidable.not_not, Int.not_lt, Int.not_le] at h14)
    refine tr_skip ?_
    refine pe_then_normal ?_
    refine tr_sub hC (.cons (t := 1) rfl (.cons (t := 2) rfl (.cons (t := 4) rfl .nil))) (.cons (t := 2) rfl (.cons (t := 4) rfl .nil)) rfl ?_
    refine tr_seq ?_
    refine tr_seq ?_
    refine tr_region (fun N3 hN => ?_)
    first | refine lx (op_bload (m := 2) rfl rfl ag24 sz24) rfl ?_ | refine lx (op_bload_part (m := 2) rfl rfl ag24 sz24 rfl rfl) rfl ?_
    first | refine lx (op_call (l := [(Go.Operand.tmp 16)]) (rcanR_ok s) (.cons rfl .nil) fn19) rfl ?_ | refine lx (op_call (l := [(Go.Operand.tmp 16)]) (rcanR_ok s) (.ent rfl (by repeat (first | exact Ent.refl _ | exact Ents.nil | exact Ent.nil _ _ | exact Ent.row _ _ _ _ | exact Ent.func _ | refine Ents.cons ?_ ?_ | refine Ent.tup ?_ | refine Ent.agg ?_ | refine Ent.cells ?_ | exact Ent.of_eq rfl)) .nil) fn19) rfl ?_
    first | refine lx (op_not rfl) rfl ?_ | refine lx (op_not_b rfl) rfl ?_
    refine lx_end ⟨by kernel_rfl, ?_⟩
    refine pe_then_normal ?_
    refine tr_sub hC (.cons (t := 1) rfl (.cons (t := 2) rfl (.cons (t := 4) rfl (.cons (t := 18) rfl .nil)))) (.cons (t := 2) rfl (.cons (t := 4) rfl .nil)) rfl ?_
    refine tr_cond rfl (fun h18 => ?_) (fun h18 => ?_)
    · (try simp only [Bool.and_eq_true, Bool.or_eq_true, Bool.and_eq_false_iff, Bool.or_eq_false_iff, decide_eq_true_eq, decide_eq_false_iff_not, Bool.not_eq_true', Bool.not_eq_false', ne_eq, Decidable.not_not, Int.not_lt, Int.not_le] at h18)
      refine tr_seq ?_
      refine tr_region (fun N4 hN => ?_)
      refine lx (op_build (parts := []) ze24 rfl rfl fs24 .nil rfl rfl) rfl ?_
      first | refine lxr (op_store_all (m := 4) rfl rfl rfl (.agg rfl) sz24 rfl) rfl ?_ | refine lxr (op_store (m := 4) rfl rfl rfl (.agg rfl) sz24 rfl rfl rfl) rfl ?_
      refine lx (op_assign rfl) rfl ?_
      refine lx_end ⟨by kernel_rfl, ?_⟩
      refine pe_then_normal ?_
      refine tr_sub hC (.cons (t := 4) rfl (.cons (t := 5) rfl .nil)) (.cons (t := 4) rfl .nil) rfl ?_
      refine tr_ret ?_
      refine pe_then_ret ?_
      refine pe_retN (rs := [.cell 4 24, .tmp 5]) rfl rfl hO rfl (.cell (m := 4) rfl rfl ag24 sz24 (.tmp rfl .nil)) ?_
      refine entSy (r := (Sy.zero, 11)) (by dsimp only [syE, Sy.ps, Sy.zero]; repeat (first | exact Ent.refl _ | exact Ents.nil | exact Ent.nil _ _ | exact Ent.row _ _ _ _ | exact Ent.func _ | refine Ents.cons ?_ ?_ | refine Ent.tup ?_ | refine Ent.agg ?_ | refine Ent.cells ?_ | exact Ent.of_eq rfl)) (by simp [rlockF, checkF, h14, h18])
    · (try simp only [Bool.and_eq_true, Bool.or_eq_true, Bool.and_eq_false_iff, Bool.or_eq_false_iff, decide_eq_true_eq, decide_eq_false_iff_not, Bool.not_eq_true', Bool.not_eq_false', ne_eq, Decidable.not_not, Int.not_lt, Int.not_le] at h18)
      refine tr_skip ?_
      refine pe_then_normal ?_
      refine tr_sub hC (.cons (t := 1) rfl (.cons (t := 2) rfl (.cons (t := 4) rfl .nil))) (.cons (t := 2) rfl (.cons (t := 4) rfl .nil)) rfl ?_
      refine tr_seq ?_
      refine tr_region (fun N5 hN => ?_)
      refine lxn (op_buildEmpty (m' := 20) (kk := 20) (f := ip) el22 sz3 (by first | exact hC.low _ (by decide) | rfl)) rfl ?_
      refine lx (op_fieldAddr rfl fl24_4 sz22) rfl ?_
      refine lx (op_bload_one (m := 2) rfl rfl ag22 rfl) rfl ?_
      refine lxr (op_append (m := 20) (m' := 23) (kk := 23) rfl rfl rfl (.inr (by first | exact hC.low _ (by decide) | rfl)) el22 ze3 sz3 by3 rfl ip_len (by simp; omega) (by simp; omega)) rfl ?_
      refine lx (op_assign rfl) rfl ?_
      refine lx_end ⟨by kernel_rfl, ?_⟩
      refine pe_then_normal ?_
      refine tr_sub hC (.cons (t := 1) rfl (.cons (t := 2) rfl (.cons (t := 4) rfl (.cons (t := 6) rfl .nil)))) (.cons (t := 2) rfl (.cons (t := 4) rfl (.cons (t := 23) rfl .nil))) rfl ?_
      refine tr_seq ?_
      refine tr_region (fun N6 hN => ?_)
      refine lx (op_move rfl) rfl ?_
      refine lx (op_move rfl) rfl ?_
      refine lx (op_buildSlice (f := ip) (xs := [g]) (l := [(0, (Go.Operand.tmp 25))]) ze3 rfl rfl (by decide) el22 sz3 ip_len (.cons rfl (.one (by (first | exact One.eq rfl | exact One.mv _ _ _ _ _ | exact One.cl _ _ _ | exact One.sl _ _ _ | exact One.row _ _ _ _ | exact One.msl _ _ _ _ | exact One.ptr _ _ | exact One.b _ | exact One.cells _))) .nil) rfl (by decide)) rfl ?_
      refine lxr (op_append (m := 23) (m' := 27) (kk := 27) rfl rfl rfl (.inr (by first | exact hC.low _ (by decide) | rfl)) el22 ze3 sz3 by3 rfl ip_len (by simp; omega) (by simp; omega)) rfl ?_
      refine lx (op_fieldAddr rfl fl24_4 sz22) rfl ?_
      refine lxr (op_store_one (m := 2) rfl rfl rfl (by (first | exact One.eq rfl | exact One.mv _ _ _ _ _ | exact One.cl _ _ _ | exact One.sl _ _ _ | exact One.row _ _ _ _ | exact One.msl _ _ _ _ | exact One.ptr _ _ | exact One.b _ | exact One.cells _)) sz22 rfl) rfl ?_
      refine lx_end ⟨by kernel_rfl, ?_⟩
      refine pe_then_normal ?_
      refine tr_sub hC (.cons (t := 2) rfl (.cons (t := 4) rfl .nil)) (.cons (t := 2) rfl (.cons (t := 4) rfl .nil)) rfl ?_
      refine tr_seq ?_
      refine tr_region (fun N7 hN => ?_)
      first | refine lx (op_bload (m := 2) rfl rfl ag24 sz24) rfl ?_ | refine lx (op_bload_part (m := 2) rfl rfl ag24 sz24 rfl rfl) rfl ?_
      first | refine lxr (op_store_all (m := 4) rfl rfl rfl (.agg rfl) sz24 rfl) rfl ?_ | refine lxr (op_store (m := 4) rfl rfl rfl (.agg rfl) sz24 rfl rfl rfl) rfl ?_
      refine lx (op_assign rfl) rfl ?_
      refine lx_end ⟨by kernel_rfl, ?_⟩
      refine pe_then_normal ?_
      refine tr_sub hC (.cons (t := 4) rfl (.cons (t := 5) rfl .nil)) (.cons (t := 4) rfl .nil) rfl ?_
      refine tr_ret ?_
      refine pe_retN (rs := [.cell 4 24, .tmp 5]) rfl rfl hO rfl (.cell (m := 4) rfl rfl ag24 sz24 (.tmp rfl .nil)) ?_
      refine entSy (r := ({ s with readers := [] ++ s.readers ++ [g] }, 0)) (by dsimp only [syE, Sy.ps, Sy.zero]; repeat (first | exact Ent.refl _ | exact Ents.nil | exact Ent.nil _ _ | exact Ent.row _ _ _ _ | exact Ent.func _ | refine Ents.cons ?_ ?_ | refine Ent.tup ?_ | refine Ent.agg ?_ | refine Ent.cells ?_ | exact Ent.of_eq rfl)) (by simp [rlockF, checkF, h14, h18])

theorem unlock_ok (s : Sy) (hx : s.readers.length ≤ 1000000) : FnP Try.prog 25 [aggP s.ps] (syE (unlockF s)) := by
  refine fn_pure' Try.func25 rfl Try.ntmps25 rfl ?_
  intro σ0 M ex Rf R hC hO
  simp only [frameOf, tokOf]
  refine tr_seq ?_
  refine tr_region (fun N0 hN => ?_)
  refine lxn (op_box (m := 1) (k := 1) rfl (.agg rfl) (by first | exact hC.low _ (by decide) | rfl)) rfl ?_
  refine lxn (op_alloc (m := 2) (k := 2) (ps := zps) ze24 rfl rfl (by first | exact hC.low _ (by decide) | rfl)) rfl ?_
  refine lx (op_assign rfl) rfl ?_
  refine lx_end ⟨by kernel_rfl, ?_⟩
  refine pe_then_normal ?_
  refine tr_sub hC (.cons (t := 1) rfl (.cons (t := 2) rfl .nil)) (.cons (t := 1) rfl (.cons (t := 2) rfl .nil)) rfl ?_
  refine tr_seq ?_
  refine tr_seq ?_
  refine tr_region (fun N1 hN => ?_)
  first | refine lx (op_bload (m := 1) rfl rfl ag24 sz24) rfl ?_ | refine lx (op_bload_part (m := 1) rfl rfl ag24 sz24 rfl rfl) rfl ?_
  refine lx (op_fieldAddr rfl fl24_3 sz3) rfl ?_
  refine lx (op_bload_one (m := 1) rfl rfl ag3 rfl) rfl ?_
  refine lx (op_geq rfl rfl) rfl ?_
  first | refine lx (op_call (l := [(Go.Operand.tmp 5), (Go.Operand.const (Go.Value.int Go.IntKind.i64 0)), (Go.Operand.tmp 8)]) (check_ok s 0 _ hx) (.cons rfl (.cons rfl (.cons rfl .nil))) fn32) rfl ?_ | refine lx (op_call (l := [(Go.Operand.tmp 5), (Go.Operand.const (Go.Value.int Go.IntKind.i64 0)), (Go.Operand.tmp 8)]) (check_ok s 0 _ hx) (.ent rfl (by repeat (first | exact Ent.refl _ | exact Ents.nil | exact Ent.nil _ _ | exact Ent.row _ _ _ _ | exact Ent.func _ | refine Ents.cons ?_ ?_ | refine Ent.tup ?_ | refine Ent.agg ?_ | refine Ent.cells ?_ | exact Ent.of_eq rfl)) (.ent rfl (by repeat (first | exact Ent.refl _ | exact Ents.nil | exact Ent.nil _ _ | exact Ent.row _ _ _ _ | exact Ent.func _ | refine Ents.cons ?_ ?_ | refine Ent.tup ?_ | refine Ent.agg ?_ | refine Ent.cells ?_ | exact Ent.of_eq rfl)) (.ent rfl (by repeat (first | exact Ent.refl _ | exact Ents.nil | exact Ent.nil _ _ | exact Ent.row _ _ _ _ | exact Ent.func _ | refine Ents.cons ?_ ?_ | refine Ent.tup ?_ | refine Ent.agg ?_ | refine Ent.cells ?_ | exact Ent.of_eq rfl)) .nil))) fn32) rfl ?_
  refine lx (op_assign rfl) rfl ?_
  refine lx_end ⟨by kernel_rfl, ?_⟩
  refine pe_then_normal ?_
  refine tr_sub hC (.cons (t := 1) rfl (.cons (t := 2) rfl (.cons (t := 4) rfl .nil))) (.cons (t := 1) rfl (.cons (t := 2) rfl .nil)) rfl ?_
  refine tr_seq ?_
  refine tr_region (fun N2 hN => ?_)
  refine lx (op_move rfl) rfl ?_
  refine lx (op_neq rfl rfl) rfl ?_
  refine lx_end ⟨by kernel_rfl, ?_⟩
  refine pe_then_normal ?_
  refine tr_sub hC (.cons (t := 1) rfl (.cons (t := 2) rfl (.cons (t := 4) rfl (.cons (t := 11) rfl .nil)))) (.cons (t := 1) rfl (.cons (t := 2) rfl .nil)) rfl ?_
  refine tr_cond rfl (fun h11 => ?_) (fun h11 => ?_)
  · (try simp only [Bool.and_eq_true, Bool.or_eq_true, Bool.and_eq_false_iff, Bool.or_eq_false_iff, decide_eq_true_eq, decide_eq_false_iff_not, Bool.not_eq_true', Bool.not_eq_false', ne_eq, Decidable.not_not, Int.not_lt, Int.not_le] at h11)
    refine tr_seq ?_
    refine tr_region (fun N3 hN => ?_)
    refine lx (op_build (parts := []) ze24 rfl rfl fs24 .nil rfl rfl) rfl ?_
    refine lx (op_move rfl) rfl ?_
    first | refine lxr (op_store_all (m := 2) rfl rfl rfl (.agg rfl) sz24 rfl) rfl ?_ | refine lxr (op_store (m := 2) rfl rfl rfl (.agg rfl) sz24 rfl rfl rfl) rfl ?_
    refine lx (op_assign rfl) rfl ?_
    refine lx_end ⟨by kernel_rfl, ?_⟩
    refine pe_then_normal ?_
    refine tr_sub hC (.cons (t := 2) rfl (.cons (t := 3) rfl .nil)) (.cons (t := 2) rfl .nil) rfl ?_
    refine tr_ret ?_
    refine pe_then_ret ?_
    refine pe_retN (rs := [.cell 2 24, .tmp 3]) rfl rfl hO rfl (.cell (m := 2) rfl rfl ag24 sz24 (.tmp rfl .nil)) ?_
    refine entSy (r := (Sy.zero, checkF s 0 (decide (s.owner ≥ 0)))) (by dsimp only [syE, Sy.ps, Sy.zero]; repeat (first | exact Ent.refl _ | exact Ents.nil | exact Ent.nil _ _ | exact Ent.row _ _ _ _ | exact Ent.func _ | refine Ents.cons ?_ ?_ | refine Ent.tup ?_ | refine Ent.agg ?_ | refine Ent.cells ?_ | exact Ent.of_eq rfl)) (by simp only [unlockF, h11, if_false])
  · (try simp only [Bool.and_eq_true, Bool.or_eq_true, Bool.and_eq_false_iff, Bool.or_eq_false_iff, decide_eq_true_eq, decide_eq_false_iff_not, Bool.not_eq_true', Bool.not_eq_false', ne_eq, Decidable.not_not, Int.not_lt, Int.not_le] at h11)
    refine tr_skip ?_
    refine pe_then_normal ?_
    refine tr_sub hC (.cons (t := 1) rfl (.cons (t := 2) rfl .nil)) (.cons (t := 1) rfl (.cons (t := 2) rfl .nil)) rfl ?_
    refine tr_seq ?_
    refine tr_region (fun N4 hN => ?_)
    refine lx (op_fieldAddr rfl fl24_3 sz3) rfl ?_
    refine lxr (op_store_one (m := 1) rfl rfl rfl (by (first | exact One.eq rfl | exact One.mv _ _ _ _ _ | exact One.cl _ _ _ | exact One.sl _ _ _ | exact One.row _ _ _ _ | exact One.msl _ _ _ _ | exact One.ptr _ _ | exact One.b _ | exact One.cells _)) sz3 rfl) rfl ?_
    refine lx (op_fieldAddr rfl fl24_4 sz22) rfl ?_
    refine lxr (op_store_one (m := 1) rfl rfl rfl (by (first | exact One.eq rfl | exact One.mv _ _ _ _ _ | exact One.cl _ _ _ | exact One.sl _ _ _ | exact One.row _ _ _ _ | exact One.msl _ _ _ _ | exact One.ptr _ _ | exact One.b _ | exact One.cells _)) sz22 rfl) rfl ?_
    refine lx_end ⟨by kernel_rfl, ?_⟩
    refine pe_then_normal ?_
    refine tr_sub hC (.cons (t := 1) rfl (.cons (t := 2) rfl .nil)) (.cons (t := 1) rfl (.cons (t := 2) rfl .nil)) rfl ?_
    refine tr_seq ?_
    refine tr_region (fun N5 hN => ?_)
    first | refine lx (op_bload (m := 1) rfl rfl ag24 sz24) rfl ?_ | refine lx (op_bload_part (m := 1) rfl rfl ag24 sz24 rfl rfl) rfl ?_
    first | refine lxr (op_store_all (m := 2) rfl rfl rfl (.agg rfl) sz24 rfl) rfl ?_ | refine lxr (op_store (m := 2) rfl rfl rfl (.agg rfl) sz24 rfl rfl rfl) rfl ?_
    refine lx (op_assign rfl) rfl ?_
    refine lx_end ⟨by kernel_rfl, ?_⟩
    refine pe_then_normal ?_
    refine tr_sub hC (.cons (t := 2) rfl (.cons (t := 3) rfl .nil)) (.cons (t := 2) rfl .nil) rfl ?_
    refine tr_ret ?_
    refine pe_retN (rs := [.cell 2 24, .tmp 3]) rfl rfl hO rfl (.cell (m := 2) rfl rfl ag24 sz24 (.tmp rfl .nil)) ?_
    refine entSy (r := ({ s with owner := -1, readers := [] }, 0)) (by dsimp only [syE, Sy.ps, Sy.zero]; repeat (first | exact Ent.refl _ | exact Ents.nil | exact Ent.nil _ _ | exact Ent.row _ _ _ _ | exact Ent.func _ | refine Ents.cons ?_ ?_ | refine Ent.tup ?_ | refine Ent.agg ?_ | refine Ent.cells ?_ | exact Ent.of_eq rfl)) (by simp only [unlockF, h11, if_true])

theorem runlock0_ok (s : Sy) (hx : s.readers.length ≤ 1000000) : FnP Try.prog 26 [aggP s.ps] (syE (unlockF s)) := by
  refine fn_pure' Try.func26 rfl Try.ntmps26 rfl ?_
  intro σ0 M ex Rf R hC hO
  simp only [frameOf, tokOf]
  refine tr_seq ?_
  refine tr_region (fun N0 hN => ?_)
  refine lxn (op_box (m := 1) (k := 1) rfl (.agg rfl) (by first | exact hC.low _ (by decide) | rfl)) rfl ?_
  refine lxn (op_alloc (m := 2) (k := 2) (ps := zps) ze24 rfl rfl (by first | exact hC.low _ (by decide) | rfl)) rfl ?_
  refine lx (op_assign rfl) rfl ?_
  refine lx_end ⟨by kernel_rfl, ?_⟩
  refine pe_then_normal ?_
  refine tr_sub hC (.cons (t := 1) rfl (.cons (t := 2) rfl .nil)) (.cons (t := 1) rfl (.cons (t := 2) rfl .nil)) rfl ?_
  refine tr_seq ?_
  refine tr_seq ?_
  refine tr_region (fun N1 hN => ?_)
  first | refine lx (op_bload (m := 1) rfl rfl ag24 sz24) rfl ?_ | refine lx (op_bload_part (m := 1) rfl rfl ag24 sz24 rfl rfl) rfl ?_
  first | refine lx (op_call (l := [(Go.Operand.tmp 4)]) (rvalid_ok s hx) (.cons rfl .nil) fn15) rfl ?_ | refine lx (op_call (l := [(Go.Operand.tmp 4)]) (rvalid_ok s hx) (.ent rfl (by repeat (first | exact Ent.refl _ | exact Ents.nil | exact Ent.nil _ _ | exact Ent.row _ _ _ _ | exact Ent.func _ | refine Ents.cons ?_ ?_ | refine Ent.tup ?_ | refine Ent.agg ?_ | refine Ent.cells ?_ | exact Ent.of_eq rfl)) .nil) fn15) rfl ?_
  first | refine lx (op_not rfl) rfl ?_ | refine lx (op_not_b rfl) rfl ?_
  refine lx_end ⟨by kernel_rfl, ?_⟩
  refine pe_then_normal ?_
  refine tr_sub hC (.cons (t := 1) rfl (.cons (t := 2) rfl (.cons (t := 6) rfl .nil))) (.cons (t := 1) rfl (.cons (t := 2) rfl .nil)) rfl ?_
  refine tr_cond rfl (fun h6 => ?_) (fun h6 => ?_)
  · (try simp only [Bool.and_eq_true, Bool.or_eq_true, Bool.and_eq_false_iff, Bool.or_eq_false_iff, decide_eq_true_eq, decide_eq_false_iff_not, Bool.not_eq_true', Bool.not_eq_false', ne_eq, Decidable.not_not, Int.not_lt, Int.not_le] at h6)
    refine tr_seq ?_
    refine tr_region (fun N2 hN => ?_)
    refine lx (op_build (parts := []) ze24 rfl rfl fs24 .nil rfl rfl) rfl ?_
    first | refine lxr (op_store_all (m := 2) rfl rfl rfl (.agg rfl) sz24 rfl) rfl ?_ | refine lxr (op_store (m := 2) rfl rfl rfl (.agg rfl) sz24 rfl rfl rfl) rfl ?_
    refine lx (op_assign rfl) rfl ?_
    refine lx_end ⟨by kernel_rfl, ?_⟩
    refine pe_then_normal ?_
    refine tr_sub hC (.cons (t := 2) rfl (.cons (t := 3) rfl .nil)) (.cons (t := 2) rfl .nil) rfl ?_
    refine tr_ret ?_
    refine pe_then_ret ?_
    refine pe_retN (rs := [.cell 2 24, .tmp 3]) rfl rfl hO rfl (.cell (m := 2) rfl rfl ag24 sz24 (.tmp rfl .nil)) ?_
    refine entSy (r := (Sy.zero, 1)) (by dsimp only [syE, Sy.ps, Sy.zero]; repeat (first | exact Ent.refl _ | exact Ents.nil | exact Ent.nil _ _ | exact Ent.row _ _ _ _ | exact Ent.func _ | refine Ents.cons ?_ ?_ | refine Ent.tup ?_ | refine Ent.agg ?_ | refine Ent.cells ?_ | exact Ent.of_eq rfl)) (by simp [unlockF, checkF, h6])
  · (try simp only [Bool.and_eq_true, Bool.or_eq_true, Bool.and_eq_false_iff, Bool.or_eq_false_iff, decide_eq_true_eq, decide_eq_false_iff_not, Bool.not_eq_true', Bool.not_eq_false', ne_eq, Decidable.not_not, Int.not_lt, Int.not_le] at h6)
    refine tr_skip ?_
    refine pe_then_normal ?_
    refine tr_sub hC (.cons (t := 1) rfl (.cons (t := 2) rfl .nil)) (.cons (t := 1) rfl (.cons (t := 2) rfl .nil)) rfl ?_
    refine tr_seq ?_
    refine tr_seq ?_
    refine tr_region (fun N3 hN => ?_)
    refine lx (op_fieldAddr rfl fl24_3 sz3) rfl ?_
    refine lx (op_bload_one (m := 1) rfl rfl ag3 rfl) rfl ?_
    refine lx (op_lss rfl rfl) rfl ?_
    refine lx_end ⟨by kernel_rfl, ?_⟩
    refine pe_then_normal ?_
    refine tr_sub hC (.cons (t := 1) rfl (.cons (t := 2) rfl (.cons (t := 10) rfl .nil))) (.cons (t := 1) rfl (.cons (t := 2) rfl .nil)) rfl ?_
    refine tr_cond rfl (fun h10 => ?_) (fun h10 => ?_)
    · (try simp only [Bool.and_eq_true, Bool.or_eq_true, Bool.and_eq_false_iff, Bool.or_eq_false_iff, decide_eq_true_eq, decide_eq_false_iff_not, Bool.not_eq_true', Bool.not_eq_false', ne_eq, Decidable.not_not, Int.not_lt, Int.not_le] at h10)
      refine tr_seq ?_
      refine tr_region (fun N4 hN => ?_)
      refine lx (op_build (parts := []) ze24 rfl rfl fs24 .nil rfl rfl) rfl ?_
      first | refine lxr (op_store_all (m := 2) rfl rfl rfl (.agg rfl) sz24 rfl) rfl ?_ | refine lxr (op_store (m := 2) rfl rfl rfl (.agg rfl) sz24 rfl rfl rfl) rfl ?_
      refine lx (op_assign rfl) rfl ?_
      refine lx_end ⟨by kernel_rfl, ?_⟩
      refine pe_then_normal ?_
      refine tr_sub hC (.cons (t := 2) rfl (.cons (t := 3) rfl .nil)) (.cons (t := 2) rfl .nil) rfl ?_
      refine tr_ret ?_
      refine pe_then_ret ?_
      refine pe_retN (rs := [.cell 2 24, .tmp 3]) rfl rfl hO rfl (.cell (m := 2) rfl rfl ag24 sz24 (.tmp rfl .nil)) ?_
      refine entSy (r := (Sy.zero, 11)) (by dsimp only [syE, Sy.ps, Sy.zero]; repeat (first | exact Ent.refl _ | exact Ents.nil | exact Ent.nil _ _ | exact Ent.row _ _ _ _ | exact Ent.func _ | refine Ents.cons ?_ ?_ | refine Ent.tup ?_ | refine Ent.agg ?_ | refine Ent.cells ?_ | exact Ent.of_eq rfl)) (by simp [unlockF, checkF, h6, goro, show ¬ 0 ≤ s.owner by omega])
    · (try simp only [Bool.and_eq_true, Bool.or_eq_true, Bool.and_eq_false_iff, Bool.or_eq_false_iff, decide_eq_true_eq, decide_eq_false_iff_not, Bool.not_eq_true', Bool.not_eq_false', ne_eq, Decidable.not_not, Int.not_lt, Int.not_le] at h10)
      refine tr_skip ?_
      refine pe_then_normal ?_
      refine tr_sub hC (.cons (t := 1) rfl (.cons (t := 2) rfl .nil)) (.cons (t := 1) rfl (.cons (t := 2) rfl .nil)) rfl ?_
      refine tr_seq ?_
      refine tr_region (fun N5 hN => ?_)
      refine lx (op_fieldAddr rfl fl24_3 sz3) rfl ?_
      refine lxr (op_store_one (m := 1) rfl rfl rfl (by (first | exact One.eq rfl | exact One.mv _ _ _ _ _ | exact One.cl _ _ _ | exact One.sl _ _ _ | exact One.row _ _ _ _ | exact One.msl _ _ _ _ | exact One.ptr _ _ | exact One.b _ | exact One.cells _)) sz3 rfl) rfl ?_
      refine lx_end ⟨by kernel_rfl, ?_⟩
      refine pe_then_normal ?_
      refine tr_sub hC (.cons (t := 1) rfl (.cons (t := 2) rfl .nil)) (.cons (t := 1) rfl (.cons (t := 2) rfl .nil)) rfl ?_
      refine tr_seq ?_
      refine tr_region (fun N6 hN => ?_)
      refine lx (op_fieldAddr rfl fl24_4 sz22) rfl ?_
      refine lxr (op_store_one (m := 1) rfl rfl rfl (by (first | exact One.eq rfl | exact One.mv _ _ _ _ _ | exact One.cl _ _ _ | exact One.sl _ _ _ | exact One.row _ _ _ _ | exact One.msl _ _ _ _ | exact One.ptr _ _ | exact One.b _ | exact One.cells _)) sz22 rfl) rfl ?_
      refine lx_end ⟨by kernel_rfl, ?_⟩
      refine pe_then_normal ?_
      refine tr_sub hC (.cons (t := 1) rfl (.cons (t := 2) rfl .nil)) (.cons (t := 1) rfl (.cons (t := 2) rfl .nil)) rfl ?_
      refine tr_seq ?_
      refine tr_region (fun N7 hN => ?_)
      first | refine lx (op_bload (m := 1) rfl rfl ag24 sz24) rfl ?_ | refine lx (op_bload_part (m := 1) rfl rfl ag24 sz24 rfl rfl) rfl ?_
      first | refine lxr (op_store_all (m := 2) rfl rfl rfl (.agg rfl) sz24 rfl) rfl ?_ | refine lxr (op_store (m := 2) rfl rfl rfl (.agg rfl) sz24 rfl rfl rfl) rfl ?_
      refine lx (op_assign rfl) rfl ?_
      refine lx_end ⟨by kernel_rfl, ?_⟩
      refine pe_then_normal ?_
      refine tr_sub hC (.cons (t := 2) rfl (.cons (t := 3) rfl .nil)) (.cons (t := 2) rfl .nil) rfl ?_
      refine tr_ret ?_
      refine pe_retN (rs := [.cell 2 24, .tmp 3]) rfl rfl hO rfl (.cell (m := 2) rfl rfl ag24 sz24 (.tmp rfl .nil)) ?_
      refine entSy (r := ({ s with owner := -1, readers := [] }, 0)) (by dsimp only [syE, Sy.ps, Sy.zero]; repeat (first | exact Ent.refl _ | exact Ents.nil | exact Ent.nil _ _ | exact Ent.row _ _ _ _ | exact Ent.func _ | refine Ents.cons ?_ ?_ | refine Ent.tup ?_ | refine Ent.agg ?_ | refine Ent.cells ?_ | exact Ent.of_eq rfl)) (by simp [unlockF, checkF, h6, goro, show 0 ≤ s.owner by omega])

theorem runlock_ok  (s : Sy) (g : Int) (hx : s.readers.length ≤ 1000000) : FnP Try.prog 22 [aggP s.ps, eqP (.int .i64 g)] (syE (runlockF s g)) := by
  refine fn_pure' Try.func22 rfl Try.ntmps22 rfl ?_
  intro σ0 M ex Rf R hC hO
  simp only [frameOf, tokOf]
  refine tr_seq ?_
  refine tr_region (fun N0 hN => ?_)
  refine lxn (op_box (m := 2) (k := 2) rfl (.agg rfl) (by first | exact hC.low _ (by decide) | rfl)) rfl ?_
  refine lxn (op_alloc (m := 4) (k := 4) (ps := zps) ze24 rfl rfl (by first | exact hC.low _ (by decide) | rfl)) rfl ?_
  refine lx (op_assign rfl) rfl ?_
  refine lx_end ⟨by kernel_rfl, ?_⟩
  refine pe_then_normal ?_
  refine tr_sub hC (.cons (t := 1) rfl (.cons (t := 2) rfl (.cons (t := 4) rfl .nil))) (.cons (t := 2) rfl (.cons (t := 4) rfl .nil)) rfl ?_
  refine tr_scope ?_
  refine tr_seq ?_
  refine tr_seq ?_
  refine tr_region (fun N1 hN => ?_)
  first | refine lx (op_bload (m := 2) rfl rfl ag24 sz24) rfl ?_ | refine lx (op_bload_part (m := 2) rfl rfl ag24 sz24 rfl rfl) rfl ?_
  refine lx (op_move rfl) rfl ?_
  refine lx (op_fieldAddr rfl fl24_4 sz22) rfl ?_
  refine lx (op_bload_one (m := 2) rfl rfl ag22 rfl) rfl ?_
  first | refine lx (op_len rfl el22) rfl ?_ | refine lx (op_len_row rfl el22) rfl ?_ | refine lx (op_len_mv rfl el22) rfl ?_
  refine lx (op_gtr rfl rfl) rfl ?_
  first | refine lx (op_call (l := [(Go.Operand.tmp 10), (Go.Operand.tmp 11), (Go.Operand.tmp 15)]) (check_ok s g _ hx) (.cons rfl (.cons rfl (.cons rfl .nil))) fn32) rfl ?_ | refine lx (op_call (l := [(Go.Operand.tmp 10), (Go.Operand.tmp 11), (Go.Operand.tmp 15)]) (check_ok s g _ hx) (.ent rfl (by repeat (first | exact Ent.refl _ | exact Ents.nil | exact Ent.nil _ _ | exact Ent.row _ _ _ _ | exact Ent.func _ | refine Ents.cons ?_ ?_ | refine Ent.tup ?_ | refine Ent.agg ?_ | refine Ent.cells ?_ | exact Ent.of_eq rfl)) (.ent rfl (by repeat (first | exact Ent.refl _ | exact Ents.nil | exact Ent.nil _ _ | exact Ent.row _ _ _ _ | exact Ent.func _ | refine Ents.cons ?_ ?_ | refine Ent.tup ?_ | refine Ent.agg ?_ | refine Ent.cells ?_ | exact Ent.of_eq rfl)) (.ent rfl (by repeat (first | exact Ent.refl _ | exact Ents.nil | exact Ent.nil _ _ | exact Ent.row _ _ _ _ | exact Ent.func _ | refine Ents.cons ?_ ?_ | refine Ent.tup ?_ | refine Ent.agg ?_ | refine Ent.cells ?_ | exact Ent.of_eq rfl)) .nil))) fn32) rfl ?_
  refine lx (op_assign rfl) rfl ?_
  refine lx_end ⟨by kernel_rfl, ?_⟩
  refine pe_then_normal ?_
  refine tr_sub hC (.cons (t := 1) rfl (.cons (t := 2) rfl (.cons (t := 4) rfl (.cons (t := 6) rfl .nil)))) (.cons (t := 2) rfl (.cons (t := 4) rfl .nil)) rfl ?_
  refine tr_seq ?_
  refine tr_region (fun N2 hN => ?_)
  refine lx (op_move rfl) rfl ?_
  refine lx (op_neq rfl rfl) rfl ?_
  refine lx_end ⟨by kernel_rfl, ?_⟩
  refine pe_then_normal ?_
  refine tr_sub hC (.cons (t := 1) rfl (.cons (t := 2) rfl (.cons (t := 4) rfl (.cons (t := 6) rfl (.cons (t := 18) rfl .nil))))) (.cons (t := 2) rfl (.cons (t := 4) rfl .nil)) rfl ?_
  refine tr_cond rfl (fun h18 => ?_) (fun h18 => ?_)
  · (try simp only [Bool.and_eq_true, Bool.or_eq_true, Bool.and_eq_false_iff, Bool.or_eq_false_iff, decide_eq_true_eq, decide_eq_false_iff_not, Bool.not_eq_true', Bool.not_eq_false', ne_eq, Decidable.not_not, Int.not_lt, Int.not_le] at h18)
    refine tr_seq ?_
    refine tr_region (fun N3 hN => ?_)
    refine lx (op_build (parts := []) ze24 rfl rfl fs24 .nil rfl rfl) rfl ?_
    refine lx (op_move rfl) rfl ?_
    first | refine lxr (op_store_all (m := 4) rfl rfl rfl (.agg rfl) sz24 rfl) rfl ?_ | refine lxr (op_store (m := 4) rfl rfl rfl (.agg rfl) sz24 rfl rfl rfl) rfl ?_
    refine lx (op_assign rfl) rfl ?_
    refine lx_end ⟨by kernel_rfl, ?_⟩
    refine pe_then_normal ?_
    refine tr_sub hC (.cons (t := 4) rfl (.cons (t := 5) rfl .nil)) (.cons (t := 4) rfl .nil) rfl ?_
    refine tr_ret ?_
    refine pe_then_ret ?_
    refine pe_scope_ret ?_
    refine pe_retN (rs := [.cell 4 24, .tmp 5]) rfl rfl hO rfl (.cell (m := 4) rfl rfl ag24 sz24 (.tmp rfl .nil)) ?_
    refine entSy (r := (Sy.zero, checkF s g (decide ((s.readers.length : Int) > 0)))) (by dsimp only [syE, Sy.ps, Sy.zero]; repeat (first | exact Ent.refl _ | exact Ents.nil | exact Ent.nil _ _ | exact Ent.row _ _ _ _ | exact Ent.func _ | refine Ents.cons ?_ ?_ | refine Ent.tup ?_ | refine Ent.agg ?_ | refine Ent.cells ?_ | exact Ent.of_eq rfl)) (by simp only [runlockF, h18, if_false])
  · (try simp only [Bool.and_eq_true, Bool.or_eq_true, Bool.and_eq_false_iff, Bool.or_eq_false_iff, decide_eq_true_eq, decide_eq_false_iff_not, Bool.not_eq_true', Bool.not_eq_false', ne_eq, Decidable.not_not, Int.not_lt, Int.not_le] at h18)
    have hpos : 0 < s.readers.length := checkF_pos h18
    refine tr_skip ?_
    refine pe_then_normal ?_
    refine tr_sub hC (.cons (t := 1) rfl (.cons (t := 2) rfl (.cons (t := 4) rfl .nil))) (.cons (t := 2) rfl (.cons (t := 4) rfl .nil)) rfl ?_
    refine tr_seq ?_
    refine tr_region (fun N4 hN => ?_)
    refine lx (op_assign rfl) rfl ?_
    refine lx_end ⟨by kernel_rfl, ?_⟩
    refine pe_then_normal ?_
    refine tr_sub hC (.cons (t := 1) rfl (.cons (t := 2) rfl (.cons (t := 4) rfl (.cons (t := 7) rfl .nil)))) (.cons (t := 2) rfl (.cons (t := 4) rfl .nil)) rfl ?_
    refine tr_seq ?_
    refine tr_label ?_
    refine pe_then_normal ?_
    refine tr_sub hC (.cons (t := 1) rfl (.cons (t := 2) rfl (.cons (t := 4) rfl (.cons (t := 7) rfl .nil)))) (.cons (t := 2) rfl (.cons (t := 4) rfl .nil)) rfl ?_
    refine tr_seq ?_
    refine tr_seq ?_
    refine tr_region (fun N5 hN => ?_)
    refine lx (op_fieldAddr rfl fl24_4 sz22) rfl ?_
    refine lx (op_bload_one (m := 2) rfl rfl ag22 rfl) rfl ?_
    first | refine lx (op_len rfl el22) rfl ?_ | refine lx (op_len_row rfl el22) rfl ?_ | refine lx (op_len_mv rfl el22) rfl ?_
    refine lx (op_move rfl) rfl ?_
    refine lx_end ⟨by kernel_rfl, ?_⟩
    refine pe_then_normal ?_
    refine tr_sub hC (.cons (t := 1) rfl (.cons (t := 2) rfl (.cons (t := 4) rfl (.cons (t := 7) rfl (.cons (t := 22) rfl (.cons (t := 23) rfl (.cons (t := 24) rfl .nil))))))) (.cons (t := 2) rfl (.cons (t := 4) rfl .nil)) rfl ?_
    refine tr_block ?_
    refine tr_loop (α := {k : Nat // k ≤ s.readers.length ∧ ∀ x ∈ s.readers.take k, decide (x = g) = false}) (⟨0, Nat.zero_le _, by simp⟩) (fun x => [(1, eqP (.int .i64 g)), (2, ptrP (N0, 2) 0), (4, ptrP (N0, 4) 0), (7, eqP (.int .i64 ((0 : Nat) : Int))), (22, slP ip 1 s.readers), (23, eqP (.int .i64 s.readers.length)), (24, eqP (.int .i64 (x.1 : Int)))]) (fun x => [(2, some ((N0, 2), blk 24 s.ps)), (4, some ((N0, 4), blk 24 zps))]) (fun x => s.readers.length - x.1) (pe_st hC ?_ ?_ rfl) (fun x => ?_)
    · try dsimp only
      first | refine SubF.cons rfl ?_ | (refine SubF.ent rfl ?_ ?_; · repeat (first | exact Ent.refl _ | exact Ents.nil | exact Ent.nil _ _ | exact Ent.row _ _ _ _ | exact Ent.func _ | refine Ents.cons ?_ ?_ | refine Ent.tup ?_ | refine Ent.agg ?_ | refine Ent.cells ?_ | exact Ent.of_eq rfl))
      first | refine SubF.cons rfl ?_ | (refine SubF.ent rfl ?_ ?_; · repeat (first | exact Ent.refl _ | exact Ents.nil | exact Ent.nil _ _ | exact Ent.row _ _ _ _ | exact Ent.func _ | refine Ents.cons ?_ ?_ | refine Ent.tup ?_ | refine Ent.agg ?_ | refine Ent.cells ?_ | exact Ent.of_eq rfl))
      first | refine SubF.cons rfl ?_ | (refine SubF.ent rfl ?_ ?_; · repeat (first | exact Ent.refl _ | exact Ents.nil | exact Ent.nil _ _ | exact Ent.row _ _ _ _ | exact Ent.func _ | refine Ents.cons ?_ ?_ | refine Ent.tup ?_ | refine Ent.agg ?_ | refine Ent.cells ?_ | exact Ent.of_eq rfl))
      first | refine SubF.cons rfl ?_ | (refine SubF.ent rfl ?_ ?_; · repeat (first | exact Ent.refl _ | exact Ents.nil | exact Ent.nil _ _ | exact Ent.row _ _ _ _ | exact Ent.func _ | refine Ents.cons ?_ ?_ | refine Ent.tup ?_ | refine Ent.agg ?_ | refine Ent.cells ?_ | exact Ent.of_eq rfl))
      first | refine SubF.cons rfl ?_ | (refine SubF.ent rfl ?_ ?_; · repeat (first | exact Ent.refl _ | exact Ents.nil | exact Ent.nil _ _ | exact Ent.row _ _ _ _ | exact Ent.func _ | refine Ents.cons ?_ ?_ | refine Ent.tup ?_ | refine Ent.agg ?_ | refine Ent.cells ?_ | exact Ent.of_eq rfl))
      first | refine SubF.cons rfl ?_ | (refine SubF.ent rfl ?_ ?_; · repeat (first | exact Ent.refl _ | exact Ents.nil | exact Ent.nil _ _ | exact Ent.row _ _ _ _ | exact Ent.func _ | refine Ents.cons ?_ ?_ | refine Ent.tup ?_ | refine Ent.agg ?_ | refine Ent.cells ?_ | exact Ent.of_eq rfl))
      first | refine SubF.cons rfl ?_ | (refine SubF.ent rfl ?_ ?_; · repeat (first | exact Ent.refl _ | exact Ents.nil | exact Ent.nil _ _ | exact Ent.row _ _ _ _ | exact Ent.func _ | refine Ents.cons ?_ ?_ | refine Ent.tup ?_ | refine Ent.agg ?_ | refine Ent.cells ?_ | exact Ent.of_eq rfl))
      exact SubF.nil
    · try dsimp only
      repeat (first | exact SubL.nil | refine SubL.cons rfl ?_)
    · obtain ⟨k, hk1, hk2⟩ := x
      dsimp only
      refine tr_seq ?_
      refine tr_region (fun N6 hN => ?_)
      refine lx (op_lss rfl rfl) rfl ?_
      refine lx_end ⟨by kernel_rfl, ?_⟩
      refine pe_then_normal ?_
      refine tr_sub hC (.cons (t := 1) rfl (.cons (t := 2) rfl (.cons (t := 4) rfl (.cons (t := 7) rfl (.cons (t := 22) rfl (.cons (t := 23) rfl (.cons (t := 24) rfl (.cons (t := 25) rfl .nil)))))))) (.cons (t := 2) rfl (.cons (t := 4) rfl .nil)) rfl ?_
      refine tr_seq ?_
      refine tr_cond rfl (fun h25 => ?_) (fun h25 => ?_)
      · (try simp only [Bool.and_eq_true, Bool.or_eq_true, Bool.and_eq_false_iff, Bool.or_eq_false_iff, decide_eq_true_eq, decide_eq_false_iff_not, Bool.not_eq_true', Bool.not_eq_false', ne_eq, Decidable.not_not, Int.not_lt, Int.not_le] at h25)
        refine tr_skip ?_
        refine pe_then_normal ?_
        refine tr_sub hC (.cons (t := 1) rfl (.cons (t := 2) rfl (.cons (t := 4) rfl (.cons (t := 7) rfl (.cons (t := 22) rfl (.cons (t := 23) rfl (.cons (t := 24) rfl .nil))))))) (.cons (t := 2) rfl (.cons (t := 4) rfl .nil)) rfl ?_
        refine tr_seq ?_
        refine tr_block ?_
        refine tr_seq ?_
        refine tr_region (fun N7 hN => ?_)
        refine lx (op_move rfl) rfl ?_
        refine lx (op_index rfl rfl el22 sz3 rfl (List.getElem?_eq_getElem (by omega : k < s.readers.length))) rfl ?_
        first | refine lx (op_load_one rfl ag3 rfl) rfl ?_ | refine lx (op_bload_one (m := 2) rfl rfl ag3 rfl) rfl ?_ | refine lx (op_bload_one (m := 4) rfl rfl ag3 rfl) rfl ?_
        refine lx (op_assign rfl) rfl ?_
        refine lx (op_assign rfl) rfl ?_
        refine lx_end ⟨by kernel_rfl, ?_⟩
        refine pe_then_normal ?_
        refine tr_sub hC (.cons (t := 1) rfl (.cons (t := 2) rfl (.cons (t := 4) rfl (.cons (t := 7) rfl (.cons (t := 8) rfl (.cons (t := 9) rfl (.cons (t := 22) rfl (.cons (t := 23) rfl (.cons (t := 24) rfl .nil))))))))) (.cons (t := 2) rfl (.cons (t := 4) rfl .nil)) rfl ?_
        refine tr_seq ?_
        refine tr_region (fun N8 hN => ?_)
        refine lx (op_move rfl) rfl ?_
        refine lx_end ⟨by kernel_rfl, ?_⟩
        refine pe_then_normal ?_
        refine tr_sub hC (.cons (t := 1) rfl (.cons (t := 2) rfl (.cons (t := 4) rfl (.cons (t := 7) rfl (.cons (t := 8) rfl (.cons (t := 22) rfl (.cons (t := 23) rfl (.cons (t := 24) rfl (.cons (t := 29) rfl .nil))))))))) (.cons (t := 2) rfl (.cons (t := 4) rfl .nil)) rfl ?_
        refine tr_block ?_
        refine tr_seq ?_
        refine tr_region (fun N9 hN => ?_)
        refine lx (op_move rfl) rfl ?_
        refine lx (op_eql rfl rfl) rfl ?_
        refine lx (op_assign rfl) rfl ?_
        refine lx_end ⟨by kernel_rfl, ?_⟩
        refine pe_then_normal ?_
        refine tr_sub hC (.cons (t := 1) rfl (.cons (t := 2) rfl (.cons (t := 4) rfl (.cons (t := 7) rfl (.cons (t := 8) rfl (.cons (t := 22) rfl (.cons (t := 23) rfl (.cons (t := 24) rfl (.cons (t := 30) rfl .nil))))))))) (.cons (t := 2) rfl (.cons (t := 4) rfl .nil)) rfl ?_
        refine tr_cond rfl (fun h30 => ?_) (fun h30 => ?_)
        · (try simp only [Bool.and_eq_true, Bool.or_eq_true, Bool.and_eq_false_iff, Bool.or_eq_false_iff, decide_eq_true_eq, decide_eq_false_iff_not, Bool.not_eq_true', Bool.not_eq_false', ne_eq, Decidable.not_not, Int.not_lt, Int.not_le] at h30)
          refine tr_seq ?_
          refine tr_region (fun N10 hN => ?_)
          refine lx (op_move rfl) rfl ?_
          refine lx (op_assign rfl) rfl ?_
          refine lx_end ⟨by kernel_rfl, ?_⟩
          refine pe_then_normal ?_
          refine tr_sub hC (.cons (t := 2) rfl (.cons (t := 4) rfl (.cons (t := 7) rfl .nil))) (.cons (t := 2) rfl (.cons (t := 4) rfl .nil)) rfl ?_
          refine tr_exit ?_
          refine pe_block_ne rfl ?_
          refine pe_block_ne rfl ?_
          refine pe_then_exit ?_
          refine pe_then_exit ?_
          refine pe_block_eq ?_
          refine pe_then_normal ?_
          refine tr_sub hC (.cons (t := 2) rfl (.cons (t := 4) rfl (.cons (t := 7) rfl .nil))) (.cons (t := 2) rfl (.cons (t := 4) rfl .nil)) rfl ?_
          refine tr_seq ?_
          refine tr_region (fun N12 hN => ?_)
          refine lx (op_fieldAddr rfl fl24_4 sz22) rfl ?_
          refine lx (op_bload_one (m := 2) rfl rfl ag22 rfl) rfl ?_
          first | refine lxn (op_callG (del := []) (add := [(37, ((N12, 37), blkX 1 3 (s.readers.flatMap ip)))]) (ks := [37]) (mclone_ok s.readers hx) (.cons rfl .nil) fn33 rfl rfl rfl (by intro x hx; cases hx) (fun x hx => .inl (by cases hx with | head => exact hC.low 37 (by decide) | tail _ h => cases h))) rfl ?_ | refine lxn (op_callG (del := []) (add := [(37, ((N12, 37), blkX 1 3 (s.readers.flatMap ip)))]) (ks := [37]) (mclone_ok s.readers hx) (.ent rfl (by repeat (first | exact Ent.refl _ | exact Ents.nil | exact Ent.nil _ _ | exact Ent.row _ _ _ _ | exact Ent.func _ | refine Ents.cons ?_ ?_ | refine Ent.tup ?_ | refine Ent.agg ?_ | refine Ent.cells ?_ | exact Ent.of_eq rfl)) .nil) fn33 rfl rfl rfl (by intro x hx; cases hx) (fun x hx => .inl (by cases hx with | head => exact hC.low 37 (by decide) | tail _ h => cases h))) rfl ?_
          refine lx (op_move rfl) rfl ?_
          refine lx (op_move rfl) rfl ?_
          refine lx (op_add rfl rfl (by omega)) rfl ?_
          first | refine lxd (op_callG (del := [(37, (_, blkX 1 3 (s.readers.flatMap ip)))]) (add := []) (ks := []) (delete_ok _ s.readers _ (by omega) hx) (.cons rfl (.cons rfl (.cons rfl .nil))) fn34 rfl rfl rfl (by intro x hx; cases hx with | head => rfl | tail _ h => cases h) (by intro x hx; cases hx)) rfl ?_ | refine lxd (op_callG (del := [(37, (_, blkX 1 3 (s.readers.flatMap ip)))]) (add := []) (ks := []) (delete_ok _ s.readers _ (by omega) hx) (.ent rfl (by repeat (first | exact Ent.refl _ | exact Ents.nil | exact Ent.nil _ _ | exact Ent.row _ _ _ _ | exact Ent.func _ | refine Ents.cons ?_ ?_ | refine Ent.tup ?_ | refine Ent.agg ?_ | refine Ent.cells ?_ | exact Ent.of_eq rfl)) (.ent rfl (by repeat (first | exact Ent.refl _ | exact Ents.nil | exact Ent.nil _ _ | exact Ent.row _ _ _ _ | exact Ent.func _ | refine Ents.cons ?_ ?_ | refine Ent.tup ?_ | refine Ent.agg ?_ | refine Ent.cells ?_ | exact Ent.of_eq rfl)) (.ent rfl (by repeat (first | exact Ent.refl _ | exact Ents.nil | exact Ent.nil _ _ | exact Ent.row _ _ _ _ | exact Ent.func _ | refine Ents.cons ?_ ?_ | refine Ent.tup ?_ | refine Ent.agg ?_ | refine Ent.cells ?_ | exact Ent.of_eq rfl)) .nil))) fn34 rfl rfl rfl (by intro x hx; cases hx with | head => rfl | tail _ h => cases h) (by intro x hx; cases hx)) rfl ?_
          refine lx (op_fieldAddr rfl fl24_4 sz22) rfl ?_
          refine lxr (op_store_one (m := 2) rfl rfl rfl (by (first | exact One.eq rfl | exact One.mv _ _ _ _ _ | exact One.cl _ _ _ | exact One.sl _ _ _ | exact One.row _ _ _ _ | exact One.msl _ _ _ _ | exact One.ptr _ _ | exact One.b _ | exact One.cells _)) sz22 rfl) rfl ?_
          refine lx_end ⟨by kernel_rfl, ?_⟩
          refine pe_then_normal ?_
          refine tr_sub hC (.cons (t := 2) rfl (.cons (t := 4) rfl .nil)) (.cons (t := 2) rfl (.cons (t := 4) rfl .nil)) rfl ?_
          refine tr_seq ?_
          refine tr_region (fun N13 hN => ?_)
          first | refine lx (op_bload (m := 2) rfl rfl ag24 sz24) rfl ?_ | refine lx (op_bload_part (m := 2) rfl rfl ag24 sz24 rfl rfl) rfl ?_
          first | refine lxr (op_store_all (m := 4) rfl rfl rfl (.agg rfl) sz24 rfl) rfl ?_ | refine lxr (op_store (m := 4) rfl rfl rfl (.agg rfl) sz24 rfl rfl rfl) rfl ?_
          refine lx (op_assign rfl) rfl ?_
          refine lx_end ⟨by kernel_rfl, ?_⟩
          refine pe_then_normal ?_
          refine tr_sub hC (.cons (t := 4) rfl (.cons (t := 5) rfl .nil)) (.cons (t := 4) rfl .nil) rfl ?_
          refine tr_ret ?_
          refine pe_scope_ret ?_
          refine pe_retN (rs := [.cell 4 24, .tmp 5]) rfl rfl hO rfl (.cell (m := 4) rfl rfl ag24 sz24 (.tmp rfl .nil)) ?_
          refine entSy (r := ({ s with readers := s.readers.take k ++ s.readers.drop (k + 1) }, 0)) (by dsimp only [syE, Sy.ps, Sy.zero]; repeat (first | exact Ent.refl _ | exact Ents.nil | exact Ent.nil _ _ | exact Ent.row _ _ _ _ | exact Ent.func _ | refine Ents.cons ?_ ?_ | refine Ent.tup ?_ | refine Ent.agg ?_ | refine Ent.cells ?_ | exact Ent.of_eq rfl)) (by simp only [runlockF, h18, if_true]; rw [idxN_at (by omega) hk2 h30])
        · (try simp only [Bool.and_eq_true, Bool.or_eq_true, Bool.and_eq_false_iff, Bool.or_eq_false_iff, decide_eq_true_eq, decide_eq_false_iff_not, Bool.not_eq_true', Bool.not_eq_false', ne_eq, Decidable.not_not, Int.not_lt, Int.not_le] at h30)
          have hmiss : decide (s.readers[k] = g) = false := by simpa using h30
          refine tr_skip ?_
          refine pe_block_normal ?_
          refine pe_block_normal ?_
          refine pe_then_normal ?_
          refine tr_sub hC (.cons (t := 1) rfl (.cons (t := 2) rfl (.cons (t := 4) rfl (.cons (t := 7) rfl (.cons (t := 22) rfl (.cons (t := 23) rfl (.cons (t := 24) rfl .nil))))))) (.cons (t := 2) rfl (.cons (t := 4) rfl .nil)) rfl ?_
          refine tr_region (fun N11 hN => ?_)
          refine lx (op_add rfl rfl (by omega)) rfl ?_
          refine lx (op_move rfl) rfl ?_
          refine lx_end ⟨by kernel_rfl, ?_⟩
          refine pe_round (⟨k + 1, by omega, take_all hk2 (by omega) hmiss⟩) (by dsimp only; omega) (pe_st hC ?_ ?_ rfl)
          · try dsimp only
            first | refine SubF.cons rfl ?_ | (refine SubF.ent rfl ?_ ?_; · repeat (first | exact Ent.refl _ | exact Ents.nil | exact Ent.nil _ _ | exact Ent.row _ _ _ _ | exact Ent.func _ | refine Ents.cons ?_ ?_ | refine Ent.tup ?_ | refine Ent.agg ?_ | refine Ent.cells ?_ | exact Ent.of_eq rfl))
            first | refine SubF.cons rfl ?_ | (refine SubF.ent rfl ?_ ?_; · repeat (first | exact Ent.refl _ | exact Ents.nil | exact Ent.nil _ _ | exact Ent.row _ _ _ _ | exact Ent.func _ | refine Ents.cons ?_ ?_ | refine Ent.tup ?_ | refine Ent.agg ?_ | refine Ent.cells ?_ | exact Ent.of_eq rfl))
            first | refine SubF.cons rfl ?_ | (refine SubF.ent rfl ?_ ?_; · repeat (first | exact Ent.refl _ | exact Ents.nil | exact Ent.nil _ _ | exact Ent.row _ _ _ _ | exact Ent.func _ | refine Ents.cons ?_ ?_ | refine Ent.tup ?_ | refine Ent.agg ?_ | refine Ent.cells ?_ | exact Ent.of_eq rfl))
            first | refine SubF.cons rfl ?_ | (refine SubF.ent rfl ?_ ?_; · repeat (first | exact Ent.refl _ | exact Ents.nil | exact Ent.nil _ _ | exact Ent.row _ _ _ _ | exact Ent.func _ | refine Ents.cons ?_ ?_ | refine Ent.tup ?_ | refine Ent.agg ?_ | refine Ent.cells ?_ | exact Ent.of_eq rfl))
            first | refine SubF.cons rfl ?_ | (refine SubF.ent rfl ?_ ?_; · repeat (first | exact Ent.refl _ | exact Ents.nil | exact Ent.nil _ _ | exact Ent.row _ _ _ _ | exact Ent.func _ | refine Ents.cons ?_ ?_ | refine Ent.tup ?_ | refine Ent.agg ?_ | refine Ent.cells ?_ | exact Ent.of_eq rfl))
            first | refine SubF.cons rfl ?_ | (refine SubF.ent rfl ?_ ?_; · repeat (first | exact Ent.refl _ | exact Ents.nil | exact Ent.nil _ _ | exact Ent.row _ _ _ _ | exact Ent.func _ | refine Ents.cons ?_ ?_ | refine Ent.tup ?_ | refine Ent.agg ?_ | refine Ent.cells ?_ | exact Ent.of_eq rfl))
            first | refine SubF.cons rfl ?_ | (refine SubF.ent rfl ?_ ?_; · repeat (first | exact Ent.refl _ | exact Ents.nil | exact Ent.nil _ _ | exact Ent.row _ _ _ _ | exact Ent.func _ | refine Ents.cons ?_ ?_ | refine Ent.tup ?_ | refine Ent.agg ?_ | refine Ent.cells ?_ | exact Ent.of_eq rfl))
            exact SubF.nil
          · try dsimp only
            repeat (first | exact SubL.nil | refine SubL.cons rfl ?_)
      · (try simp only [Bool.and_eq_true, Bool.or_eq_true, Bool.and_eq_false_iff, Bool.or_eq_false_iff, decide_eq_true_eq, decide_eq_false_iff_not, Bool.not_eq_true', Bool.not_eq_false', ne_eq, Decidable.not_not, Int.not_lt, Int.not_le] at h25)
        have hk3 : k = s.readers.length := by omega
        refine tr_exit ?_
        refine pe_then_exit ?_
        refine pe_then_exit ?_
        refine pe_block_eq ?_
        refine pe_then_normal ?_
        refine tr_sub hC (.cons (t := 2) rfl (.cons (t := 4) rfl (.cons (t := 7) rfl .nil))) (.cons (t := 2) rfl (.cons (t := 4) rfl .nil)) rfl ?_
        refine tr_seq ?_
        refine tr_region (fun N12 hN => ?_)
        refine lx (op_fieldAddr rfl fl24_4 sz22) rfl ?_
        refine lx (op_bload_one (m := 2) rfl rfl ag22 rfl) rfl ?_
        first | refine lxn (op_callG (del := []) (add := [(37, ((N12, 37), blkX 1 3 (s.readers.flatMap ip)))]) (ks := [37]) (mclone_ok s.readers hx) (.cons rfl .nil) fn33 rfl rfl rfl (by intro x hx; cases hx) (fun x hx => .inl (by cases hx with | head => exact hC.low 37 (by decide) | tail _ h => cases h))) rfl ?_ | refine lxn (op_callG (del := []) (add := [(37, ((N12, 37), blkX 1 3 (s.readers.flatMap ip)))]) (ks := [37]) (mclone_ok s.readers hx) (.ent rfl (by repeat (first | exact Ent.refl _ | exact Ents.nil | exact Ent.nil _ _ | exact Ent.row _ _ _ _ | exact Ent.func _ | refine Ents.cons ?_ ?_ | refine Ent.tup ?_ | refine Ent.agg ?_ | refine Ent.cells ?_ | exact Ent.of_eq rfl)) .nil) fn33 rfl rfl rfl (by intro x hx; cases hx) (fun x hx => .inl (by cases hx with | head => exact hC.low 37 (by decide) | tail _ h => cases h))) rfl ?_
        refine lx (op_move rfl) rfl ?_
        refine lx (op_move rfl) rfl ?_
        refine lx (op_add rfl rfl (by omega)) rfl ?_
        first | refine lxd (op_callG (del := [(37, (_, blkX 1 3 (s.readers.flatMap ip)))]) (add := []) (ks := []) (delete_ok _ s.readers _ (by omega) hx) (.cons rfl (.cons rfl (.cons rfl .nil))) fn34 rfl rfl rfl (by intro x hx; cases hx with | head => rfl | tail _ h => cases h) (by intro x hx; cases hx)) rfl ?_ | refine lxd (op_callG (del := [(37, (_, blkX 1 3 (s.readers.flatMap ip)))]) (add := []) (ks := []) (delete_ok _ s.readers _ (by omega) hx) (.ent rfl (by repeat (first | exact Ent.refl _ | exact Ents.nil | exact Ent.nil _ _ | exact Ent.row _ _ _ _ | exact Ent.func _ | refine Ents.cons ?_ ?_ | refine Ent.tup ?_ | refine Ent.agg ?_ | refine Ent.cells ?_ | exact Ent.of_eq rfl)) (.ent rfl (by repeat (first | exact Ent.refl _ | exact Ents.nil | exact Ent.nil _ _ | exact Ent.row _ _ _ _ | exact Ent.func _ | refine Ents.cons ?_ ?_ | refine Ent.tup ?_ | refine Ent.agg ?_ | refine Ent.cells ?_ | exact Ent.of_eq rfl)) (.ent rfl (by repeat (first | exact Ent.refl _ | exact Ents.nil | exact Ent.nil _ _ | exact Ent.row _ _ _ _ | exact Ent.func _ | refine Ents.cons ?_ ?_ | refine Ent.tup ?_ | refine Ent.agg ?_ | refine Ent.cells ?_ | exact Ent.of_eq rfl)) .nil))) fn34 rfl rfl rfl (by intro x hx; cases hx with | head => rfl | tail _ h => cases h) (by intro x hx; cases hx)) rfl ?_
        refine lx (op_fieldAddr rfl fl24_4 sz22) rfl ?_
        refine lxr (op_store_one (m := 2) rfl rfl rfl (by (first | exact One.eq rfl | exact One.mv _ _ _ _ _ | exact One.cl _ _ _ | exact One.sl _ _ _ | exact One.row _ _ _ _ | exact One.msl _ _ _ _ | exact One.ptr _ _ | exact One.b _ | exact One.cells _)) sz22 rfl) rfl ?_
        refine lx_end ⟨by kernel_rfl, ?_⟩
        refine pe_then_normal ?_
        refine tr_sub hC (.cons (t := 2) rfl (.cons (t := 4) rfl .nil)) (.cons (t := 2) rfl (.cons (t := 4) rfl .nil)) rfl ?_
        refine tr_seq ?_
        refine tr_region (fun N13 hN => ?_)
        first | refine lx (op_bload (m := 2) rfl rfl ag24 sz24) rfl ?_ | refine lx (op_bload_part (m := 2) rfl rfl ag24 sz24 rfl rfl) rfl ?_
        first | refine lxr (op_store_all (m := 4) rfl rfl rfl (.agg rfl) sz24 rfl) rfl ?_ | refine lxr (op_store (m := 4) rfl rfl rfl (.agg rfl) sz24 rfl rfl rfl) rfl ?_
        refine lx (op_assign rfl) rfl ?_
        refine lx_end ⟨by kernel_rfl, ?_⟩
        refine pe_then_normal ?_
        refine tr_sub hC (.cons (t := 4) rfl (.cons (t := 5) rfl .nil)) (.cons (t := 4) rfl .nil) rfl ?_
        refine tr_ret ?_
        refine pe_scope_ret ?_
        refine pe_retN (rs := [.cell 4 24, .tmp 5]) rfl rfl hO rfl (.cell (m := 4) rfl rfl ag24 sz24 (.tmp rfl .nil)) ?_
        refine entSy (r := ({ s with readers := s.readers.take 0 ++ s.readers.drop (0 + 1) }, 0)) (by dsimp only [syE, Sy.ps, Sy.zero]; repeat (first | exact Ent.refl _ | exact Ents.nil | exact Ent.nil _ _ | exact Ent.row _ _ _ _ | exact Ent.func _ | refine Ents.cons ?_ ?_ | refine Ent.tup ?_ | refine Ent.agg ?_ | refine Ent.cells ?_ | exact Ent.of_eq rfl)) (by simp only [runlockF, h18, if_true]; rw [idxN_none (by rwa [hk3, List.take_of_length_le (Nat.le_refl _)] at hk2)])

theorem rrunlock_ok  (s : Sy) (g : Int) (hx : s.readers.length ≤ 1000000) : FnP Try.prog 27 [aggP s.ps, eqP (.int .i64 g)] (syE (runlockF s g)) := by
  refine fn_pure' Try.func27 rfl Try.ntmps27 rfl ?_
  intro σ0 M ex Rf R hC hO
  simp only [frameOf, tokOf]
  refine tr_seq ?_
  refine tr_region (fun N0 hN => ?_)
  refine lxn (op_box (m := 2) (k := 2) rfl (.agg rfl) (by first | exact hC.low _ (by decide) | rfl)) rfl ?_
  refine lxn (op_alloc (m := 4) (k := 4) (ps := zps) ze24 rfl rfl (by first | exact hC.low _ (by decide) | rfl)) rfl ?_
  refine lx (op_assign rfl) rfl ?_
  refine lx_end ⟨by kernel_rfl, ?_⟩
  refine pe_then_normal ?_
  refine tr_sub hC (.cons (t := 1) rfl (.cons (t := 2) rfl (.cons (t := 4) rfl .nil))) (.cons (t := 2) rfl (.cons (t := 4) rfl .nil)) rfl ?_
  refine tr_seq ?_
  refine tr_seq ?_
  refine tr_region (fun N1 hN => ?_)
  first | refine lx (op_bload (m := 2) rfl rfl ag24 sz24) rfl ?_ | refine lx (op_bload_part (m := 2) rfl rfl ag24 sz24 rfl rfl) rfl ?_
  first | refine lx (op_call (l := [(Go.Operand.tmp 9)]) (rvalid_ok s hx) (.cons rfl .nil) fn15) rfl ?_ | refine lx (op_call (l := [(Go.Operand.tmp 9)]) (rvalid_ok s hx) (.ent rfl (by repeat (first | exact Ent.refl _ | exact Ents.nil | exact Ent.nil _ _ | exact Ent.row _ _ _ _ | exact Ent.func _ | refine Ents.cons ?_ ?_ | refine Ent.tup ?_ | refine Ent.agg ?_ | refine Ent.cells ?_ | exact Ent.of_eq rfl)) .nil) fn15) rfl ?_
  first | refine lx (op_not rfl) rfl ?_ | refine lx (op_not_b rfl) rfl ?_
  refine lx (op_move rfl) rfl ?_
  refine lxs rfl rfl rfl guard_eq (.cons (t := 1) rfl (fun _ => Ent.refl _) .nil) (op_move rfl) rfl ?_
  first | refine lxs rfl rfl rfl guard_eq (.cons (t := 13) rfl (fun h => entW h) .nil) (op_call (l := [(Go.Operand.tmp 13)]) (rgoro_ok _) (.cons rfl .nil) fn35) rfl ?_ | refine lxs rfl rfl rfl guard_eq (.cons (t := 13) rfl (fun h => entW h) .nil) (op_call (l := [(Go.Operand.tmp 13)]) (rgoro_ok _) (.ent rfl (by repeat (first | exact Ent.refl _ | exact Ents.nil | exact Ent.nil _ _ | exact Ent.row _ _ _ _ | exact Ent.func _ | refine Ents.cons ?_ ?_ | refine Ent.tup ?_ | refine Ent.agg ?_ | refine Ent.cells ?_ | exact Ent.of_eq rfl)) .nil) fn35) rfl ?_
  first | refine lxs rfl rfl rfl guard_eq (.cons (t := 14) rfl (fun h => entW h) .nil) (op_not rfl) rfl ?_ | refine lxs rfl rfl rfl guard_eq (.cons (t := 14) rfl (fun h => entW h) .nil) (op_not_b rfl) rfl ?_
  refine lx (op_pick_or rfl rfl) rfl ?_
  refine lx_end ⟨by kernel_rfl, ?_⟩
  refine pe_then_normal ?_
  refine tr_sub hC (.cons (t := 1) rfl (.cons (t := 2) rfl (.cons (t := 4) rfl (.cons (t := 16) rfl .nil)))) (.cons (t := 2) rfl (.cons (t := 4) rfl .nil)) rfl ?_
  refine tr_cond rfl (fun h16 => ?_) (fun h16 => ?_)
  · (try simp only [Bool.and_eq_true, Bool.or_eq_true, Bool.and_eq_false_iff, Bool.or_eq_false_iff, decide_eq_true_eq, decide_eq_false_iff_not, Bool.not_eq_true', Bool.not_eq_false', ne_eq, Decidable.not_not, Int.not_lt, Int.not_le] at h16)
    refine tr_seq ?_
    refine tr_region (fun N2 hN => ?_)
    refine lx (op_build (parts := []) ze24 rfl rfl fs24 .nil rfl rfl) rfl ?_
    first | refine lxr (op_store_all (m := 4) rfl rfl rfl (.agg rfl) sz24 rfl) rfl ?_ | refine lxr (op_store (m := 4) rfl rfl rfl (.agg rfl) sz24 rfl rfl rfl) rfl ?_
    refine lx (op_assign rfl) rfl ?_
    refine lx_end ⟨by kernel_rfl, ?_⟩
    refine pe_then_normal ?_
    refine tr_sub hC (.cons (t := 4) rfl (.cons (t := 5) rfl .nil)) (.cons (t := 4) rfl .nil) rfl ?_
    refine tr_ret ?_
    refine pe_then_ret ?_
    refine pe_retN (rs := [.cell 4 24, .tmp 5]) rfl rfl hO rfl (.cell (m := 4) rfl rfl ag24 sz24 (.tmp rfl .nil)) ?_
    refine entSy (r := (Sy.zero, 1)) (by dsimp only [syE, Sy.ps, Sy.zero]; repeat (first | exact Ent.refl _ | exact Ents.nil | exact Ent.nil _ _ | exact Ent.row _ _ _ _ | exact Ent.func _ | refine Ents.cons ?_ ?_ | refine Ent.tup ?_ | refine Ent.agg ?_ | refine Ent.cells ?_ | exact Ent.of_eq rfl)) (by simp [runlockF, checkF, h16])
  · (try simp only [Bool.and_eq_true, Bool.or_eq_true, Bool.and_eq_false_iff, Bool.or_eq_false_iff, decide_eq_true_eq, decide_eq_false_iff_not, Bool.not_eq_true', Bool.not_eq_false', ne_eq, Decidable.not_not, Int.not_lt, Int.not_le] at h16)
    refine tr_skip ?_
    refine pe_then_normal ?_
    refine tr_sub hC (.cons (t := 1) rfl (.cons (t := 2) rfl (.cons (t := 4) rfl .nil))) (.cons (t := 2) rfl (.cons (t := 4) rfl .nil)) rfl ?_
    refine tr_seq ?_
    refine tr_seq ?_
    refine tr_region (fun N3 hN => ?_)
    refine lx (op_fieldAddr rfl fl24_4 sz22) rfl ?_
    refine lx (op_bload_one (m := 2) rfl rfl ag22 rfl) rfl ?_
    first | refine lx (op_len rfl el22) rfl ?_ | refine lx (op_len_row rfl el22) rfl ?_ | refine lx (op_len_mv rfl el22) rfl ?_
    refine lx (op_eql rfl rfl) rfl ?_
    refine lx_end ⟨by kernel_rfl, ?_⟩
    refine pe_then_normal ?_
    refine tr_sub hC (.cons (t := 1) rfl (.cons (t := 2) rfl (.cons (t := 4) rfl (.cons (t := 21) rfl .nil)))) (.cons (t := 2) rfl (.cons (t := 4) rfl .nil)) rfl ?_
    refine tr_cond rfl (fun h21 => ?_) (fun h21 => ?_)
    · (try simp only [Bool.and_eq_true, Bool.or_eq_true, Bool.and_eq_false_iff, Bool.or_eq_false_iff, decide_eq_true_eq, decide_eq_false_iff_not, Bool.not_eq_true', Bool.not_eq_false', ne_eq, Decidable.not_not, Int.not_lt, Int.not_le] at h21)
      refine tr_seq ?_
      refine tr_region (fun N4 hN => ?_)
      refine lx (op_build (parts := []) ze24 rfl rfl fs24 .nil rfl rfl) rfl ?_
      first | refine lxr (op_store_all (m := 4) rfl rfl rfl (.agg rfl) sz24 rfl) rfl ?_ | refine lxr (op_store (m := 4) rfl rfl rfl (.agg rfl) sz24 rfl rfl rfl) rfl ?_
      refine lx (op_assign rfl) rfl ?_
      refine lx_end ⟨by kernel_rfl, ?_⟩
      refine pe_then_normal ?_
      refine tr_sub hC (.cons (t := 4) rfl (.cons (t := 5) rfl .nil)) (.cons (t := 4) rfl .nil) rfl ?_
      refine tr_ret ?_
      refine pe_then_ret ?_
      refine pe_retN (rs := [.cell 4 24, .tmp 5]) rfl rfl hO rfl (.cell (m := 4) rfl rfl ag24 sz24 (.tmp rfl .nil)) ?_
      refine entSy (r := (Sy.zero, 11)) (by dsimp only [syE, Sy.ps, Sy.zero]; repeat (first | exact Ent.refl _ | exact Ents.nil | exact Ent.nil _ _ | exact Ent.row _ _ _ _ | exact Ent.func _ | refine Ents.cons ?_ ?_ | refine Ent.tup ?_ | refine Ent.agg ?_ | refine Ent.cells ?_ | exact Ent.of_eq rfl)) (by simp only [runlockF, checkF, h16, h21, if_false, if_true]; simp)
    · (try simp only [Bool.and_eq_true, Bool.or_eq_true, Bool.and_eq_false_iff, Bool.or_eq_false_iff, decide_eq_true_eq, decide_eq_false_iff_not, Bool.not_eq_true', Bool.not_eq_false', ne_eq, Decidable.not_not, Int.not_lt, Int.not_le] at h21)
      have hpos : 0 < s.readers.length := by omega
      refine tr_skip ?_
      refine pe_then_normal ?_
      refine tr_sub hC (.cons (t := 1) rfl (.cons (t := 2) rfl (.cons (t := 4) rfl .nil))) (.cons (t := 2) rfl (.cons (t := 4) rfl .nil)) rfl ?_
      refine tr_seq ?_
      refine tr_region (fun N5 hN => ?_)
      refine lx (op_assign rfl) rfl ?_
      refine lx_end ⟨by kernel_rfl, ?_⟩
      refine pe_then_normal ?_
      refine tr_sub hC (.cons (t := 1) rfl (.cons (t := 2) rfl (.cons (t := 4) rfl (.cons (t := 6) rfl .nil)))) (.cons (t := 2) rfl (.cons (t := 4) rfl .nil)) rfl ?_
      refine tr_seq ?_
      refine tr_seq ?_
      refine tr_region (fun N6 hN => ?_)
      refine lx (op_fieldAddr rfl fl24_4 sz22) rfl ?_
      refine lx (op_bload_one (m := 2) rfl rfl ag22 rfl) rfl ?_
      first | refine lx (op_len rfl el22) rfl ?_ | refine lx (op_len_row rfl el22) rfl ?_ | refine lx (op_len_mv rfl el22) rfl ?_
      refine lx (op_sub rfl rfl (by omega)) rfl ?_
      refine lx (op_assign rfl) rfl ?_
      refine lx_end ⟨by kernel_rfl, ?_⟩
      refine pe_then_normal ?_
      refine tr_sub hC (.cons (t := 1) rfl (.cons (t := 2) rfl (.cons (t := 4) rfl (.cons (t := 6) rfl (.cons (t := 7) rfl .nil))))) (.cons (t := 2) rfl (.cons (t := 4) rfl .nil)) rfl ?_
      refine tr_block ?_
      refine tr_loop (α := {m : Nat // m ≤ s.readers.length}) (⟨s.readers.length, Nat.le_refl _⟩) (fun x => [(1, eqP (.int .i64 g)), (2, ptrP (N0, 2) 0), (4, ptrP (N0, 4) 0), (6, eqP (.int .i64 (idxFrom s.readers g x.1 : Int))), (7, eqP (.int .i64 ((x.1 : Int) - 1)))]) (fun x => [(2, some ((N0, 2), blk 24 s.ps)), (4, some ((N0, 4), blk 24 zps))]) (fun x => x.1) (pe_st hC ?_ ?_ rfl) (fun x => ?_)
      · try dsimp only
        first | refine SubF.cons rfl ?_ | (refine SubF.ent rfl ?_ ?_; · first | exact Ent.refl _ | exact entI (by rw [idxFrom_end]; rfl) | exact entI (by omega))
        first | refine SubF.cons rfl ?_ | (refine SubF.ent rfl ?_ ?_; · first | exact Ent.refl _ | exact entI (by rw [idxFrom_end]; rfl) | exact entI (by omega))
        first | refine SubF.cons rfl ?_ | (refine SubF.ent rfl ?_ ?_; · first | exact Ent.refl _ | exact entI (by rw [idxFrom_end]; rfl) | exact entI (by omega))
        first | refine SubF.cons rfl ?_ | (refine SubF.ent rfl ?_ ?_; · first | exact Ent.refl _ | exact entI (by rw [idxFrom_end]; rfl) | exact entI (by omega))
        first | refine SubF.cons rfl ?_ | (refine SubF.ent rfl ?_ ?_; · first | exact Ent.refl _ | exact entI (by rw [idxFrom_end]; rfl) | exact entI (by omega))
        exact SubF.nil
      · try dsimp only
        repeat (first | exact SubL.nil | refine SubL.cons rfl ?_)
      · obtain ⟨m, hm⟩ := x
        dsimp only
        refine tr_seq ?_
        refine tr_seq ?_
        refine tr_region (fun N7 hN => ?_)
        refine lx (op_move rfl) rfl ?_
        refine lx (op_geq rfl rfl) rfl ?_
        refine lx_end ⟨by kernel_rfl, ?_⟩
        refine pe_then_normal ?_
        refine tr_sub hC (.cons (t := 1) rfl (.cons (t := 2) rfl (.cons (t := 4) rfl (.cons (t := 6) rfl (.cons (t := 7) rfl (.cons (t := 28) rfl .nil)))))) (.cons (t := 2) rfl (.cons (t := 4) rfl .nil)) rfl ?_
        refine tr_cond rfl (fun h28 => ?_) (fun h28 => ?_)
        · (try simp only [Bool.and_eq_true, Bool.or_eq_true, Bool.and_eq_false_iff, Bool.or_eq_false_iff, decide_eq_true_eq, decide_eq_false_iff_not, Bool.not_eq_true', Bool.not_eq_false', ne_eq, Decidable.not_not, Int.not_lt, Int.not_le] at h28)
          refine tr_skip ?_
          refine pe_then_normal ?_
          refine tr_sub hC (.cons (t := 1) rfl (.cons (t := 2) rfl (.cons (t := 4) rfl (.cons (t := 6) rfl (.cons (t := 7) rfl .nil))))) (.cons (t := 2) rfl (.cons (t := 4) rfl .nil)) rfl ?_
          refine tr_seq ?_
          refine tr_block ?_
          refine tr_seq ?_
          refine tr_region (fun N9 hN => ?_)
          refine lx (op_fieldAddr rfl fl24_4 sz22) rfl ?_
          refine lx (op_bload_one (m := 2) rfl rfl ag22 rfl) rfl ?_
          refine lx (op_move rfl) rfl ?_
          refine lx (op_index rfl rfl el22 sz3 (by omega : (m : Int) - 1 = ((m - 1 : Nat) : Int)) (List.getElem?_eq_getElem (by omega : m - 1 < s.readers.length))) rfl ?_
          first | refine lx (op_load_one rfl ag3 rfl) rfl ?_ | refine lx (op_bload_one (m := 2) rfl rfl ag3 rfl) rfl ?_ | refine lx (op_bload_one (m := 4) rfl rfl ag3 rfl) rfl ?_
          refine lx (op_move rfl) rfl ?_
          refine lx (op_eql rfl rfl) rfl ?_
          refine lx_end ⟨by kernel_rfl, ?_⟩
          refine pe_then_normal ?_
          refine tr_sub hC (.cons (t := 1) rfl (.cons (t := 2) rfl (.cons (t := 4) rfl (.cons (t := 6) rfl (.cons (t := 7) rfl (.cons (t := 37) rfl .nil)))))) (.cons (t := 2) rfl (.cons (t := 4) rfl .nil)) rfl ?_
          refine tr_cond rfl (fun h37 => ?_) (fun h37 => ?_)
          · (try simp only [Bool.and_eq_true, Bool.or_eq_true, Bool.and_eq_false_iff, Bool.or_eq_false_iff, decide_eq_true_eq, decide_eq_false_iff_not, Bool.not_eq_true', Bool.not_eq_false', ne_eq, Decidable.not_not, Int.not_lt, Int.not_le] at h37)
            have hst : idxFrom s.readers g (m - 1) = m - 1 := idxFrom_hit (by omega) h37
            refine tr_region (fun N10 hN => ?_)
            refine lx (op_move rfl) rfl ?_
            refine lx (op_assign rfl) rfl ?_
            refine lx_end ⟨by kernel_rfl, ?_⟩
            refine pe_block_normal ?_
            refine pe_then_normal ?_
            refine tr_sub hC (.cons (t := 1) rfl (.cons (t := 2) rfl (.cons (t := 4) rfl (.cons (t := 6) rfl (.cons (t := 7) rfl .nil))))) (.cons (t := 2) rfl (.cons (t := 4) rfl .nil)) rfl ?_
            refine tr_region (fun N8 hN => ?_)
            refine lx (op_move rfl) rfl ?_
            refine lx (op_sub rfl rfl (by omega)) rfl ?_
            refine lx (op_assign rfl) rfl ?_
            refine lx_end ⟨by kernel_rfl, ?_⟩
            refine pe_round (⟨m - 1, by omega⟩) (by dsimp only; omega) (pe_st hC ?_ ?_ rfl)
            · try dsimp only
              first | refine SubF.cons rfl ?_ | (refine SubF.ent rfl ?_ ?_; · first | exact Ent.refl _ | exact entI (by rw [idxFrom_end]; rfl) | exact entI (by omega))
              first | refine SubF.cons rfl ?_ | (refine SubF.ent rfl ?_ ?_; · first | exact Ent.refl _ | exact entI (by rw [idxFrom_end]; rfl) | exact entI (by omega))
              first | refine SubF.cons rfl ?_ | (refine SubF.ent rfl ?_ ?_; · first | exact Ent.refl _ | exact entI (by rw [idxFrom_end]; rfl) | exact entI (by omega))
              first | refine SubF.cons rfl ?_ | (refine SubF.ent rfl ?_ ?_; · first | exact Ent.refl _ | exact entI (by rw [idxFrom_end]; rfl) | exact entI (by omega))
              first | refine SubF.cons rfl ?_ | (refine SubF.ent rfl ?_ ?_; · first | exact Ent.refl _ | exact entI (by rw [idxFrom_end]; rfl) | exact entI (by omega))
              exact SubF.nil
            · try dsimp only
              repeat (first | exact SubL.nil | refine SubL.cons rfl ?_)
          · (try simp only [Bool.and_eq_true, Bool.or_eq_true, Bool.and_eq_false_iff, Bool.or_eq_false_iff, decide_eq_true_eq, decide_eq_false_iff_not, Bool.not_eq_true', Bool.not_eq_false', ne_eq, Decidable.not_not, Int.not_lt, Int.not_le] at h37)
            have hst : idxFrom s.readers g (m - 1) = idxFrom s.readers g m := by rw [idxFrom_miss (by omega) h37, show m - 1 + 1 = m by omega]
            refine tr_skip ?_
            refine pe_block_normal ?_
            refine pe_then_normal ?_
            refine tr_sub hC (.cons (t := 1) rfl (.cons (t := 2) rfl (.cons (t := 4) rfl (.cons (t := 6) rfl (.cons (t := 7) rfl .nil))))) (.cons (t := 2) rfl (.cons (t := 4) rfl .nil)) rfl ?_
            refine tr_region (fun N8 hN => ?_)
            refine lx (op_move rfl) rfl ?_
            refine lx (op_sub rfl rfl (by omega)) rfl ?_
            refine lx (op_assign rfl) rfl ?_
            refine lx_end ⟨by kernel_rfl, ?_⟩
            refine pe_round (⟨m - 1, by omega⟩) (by dsimp only; omega) (pe_st hC ?_ ?_ rfl)
            · try dsimp only
              first | refine SubF.cons rfl ?_ | (refine SubF.ent rfl ?_ ?_; · first | exact Ent.refl _ | exact entI (by rw [idxFrom_end]; rfl) | exact entI (by omega))
              first | refine SubF.cons rfl ?_ | (refine SubF.ent rfl ?_ ?_; · first | exact Ent.refl _ | exact entI (by rw [idxFrom_end]; rfl) | exact entI (by omega))
              first | refine SubF.cons rfl ?_ | (refine SubF.ent rfl ?_ ?_; · first | exact Ent.refl _ | exact entI (by rw [idxFrom_end]; rfl) | exact entI (by omega))
              first | refine SubF.cons rfl ?_ | (refine SubF.ent rfl ?_ ?_; · first | exact Ent.refl _ | exact entI (by rw [idxFrom_end]; rfl) | exact entI (by omega))
              first | refine SubF.cons rfl ?_ | (refine SubF.ent rfl ?_ ?_; · first | exact Ent.refl _ | exact entI (by rw [idxFrom_end]; rfl) | exact entI (by omega))
              exact SubF.nil
            · try dsimp only
              repeat (first | exact SubL.nil | refine SubL.cons rfl ?_)
        · (try simp only [Bool.and_eq_true, Bool.or_eq_true, Bool.and_eq_false_iff, Bool.or_eq_false_iff, decide_eq_true_eq, decide_eq_false_iff_not, Bool.not_eq_true', Bool.not_eq_false', ne_eq, Decidable.not_not, Int.not_lt, Int.not_le] at h28)
          have hm0 : m = 0 := by omega
          subst hm0
          refine tr_exit ?_
          refine pe_then_exit ?_
          refine pe_then_exit ?_
          refine pe_block_eq ?_
          refine pe_then_normal ?_
          refine tr_sub hC (.cons (t := 2) rfl (.cons (t := 4) rfl (.cons (t := 6) rfl .nil))) (.cons (t := 2) rfl (.cons (t := 4) rfl .nil)) rfl ?_
          refine tr_seq ?_
          refine tr_region (fun N11 hN => ?_)
          refine lxn (op_buildEmpty (m' := 39) (kk := 39) (f := ip) el22 sz3 (by first | exact hC.low _ (by decide) | rfl)) rfl ?_
          refine lx (op_fieldAddr rfl fl24_4 sz22) rfl ?_
          refine lx (op_bload_one (m := 2) rfl rfl ag22 rfl) rfl ?_
          refine lx (op_move rfl) rfl ?_
          refine lx (op_slice_h rfl rfl el22 sz3 rfl (by have := idxFrom_lt (g := g) 0 hpos; omega)) rfl ?_
          refine lxr (op_append (m := 39) (m' := 44) (kk := 44) rfl rfl rfl (.inr (by first | exact hC.low _ (by decide) | rfl)) el22 ze3 sz3 by3 rfl ip_len (by simp; omega) (by simp; omega)) rfl ?_
          refine lx (op_assign rfl) rfl ?_
          refine lx_end ⟨by kernel_rfl, ?_⟩
          refine pe_then_normal ?_
          refine tr_sub hC (.cons (t := 2) rfl (.cons (t := 4) rfl (.cons (t := 6) rfl (.cons (t := 8) rfl .nil)))) (.cons (t := 2) rfl (.cons (t := 4) rfl (.cons (t := 44) rfl .nil))) rfl ?_
          refine tr_seq ?_
          refine tr_region (fun N12 hN => ?_)
          refine lx (op_move rfl) rfl ?_
          refine lx (op_fieldAddr rfl fl24_4 sz22) rfl ?_
          refine lx (op_bload_one (m := 2) rfl rfl ag22 rfl) rfl ?_
          refine lx (op_move rfl) rfl ?_
          refine lx (op_add rfl rfl (by have := idxFrom_lt (g := g) 0 hpos; omega)) rfl ?_
          refine lx (op_slice_l rfl rfl el22 sz3 (by omega : (idxFrom s.readers g 0 : Int) + 1 = ((idxFrom s.readers g 0 + 1 : Nat) : Int)) (by have := idxFrom_lt (g := g) 0 hpos; omega)) rfl ?_
          refine lxr (op_append (m := 44) (m' := 51) (kk := 51) rfl rfl rfl (.inr (by first | exact hC.low _ (by decide) | rfl)) el22 ze3 sz3 by3 rfl ip_len (by simp; omega) (by simp; omega)) rfl ?_
          refine lx (op_fieldAddr rfl fl24_4 sz22) rfl ?_
          refine lxr (op_store_one (m := 2) rfl rfl rfl (by (first | exact One.eq rfl | exact One.mv _ _ _ _ _ | exact One.cl _ _ _ | exact One.sl _ _ _ | exact One.row _ _ _ _ | exact One.msl _ _ _ _ | exact One.ptr _ _ | exact One.b _ | exact One.cells _)) sz22 rfl) rfl ?_
          refine lx_end ⟨by kernel_rfl, ?_⟩
          refine pe_then_normal ?_
          refine tr_sub hC (.cons (t := 2) rfl (.cons (t := 4) rfl .nil)) (.cons (t := 2) rfl (.cons (t := 4) rfl .nil)) rfl ?_
          refine tr_seq ?_
          refine tr_region (fun N13 hN => ?_)
          first | refine lx (op_bload (m := 2) rfl rfl ag24 sz24) rfl ?_ | refine lx (op_bload_part (m := 2) rfl rfl ag24 sz24 rfl rfl) rfl ?_
          first | refine lxr (op_store_all (m := 4) rfl rfl rfl (.agg rfl) sz24 rfl) rfl ?_ | refine lxr (op_store (m := 4) rfl rfl rfl (.agg rfl) sz24 rfl rfl rfl) rfl ?_
          refine lx (op_assign rfl) rfl ?_
          refine lx_end ⟨by kernel_rfl, ?_⟩
          refine pe_then_normal ?_
          refine tr_sub hC (.cons (t := 4) rfl (.cons (t := 5) rfl .nil)) (.cons (t := 4) rfl .nil) rfl ?_
          refine tr_ret ?_
          refine pe_retN (rs := [.cell 4 24, .tmp 5]) rfl rfl hO rfl (.cell (m := 4) rfl rfl ag24 sz24 (.tmp rfl .nil)) ?_
          refine entSy (r := ({ s with readers := [] ++ s.readers.take (idxFrom s.readers g 0) ++ s.readers.drop (idxFrom s.readers g 0 + 1) }, 0)) (by dsimp only [syE, Sy.ps, Sy.zero]; repeat (first | exact Ent.refl _ | exact Ents.nil | exact Ent.nil _ _ | exact Ent.row _ _ _ _ | exact Ent.func _ | refine Ents.cons ?_ ?_ | refine Ent.tup ?_ | refine Ent.agg ?_ | refine Ent.cells ?_ | exact Ent.of_eq rfl)) (by rw [idxFrom_zero]; simp [runlockF, checkF, h16, hpos])

end Go.Proofs.Ytopnkekmbohgoaa
