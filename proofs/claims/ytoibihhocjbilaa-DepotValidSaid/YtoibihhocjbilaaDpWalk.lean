/- Walks of the functions of layer 21 -/
import Derived.Test.YtoibihhocjbilaaDpTypes
import Derived.Test.YtoibihhocjbilaaChecked
set_option linter.unusedVariables false
set_option linter.unusedSimpArgs false
namespace Go.Proofs.Ytoibihhocjbilaa
open Go.AL Go.Dp Go.RowKit
theorem ag3 : aggB Try.prog 3 = some false := by kernel_rfl
theorem ag29 : aggB Try.prog 29 = some true := by kernel_rfl
theorem by3 : bytesB Try.prog 3 = some 8 := by kernel_rfl
theorem by29 : bytesB Try.prog 29 = some 16 := by kernel_rfl
theorem el22 : elemB Try.prog 22 = some 29 := by kernel_rfl
theorem el23 : elemB Try.prog 23 = some 3 := by kernel_rfl
theorem fl29_0 : fldB Try.prog 29 0 = some (0, 3) := by kernel_rfl
theorem fl29_1 : fldB Try.prog 29 1 = some (1, 3) := by kernel_rfl
theorem fn26 : fnB Try.prog 26 = true := by kernel_rfl
theorem fn34 : fnB Try.prog 34 = true := by kernel_rfl
theorem sz3 : sizeB Try.prog 3 = some 1 := by kernel_rfl
theorem sz29 : sizeB Try.prog 29 = some 2 := by kernel_rfl
theorem ze3 : zeroB Try.prog 3 = some (some (.int .i64 0)) := by kernel_rfl
theorem ze29 : zeroB Try.prog 29 = some (some (.agg #[.int .i64 0, .int .i64 0])) := by kernel_rfl
theorem keyE : KeyOK Try.prog 56 [.i .i64, .i .i64, .i .i64] ev := ⟨by kernel_rfl, by kernel_rfl, fun _ => rfl, fun a b h => by
  obtain ⟨a1, a2, a3⟩ := a
  obtain ⟨b1, b2, b3⟩ := b
  simp only [ev, List.cons.injEq, Value.int.injEq, true_and, and_true] at h
  obtain ⟨h1, h2, h3⟩ := h
  subst h1 h2 h3
  rfl⟩
theorem eqS (a b : Site) : EqLaw Try.prog 29 (sv a) (sv b) (decide (a = b)) := (eqLaw_flat (ls := [.i .i64, .i .i64]) (by kernel_rfl) (by kernel_rfl) (by kernel_rfl) rfl rfl).to (decide_eq_decide.mpr (by
  obtain ⟨a1, a2⟩ := a
  obtain ⟨b1, b2⟩ := b
  simp [sv]))
theorem sclone_ok (xs : List Site) (hx : xs.length ≤ 1000000) : Fn1 Try.prog 32 [slP sp 2 xs] (fun id => rowP id sp 2 xs) (tail 29 2 (xs.length * 2)) := by
  refine fn_own (Ren.row _ _ _ _ _) Try.func32 rfl Try.ntmps32 rfl ?_
  intro σ0 M Rf R hC hO
  simp only [frameOf, tokOf]
  refine tr_seq ?_
  refine tr_region (fun N0 hN => ?_)
  refine lx (op_assign rfl) rfl ?_
  refine lx_end ⟨by kernel_rfl, ?_⟩
  refine pe_then_normal ?_
  refine tr_sub hC (.cons (t := 0) rfl .nil) .nil rfl ?_
  refine tr_seq ?_
  refine tr_seq ?_
  refine tr_region (fun N1 hN => ?_)
  refine lx (op_move rfl) rfl ?_
  refine lx (op_eqnil rfl el22) rfl ?_
  refine lx_end ⟨by kernel_rfl, ?_⟩
  refine pe_then_normal ?_
  refine tr_sub hC (.cons (t := 0) rfl (.cons (t := 4) rfl .nil)) .nil rfl ?_
  refine tr_cond_b rfl (fun h4 => ?_) (fun h4 => ?_)
  · (try simp only [Bool.and_eq_true, Bool.or_eq_true, Bool.and_eq_false_iff, Bool.or_eq_false_iff, decide_eq_true_eq, decide_eq_false_iff_not, Bool.not_eq_true', Bool.not_eq_false', List.length_map, ne_eq, Decidable.not_not, Int.not_lt, Int.not_le] at h4)
    have hxs : xs = [] := by first | exact h4 rfl | exact h4 trivial
    subst hxs
    refine tr_seq ?_
    refine tr_region (fun N2 hN => ?_)
    refine lx (op_assign rfl) rfl ?_
    refine lx_end ⟨by kernel_rfl, ?_⟩
    refine pe_then_normal ?_
    refine tr_sub hC (.cons (t := 2) rfl .nil) .nil rfl ?_
    refine tr_nilrow sp 2 29 2 2 rfl (by first | exact hC.low _ (by decide) | rfl) (fun idN => ?_)
    refine tr_ret ?_
    refine pe_then_ret ?_
    refine pe_own (m := 2) rfl hO rfl rfl rfl ?_
    repeat (first | exact Ent.refl _ | exact Ents.nil | exact Ent.nil _ _ | exact Ent.row _ _ _ _ | exact Ent.func _ | refine Ents.cons ?_ ?_ | refine Ent.tup ?_ | refine Ent.agg ?_ | refine Ent.cells ?_ | exact Ent.of_eq rfl)
  · (try simp only [Bool.and_eq_true, Bool.or_eq_true, Bool.and_eq_false_iff, Bool.or_eq_false_iff, decide_eq_true_eq, decide_eq_false_iff_not, Bool.not_eq_true', Bool.not_eq_false', List.length_map, ne_eq, Decidable.not_not, Int.not_lt, Int.not_le] at h4)
    refine tr_skip ?_
    refine pe_then_normal ?_
    refine tr_sub hC (.cons (t := 0) rfl .nil) .nil rfl ?_
    refine tr_seq ?_
    refine tr_region (fun N3 hN => ?_)
    refine lxn (op_buildEmpty (m' := 5) (kk := 5) (f := sp) el22 sz29 (by first | exact hC.low _ (by decide) | rfl)) rfl ?_
    refine lx (op_move rfl) rfl ?_
    refine lxr (op_append (m := 5) (m' := 7) (kk := 7) rfl rfl rfl (.inr (by first | exact hC.low _ (by decide) | rfl)) el22 ze29 sz29 by29 rfl sp_len (by simp; omega) (by simp; omega)) rfl ?_
    refine lx (op_assign rfl) rfl ?_
    refine lx_end ⟨by kernel_rfl, ?_⟩
    refine pe_then_normal ?_
    refine tr_sub hC (.cons (t := 2) rfl .nil) (.cons (t := 7) rfl .nil) rfl ?_
    refine tr_ret ?_
    refine pe_own (m := 7) rfl hO rfl rfl rfl ?_
    repeat (first | exact Ent.refl _ | exact Ents.nil | exact Ent.nil _ _ | exact Ent.row _ _ _ _ | exact Ent.func _ | refine Ents.cons ?_ ?_ | refine Ent.tup ?_ | refine Ent.agg ?_ | refine Ent.cells ?_ | exact Ent.of_eq rfl)

theorem iclone_ok (xs : List Int) (hx : xs.length ≤ 1000000) : Fn1 Try.prog 33 [slP ip 1 xs] (fun id => rowP id ip 1 xs) (tail 3 1 (xs.length * 1)) := by
  refine fn_own (Ren.row _ _ _ _ _) Try.func33 rfl Try.ntmps33 rfl ?_
  intro σ0 M Rf R hC hO
  simp only [frameOf, tokOf]
  refine tr_seq ?_
  refine tr_region (fun N0 hN => ?_)
  refine lx (op_assign rfl) rfl ?_
  refine lx_end ⟨by kernel_rfl, ?_⟩
  refine pe_then_normal ?_
  refine tr_sub hC (.cons (t := 0) rfl .nil) .nil rfl ?_
  refine tr_seq ?_
  refine tr_seq ?_
  refine tr_region (fun N1 hN => ?_)
  refine lx (op_move rfl) rfl ?_
  refine lx (op_eqnil rfl el23) rfl ?_
  refine lx_end ⟨by kernel_rfl, ?_⟩
  refine pe_then_normal ?_
  refine tr_sub hC (.cons (t := 0) rfl (.cons (t := 4) rfl .nil)) .nil rfl ?_
  refine tr_cond_b rfl (fun h4 => ?_) (fun h4 => ?_)
  · (try simp only [Bool.and_eq_true, Bool.or_eq_true, Bool.and_eq_false_iff, Bool.or_eq_false_iff, decide_eq_true_eq, decide_eq_false_iff_not, Bool.not_eq_true', Bool.not_eq_false', List.length_map, ne_eq, Decidable.not_not, Int.not_lt, Int.not_le] at h4)
    have hxs : xs = [] := by first | exact h4 rfl | exact h4 trivial
    subst hxs
    refine tr_seq ?_
    refine tr_region (fun N2 hN => ?_)
    refine lx (op_assign rfl) rfl ?_
    refine lx_end ⟨by kernel_rfl, ?_⟩
    refine pe_then_normal ?_
    refine tr_sub hC (.cons (t := 2) rfl .nil) .nil rfl ?_
    refine tr_nilrow ip 1 3 2 2 rfl (by first | exact hC.low _ (by decide) | rfl) (fun idN => ?_)
    refine tr_ret ?_
    refine pe_then_ret ?_
    refine pe_own (m := 2) rfl hO rfl rfl rfl ?_
    repeat (first | exact Ent.refl _ | exact Ents.nil | exact Ent.nil _ _ | exact Ent.row _ _ _ _ | exact Ent.func _ | refine Ents.cons ?_ ?_ | refine Ent.tup ?_ | refine Ent.agg ?_ | refine Ent.cells ?_ | exact Ent.of_eq rfl)
  · (try simp only [Bool.and_eq_true, Bool.or_eq_true, Bool.and_eq_false_iff, Bool.or_eq_false_iff, decide_eq_true_eq, decide_eq_false_iff_not, Bool.not_eq_true', Bool.not_eq_false', List.length_map, ne_eq, Decidable.not_not, Int.not_lt, Int.not_le] at h4)
    refine tr_skip ?_
    refine pe_then_normal ?_
    refine tr_sub hC (.cons (t := 0) rfl .nil) .nil rfl ?_
    refine tr_seq ?_
    refine tr_region (fun N3 hN => ?_)
    refine lxn (op_buildEmpty (m' := 5) (kk := 5) (f := ip) el23 sz3 (by first | exact hC.low _ (by decide) | rfl)) rfl ?_
    refine lx (op_move rfl) rfl ?_
    refine lxr (op_append (m := 5) (m' := 7) (kk := 7) rfl rfl rfl (.inr (by first | exact hC.low _ (by decide) | rfl)) el23 ze3 sz3 by3 rfl ip_len (by simp; omega) (by simp; omega)) rfl ?_
    refine lx (op_assign rfl) rfl ?_
    refine lx_end ⟨by kernel_rfl, ?_⟩
    refine pe_then_normal ?_
    refine tr_sub hC (.cons (t := 2) rfl .nil) (.cons (t := 7) rfl .nil) rfl ?_
    refine tr_ret ?_
    refine pe_own (m := 7) rfl hO rfl rfl rfl ?_
    repeat (first | exact Ent.refl _ | exact Ents.nil | exact Ent.nil _ _ | exact Ent.row _ _ _ _ | exact Ent.func _ | refine Ents.cons ?_ ?_ | refine Ent.tup ?_ | refine Ent.agg ?_ | refine Ent.cells ?_ | exact Ent.of_eq rfl)

theorem proper_ok (s : Site) : FnP Try.prog 26 [aggP (sp s)] (eqP (.bool (proper s))) := by
  refine fn_pure' Try.func26 rfl Try.ntmps26 rfl ?_
  intro σ0 M ex Rf R hC hO
  simp only [frameOf, tokOf]
  refine tr_seq ?_
  refine tr_region (fun N0 hN => ?_)
  refine lxn (op_box (m := 1) (k := 1) rfl (.agg rfl) (by first | exact hC.low _ (by decide) | rfl)) rfl ?_
  refine lx (op_assign rfl) rfl ?_
  refine lx_end ⟨by kernel_rfl, ?_⟩
  refine pe_then_normal ?_
  refine tr_sub hC (.cons (t := 1) rfl .nil) (.cons (t := 1) rfl .nil) rfl ?_
  refine tr_seq ?_
  refine tr_region (fun N1 hN => ?_)
  refine lx (op_fieldAddr rfl fl29_0 sz3) rfl ?_
  refine lx (op_bload_one (m := 1) rfl rfl ag3 rfl) rfl ?_
  refine lx (op_geq rfl rfl) rfl ?_
  refine lx (op_move rfl) rfl ?_
  refine lxs rfl rfl rfl guard_eq (.cons (t := 1) rfl (fun _ => Ent.refl _) .nil) (op_fieldAddr rfl fl29_1 sz3) rfl ?_
  refine lxs rfl rfl rfl guard_eq (.cons (t := 7) rfl (fun h => entW h) .nil) (op_bload_one (m := 1) rfl rfl ag3 rfl) rfl ?_
  refine lxs rfl rfl rfl guard_eq (.cons (t := 8) rfl (fun h => entW h) .nil) (op_geq rfl rfl) rfl ?_
  refine lx (op_pick_and rfl rfl) rfl ?_
  refine lx (op_assign rfl) rfl ?_
  refine lx_end ⟨by kernel_rfl, ?_⟩
  refine pe_then_normal ?_
  refine tr_sub hC (.cons (t := 2) rfl .nil) .nil rfl ?_
  refine tr_ret ?_
  refine pe_ret1 rfl hO rfl (.tmp rfl .nil) ?_
  repeat (first | exact Ent.refl _ | exact Ents.nil | exact Ent.nil _ _ | exact Ent.row _ _ _ _ | exact Ent.func _ | refine Ents.cons ?_ ?_ | refine Ent.tup ?_ | refine Ent.agg ?_ | refine Ent.cells ?_ | exact Ent.of_eq rfl)

theorem bad_ok (s : Site) : FnP Try.prog 30 [aggP (sp s)] (eqP (.bool (!proper s))) := by
  refine fn_pure' Try.func30 rfl Try.ntmps30 rfl ?_
  intro σ0 M ex Rf R hC hO
  simp only [frameOf, tokOf]
  refine tr_seq ?_
  refine tr_region (fun N0 hN => ?_)
  refine lxn (op_box (m := 1) (k := 1) rfl (.agg rfl) (by first | exact hC.low _ (by decide) | rfl)) rfl ?_
  refine lx (op_assign rfl) rfl ?_
  refine lx_end ⟨by kernel_rfl, ?_⟩
  refine pe_then_normal ?_
  refine tr_sub hC (.cons (t := 1) rfl .nil) (.cons (t := 1) rfl .nil) rfl ?_
  refine tr_seq ?_
  refine tr_region (fun N1 hN => ?_)
  first | refine lx (op_bload (m := 1) rfl rfl ag29 sz29) rfl ?_ | refine lx (op_bload_part (m := 1) rfl rfl ag29 sz29 rfl rfl) rfl ?_
  first | refine lx (op_call (l := [(Go.Operand.tmp 3)]) (proper_ok _) (.cons rfl .nil) fn26) rfl ?_ | refine lx (op_call (l := [(Go.Operand.tmp 3)]) (proper_ok _) (.ent rfl (by repeat (first | exact Ent.refl _ | exact Ents.nil | exact Ent.nil _ _ | exact Ent.row _ _ _ _ | exact Ent.func _ | refine Ents.cons ?_ ?_ | refine Ent.tup ?_ | refine Ent.agg ?_ | refine Ent.cells ?_ | exact Ent.of_eq rfl)) .nil) fn26) rfl ?_
  first | refine lx (op_not rfl) rfl ?_ | refine lx (op_not_b rfl) rfl ?_
  refine lx (op_assign rfl) rfl ?_
  refine lx_end ⟨by kernel_rfl, ?_⟩
  refine pe_then_normal ?_
  refine tr_sub hC (.cons (t := 2) rfl .nil) .nil rfl ?_
  refine tr_ret ?_
  refine pe_ret1 rfl hO rfl (.tmp rfl .nil) ?_
  repeat (first | exact Ent.refl _ | exact Ents.nil | exact Ent.nil _ _ | exact Ent.row _ _ _ _ | exact Ent.func _ | refine Ents.cons ?_ ?_ | refine Ent.tup ?_ | refine Ent.agg ?_ | refine Ent.cells ?_ | exact Ent.of_eq rfl)

theorem index_ok (q : FuncId) (φ : Site → Bool) (hq : ∀ x, FnP Try.prog q [aggP (sp x)] (eqP (.bool (φ x)))) (hf : fnB Try.prog q = true) (xs : List Site) (hx : xs.length ≤ 1000000) : FnP Try.prog 34 [slP sp 2 xs, clP q [] []] (eqP (.int .i64 (idxF φ xs))) := by
  refine fn_pure' Try.func34 rfl Try.ntmps34 rfl ?_
  intro σ0 M ex Rf R hC hO
  simp only [frameOf, tokOf]
  refine tr_seq ?_
  refine tr_region (fun N0 hN => ?_)
  refine lx (op_assign rfl) rfl ?_
  refine lx_end ⟨by kernel_rfl, ?_⟩
  refine pe_then_normal ?_
  refine tr_sub hC (.cons (t := 0) rfl (.cons (t := 1) rfl .nil)) .nil rfl ?_
  refine tr_seq ?_
  refine tr_seq ?_
  refine tr_region (fun N1 hN => ?_)
  refine lx (op_move rfl) rfl ?_
  first | refine lx (op_len rfl el22) rfl ?_ | refine lx (op_len_row rfl el22) rfl ?_ | refine lx (op_len_mv rfl el22) rfl ?_
  refine lx (op_move rfl) rfl ?_
  refine lx_end ⟨by kernel_rfl, ?_⟩
  refine pe_then_normal ?_
  refine tr_sub hC (.cons (t := 0) rfl (.cons (t := 1) rfl (.cons (t := 7) rfl (.cons (t := 8) rfl .nil)))) .nil rfl ?_
  refine tr_block ?_
  refine tr_loopK (α := {zz : Nat // zz ≤ xs.length ∧ ∀ x ∈ xs.take zz, φ x = false}) (⟨(0), Nat.zero_le _, by simp⟩) (fun zz => [(8, eqP (.int .i64 (zz.1 : Int)))]) (fun zz => []) (fun zz => xs.length - zz.1) hC (.cons (t := 0) rfl (.cons (t := 1) rfl (.cons (t := 7) rfl .nil))) .nil rfl ?_ ?_ (fun zz => ?_)
  · try dsimp only [List.cons_append, List.nil_append]
    first | refine SubF.cons rfl ?_ | (refine SubF.ent rfl ?_ ?_; · repeat (first | exact Ent.refl _ | exact Ents.nil | exact Ent.nil _ _ | exact Ent.row _ _ _ _ | exact Ent.func _ | refine Ents.cons ?_ ?_ | refine Ent.tup ?_ | refine Ent.agg ?_ | refine Ent.cells ?_ | exact Ent.of_eq rfl))
    exact SubF.nil
  · try dsimp only [List.cons_append, List.nil_append]
    repeat (first | exact SubL.nil | refine SubL.cons rfl ?_)
  · obtain ⟨k, hk1, hk2⟩ := zz
    dsimp only [List.cons_append, List.nil_append]
    refine tr_seq ?_
    refine tr_region (fun N2 hN => ?_)
    refine lx (op_lss rfl rfl) rfl ?_
    refine lx_end ⟨by kernel_rfl, ?_⟩
    refine pe_then_normal ?_
    refine tr_sub hC (.cons (t := 0) rfl (.cons (t := 1) rfl (.cons (t := 7) rfl (.cons (t := 8) rfl (.cons (t := 9) rfl .nil))))) .nil rfl ?_
    refine tr_seq ?_
    refine tr_cond rfl (fun h9 => ?_) (fun h9 => ?_)
    · (try simp only [Bool.and_eq_true, Bool.or_eq_true, Bool.and_eq_false_iff, Bool.or_eq_false_iff, decide_eq_true_eq, decide_eq_false_iff_not, Bool.not_eq_true', Bool.not_eq_false', List.length_map, ne_eq, Decidable.not_not, Int.not_lt, Int.not_le] at h9)
      refine tr_skip ?_
      refine pe_then_normal ?_
      refine tr_sub hC (.cons (t := 0) rfl (.cons (t := 1) rfl (.cons (t := 7) rfl (.cons (t := 8) rfl .nil)))) .nil rfl ?_
      refine tr_seq ?_
      refine tr_block ?_
      refine tr_seq ?_
      refine tr_region (fun N3 hN => ?_)
      refine lx (op_move rfl) rfl ?_
      refine lx (op_assign rfl) rfl ?_
      refine lx_end ⟨by kernel_rfl, ?_⟩
      refine pe_then_normal ?_
      refine tr_sub hC (.cons (t := 0) rfl (.cons (t := 1) rfl (.cons (t := 5) rfl (.cons (t := 7) rfl (.cons (t := 8) rfl .nil))))) .nil rfl ?_
      refine tr_seq ?_
      refine tr_region (fun N4 hN => ?_)
      refine lx (op_move rfl) rfl ?_
      refine lx (op_move rfl) rfl ?_
      refine lx (op_move rfl) rfl ?_
      refine lx (op_index rfl rfl el22 sz29 rfl (List.getElem?_eq_getElem (by omega : k < xs.length))) rfl ?_
      first | refine lx (op_load_all rfl ag29 sz29) rfl ?_ | refine lx (op_load_agg rfl ag29 sz29 rfl) rfl ?_
      first | refine lx (op_callV (l := [(Go.Operand.tmp 15)]) rfl (hq _) (.cons rfl .nil) hf) rfl ?_ | refine lx (op_callV (l := [(Go.Operand.tmp 15)]) rfl (hq _) (.ent rfl (by repeat (first | exact Ent.refl _ | exact Ents.nil | exact Ent.nil _ _ | exact Ent.row _ _ _ _ | exact Ent.func _ | refine Ents.cons ?_ ?_ | refine Ent.tup ?_ | refine Ent.agg ?_ | refine Ent.cells ?_ | exact Ent.of_eq rfl)) .nil) hf) rfl ?_
      refine lx_end ⟨by kernel_rfl, ?_⟩
      refine pe_then_normal ?_
      refine tr_sub hC (.cons (t := 0) rfl (.cons (t := 1) rfl (.cons (t := 5) rfl (.cons (t := 7) rfl (.cons (t := 8) rfl (.cons (t := 16) rfl .nil)))))) .nil rfl ?_
      refine tr_cond rfl (fun h16 => ?_) (fun h16 => ?_)
      · (try simp only [Bool.and_eq_true, Bool.or_eq_true, Bool.and_eq_false_iff, Bool.or_eq_false_iff, decide_eq_true_eq, decide_eq_false_iff_not, Bool.not_eq_true', Bool.not_eq_false', List.length_map, ne_eq, Decidable.not_not, Int.not_lt, Int.not_le] at h16)
        refine tr_seq ?_
        refine tr_region (fun N5 hN => ?_)
        refine lx (op_move rfl) rfl ?_
        refine lx (op_assign rfl) rfl ?_
        refine lx_end ⟨by kernel_rfl, ?_⟩
        refine pe_then_normal ?_
        refine tr_sub hC (.cons (t := 4) rfl .nil) .nil rfl ?_
        refine tr_ret ?_
        refine pe_block_ret ?_
        refine pe_then_ret ?_
        refine pe_then_ret ?_
        refine pe_block_ret ?_
        refine pe_then_ret ?_
        refine pe_ret1 rfl hO rfl (.tmp rfl .nil) ?_
        exact entI (idxF_at (by omega) hk2 h16).symm
      · (try simp only [Bool.and_eq_true, Bool.or_eq_true, Bool.and_eq_false_iff, Bool.or_eq_false_iff, decide_eq_true_eq, decide_eq_false_iff_not, Bool.not_eq_true', Bool.not_eq_false', List.length_map, ne_eq, Decidable.not_not, Int.not_lt, Int.not_le] at h16)
        refine tr_skip ?_
        refine pe_block_normal ?_
        refine pe_then_normal ?_
        refine tr_sub hC (.cons (t := 0) rfl (.cons (t := 1) rfl (.cons (t := 7) rfl (.cons (t := 8) rfl .nil)))) .nil rfl ?_
        refine tr_region (fun N6 hN => ?_)
        refine lx (op_add rfl rfl (by omega)) rfl ?_
        refine lx (op_move rfl) rfl ?_
        refine lx_end ⟨by kernel_rfl, ?_⟩
        refine pe_round (⟨(k + 1), by omega, take_all hk2 (by omega) h16⟩) (by dsimp only; omega) (pe_st hC ?_ ?_ rfl)
        · try dsimp only [List.cons_append, List.nil_append]
          first | refine SubF.cons rfl ?_ | (refine SubF.ent rfl ?_ ?_; · repeat (first | exact Ent.refl _ | exact Ents.nil | exact Ent.nil _ _ | exact Ent.row _ _ _ _ | exact Ent.func _ | refine Ents.cons ?_ ?_ | refine Ent.tup ?_ | refine Ent.agg ?_ | refine Ent.cells ?_ | exact Ent.of_eq rfl))
          first | refine SubF.cons rfl ?_ | (refine SubF.ent rfl ?_ ?_; · repeat (first | exact Ent.refl _ | exact Ents.nil | exact Ent.nil _ _ | exact Ent.row _ _ _ _ | exact Ent.func _ | refine Ents.cons ?_ ?_ | refine Ent.tup ?_ | refine Ent.agg ?_ | refine Ent.cells ?_ | exact Ent.of_eq rfl))
          first | refine SubF.cons rfl ?_ | (refine SubF.ent rfl ?_ ?_; · repeat (first | exact Ent.refl _ | exact Ents.nil | exact Ent.nil _ _ | exact Ent.row _ _ _ _ | exact Ent.func _ | refine Ents.cons ?_ ?_ | refine Ent.tup ?_ | refine Ent.agg ?_ | refine Ent.cells ?_ | exact Ent.of_eq rfl))
          first | refine SubF.cons rfl ?_ | (refine SubF.ent rfl ?_ ?_; · repeat (first | exact Ent.refl _ | exact Ents.nil | exact Ent.nil _ _ | exact Ent.row _ _ _ _ | exact Ent.func _ | refine Ents.cons ?_ ?_ | refine Ent.tup ?_ | refine Ent.agg ?_ | refine Ent.cells ?_ | exact Ent.of_eq rfl))
          exact SubF.nil
        · try dsimp only [List.cons_append, List.nil_append]
          repeat (first | exact SubL.nil | refine SubL.cons rfl ?_)
    · (try simp only [Bool.and_eq_true, Bool.or_eq_true, Bool.and_eq_false_iff, Bool.or_eq_false_iff, decide_eq_true_eq, decide_eq_false_iff_not, Bool.not_eq_true', Bool.not_eq_false', List.length_map, ne_eq, Decidable.not_not, Int.not_lt, Int.not_le] at h9)
      have hk3 : k = xs.length := by omega
      refine tr_exit ?_
      refine pe_then_exit ?_
      refine pe_then_exit ?_
      refine pe_block_eq ?_
      refine pe_then_normal ?_
      refine tr_sub hC .nil .nil rfl ?_
      refine tr_seq ?_
      refine tr_region (fun N7 hN => ?_)
      refine lx (op_assign rfl) rfl ?_
      refine lx_end ⟨by kernel_rfl, ?_⟩
      refine pe_then_normal ?_
      refine tr_sub hC (.cons (t := 4) rfl .nil) .nil rfl ?_
      refine tr_ret ?_
      refine pe_ret1 rfl hO rfl (.tmp rfl .nil) ?_
      exact entI (idxF_none (by rwa [hk3, List.take_of_length_le (Nat.le_refl _)] at hk2)).symm

theorem contains_ok (q : FuncId) (φ : Site → Bool) (hq : ∀ x, FnP Try.prog q [aggP (sp x)] (eqP (.bool (φ x)))) (hf : fnB Try.prog q = true) (xs : List Site) (hx : xs.length ≤ 1000000) : FnP Try.prog 29 [slP sp 2 xs, clP q [] []] (eqP (.bool (xs.any φ))) := by
  refine fn_pure' Try.func29 rfl Try.ntmps29 rfl ?_
  intro σ0 M ex Rf R hC hO
  simp only [frameOf, tokOf]
  refine tr_seq ?_
  refine tr_region (fun N0 hN => ?_)
  refine lx (op_assign rfl) rfl ?_
  refine lx_end ⟨by kernel_rfl, ?_⟩
  refine pe_then_normal ?_
  refine tr_sub hC (.cons (t := 0) rfl (.cons (t := 1) rfl .nil)) .nil rfl ?_
  refine tr_seq ?_
  refine tr_region (fun N1 hN => ?_)
  refine lx (op_move rfl) rfl ?_
  refine lx (op_move rfl) rfl ?_
  first | refine lx (op_call (l := [(Go.Operand.tmp 5), (Go.Operand.tmp 6)]) (index_ok _ _ hq hf _ hx) (.cons rfl (.cons rfl .nil)) fn34) rfl ?_ | refine lx (op_call (l := [(Go.Operand.tmp 5), (Go.Operand.tmp 6)]) (index_ok _ _ hq hf _ hx) (.ent rfl (by repeat (first | exact Ent.refl _ | exact Ents.nil | exact Ent.nil _ _ | exact Ent.row _ _ _ _ | exact Ent.func _ | refine Ents.cons ?_ ?_ | refine Ent.tup ?_ | refine Ent.agg ?_ | refine Ent.cells ?_ | exact Ent.of_eq rfl)) (.ent rfl (by repeat (first | exact Ent.refl _ | exact Ents.nil | exact Ent.nil _ _ | exact Ent.row _ _ _ _ | exact Ent.func _ | refine Ents.cons ?_ ?_ | refine Ent.tup ?_ | refine Ent.agg ?_ | refine Ent.cells ?_ | exact Ent.of_eq rfl)) .nil)) fn34) rfl ?_
  refine lx (op_geq rfl rfl) rfl ?_
  refine lx (op_assign rfl) rfl ?_
  refine lx_end ⟨by kernel_rfl, ?_⟩
  refine pe_then_normal ?_
  refine tr_sub hC (.cons (t := 4) rfl .nil) .nil rfl ?_
  refine tr_ret ?_
  refine pe_ret1 rfl hO rfl (.tmp rfl .nil) ?_
  exact entB (idxF_any φ xs)

end Go.Proofs.Ytoibihhocjbilaa
