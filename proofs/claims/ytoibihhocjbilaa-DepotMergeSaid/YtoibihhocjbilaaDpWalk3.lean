/- Walks of the functions of layer 21: push -/
import Derived.Test.YtoibihhocjbilaaDpWalk2
set_option linter.unusedVariables false
set_option linter.unusedSimpArgs false
namespace Go.Proofs.Ytoibihhocjbilaa
open Go.AL Go.Dp Go.RowKit
theorem ag44 : aggB Try.prog 44 = some false := by kernel_rfl
theorem push_s (i0 i1 i2 i3 : AL.Id) (l : List E) (p : Int) (s : Site) (hx : l.length ≤ 1000000) (i : Nat) (hi : idxE l (p, s) = some i) : FnOK Try.prog 27 [ptrP i0 0, eqP (.int .i64 p), aggP (sp s)] [(i0, blk 52 [rowP (i1) sp 2 ((l).map (·.2)), rowP (i2) ip 1 ((l).map (·.1)), mapP (i3)]), (i1, tail 29 2 (((l).map (·.2)).length * 2)), (i2, tail 3 1 (((l).map (·.1)).length * 1)), (i3, mapR ev iv (tab (l)))] 2 (fun ι => eqP (.int .i64 (i : Int))) (fun ι => [(i0, blk 52 [rowP (ι 0) sp 2 (((l)).map (·.2)), rowP (ι 1) ip 1 (((l)).map (·.1)), mapP (i3)]), (ι 0, tail 29 2 ((((l)).map (·.2)).length * 2)), (ι 1, tail 3 1 ((((l)).map (·.1)).length * 1)), (i3, mapR ev iv (tab ((l))))]) := by
  refine fn_ownN Try.func27 rfl Try.ntmps27 rfl ?_
  intro σ0 M Rf R hC hO
  simp only [frameOf, tokOf]
  refine tr_seq ?_
  refine tr_region (fun N0 hN => ?_)
  refine lxn (op_box (m := 5) (k := 5) rfl (.agg rfl) (by first | exact hC.low _ (by decide) | rfl)) rfl ?_
  refine lx (op_assign rfl) rfl ?_
  refine lx_end ⟨by kernel_rfl, ?_⟩
  refine pe_then_normal ?_
  refine tr_sub hC (.cons (t := 0) rfl (.cons (t := 1) rfl (.cons (t := 5) rfl .nil))) (.cons (t := 0) rfl (.cons (t := 1) rfl (.cons (t := 2) rfl (.cons (t := 3) rfl (.cons (t := 5) rfl .nil))))) rfl ?_
  refine tr_seq ?_
  refine tr_region (fun N1 hN => ?_)
  refine lx (op_move rfl) rfl ?_
  first | refine lx (op_bload (m := 5) rfl rfl ag29 sz29) rfl ?_ | refine lx (op_bload_part (m := 5) rfl rfl ag29 sz29 rfl rfl) rfl ?_
  refine lx (op_build (parts := [(0, (Go.Operand.tmp 10)), (1, (Go.Operand.tmp 11))]) ze56 rfl rfl fs56 (.cons rfl (.one (by (first | exact One.eq rfl | exact One.mv _ _ _ _ _ | exact One.cl _ _ _ | exact One.map _ | exact One.sl _ _ _ | exact One.row _ _ _ _ | exact One.msl _ _ _ _ | exact One.ptr _ _ | exact One.b _ | exact One.cells _))) fl56_0 sz3 rfl (.cons rfl (.agg rfl) fl56_1 sz29 rfl .nil)) rfl rfl) rfl ?_
  refine lxn (op_alloc (m := 7) (k := 7) (ps := [eqP (.int .i64 0), eqP (.int .i64 0), eqP (.int .i64 0)]) ze56 rfl rfl (by first | exact hC.low _ (by decide) | rfl)) rfl ?_
  first | refine lxr (op_store_all (m := 7) rfl rfl rfl (.agg rfl) sz56 rfl) rfl ?_ | refine lxr (op_store (m := 7) rfl rfl rfl (.agg rfl) sz56 rfl rfl rfl) rfl ?_
  refine lx_end ⟨by kernel_rfl, ?_⟩
  refine pe_then_normal ?_
  refine tr_sub hC (.cons (t := 0) rfl (.cons (t := 1) rfl (.cons (t := 5) rfl (.cons (t := 7) rfl .nil)))) (.cons (t := 0) rfl (.cons (t := 1) rfl (.cons (t := 2) rfl (.cons (t := 3) rfl (.cons (t := 5) rfl (.cons (t := 7) rfl .nil)))))) rfl ?_
  refine tr_seq ?_
  refine tr_drawn mixed (fun N2 hN => ?_)
  refine lx (op_move rfl) rfl ?_
  first | refine lx (op_nilCheck rfl) rfl ?_ | refine lx (op_nilCheckC rfl) rfl ?_
  refine lx (op_fieldAddr rfl fl52_1 sz44) rfl ?_
  refine lx (op_bload_one (m := 0) rfl rfl ag44 rfl) rfl ?_
  first | refine lx (op_bload (m := 7) rfl rfl ag56 sz56) rfl ?_ | refine lx (op_bload_part (m := 7) rfl rfl ag56 sz56 rfl rfl) rfl ?_
  refine lx (op_lookup (m := 3) (a := (p, s)) (g := iv) keyE rfl rfl rfl mp44 ze3) rfl ?_
  refine lx (op_move rfl) rfl ?_
  refine lx (op_extract rfl rfl) rfl ?_
  refine lx (op_extract rfl rfl) rfl ?_
  refine lx (op_assign rfl) rfl ?_
  refine lx (op_assign rfl) rfl ?_
  refine lx_end ⟨by kernel_rfl, ?_⟩
  refine pe_then_normal ?_
  refine tr_sub hC (.cons (t := 0) rfl (.cons (t := 1) rfl (.cons (t := 5) rfl (.cons (t := 7) rfl (.cons (t := 8) rfl (.cons (t := 9) rfl .nil)))))) (.cons (t := 0) rfl (.cons (t := 1) rfl (.cons (t := 2) rfl (.cons (t := 3) rfl (.cons (t := 5) rfl (.cons (t := 7) rfl .nil)))))) rfl ?_
  refine tr_seq ?_
  refine tr_seq ?_
  refine tr_region (fun N3 hN => ?_)
  refine lx (op_move rfl) rfl ?_
  first | refine lx (op_not rfl) rfl ?_ | refine lx (op_not_b rfl) rfl ?_
  refine lx_end ⟨by kernel_rfl, ?_⟩
  refine pe_then_normal ?_
  refine tr_sub hC (.cons (t := 0) rfl (.cons (t := 1) rfl (.cons (t := 5) rfl (.cons (t := 7) rfl (.cons (t := 8) rfl (.cons (t := 23) rfl .nil)))))) (.cons (t := 0) rfl (.cons (t := 1) rfl (.cons (t := 2) rfl (.cons (t := 3) rfl (.cons (t := 5) rfl (.cons (t := 7) rfl .nil)))))) rfl ?_
  refine tr_cond rfl (fun h23 => ?_) (fun h23 => ?_)
  · exact absurd h23 (by rw [found_some, hi]; simp)
  · (try simp only [Bool.and_eq_true, Bool.or_eq_true, Bool.and_eq_false_iff, Bool.or_eq_false_iff, decide_eq_true_eq, decide_eq_false_iff_not, Bool.not_eq_true', Bool.not_eq_false', List.length_map, ne_eq, Decidable.not_not, Int.not_lt, Int.not_le] at h23)
    refine tr_skip ?_
    refine pe_then_normal ?_
    refine tr_sub hC (.cons (t := 8) rfl .nil) (.cons (t := 0) rfl (.cons (t := 1) rfl (.cons (t := 2) rfl (.cons (t := 3) rfl .nil)))) rfl ?_
    refine tr_seq ?_
    refine tr_region (fun N8 hN => ?_)
    refine lx (op_move rfl) rfl ?_
    refine lx (op_assign rfl) rfl ?_
    refine lx_end ⟨by kernel_rfl, ?_⟩
    refine pe_then_normal ?_
    refine tr_sub hC (.cons (t := 6) rfl .nil) (.cons (t := 0) rfl (.cons (t := 1) rfl (.cons (t := 2) rfl (.cons (t := 3) rfl .nil)))) rfl ?_
    refine tr_ret ?_
    refine pe_ownS' [0, 1, 2, 3] rfl hO rfl (.tmp rfl .nil) (.cons (m := 1) rfl (RenR.tail _ _ _) (.cons (m := 2) rfl (RenR.tail _ _ _) .nil)) rfl rfl rfl ?_
    intro τ ι hs
    refine ⟨?_, ?_⟩
    · refine ent_at (Ent.of_eq ?_)
      rw [found_tab, hi]; rfl
    · exact (.kept rfl rfl (blk_ents (.cons (row_ren (hs 0 _ rfl).1 (hs 0 _ rfl).2) (.cons (row_ren (hs 1 _ rfl).1 (hs 1 _ rfl).2) (.cons (ent_at (Ent.refl _)) .nil)))) (.moved rfl (fun b o h => h) (.moved rfl (fun b o h => h) (.kept rfl rfl (fun b o h => h) .nil))))

theorem push_n (i0 i1 i2 i3 : AL.Id) (l : List E) (p : Int) (s : Site) (hx : l.length ≤ 1000000) (hi : idxE l (p, s) = none) : FnOK Try.prog 27 [ptrP i0 0, eqP (.int .i64 p), aggP (sp s)] [(i0, blk 52 [rowP (i1) sp 2 ((l).map (·.2)), rowP (i2) ip 1 ((l).map (·.1)), mapP (i3)]), (i1, tail 29 2 (((l).map (·.2)).length * 2)), (i2, tail 3 1 (((l).map (·.1)).length * 1)), (i3, mapR ev iv (tab (l)))] 2 (fun ι => eqP (.int .i64 (l.length : Int))) (fun ι => [(i0, blk 52 [rowP (ι 0) sp 2 (((l ++ [(p, s)])).map (·.2)), rowP (ι 1) ip 1 (((l ++ [(p, s)])).map (·.1)), mapP (i3)]), (ι 0, tail 29 2 ((((l ++ [(p, s)])).map (·.2)).length * 2)), (ι 1, tail 3 1 ((((l ++ [(p, s)])).map (·.1)).length * 1)), (i3, mapR ev iv (tab ((l ++ [(p, s)]))))]) := by
  refine fn_ownN Try.func27 rfl Try.ntmps27 rfl ?_
  intro σ0 M Rf R hC hO
  simp only [frameOf, tokOf]
  refine tr_seq ?_
  refine tr_region (fun N0 hN => ?_)
  refine lxn (op_box (m := 5) (k := 5) rfl (.agg rfl) (by first | exact hC.low _ (by decide) | rfl)) rfl ?_
  refine lx (op_assign rfl) rfl ?_
  refine lx_end ⟨by kernel_rfl, ?_⟩
  refine pe_then_normal ?_
  refine tr_sub hC (.cons (t := 0) rfl (.cons (t := 1) rfl (.cons (t := 5) rfl .nil))) (.cons (t := 0) rfl (.cons (t := 1) rfl (.cons (t := 2) rfl (.cons (t := 3) rfl (.cons (t := 5) rfl .nil))))) rfl ?_
  refine tr_seq ?_
  refine tr_region (fun N1 hN => ?_)
  refine lx (op_move rfl) rfl ?_
  first | refine lx (op_bload (m := 5) rfl rfl ag29 sz29) rfl ?_ | refine lx (op_bload_part (m := 5) rfl rfl ag29 sz29 rfl rfl) rfl ?_
  refine lx (op_build (parts := [(0, (Go.Operand.tmp 10)), (1, (Go.Operand.tmp 11))]) ze56 rfl rfl fs56 (.cons rfl (.one (by (first | exact One.eq rfl | exact One.mv _ _ _ _ _ | exact One.cl _ _ _ | exact One.map _ | exact One.sl _ _ _ | exact One.row _ _ _ _ | exact One.msl _ _ _ _ | exact One.ptr _ _ | exact One.b _ | exact One.cells _))) fl56_0 sz3 rfl (.cons rfl (.agg rfl) fl56_1 sz29 rfl .nil)) rfl rfl) rfl ?_
  refine lxn (op_alloc (m := 7) (k := 7) (ps := [eqP (.int .i64 0), eqP (.int .i64 0), eqP (.int .i64 0)]) ze56 rfl rfl (by first | exact hC.low _ (by decide) | rfl)) rfl ?_
  first | refine lxr (op_store_all (m := 7) rfl rfl rfl (.agg rfl) sz56 rfl) rfl ?_ | refine lxr (op_store (m := 7) rfl rfl rfl (.agg rfl) sz56 rfl rfl rfl) rfl ?_
  refine lx_end ⟨by kernel_rfl, ?_⟩
  refine pe_then_normal ?_
  refine tr_sub hC (.cons (t := 0) rfl (.cons (t := 1) rfl (.cons (t := 5) rfl (.cons (t := 7) rfl .nil)))) (.cons (t := 0) rfl (.cons (t := 1) rfl (.cons (t := 2) rfl (.cons (t := 3) rfl (.cons (t := 5) rfl (.cons (t := 7) rfl .nil)))))) rfl ?_
  refine tr_seq ?_
  refine tr_drawn mixed (fun N2 hN => ?_)
  refine lx (op_move rfl) rfl ?_
  first | refine lx (op_nilCheck rfl) rfl ?_ | refine lx (op_nilCheckC rfl) rfl ?_
  refine lx (op_fieldAddr rfl fl52_1 sz44) rfl ?_
  refine lx (op_bload_one (m := 0) rfl rfl ag44 rfl) rfl ?_
  first | refine lx (op_bload (m := 7) rfl rfl ag56 sz56) rfl ?_ | refine lx (op_bload_part (m := 7) rfl rfl ag56 sz56 rfl rfl) rfl ?_
  refine lx (op_lookup (m := 3) (a := (p, s)) (g := iv) keyE rfl rfl rfl mp44 ze3) rfl ?_
  refine lx (op_move rfl) rfl ?_
  refine lx (op_extract rfl rfl) rfl ?_
  refine lx (op_extract rfl rfl) rfl ?_
  refine lx (op_assign rfl) rfl ?_
  refine lx (op_assign rfl) rfl ?_
  refine lx_end ⟨by kernel_rfl, ?_⟩
  refine pe_then_normal ?_
  refine tr_sub hC (.cons (t := 0) rfl (.cons (t := 1) rfl (.cons (t := 5) rfl (.cons (t := 7) rfl (.cons (t := 8) rfl (.cons (t := 9) rfl .nil)))))) (.cons (t := 0) rfl (.cons (t := 1) rfl (.cons (t := 2) rfl (.cons (t := 3) rfl (.cons (t := 5) rfl (.cons (t := 7) rfl .nil)))))) rfl ?_
  refine tr_seq ?_
  refine tr_seq ?_
  refine tr_region (fun N3 hN => ?_)
  refine lx (op_move rfl) rfl ?_
  first | refine lx (op_not rfl) rfl ?_ | refine lx (op_not_b rfl) rfl ?_
  refine lx_end ⟨by kernel_rfl, ?_⟩
  refine pe_then_normal ?_
  refine tr_sub hC (.cons (t := 0) rfl (.cons (t := 1) rfl (.cons (t := 5) rfl (.cons (t := 7) rfl (.cons (t := 8) rfl (.cons (t := 23) rfl .nil)))))) (.cons (t := 0) rfl (.cons (t := 1) rfl (.cons (t := 2) rfl (.cons (t := 3) rfl (.cons (t := 5) rfl (.cons (t := 7) rfl .nil)))))) rfl ?_
  refine tr_cond rfl (fun h23 => ?_) (fun h23 => ?_)
  · (try simp only [Bool.and_eq_true, Bool.or_eq_true, Bool.and_eq_false_iff, Bool.or_eq_false_iff, decide_eq_true_eq, decide_eq_false_iff_not, Bool.not_eq_true', Bool.not_eq_false', List.length_map, ne_eq, Decidable.not_not, Int.not_lt, Int.not_le] at h23)
    have hnone : found (tab l) (p, s) = none := by rw [found_tab, hi]; rfl
    have hlm : (l.map (·.2)).length = l.length := by simp
    have hlm1 : (l.map (·.1)).length = l.length := by simp
    refine tr_seq ?_
    refine tr_region (fun N4 hN => ?_)
    refine lx (op_move rfl) rfl ?_
    first | refine lx (op_nilCheck rfl) rfl ?_ | refine lx (op_nilCheckC rfl) rfl ?_
    refine lx (op_fieldAddr rfl fl52_0 sz25) rfl ?_
    refine lx (op_fieldAddr rfl fl25_0 sz22) rfl ?_
    refine lx (op_bload_one (m := 0) rfl rfl ag22 rfl) rfl ?_
    first | refine lx (op_len rfl el22) rfl ?_ | refine lx (op_len_row rfl el22) rfl ?_ | refine lx (op_len_mv rfl el22) rfl ?_
    refine lx (op_assign rfl) rfl ?_
    refine lx_end ⟨by kernel_rfl, ?_⟩
    refine pe_then_normal ?_
    refine tr_sub hC (.cons (t := 0) rfl (.cons (t := 1) rfl (.cons (t := 5) rfl (.cons (t := 7) rfl (.cons (t := 8) rfl .nil))))) (.cons (t := 0) rfl (.cons (t := 1) rfl (.cons (t := 2) rfl (.cons (t := 3) rfl (.cons (t := 5) rfl (.cons (t := 7) rfl .nil)))))) rfl ?_
    refine tr_seq ?_
    refine tr_drawn mixed (fun N5 hN => ?_)
    refine lx (op_move rfl) rfl ?_
    first | refine lx (op_nilCheck rfl) rfl ?_ | refine lx (op_nilCheckC rfl) rfl ?_
    refine lx (op_fieldAddr rfl fl52_1 sz44) rfl ?_
    refine lx (op_bload_one (m := 0) rfl rfl ag44 rfl) rfl ?_
    first | refine lx (op_bload (m := 7) rfl rfl ag56 sz56) rfl ?_ | refine lx (op_bload_part (m := 7) rfl rfl ag56 sz56 rfl rfl) rfl ?_
    refine lx (op_move rfl) rfl ?_
    refine lxr (op_mapUpdate (m := 3) (a := (p, s)) (b := ((l.map (·.2)).length : Int)) (g := iv) keyE rfl rfl rfl rfl mp44 hnone) rfl ?_
    refine lx_end ⟨by kernel_rfl, ?_⟩
    refine pe_then_normal ?_
    refine tr_sub hC (.cons (t := 0) rfl (.cons (t := 1) rfl (.cons (t := 5) rfl (.cons (t := 8) rfl .nil)))) (.cons (t := 0) rfl (.cons (t := 1) rfl (.cons (t := 2) rfl (.cons (t := 3) rfl (.cons (t := 5) rfl .nil))))) rfl ?_
    refine tr_seq ?_
    refine tr_drawn mixed (fun N6 hN => ?_)
    refine lx (op_move rfl) rfl ?_
    refine lx (op_move rfl) rfl ?_
    first | refine lx (op_nilCheck rfl) rfl ?_ | refine lx (op_nilCheckC rfl) rfl ?_
    refine lx (op_fieldAddr rfl fl52_0 sz25) rfl ?_
    refine lx (op_fieldAddr rfl fl25_0 sz22) rfl ?_
    refine lx (op_bload_one (m := 0) rfl rfl ag22 rfl) rfl ?_
    first | refine lx (op_bload (m := 5) rfl rfl ag29 sz29) rfl ?_ | refine lx (op_bload_part (m := 5) rfl rfl ag29 sz29 rfl rfl) rfl ?_
    refine lx (op_buildSlice (f := sp) (xs := [s]) (l := [(0, (Go.Operand.tmp 42))]) ze29 rfl rfl (by decide) el22 sz29 sp_len (.cons rfl (.agg rfl) .nil) rfl (by decide)) rfl ?_
    refine lxr (op_append (m := 1) (m' := 44) (kk := 44) rfl rfl rfl (.inr (by first | exact hC.low _ (by decide) | rfl)) el22 ze29 sz29 by29 rfl sp_len (by simp; omega) (by simp; omega)) rfl ?_
    first | refine lx (op_nilCheck rfl) rfl ?_ | refine lx (op_nilCheckC rfl) rfl ?_
    refine lx (op_fieldAddr rfl fl52_0 sz25) rfl ?_
    refine lx (op_fieldAddr rfl fl25_0 sz22) rfl ?_
    refine lxr (op_store_one (m := 0) rfl rfl rfl (by (first | exact One.eq rfl | exact One.mv _ _ _ _ _ | exact One.cl _ _ _ | exact One.map _ | exact One.sl _ _ _ | exact One.row _ _ _ _ | exact One.msl _ _ _ _ | exact One.ptr _ _ | exact One.b _ | exact One.cells _)) sz22 rfl) rfl ?_
    refine lx_end ⟨by kernel_rfl, ?_⟩
    refine pe_then_normal ?_
    refine tr_sub hC (.cons (t := 0) rfl (.cons (t := 1) rfl (.cons (t := 8) rfl .nil))) (.cons (t := 0) rfl (.cons (t := 2) rfl (.cons (t := 3) rfl (.cons (t := 44) rfl .nil)))) rfl ?_
    refine tr_region (fun N7 hN => ?_)
    refine lx (op_move rfl) rfl ?_
    refine lx (op_move rfl) rfl ?_
    first | refine lx (op_nilCheck rfl) rfl ?_ | refine lx (op_nilCheckC rfl) rfl ?_
    refine lx (op_fieldAddr rfl fl52_0 sz25) rfl ?_
    refine lx (op_fieldAddr rfl fl25_1 sz23) rfl ?_
    refine lx (op_bload_one (m := 0) rfl rfl ag23 rfl) rfl ?_
    refine lx (op_move rfl) rfl ?_
    refine lx (op_buildSlice (f := ip) (xs := [p]) (l := [(0, (Go.Operand.tmp 54))]) ze3 rfl rfl (by decide) el23 sz3 ip_len (.cons rfl (.one (by (first | exact One.eq rfl | exact One.mv _ _ _ _ _ | exact One.cl _ _ _ | exact One.map _ | exact One.sl _ _ _ | exact One.row _ _ _ _ | exact One.msl _ _ _ _ | exact One.ptr _ _ | exact One.b _ | exact One.cells _))) .nil) rfl (by decide)) rfl ?_
    refine lxr (op_append (m := 2) (m' := 56) (kk := 56) rfl rfl rfl (.inr (by first | exact hC.low _ (by decide) | rfl)) el23 ze3 sz3 by3 rfl ip_len (by simp; omega) (by simp; omega)) rfl ?_
    first | refine lx (op_nilCheck rfl) rfl ?_ | refine lx (op_nilCheckC rfl) rfl ?_
    refine lx (op_fieldAddr rfl fl52_0 sz25) rfl ?_
    refine lx (op_fieldAddr rfl fl25_1 sz23) rfl ?_
    refine lxr (op_store_one (m := 0) rfl rfl rfl (by (first | exact One.eq rfl | exact One.mv _ _ _ _ _ | exact One.cl _ _ _ | exact One.map _ | exact One.sl _ _ _ | exact One.row _ _ _ _ | exact One.msl _ _ _ _ | exact One.ptr _ _ | exact One.b _ | exact One.cells _)) sz23 rfl) rfl ?_
    refine lx_end ⟨by kernel_rfl, ?_⟩
    refine pe_then_normal ?_
    refine tr_sub hC (.cons (t := 8) rfl .nil) (.cons (t := 0) rfl (.cons (t := 3) rfl (.cons (t := 44) rfl (.cons (t := 56) rfl .nil)))) rfl ?_
    refine tr_seq ?_
    refine tr_region (fun N8 hN => ?_)
    refine lx (op_move rfl) rfl ?_
    refine lx (op_assign rfl) rfl ?_
    refine lx_end ⟨by kernel_rfl, ?_⟩
    refine pe_then_normal ?_
    refine tr_sub hC (.cons (t := 6) rfl .nil) (.cons (t := 0) rfl (.cons (t := 3) rfl (.cons (t := 44) rfl (.cons (t := 56) rfl .nil)))) rfl ?_
    refine tr_ret ?_
    refine pe_ownS' [0, 44, 56, 3] rfl hO rfl (.tmp rfl .nil) (.cons (m := 44) rfl (RenR.tail _ _ _) (.cons (m := 56) rfl (RenR.tail _ _ _) .nil)) rfl rfl rfl ?_
    intro τ ι hs
    refine ⟨?_, ?_⟩
    · refine ent_at (entI ?_)
      simp
    · exact (.kept rfl rfl (by rw [List.map_append, List.map_append]; exact blk_ents (.cons (row_ren (hs 0 _ rfl).1 (hs 0 _ rfl).2) (.cons (row_ren (hs 1 _ rfl).1 (hs 1 _ rfl).2) (.cons (ent_at (Ent.refl _)) .nil)))) (.moved rfl (by rw [List.map_append]; exact fun b o h => h) (.moved rfl (by rw [List.map_append]; exact fun b o h => h) (.kept rfl rfl (by rw [tab_add, hlm]; exact fun b o h => h) .nil))))
  · exact absurd h23 (by rw [found_some, hi]; simp)

theorem push_ok (i0 i1 i2 i3 : AL.Id) (l : List E) (p : Int) (s : Site) (hx : l.length ≤ 1000000) : FnOK Try.prog 27 [ptrP i0 0, eqP (.int .i64 p), aggP (sp s)] [(i0, blk 52 [rowP (i1) sp 2 ((l).map (·.2)), rowP (i2) ip 1 ((l).map (·.1)), mapP (i3)]), (i1, tail 29 2 (((l).map (·.2)).length * 2)), (i2, tail 3 1 (((l).map (·.1)).length * 1)), (i3, mapR ev iv (tab (l)))] 2 (fun ι => eqP (.int .i64 ((pushE l (p, s)).2 : Int))) (fun ι => [(i0, blk 52 [rowP (ι 0) sp 2 (((pushE l (p, s)).1).map (·.2)), rowP (ι 1) ip 1 (((pushE l (p, s)).1).map (·.1)), mapP (i3)]), (ι 0, tail 29 2 ((((pushE l (p, s)).1).map (·.2)).length * 2)), (ι 1, tail 3 1 ((((pushE l (p, s)).1).map (·.1)).length * 1)), (i3, mapR ev iv (tab ((pushE l (p, s)).1)))]) := by
  cases hi : idxE l (p, s) with
  | some i => rw [pushE_some hi]; exact push_s i0 i1 i2 i3 l p s hx i hi
  | none => rw [pushE_none hi]; exact push_n i0 i1 i2 i3 l p s hx hi
theorem reverse_ok (id : AL.Id) (xs : List Site) (hx : xs.length ≤ 1000000) : FnOK Try.prog 31 [mvP id 2 0 xs.length xs.length] [(id, blkX 2 29 (xs.flatMap sp))] 0 (fun ι => tupP []) (fun ι => [(id, blkX 2 29 (xs.reverse.flatMap sp))]) := by
  refine fn_ownN Try.func31 rfl Try.ntmps31 rfl ?_
  intro σ0 M Rf R hC hO
  simp only [frameOf, tokOf]
  refine tr_seq ?_
  refine tr_region (fun N0 hN => ?_)
  refine lx (op_move rfl) rfl ?_
  first | refine lx (op_len rfl el22) rfl ?_ | refine lx (op_len_row rfl el22) rfl ?_ | refine lx (op_len_mv rfl el22) rfl ?_
  refine lx (op_sub rfl rfl (by omega)) rfl ?_
  refine lx (op_assign rfl) rfl ?_
  refine lx (op_assign rfl) rfl ?_
  refine lx_end ⟨by kernel_rfl, ?_⟩
  refine pe_then_normal ?_
  refine tr_sub hC (.cons (t := 0) rfl (.cons (t := 2) rfl (.cons (t := 3) rfl .nil))) (.cons (t := 0) rfl .nil) rfl ?_
  refine tr_block ?_
  refine tr_loopK (α := {zz : Nat × (List Site) // zz.2.length = xs.length ∧ zz.1 ≤ xs.length ∧ ∀ m, m < xs.length → zz.2[m]? = if m < zz.1 ∨ xs.length - zz.1 ≤ m then xs[xs.length - 1 - m]? else xs[m]?}) (⟨(0, xs), rfl, Nat.zero_le _, by intro m hm; simp; omega⟩) (fun zz => [(2, eqP (.int .i64 (zz.1.1 : Int))), (3, eqP (.int .i64 ((xs.length : Int) - 1 - (zz.1.1 : Int))))]) (fun zz => [(0, some (id, blkX 2 29 (zz.1.2.flatMap sp)))]) (fun zz => xs.length - zz.1.1) hC (.cons (t := 0) rfl .nil) .nil rfl ?_ ?_ (fun zz => ?_)
  · try dsimp only [List.cons_append, List.nil_append]
    first | refine SubF.cons rfl ?_ | (refine SubF.ent rfl ?_ ?_; · exact entI (by omega))
    first | refine SubF.cons rfl ?_ | (refine SubF.ent rfl ?_ ?_; · exact entI (by omega))
    exact SubF.nil
  · try dsimp only [List.cons_append, List.nil_append]
    repeat (first | exact SubL.nil | refine SubL.cons rfl ?_)
  · obtain ⟨⟨i, ys⟩, hyl, hi1, hrev⟩ := zz
    try dsimp only at hyl
    try dsimp only at hi1
    try dsimp only at hrev
    dsimp only [List.cons_append, List.nil_append]
    refine tr_seq ?_
    refine tr_seq ?_
    refine tr_region (fun N1 hN => ?_)
    refine lx (op_move rfl) rfl ?_
    refine lx (op_move rfl) rfl ?_
    refine lx (op_lss rfl rfl) rfl ?_
    refine lx_end ⟨by kernel_rfl, ?_⟩
    refine pe_then_normal ?_
    refine tr_sub hC (.cons (t := 0) rfl (.cons (t := 2) rfl (.cons (t := 3) rfl (.cons (t := 9) rfl .nil)))) (.cons (t := 0) rfl .nil) rfl ?_
    refine tr_cond rfl (fun h9 => ?_) (fun h9 => ?_)
    · (try simp only [Bool.and_eq_true, Bool.or_eq_true, Bool.and_eq_false_iff, Bool.or_eq_false_iff, decide_eq_true_eq, decide_eq_false_iff_not, Bool.not_eq_true', Bool.not_eq_false', List.length_map, ne_eq, Decidable.not_not, Int.not_lt, Int.not_le] at h9)
      refine tr_skip ?_
      refine pe_then_normal ?_
      refine tr_sub hC (.cons (t := 0) rfl (.cons (t := 2) rfl (.cons (t := 3) rfl .nil))) (.cons (t := 0) rfl .nil) rfl ?_
      refine tr_seq ?_
      refine tr_block ?_
      refine tr_drawn mixed (fun N3 hN => ?_)
      refine lx (op_move rfl) rfl ?_
      refine lx (op_move rfl) rfl ?_
      refine lx (op_move rfl) rfl ?_
      refine lx (op_move rfl) rfl ?_
      refine lx (op_move rfl) rfl ?_
      refine lx (op_move rfl) rfl ?_
      refine lx (op_index_mv rfl rfl el22 sz29 (by omega : (xs.length : Int) - 1 - i = ((xs.length - 1 - i : Nat) : Int)) (by omega)) rfl ?_
      refine lx (op_tload (m := 0) (j := xs.length - 1 - i) (fo := 0) rfl rfl ag29 sz29 sp_len (by omega) (List.getElem?_eq_getElem (by omega : xs.length - 1 - i < ys.length)) rfl rfl) rfl ?_
      refine lx (op_move rfl) rfl ?_
      refine lx (op_move rfl) rfl ?_
      refine lx (op_index_mv rfl rfl el22 sz29 rfl (by omega)) rfl ?_
      refine lx (op_tload (m := 0) (j := i) (fo := 0) rfl rfl ag29 sz29 sp_len (by omega) (List.getElem?_eq_getElem (by omega : i < ys.length)) rfl rfl) rfl ?_
      refine lx (op_index_mv rfl rfl el22 sz29 rfl (by omega)) rfl ?_
      refine lxr (op_tstore (m := 0) (j := i) (fo := 0) (z' := (ys[xs.length - 1 - i]'(by omega))) rfl rfl rfl (.agg rfl) sz29 rfl sp_len (by omega) (List.getElem?_eq_getElem (by omega : i < ys.length)) rfl rfl) rfl ?_
      refine lx (op_index_mv rfl rfl el22 sz29 (by omega : (xs.length : Int) - 1 - i = ((xs.length - 1 - i : Nat) : Int)) (by omega)) rfl ?_
      refine lxr (op_tstore (m := 0) (j := xs.length - 1 - i) (fo := 0) (z' := (ys[i]'(by omega))) rfl rfl rfl (.agg rfl) sz29 rfl sp_len (by omega) (List.getElem?_eq_getElem (by rw [List.length_set]; omega)) rfl rfl) rfl ?_
      refine lx_end ⟨by kernel_rfl, ?_⟩
      refine pe_block_normal ?_
      refine pe_then_normal ?_
      refine tr_sub hC (.cons (t := 0) rfl (.cons (t := 2) rfl (.cons (t := 3) rfl .nil))) (.cons (t := 0) rfl .nil) rfl ?_
      refine tr_region (fun N2 hN => ?_)
      refine lx (op_move rfl) rfl ?_
      refine lx (op_add rfl rfl (by omega)) rfl ?_
      refine lx (op_move rfl) rfl ?_
      refine lx (op_sub rfl rfl (by omega)) rfl ?_
      refine lx (op_assign rfl) rfl ?_
      refine lx (op_assign rfl) rfl ?_
      refine lx_end ⟨by kernel_rfl, ?_⟩
      refine pe_round (⟨(i + 1, (ys.set i (ys[xs.length - 1 - i]'(by omega))).set (xs.length - 1 - i) (ys[i]'(by omega))), by simp [hyl], by omega, rev_step hyl hrev (by omega)⟩) (by dsimp only; omega) (pe_st hC ?_ ?_ rfl)
      · try dsimp only [List.cons_append, List.nil_append]
        first | refine SubF.cons rfl ?_ | (refine SubF.ent rfl ?_ ?_; · exact entI (by omega))
        first | refine SubF.cons rfl ?_ | (refine SubF.ent rfl ?_ ?_; · exact entI (by omega))
        first | refine SubF.cons rfl ?_ | (refine SubF.ent rfl ?_ ?_; · exact entI (by omega))
        exact SubF.nil
      · try dsimp only [List.cons_append, List.nil_append]
        repeat (first | exact SubL.nil | refine SubL.cons rfl ?_)
    · (try simp only [Bool.and_eq_true, Bool.or_eq_true, Bool.and_eq_false_iff, Bool.or_eq_false_iff, decide_eq_true_eq, decide_eq_false_iff_not, Bool.not_eq_true', Bool.not_eq_false', List.length_map, ne_eq, Decidable.not_not, Int.not_lt, Int.not_le] at h9)
      have hfin : ys = xs.reverse := rev_end hyl hrev (by omega)
      refine tr_exit ?_
      refine pe_then_exit ?_
      refine pe_then_exit ?_
      refine pe_block_eq ?_
      refine pe_ownE [0] rfl hO rfl .nil rfl rfl rfl ?_
      intro τ ι hs
      refine ⟨?_, ?_⟩
      · exact fun v h => h
      · exact (.kept rfl rfl (by rw [hfin]; exact fun b o h => h) .nil)

end Go.Proofs.Ytoibihhocjbilaa
