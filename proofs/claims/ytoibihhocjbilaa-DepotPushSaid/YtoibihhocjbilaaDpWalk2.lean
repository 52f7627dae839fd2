/- Walks of the functions of layer 21: the table -/
import Derived.Test.YtoibihhocjbilaaDpWalk
set_option linter.unusedVariables false
set_option linter.unusedSimpArgs false
namespace Go.Proofs.Ytoibihhocjbilaa
open Go.AL Go.Dp Go.RowKit
theorem ag22 : aggB Try.prog 22 = some false := by kernel_rfl
theorem ag23 : aggB Try.prog 23 = some false := by kernel_rfl
theorem ag25 : aggB Try.prog 25 = some true := by kernel_rfl
theorem ag56 : aggB Try.prog 56 = some true := by kernel_rfl
theorem fl25_0 : fldB Try.prog 25 0 = some (0, 22) := by kernel_rfl
theorem fl25_1 : fldB Try.prog 25 1 = some (1, 23) := by kernel_rfl
theorem fl52_0 : fldB Try.prog 52 0 = some (0, 25) := by kernel_rfl
theorem fl52_1 : fldB Try.prog 52 1 = some (2, 44) := by kernel_rfl
theorem fl56_0 : fldB Try.prog 56 0 = some (0, 3) := by kernel_rfl
theorem fl56_1 : fldB Try.prog 56 1 = some (1, 29) := by kernel_rfl
theorem fn24 : fnB Try.prog 24 = true := by kernel_rfl
theorem fn32 : fnB Try.prog 32 = true := by kernel_rfl
theorem fn33 : fnB Try.prog 33 = true := by kernel_rfl
theorem fs25 : sizesB Try.prog 25 = true := by kernel_rfl
theorem fs52 : sizesB Try.prog 52 = true := by kernel_rfl
theorem fs56 : sizesB Try.prog 56 = true := by kernel_rfl
theorem mixed : Try.prog.follows .mixedOrders = true := by kernel_rfl
theorem mp44 : mapB Try.prog 44 = some (56, 3) := by kernel_rfl
theorem sz22 : sizeB Try.prog 22 = some 1 := by kernel_rfl
theorem sz23 : sizeB Try.prog 23 = some 1 := by kernel_rfl
theorem sz25 : sizeB Try.prog 25 = some 2 := by kernel_rfl
theorem sz44 : sizeB Try.prog 44 = some 1 := by kernel_rfl
theorem sz56 : sizeB Try.prog 56 = some 3 := by kernel_rfl
theorem ze25 : zeroB Try.prog 25 = some (some (.agg #[.slice none 0 0, .slice none 0 0])) := by kernel_rfl
theorem ze52 : zeroB Try.prog 52 = some (some (.agg #[.slice none 0 0, .slice none 0 0, .map none])) := by kernel_rfl
theorem ze56 : zeroB Try.prog 56 = some (some (.agg #[.int .i64 0, .int .i64 0, .int .i64 0])) := by kernel_rfl
theorem table_v (d : Dep) (hl : d.sites.length = d.parents.length) (hv : validE d.es = true) (hx : d.sites.length ≤ 1000000) : Fn1 Try.prog 24 [aggP d.ps] (fun id => mapP id) (mapR ev iv (tab d.es)) := by
  refine fn_own (Ren.map ev iv _) Try.func24 rfl Try.ntmps24 rfl ?_
  intro σ0 M Rf R hC hO
  simp only [frameOf, tokOf]
  refine tr_seq ?_
  refine tr_region (fun N0 hN => ?_)
  refine lxn (op_box (m := 1) (k := 1) rfl (.agg rfl) (by first | exact hC.low _ (by decide) | rfl)) rfl ?_
  refine lx (op_assign rfl) rfl ?_
  refine lx_end ⟨by kernel_rfl, ?_⟩
  refine pe_then_normal ?_
  refine tr_sub hC (.cons (t := 1) rfl .nil) (.cons (t := 1) rfl .nil) rfl ?_
  refine tr_seq ?_
  refine tr_seq ?_
  refine tr_region (fun N1 hN => ?_)
  refine lx (op_fieldAddr rfl fl25_0 sz22) rfl ?_
  refine lx (op_bload_one (m := 1) rfl rfl ag22 rfl) rfl ?_
  first | refine lx (op_len rfl el22) rfl ?_ | refine lx (op_len_row rfl el22) rfl ?_ | refine lx (op_len_mv rfl el22) rfl ?_
  refine lx (op_fieldAddr rfl fl25_1 sz23) rfl ?_
  refine lx (op_bload_one (m := 1) rfl rfl ag23 rfl) rfl ?_
  first | refine lx (op_len rfl el23) rfl ?_ | refine lx (op_len_row rfl el23) rfl ?_ | refine lx (op_len_mv rfl el23) rfl ?_
  refine lx (op_neq rfl rfl) rfl ?_
  refine lx_end ⟨by kernel_rfl, ?_⟩
  refine pe_then_normal ?_
  refine tr_sub hC (.cons (t := 1) rfl (.cons (t := 15) rfl .nil)) (.cons (t := 1) rfl .nil) rfl ?_
  refine tr_cond rfl (fun h15 => ?_) (fun h15 => ?_)
  · exact absurd (of_decide_eq_true h15) (by simp [hl])
  · (try simp only [Bool.and_eq_true, Bool.or_eq_true, Bool.and_eq_false_iff, Bool.or_eq_false_iff, decide_eq_true_eq, decide_eq_false_iff_not, Bool.not_eq_true', Bool.not_eq_false', List.length_map, ne_eq, Decidable.not_not, Int.not_lt, Int.not_le] at h15)
    refine tr_skip ?_
    refine pe_then_normal ?_
    refine tr_sub hC (.cons (t := 1) rfl .nil) (.cons (t := 1) rfl .nil) rfl ?_
    refine tr_seq ?_
    refine tr_region (fun N3 hN => ?_)
    refine lx (op_fieldAddr rfl fl25_0 sz22) rfl ?_
    refine lx (op_bload_one (m := 1) rfl rfl ag22 rfl) rfl ?_
    first | refine lx (op_len rfl el22) rfl ?_ | refine lx (op_len_row rfl el22) rfl ?_ | refine lx (op_len_mv rfl el22) rfl ?_
    refine lxn (op_makeMap (m' := 19) (kk := 19) ev iv rfl mp44 (by first | exact hC.low _ (by decide) | rfl)) rfl ?_
    refine lx (op_assign rfl) rfl ?_
    refine lx_end ⟨by kernel_rfl, ?_⟩
    refine pe_then_normal ?_
    refine tr_sub hC (.cons (t := 1) rfl (.cons (t := 3) rfl .nil)) (.cons (t := 1) rfl (.cons (t := 19) rfl .nil)) rfl ?_
    refine tr_seq ?_
    refine tr_seq ?_
    refine tr_region (fun N4 hN => ?_)
    refine lx (op_fieldAddr rfl fl25_0 sz22) rfl ?_
    refine lx (op_bload_one (m := 1) rfl rfl ag22 rfl) rfl ?_
    first | refine lx (op_len rfl el22) rfl ?_ | refine lx (op_len_row rfl el22) rfl ?_ | refine lx (op_len_mv rfl el22) rfl ?_
    refine lx (op_move rfl) rfl ?_
    refine lx_end ⟨by kernel_rfl, ?_⟩
    refine pe_then_normal ?_
    refine tr_sub hC (.cons (t := 1) rfl (.cons (t := 3) rfl (.cons (t := 21) rfl (.cons (t := 22) rfl (.cons (t := 23) rfl .nil))))) (.cons (t := 1) rfl (.cons (t := 19) rfl .nil)) rfl ?_
    refine tr_block ?_
    refine tr_loopK (α := {zz : Nat // zz ≤ d.sites.length ∧ okFrom (d.es.take zz) (d.es.drop zz) = validE d.es}) (⟨(0), Nat.zero_le _, rfl⟩) (fun zz => [(23, eqP (.int .i64 (zz.1 : Int)))]) (fun zz => [(19, some ((N3, 19), mapR ev iv (tab (d.es.take zz.1))))]) (fun zz => d.sites.length - zz.1) hC (.cons (t := 1) rfl (.cons (t := 3) rfl (.cons (t := 21) rfl (.cons (t := 22) rfl .nil)))) (.cons (t := 1) rfl .nil) rfl ?_ ?_ (fun zz => ?_)
    · try dsimp only [List.cons_append, List.nil_append]
      first | refine SubF.cons rfl ?_ | (refine SubF.ent rfl ?_ ?_; · repeat (first | exact Ent.refl _ | exact Ents.nil | exact Ent.nil _ _ | exact Ent.row _ _ _ _ | exact Ent.func _ | refine Ents.cons ?_ ?_ | refine Ent.tup ?_ | refine Ent.agg ?_ | refine Ent.cells ?_ | exact Ent.of_eq rfl))
      exact SubF.nil
    · try dsimp only [List.cons_append, List.nil_append]
      repeat (first | exact SubL.nil | refine SubL.cons rfl ?_)
    · obtain ⟨k, hk1, hk2⟩ := zz
      dsimp only [List.cons_append, List.nil_append]
      refine tr_seq ?_
      refine tr_region (fun N5 hN => ?_)
      refine lx (op_lss rfl rfl) rfl ?_
      refine lx_end ⟨by kernel_rfl, ?_⟩
      refine pe_then_normal ?_
      refine tr_sub hC (.cons (t := 1) rfl (.cons (t := 3) rfl (.cons (t := 21) rfl (.cons (t := 22) rfl (.cons (t := 23) rfl (.cons (t := 24) rfl .nil)))))) (.cons (t := 19) rfl (.cons (t := 1) rfl .nil)) rfl ?_
      refine tr_seq ?_
      refine tr_cond rfl (fun h24 => ?_) (fun h24 => ?_)
      · (try simp only [Bool.and_eq_true, Bool.or_eq_true, Bool.and_eq_false_iff, Bool.or_eq_false_iff, decide_eq_true_eq, decide_eq_false_iff_not, Bool.not_eq_true', Bool.not_eq_false', List.length_map, ne_eq, Decidable.not_not, Int.not_lt, Int.not_le] at h24)
        refine tr_skip ?_
        refine pe_then_normal ?_
        refine tr_sub hC (.cons (t := 1) rfl (.cons (t := 3) rfl (.cons (t := 21) rfl (.cons (t := 22) rfl (.cons (t := 23) rfl .nil))))) (.cons (t := 19) rfl (.cons (t := 1) rfl .nil)) rfl ?_
        refine tr_seq ?_
        refine tr_block ?_
        refine tr_seq ?_
        refine tr_region (fun N6 hN => ?_)
        refine lx (op_move rfl) rfl ?_
        refine lx (op_index rfl rfl el22 sz29 rfl (List.getElem?_eq_getElem (by omega : k < d.sites.length))) rfl ?_
        first | refine lx (op_load_all rfl ag29 sz29) rfl ?_ | refine lx (op_load_agg rfl ag29 sz29 rfl) rfl ?_ | refine lx (op_bload (m := 19) rfl rfl ag29 sz29) rfl ?_ | refine lx (op_bload (m := 1) rfl rfl ag29 sz29) rfl ?_ | refine lx (op_bload_part (m := 19) rfl rfl ag29 sz29 rfl rfl) rfl ?_ | refine lx (op_bload_part (m := 1) rfl rfl ag29 sz29 rfl rfl) rfl ?_
        refine lxn (op_alloc (m := 5) (k := 5) (ps := [eqP (.int .i64 0), eqP (.int .i64 0)]) ze29 rfl rfl (by first | exact hC.low _ (by decide) | rfl)) rfl ?_
        refine lx (op_assign rfl) rfl ?_
        first | refine lxr (op_store_all (m := 5) rfl rfl rfl (.agg rfl) sz29 rfl) rfl ?_ | refine lxr (op_store (m := 5) rfl rfl rfl (.agg rfl) sz29 rfl rfl rfl) rfl ?_
        refine lx_end ⟨by kernel_rfl, ?_⟩
        refine pe_then_normal ?_
        refine tr_sub hC (.cons (t := 1) rfl (.cons (t := 3) rfl (.cons (t := 4) rfl (.cons (t := 5) rfl (.cons (t := 21) rfl (.cons (t := 22) rfl (.cons (t := 23) rfl .nil))))))) (.cons (t := 19) rfl (.cons (t := 1) rfl (.cons (t := 5) rfl .nil))) rfl ?_
        refine tr_seq ?_
        refine tr_drawn mixed (fun N7 hN => ?_)
        refine lx (op_fieldAddr rfl fl25_1 sz23) rfl ?_
        refine lx (op_bload_one (m := 1) rfl rfl ag23 rfl) rfl ?_
        refine lx (op_move rfl) rfl ?_
        refine lx (op_index rfl rfl el23 sz3 rfl (List.getElem?_eq_getElem (by omega : k < d.parents.length))) rfl ?_
        first | refine lx (op_load_one rfl ag3 rfl) rfl ?_ | refine lx (op_bload_one (m := 19) rfl rfl ag3 rfl) rfl ?_ | refine lx (op_bload_one (m := 1) rfl rfl ag3 rfl) rfl ?_ | refine lx (op_bload_one (m := 5) rfl rfl ag3 rfl) rfl ?_
        first | refine lx (op_bload (m := 5) rfl rfl ag29 sz29) rfl ?_ | refine lx (op_bload_part (m := 5) rfl rfl ag29 sz29 rfl rfl) rfl ?_
        refine lx (op_build (parts := [(0, (Go.Operand.tmp 32)), (1, (Go.Operand.tmp 33))]) ze56 rfl rfl fs56 (.cons rfl (.one (by (first | exact One.eq rfl | exact One.mv _ _ _ _ _ | exact One.cl _ _ _ | exact One.map _ | exact One.sl _ _ _ | exact One.row _ _ _ _ | exact One.msl _ _ _ _ | exact One.ptr _ _ | exact One.b _ | exact One.cells _))) fl56_0 sz3 rfl (.cons rfl (.agg rfl) fl56_1 sz29 rfl .nil)) rfl rfl) rfl ?_
        refine lxn (op_alloc (m := 6) (k := 6) (ps := [eqP (.int .i64 0), eqP (.int .i64 0), eqP (.int .i64 0)]) ze56 rfl rfl (by first | exact hC.low _ (by decide) | rfl)) rfl ?_
        first | refine lxr (op_store_all (m := 6) rfl rfl rfl (.agg rfl) sz56 rfl) rfl ?_ | refine lxr (op_store (m := 6) rfl rfl rfl (.agg rfl) sz56 rfl rfl rfl) rfl ?_
        refine lx_end ⟨by kernel_rfl, ?_⟩
        refine pe_then_normal ?_
        refine tr_sub hC (.cons (t := 1) rfl (.cons (t := 3) rfl (.cons (t := 4) rfl (.cons (t := 5) rfl (.cons (t := 6) rfl (.cons (t := 21) rfl (.cons (t := 22) rfl (.cons (t := 23) rfl .nil)))))))) (.cons (t := 19) rfl (.cons (t := 1) rfl (.cons (t := 5) rfl (.cons (t := 6) rfl .nil)))) rfl ?_
        refine tr_seq ?_
        refine tr_seq ?_
        refine tr_region (fun N8 hN => ?_)
        refine lx (op_move rfl) rfl ?_
        first | refine lx (op_bload (m := 6) rfl rfl ag56 sz56) rfl ?_ | refine lx (op_bload_part (m := 6) rfl rfl ag56 sz56 rfl rfl) rfl ?_
        refine lx (op_lookup (m := 19) (a := (d.parents[k], d.sites[k])) (g := iv) keyE rfl rfl rfl mp44 ze3) rfl ?_
        refine lx (op_move rfl) rfl ?_
        refine lx (op_extract rfl rfl) rfl ?_
        refine lx (op_extract rfl rfl) rfl ?_
        refine lx (op_assign rfl) rfl ?_
        refine lx (op_assign rfl) rfl ?_
        refine lx_end ⟨by kernel_rfl, ?_⟩
        refine pe_then_normal ?_
        refine tr_sub hC (.cons (t := 1) rfl (.cons (t := 3) rfl (.cons (t := 4) rfl (.cons (t := 5) rfl (.cons (t := 6) rfl (.cons (t := 8) rfl (.cons (t := 21) rfl (.cons (t := 22) rfl (.cons (t := 23) rfl .nil))))))))) (.cons (t := 19) rfl (.cons (t := 1) rfl (.cons (t := 5) rfl (.cons (t := 6) rfl .nil)))) rfl ?_
        refine tr_seq ?_
        refine tr_region (fun N9 hN => ?_)
        refine lx (op_move rfl) rfl ?_
        refine lx (op_move rfl) rfl ?_
        refine lxs rfl rfl rfl guard_eq (.cons (t := 6) rfl (fun _ => Ent.refl _) .nil) (op_fieldAddr rfl fl56_0 sz3) rfl ?_
        refine lxs rfl rfl rfl guard_eq (.cons (t := 43) rfl (fun h => entW h) .nil) (op_bload_one (m := 6) rfl rfl ag3 rfl) rfl ?_
        refine lxs rfl rfl rfl guard_eq (.cons (t := 44) rfl (fun h => entW h) .nil) (op_lss rfl rfl) rfl ?_
        refine lx (op_pick_or rfl rfl) rfl ?_
        refine lx (op_move rfl) rfl ?_
        refine lxs rfl rfl rfl guard_eq (.cons (t := 6) rfl (fun _ => Ent.refl _) .nil) (op_fieldAddr rfl fl56_0 sz3) rfl ?_
        refine lxs rfl rfl rfl guard_eq (.cons (t := 48) rfl (fun h => entW h) .nil) (op_bload_one (m := 6) rfl rfl ag3 rfl) rfl ?_
        refine lxs rfl rfl rfl guard_eq (.cons (t := 4) rfl (fun _ => Ent.refl _) .nil) (op_move rfl) rfl ?_
        refine lxs rfl rfl rfl guard_eq (.cons (t := 49) rfl (fun h => entW h) (.cons (t := 50) rfl (fun h => entW h) .nil)) (op_geq rfl rfl) rfl ?_
        refine lx (op_pick_or rfl rfl) rfl ?_
        refine lx (op_move rfl) rfl ?_
        first | refine lxs rfl rfl rfl guard_eq (.cons (t := 5) rfl (fun _ => Ent.refl _) .nil) (op_bload (m := 5) rfl rfl ag29 sz29) rfl ?_ | refine lxs rfl rfl rfl guard_eq (.cons (t := 5) rfl (fun _ => Ent.refl _) .nil) (op_bload_part (m := 5) rfl rfl ag29 sz29 rfl rfl) rfl ?_
        first | refine lxs rfl rfl rfl guard_eq (.cons (t := 54) rfl (fun h => entW h) .nil) (op_call (l := [(Go.Operand.tmp 54)]) (proper_ok _) (.cons rfl .nil) fn26) rfl ?_ | refine lxs rfl rfl rfl guard_eq (.cons (t := 54) rfl (fun h => entW h) .nil) (op_call (l := [(Go.Operand.tmp 54)]) (proper_ok _) (.ent rfl (by repeat (first | exact Ent.refl _ | exact Ents.nil | exact Ent.nil _ _ | exact Ent.row _ _ _ _ | exact Ent.func _ | refine Ents.cons ?_ ?_ | refine Ent.tup ?_ | refine Ent.agg ?_ | refine Ent.cells ?_ | exact Ent.of_eq rfl)) .nil) fn26) rfl ?_
        first | refine lxs rfl rfl rfl guard_eq (.cons (t := 55) rfl (fun h => entW h) .nil) (op_not rfl) rfl ?_ | refine lxs rfl rfl rfl guard_eq (.cons (t := 55) rfl (fun h => entW h) .nil) (op_not_b rfl) rfl ?_
        refine lx (op_pick_or rfl rfl) rfl ?_
        refine lx_end ⟨by kernel_rfl, ?_⟩
        refine pe_then_normal ?_
        refine tr_sub hC (.cons (t := 1) rfl (.cons (t := 3) rfl (.cons (t := 4) rfl (.cons (t := 6) rfl (.cons (t := 21) rfl (.cons (t := 22) rfl (.cons (t := 23) rfl (.cons (t := 57) rfl .nil)))))))) (.cons (t := 19) rfl (.cons (t := 1) rfl (.cons (t := 6) rfl .nil))) rfl ?_
        refine tr_cond rfl (fun h57 => ?_) (fun h57 => ?_)
        · have hkl : k < d.es.length := by rw [len_es d hl]; omega
          have hlk : (d.es.take k).length = k := by simp; omega
          have hat := es_at (d := d) hl (by omega : k < d.sites.length)
          have hof := okFrom_at hkl hk2
          have hg : goodE (d.es.take k) (d.parents[k], d.sites[k]) = false := by rw [found_some] at h57; unfold goodE; rw [hlk, h57]; rfl
          exact absurd (hof.trans hv) (by rw [hat, hg]; simp)
        · have hkl : k < d.es.length := by rw [len_es d hl]; omega
          have hlk : (d.es.take k).length = k := by simp; omega
          have hat := es_at (d := d) hl (by omega : k < d.sites.length)
          have hof := okFrom_at hkl hk2
          have hg : goodE (d.es.take k) (d.parents[k], d.sites[k]) = true := by rw [found_some] at h57; unfold goodE; rw [hlk, h57]; rfl
          have hnext := hof
          rw [hat, hg, Bool.true_and] at hnext
          have hnone : found (tab (d.es.take k)) (d.parents[k], d.sites[k]) = none := by
            have := hg
            unfold goodE at this
            rw [← found_some] at this
            cases hf : found (tab (d.es.take k)) (d.parents[k], d.sites[k]) with
            | none => rfl
            | some w => rw [hf] at this; simp at this
          have htab : tab (d.es.take (k + 1)) = tab (d.es.take k) ++ [((d.parents[k], d.sites[k]), (k : Int))] := by rw [take_at hkl, tab_add, hlk, hat]
          refine tr_skip ?_
          refine pe_then_normal ?_
          refine tr_sub hC (.cons (t := 1) rfl (.cons (t := 3) rfl (.cons (t := 4) rfl (.cons (t := 6) rfl (.cons (t := 21) rfl (.cons (t := 22) rfl (.cons (t := 23) rfl .nil))))))) (.cons (t := 19) rfl (.cons (t := 1) rfl (.cons (t := 6) rfl .nil))) rfl ?_
          refine tr_region (fun N11 hN => ?_)
          refine lx (op_move rfl) rfl ?_
          first | refine lx (op_bload (m := 6) rfl rfl ag56 sz56) rfl ?_ | refine lx (op_bload_part (m := 6) rfl rfl ag56 sz56 rfl rfl) rfl ?_
          refine lx (op_move rfl) rfl ?_
          refine lxr (op_mapUpdate (m := 19) (a := (d.parents[k], d.sites[k])) (b := (k : Int)) (g := iv) keyE rfl rfl rfl rfl mp44 hnone) rfl ?_
          refine lx_end ⟨by kernel_rfl, ?_⟩
          refine pe_block_normal ?_
          refine pe_then_normal ?_
          refine tr_sub hC (.cons (t := 1) rfl (.cons (t := 3) rfl (.cons (t := 21) rfl (.cons (t := 22) rfl (.cons (t := 23) rfl .nil))))) (.cons (t := 19) rfl (.cons (t := 1) rfl .nil)) rfl ?_
          refine tr_region (fun N12 hN => ?_)
          refine lx (op_add rfl rfl (by omega)) rfl ?_
          refine lx (op_move rfl) rfl ?_
          refine lx_end ⟨by kernel_rfl, ?_⟩
          refine pe_round (⟨(k + 1), by omega, hnext⟩) (by dsimp only; omega) (pe_st hC ?_ ?_ rfl)
          · try dsimp only [List.cons_append, List.nil_append]
            first | refine SubF.cons rfl ?_ | (refine SubF.ent rfl ?_ ?_; · repeat (first | exact Ent.refl _ | exact Ents.nil | exact Ent.nil _ _ | exact Ent.row _ _ _ _ | exact Ent.func _ | refine Ents.cons ?_ ?_ | refine Ent.tup ?_ | refine Ent.agg ?_ | refine Ent.cells ?_ | exact Ent.of_eq rfl))
            first | refine SubF.cons rfl ?_ | (refine SubF.ent rfl ?_ ?_; · repeat (first | exact Ent.refl _ | exact Ents.nil | exact Ent.nil _ _ | exact Ent.row _ _ _ _ | exact Ent.func _ | refine Ents.cons ?_ ?_ | refine Ent.tup ?_ | refine Ent.agg ?_ | refine Ent.cells ?_ | exact Ent.of_eq rfl))
            first | refine SubF.cons rfl ?_ | (refine SubF.ent rfl ?_ ?_; · repeat (first | exact Ent.refl _ | exact Ents.nil | exact Ent.nil _ _ | exact Ent.row _ _ _ _ | exact Ent.func _ | refine Ents.cons ?_ ?_ | refine Ent.tup ?_ | refine Ent.agg ?_ | refine Ent.cells ?_ | exact Ent.of_eq rfl))
            first | refine SubF.cons rfl ?_ | (refine SubF.ent rfl ?_ ?_; · repeat (first | exact Ent.refl _ | exact Ents.nil | exact Ent.nil _ _ | exact Ent.row _ _ _ _ | exact Ent.func _ | refine Ents.cons ?_ ?_ | refine Ent.tup ?_ | refine Ent.agg ?_ | refine Ent.cells ?_ | exact Ent.of_eq rfl))
            first | refine SubF.cons rfl ?_ | (refine SubF.ent rfl ?_ ?_; · repeat (first | exact Ent.refl _ | exact Ents.nil | exact Ent.nil _ _ | exact Ent.row _ _ _ _ | exact Ent.func _ | refine Ents.cons ?_ ?_ | refine Ent.tup ?_ | refine Ent.agg ?_ | refine Ent.cells ?_ | exact Ent.of_eq rfl))
            exact SubF.nil
          · rw [htab]
            try dsimp only [List.cons_append, List.nil_append]
            repeat (first | exact SubL.nil | refine SubL.cons rfl ?_)
      · (try simp only [Bool.and_eq_true, Bool.or_eq_true, Bool.and_eq_false_iff, Bool.or_eq_false_iff, decide_eq_true_eq, decide_eq_false_iff_not, Bool.not_eq_true', Bool.not_eq_false', List.length_map, ne_eq, Decidable.not_not, Int.not_lt, Int.not_le] at h24)
        have hk3 : k = d.sites.length := by omega
        have hall : d.es.take k = d.es := List.take_of_length_le (by rw [len_es d hl]; omega)
        rw [hall]
        refine tr_exit ?_
        refine pe_then_exit ?_
        refine pe_then_exit ?_
        refine pe_block_eq ?_
        refine pe_then_normal ?_
        refine tr_sub hC (.cons (t := 3) rfl .nil) (.cons (t := 19) rfl .nil) rfl ?_
        refine tr_seq ?_
        refine tr_region (fun N13 hN => ?_)
        refine lx (op_move rfl) rfl ?_
        refine lx (op_assign rfl) rfl ?_
        refine lx_end ⟨by kernel_rfl, ?_⟩
        refine pe_then_normal ?_
        refine tr_sub hC (.cons (t := 2) rfl .nil) (.cons (t := 19) rfl .nil) rfl ?_
        refine tr_ret ?_
        refine pe_own (m := 19) rfl hO rfl rfl rfl ?_
        exact Ent.refl _

theorem table_n (d : Dep) (hv : validF d = false) (hx : d.sites.length ≤ 1000000) : FnP Try.prog 24 [aggP d.ps] (eqP (.map none)) := by
  refine fn_pure' Try.func24 rfl Try.ntmps24 rfl ?_
  intro σ0 M ex Rf R hC hO
  simp only [frameOf, tokOf]
  refine tr_seq ?_
  refine tr_region (fun N0 hN => ?_)
  refine lxn (op_box (m := 1) (k := 1) rfl (.agg rfl) (by first | exact hC.low _ (by decide) | rfl)) rfl ?_
  refine lx (op_assign rfl) rfl ?_
  refine lx_end ⟨by kernel_rfl, ?_⟩
  refine pe_then_normal ?_
  refine tr_sub hC (.cons (t := 1) rfl .nil) (.cons (t := 1) rfl .nil) rfl ?_
  refine tr_seq ?_
  refine tr_seq ?_
  refine tr_region (fun N1 hN => ?_)
  refine lx (op_fieldAddr rfl fl25_0 sz22) rfl ?_
  refine lx (op_bload_one (m := 1) rfl rfl ag22 rfl) rfl ?_
  first | refine lx (op_len rfl el22) rfl ?_ | refine lx (op_len_row rfl el22) rfl ?_ | refine lx (op_len_mv rfl el22) rfl ?_
  refine lx (op_fieldAddr rfl fl25_1 sz23) rfl ?_
  refine lx (op_bload_one (m := 1) rfl rfl ag23 rfl) rfl ?_
  first | refine lx (op_len rfl el23) rfl ?_ | refine lx (op_len_row rfl el23) rfl ?_ | refine lx (op_len_mv rfl el23) rfl ?_
  refine lx (op_neq rfl rfl) rfl ?_
  refine lx_end ⟨by kernel_rfl, ?_⟩
  refine pe_then_normal ?_
  refine tr_sub hC (.cons (t := 1) rfl (.cons (t := 15) rfl .nil)) (.cons (t := 1) rfl .nil) rfl ?_
  refine tr_cond rfl (fun h15 => ?_) (fun h15 => ?_)
  · (try simp only [Bool.and_eq_true, Bool.or_eq_true, Bool.and_eq_false_iff, Bool.or_eq_false_iff, decide_eq_true_eq, decide_eq_false_iff_not, Bool.not_eq_true', Bool.not_eq_false', List.length_map, ne_eq, Decidable.not_not, Int.not_lt, Int.not_le] at h15)
    refine tr_seq ?_
    refine tr_region (fun N2 hN => ?_)
    refine lx (op_assign rfl) rfl ?_
    refine lx_end ⟨by kernel_rfl, ?_⟩
    refine pe_then_normal ?_
    refine tr_sub hC (.cons (t := 2) rfl .nil) .nil rfl ?_
    refine tr_ret ?_
    refine pe_then_ret ?_
    refine pe_ret1 rfl hO rfl (.tmp rfl .nil) ?_
    repeat (first | exact Ent.refl _ | exact Ents.nil | exact Ent.nil _ _ | exact Ent.row _ _ _ _ | exact Ent.func _ | refine Ents.cons ?_ ?_ | refine Ent.tup ?_ | refine Ent.agg ?_ | refine Ent.cells ?_ | exact Ent.of_eq rfl)
  · (try simp only [Bool.and_eq_true, Bool.or_eq_true, Bool.and_eq_false_iff, Bool.or_eq_false_iff, decide_eq_true_eq, decide_eq_false_iff_not, Bool.not_eq_true', Bool.not_eq_false', List.length_map, ne_eq, Decidable.not_not, Int.not_lt, Int.not_le] at h15)
    have hl : d.sites.length = d.parents.length := by omega
    refine tr_skip ?_
    refine pe_then_normal ?_
    refine tr_sub hC (.cons (t := 1) rfl .nil) (.cons (t := 1) rfl .nil) rfl ?_
    refine tr_seq ?_
    refine tr_region (fun N3 hN => ?_)
    refine lx (op_fieldAddr rfl fl25_0 sz22) rfl ?_
    refine lx (op_bload_one (m := 1) rfl rfl ag22 rfl) rfl ?_
    first | refine lx (op_len rfl el22) rfl ?_ | refine lx (op_len_row rfl el22) rfl ?_ | refine lx (op_len_mv rfl el22) rfl ?_
    refine lxn (op_makeMap (m' := 19) (kk := 19) ev iv rfl mp44 (by first | exact hC.low _ (by decide) | rfl)) rfl ?_
    refine lx (op_assign rfl) rfl ?_
    refine lx_end ⟨by kernel_rfl, ?_⟩
    refine pe_then_normal ?_
    refine tr_sub hC (.cons (t := 1) rfl (.cons (t := 3) rfl .nil)) (.cons (t := 1) rfl (.cons (t := 19) rfl .nil)) rfl ?_
    refine tr_seq ?_
    refine tr_seq ?_
    refine tr_region (fun N4 hN => ?_)
    refine lx (op_fieldAddr rfl fl25_0 sz22) rfl ?_
    refine lx (op_bload_one (m := 1) rfl rfl ag22 rfl) rfl ?_
    first | refine lx (op_len rfl el22) rfl ?_ | refine lx (op_len_row rfl el22) rfl ?_ | refine lx (op_len_mv rfl el22) rfl ?_
    refine lx (op_move rfl) rfl ?_
    refine lx_end ⟨by kernel_rfl, ?_⟩
    refine pe_then_normal ?_
    refine tr_sub hC (.cons (t := 1) rfl (.cons (t := 3) rfl (.cons (t := 21) rfl (.cons (t := 22) rfl (.cons (t := 23) rfl .nil))))) (.cons (t := 1) rfl (.cons (t := 19) rfl .nil)) rfl ?_
    refine tr_block ?_
    refine tr_loopK (α := {zz : Nat // zz ≤ d.sites.length ∧ okFrom (d.es.take zz) (d.es.drop zz) = validE d.es}) (⟨(0), Nat.zero_le _, rfl⟩) (fun zz => [(23, eqP (.int .i64 (zz.1 : Int)))]) (fun zz => [(19, some ((N3, 19), mapR ev iv (tab (d.es.take zz.1))))]) (fun zz => d.sites.length - zz.1) hC (.cons (t := 1) rfl (.cons (t := 3) rfl (.cons (t := 21) rfl (.cons (t := 22) rfl .nil)))) (.cons (t := 1) rfl .nil) rfl ?_ ?_ (fun zz => ?_)
    · try dsimp only [List.cons_append, List.nil_append]
      first | refine SubF.cons rfl ?_ | (refine SubF.ent rfl ?_ ?_; · repeat (first | exact Ent.refl _ | exact Ents.nil | exact Ent.nil _ _ | exact Ent.row _ _ _ _ | exact Ent.func _ | refine Ents.cons ?_ ?_ | refine Ent.tup ?_ | refine Ent.agg ?_ | refine Ent.cells ?_ | exact Ent.of_eq rfl))
      exact SubF.nil
    · try dsimp only [List.cons_append, List.nil_append]
      repeat (first | exact SubL.nil | refine SubL.cons rfl ?_)
    · obtain ⟨k, hk1, hk2⟩ := zz
      dsimp only [List.cons_append, List.nil_append]
      refine tr_seq ?_
      refine tr_region (fun N5 hN => ?_)
      refine lx (op_lss rfl rfl) rfl ?_
      refine lx_end ⟨by kernel_rfl, ?_⟩
      refine pe_then_normal ?_
      refine tr_sub hC (.cons (t := 1) rfl (.cons (t := 3) rfl (.cons (t := 21) rfl (.cons (t := 22) rfl (.cons (t := 23) rfl (.cons (t := 24) rfl .nil)))))) (.cons (t := 19) rfl (.cons (t := 1) rfl .nil)) rfl ?_
      refine tr_seq ?_
      refine tr_cond rfl (fun h24 => ?_) (fun h24 => ?_)
      · (try simp only [Bool.and_eq_true, Bool.or_eq_true, Bool.and_eq_false_iff, Bool.or_eq_false_iff, decide_eq_true_eq, decide_eq_false_iff_not, Bool.not_eq_true', Bool.not_eq_false', List.length_map, ne_eq, Decidable.not_not, Int.not_lt, Int.not_le] at h24)
        refine tr_skip ?_
        refine pe_then_normal ?_
        refine tr_sub hC (.cons (t := 1) rfl (.cons (t := 3) rfl (.cons (t := 21) rfl (.cons (t := 22) rfl (.cons (t := 23) rfl .nil))))) (.cons (t := 19) rfl (.cons (t := 1) rfl .nil)) rfl ?_
        refine tr_seq ?_
        refine tr_block ?_
        refine tr_seq ?_
        refine tr_region (fun N6 hN => ?_)
        refine lx (op_move rfl) rfl ?_
        refine lx (op_index rfl rfl el22 sz29 rfl (List.getElem?_eq_getElem (by omega : k < d.sites.length))) rfl ?_
        first | refine lx (op_load_all rfl ag29 sz29) rfl ?_ | refine lx (op_load_agg rfl ag29 sz29 rfl) rfl ?_ | refine lx (op_bload (m := 19) rfl rfl ag29 sz29) rfl ?_ | refine lx (op_bload (m := 1) rfl rfl ag29 sz29) rfl ?_ | refine lx (op_bload_part (m := 19) rfl rfl ag29 sz29 rfl rfl) rfl ?_ | refine lx (op_bload_part (m := 1) rfl rfl ag29 sz29 rfl rfl) rfl ?_
        refine lxn (op_alloc (m := 5) (k := 5) (ps := [eqP (.int .i64 0), eqP (.int .i64 0)]) ze29 rfl rfl (by first | exact hC.low _ (by decide) | rfl)) rfl ?_
        refine lx (op_assign rfl) rfl ?_
        first | refine lxr (op_store_all (m := 5) rfl rfl rfl (.agg rfl) sz29 rfl) rfl ?_ | refine lxr (op_store (m := 5) rfl rfl rfl (.agg rfl) sz29 rfl rfl rfl) rfl ?_
        refine lx_end ⟨by kernel_rfl, ?_⟩
        refine pe_then_normal ?_
        refine tr_sub hC (.cons (t := 1) rfl (.cons (t := 3) rfl (.cons (t := 4) rfl (.cons (t := 5) rfl (.cons (t := 21) rfl (.cons (t := 22) rfl (.cons (t := 23) rfl .nil))))))) (.cons (t := 19) rfl (.cons (t := 1) rfl (.cons (t := 5) rfl .nil))) rfl ?_
        refine tr_seq ?_
        refine tr_drawn mixed (fun N7 hN => ?_)
        refine lx (op_fieldAddr rfl fl25_1 sz23) rfl ?_
        refine lx (op_bload_one (m := 1) rfl rfl ag23 rfl) rfl ?_
        refine lx (op_move rfl) rfl ?_
        refine lx (op_index rfl rfl el23 sz3 rfl (List.getElem?_eq_getElem (by omega : k < d.parents.length))) rfl ?_
        first | refine lx (op_load_one rfl ag3 rfl) rfl ?_ | refine lx (op_bload_one (m := 19) rfl rfl ag3 rfl) rfl ?_ | refine lx (op_bload_one (m := 1) rfl rfl ag3 rfl) rfl ?_ | refine lx (op_bload_one (m := 5) rfl rfl ag3 rfl) rfl ?_
        first | refine lx (op_bload (m := 5) rfl rfl ag29 sz29) rfl ?_ | refine lx (op_bload_part (m := 5) rfl rfl ag29 sz29 rfl rfl) rfl ?_
        refine lx (op_build (parts := [(0, (Go.Operand.tmp 32)), (1, (Go.Operand.tmp 33))]) ze56 rfl rfl fs56 (.cons rfl (.one (by (first | exact One.eq rfl | exact One.mv _ _ _ _ _ | exact One.cl _ _ _ | exact One.map _ | exact One.sl _ _ _ | exact One.row _ _ _ _ | exact One.msl _ _ _ _ | exact One.ptr _ _ | exact One.b _ | exact One.cells _))) fl56_0 sz3 rfl (.cons rfl (.agg rfl) fl56_1 sz29 rfl .nil)) rfl rfl) rfl ?_
        refine lxn (op_alloc (m := 6) (k := 6) (ps := [eqP (.int .i64 0), eqP (.int .i64 0), eqP (.int .i64 0)]) ze56 rfl rfl (by first | exact hC.low _ (by decide) | rfl)) rfl ?_
        first | refine lxr (op_store_all (m := 6) rfl rfl rfl (.agg rfl) sz56 rfl) rfl ?_ | refine lxr (op_store (m := 6) rfl rfl rfl (.agg rfl) sz56 rfl rfl rfl) rfl ?_
        refine lx_end ⟨by kernel_rfl, ?_⟩
        refine pe_then_normal ?_
        refine tr_sub hC (.cons (t := 1) rfl (.cons (t := 3) rfl (.cons (t := 4) rfl (.cons (t := 5) rfl (.cons (t := 6) rfl (.cons (t := 21) rfl (.cons (t := 22) rfl (.cons (t := 23) rfl .nil)))))))) (.cons (t := 19) rfl (.cons (t := 1) rfl (.cons (t := 5) rfl (.cons (t := 6) rfl .nil)))) rfl ?_
        refine tr_seq ?_
        refine tr_seq ?_
        refine tr_region (fun N8 hN => ?_)
        refine lx (op_move rfl) rfl ?_
        first | refine lx (op_bload (m := 6) rfl rfl ag56 sz56) rfl ?_ | refine lx (op_bload_part (m := 6) rfl rfl ag56 sz56 rfl rfl) rfl ?_
        refine lx (op_lookup (m := 19) (a := (d.parents[k], d.sites[k])) (g := iv) keyE rfl rfl rfl mp44 ze3) rfl ?_
        refine lx (op_move rfl) rfl ?_
        refine lx (op_extract rfl rfl) rfl ?_
        refine lx (op_extract rfl rfl) rfl ?_
        refine lx (op_assign rfl) rfl ?_
        refine lx (op_assign rfl) rfl ?_
        refine lx_end ⟨by kernel_rfl, ?_⟩
        refine pe_then_normal ?_
        refine tr_sub hC (.cons (t := 1) rfl (.cons (t := 3) rfl (.cons (t := 4) rfl (.cons (t := 5) rfl (.cons (t := 6) rfl (.cons (t := 8) rfl (.cons (t := 21) rfl (.cons (t := 22) rfl (.cons (t := 23) rfl .nil))))))))) (.cons (t := 19) rfl (.cons (t := 1) rfl (.cons (t := 5) rfl (.cons (t := 6) rfl .nil)))) rfl ?_
        refine tr_seq ?_
        refine tr_region (fun N9 hN => ?_)
        refine lx (op_move rfl) rfl ?_
        refine lx (op_move rfl) rfl ?_
        refine lxs rfl rfl rfl guard_eq (.cons (t := 6) rfl (fun _ => Ent.refl _) .nil) (op_fieldAddr rfl fl56_0 sz3) rfl ?_
        refine lxs rfl rfl rfl guard_eq (.cons (t := 43) rfl (fun h => entW h) .nil) (op_bload_one (m := 6) rfl rfl ag3 rfl) rfl ?_
        refine lxs rfl rfl rfl guard_eq (.cons (t := 44) rfl (fun h => entW h) .nil) (op_lss rfl rfl) rfl ?_
        refine lx (op_pick_or rfl rfl) rfl ?_
        refine lx (op_move rfl) rfl ?_
        refine lxs rfl rfl rfl guard_eq (.cons (t := 6) rfl (fun _ => Ent.refl _) .nil) (op_fieldAddr rfl fl56_0 sz3) rfl ?_
        refine lxs rfl rfl rfl guard_eq (.cons (t := 48) rfl (fun h => entW h) .nil) (op_bload_one (m := 6) rfl rfl ag3 rfl) rfl ?_
        refine lxs rfl rfl rfl guard_eq (.cons (t := 4) rfl (fun _ => Ent.refl _) .nil) (op_move rfl) rfl ?_
        refine lxs rfl rfl rfl guard_eq (.cons (t := 49) rfl (fun h => entW h) (.cons (t := 50) rfl (fun h => entW h) .nil)) (op_geq rfl rfl) rfl ?_
        refine lx (op_pick_or rfl rfl) rfl ?_
        refine lx (op_move rfl) rfl ?_
        first | refine lxs rfl rfl rfl guard_eq (.cons (t := 5) rfl (fun _ => Ent.refl _) .nil) (op_bload (m := 5) rfl rfl ag29 sz29) rfl ?_ | refine lxs rfl rfl rfl guard_eq (.cons (t := 5) rfl (fun _ => Ent.refl _) .nil) (op_bload_part (m := 5) rfl rfl ag29 sz29 rfl rfl) rfl ?_
        first | refine lxs rfl rfl rfl guard_eq (.cons (t := 54) rfl (fun h => entW h) .nil) (op_call (l := [(Go.Operand.tmp 54)]) (proper_ok _) (.cons rfl .nil) fn26) rfl ?_ | refine lxs rfl rfl rfl guard_eq (.cons (t := 54) rfl (fun h => entW h) .nil) (op_call (l := [(Go.Operand.tmp 54)]) (proper_ok _) (.ent rfl (by repeat (first | exact Ent.refl _ | exact Ents.nil | exact Ent.nil _ _ | exact Ent.row _ _ _ _ | exact Ent.func _ | refine Ents.cons ?_ ?_ | refine Ent.tup ?_ | refine Ent.agg ?_ | refine Ent.cells ?_ | exact Ent.of_eq rfl)) .nil) fn26) rfl ?_
        first | refine lxs rfl rfl rfl guard_eq (.cons (t := 55) rfl (fun h => entW h) .nil) (op_not rfl) rfl ?_ | refine lxs rfl rfl rfl guard_eq (.cons (t := 55) rfl (fun h => entW h) .nil) (op_not_b rfl) rfl ?_
        refine lx (op_pick_or rfl rfl) rfl ?_
        refine lx_end ⟨by kernel_rfl, ?_⟩
        refine pe_then_normal ?_
        refine tr_sub hC (.cons (t := 1) rfl (.cons (t := 3) rfl (.cons (t := 4) rfl (.cons (t := 6) rfl (.cons (t := 21) rfl (.cons (t := 22) rfl (.cons (t := 23) rfl (.cons (t := 57) rfl .nil)))))))) (.cons (t := 19) rfl (.cons (t := 1) rfl (.cons (t := 6) rfl .nil))) rfl ?_
        refine tr_cond rfl (fun h57 => ?_) (fun h57 => ?_)
        · (try simp only [Bool.and_eq_true, Bool.or_eq_true, Bool.and_eq_false_iff, Bool.or_eq_false_iff, decide_eq_true_eq, decide_eq_false_iff_not, Bool.not_eq_true', Bool.not_eq_false', List.length_map, ne_eq, Decidable.not_not, Int.not_lt, Int.not_le] at h57)
          refine tr_seq ?_
          refine tr_region (fun N10 hN => ?_)
          refine lx (op_assign rfl) rfl ?_
          refine lx_end ⟨by kernel_rfl, ?_⟩
          refine pe_then_normal ?_
          refine tr_sub hC (.cons (t := 2) rfl .nil) .nil rfl ?_
          refine tr_ret ?_
          refine pe_then_ret ?_
          refine pe_block_ret ?_
          refine pe_then_ret ?_
          refine pe_then_ret ?_
          refine pe_block_ret ?_
          refine pe_then_ret ?_
          refine pe_ret1 rfl hO rfl (.tmp rfl .nil) ?_
          repeat (first | exact Ent.refl _ | exact Ents.nil | exact Ent.nil _ _ | exact Ent.row _ _ _ _ | exact Ent.func _ | refine Ents.cons ?_ ?_ | refine Ent.tup ?_ | refine Ent.agg ?_ | refine Ent.cells ?_ | exact Ent.of_eq rfl)
        · have hkl : k < d.es.length := by rw [len_es d hl]; omega
          have hlk : (d.es.take k).length = k := by simp; omega
          have hat := es_at (d := d) hl (by omega : k < d.sites.length)
          have hof := okFrom_at hkl hk2
          have hg : goodE (d.es.take k) (d.parents[k], d.sites[k]) = true := by rw [found_some] at h57; unfold goodE; rw [hlk, h57]; rfl
          have hnext := hof
          rw [hat, hg, Bool.true_and] at hnext
          have hnone : found (tab (d.es.take k)) (d.parents[k], d.sites[k]) = none := by
            have := hg
            unfold goodE at this
            rw [← found_some] at this
            cases hf : found (tab (d.es.take k)) (d.parents[k], d.sites[k]) with
            | none => rfl
            | some w => rw [hf] at this; simp at this
          have htab : tab (d.es.take (k + 1)) = tab (d.es.take k) ++ [((d.parents[k], d.sites[k]), (k : Int))] := by rw [take_at hkl, tab_add, hlk, hat]
          refine tr_skip ?_
          refine pe_then_normal ?_
          refine tr_sub hC (.cons (t := 1) rfl (.cons (t := 3) rfl (.cons (t := 4) rfl (.cons (t := 6) rfl (.cons (t := 21) rfl (.cons (t := 22) rfl (.cons (t := 23) rfl .nil))))))) (.cons (t := 19) rfl (.cons (t := 1) rfl (.cons (t := 6) rfl .nil))) rfl ?_
          refine tr_region (fun N11 hN => ?_)
          refine lx (op_move rfl) rfl ?_
          first | refine lx (op_bload (m := 6) rfl rfl ag56 sz56) rfl ?_ | refine lx (op_bload_part (m := 6) rfl rfl ag56 sz56 rfl rfl) rfl ?_
          refine lx (op_move rfl) rfl ?_
          refine lxr (op_mapUpdate (m := 19) (a := (d.parents[k], d.sites[k])) (b := (k : Int)) (g := iv) keyE rfl rfl rfl rfl mp44 hnone) rfl ?_
          refine lx_end ⟨by kernel_rfl, ?_⟩
          refine pe_block_normal ?_
          refine pe_then_normal ?_
          refine tr_sub hC (.cons (t := 1) rfl (.cons (t := 3) rfl (.cons (t := 21) rfl (.cons (t := 22) rfl (.cons (t := 23) rfl .nil))))) (.cons (t := 19) rfl (.cons (t := 1) rfl .nil)) rfl ?_
          refine tr_region (fun N12 hN => ?_)
          refine lx (op_add rfl rfl (by omega)) rfl ?_
          refine lx (op_move rfl) rfl ?_
          refine lx_end ⟨by kernel_rfl, ?_⟩
          refine pe_round (⟨(k + 1), by omega, hnext⟩) (by dsimp only; omega) (pe_st hC ?_ ?_ rfl)
          · try dsimp only [List.cons_append, List.nil_append]
            first | refine SubF.cons rfl ?_ | (refine SubF.ent rfl ?_ ?_; · repeat (first | exact Ent.refl _ | exact Ents.nil | exact Ent.nil _ _ | exact Ent.row _ _ _ _ | exact Ent.func _ | refine Ents.cons ?_ ?_ | refine Ent.tup ?_ | refine Ent.agg ?_ | refine Ent.cells ?_ | exact Ent.of_eq rfl))
            first | refine SubF.cons rfl ?_ | (refine SubF.ent rfl ?_ ?_; · repeat (first | exact Ent.refl _ | exact Ents.nil | exact Ent.nil _ _ | exact Ent.row _ _ _ _ | exact Ent.func _ | refine Ents.cons ?_ ?_ | refine Ent.tup ?_ | refine Ent.agg ?_ | refine Ent.cells ?_ | exact Ent.of_eq rfl))
            first | refine SubF.cons rfl ?_ | (refine SubF.ent rfl ?_ ?_; · repeat (first | exact Ent.refl _ | exact Ents.nil | exact Ent.nil _ _ | exact Ent.row _ _ _ _ | exact Ent.func _ | refine Ents.cons ?_ ?_ | refine Ent.tup ?_ | refine Ent.agg ?_ | refine Ent.cells ?_ | exact Ent.of_eq rfl))
            first | refine SubF.cons rfl ?_ | (refine SubF.ent rfl ?_ ?_; · repeat (first | exact Ent.refl _ | exact Ents.nil | exact Ent.nil _ _ | exact Ent.row _ _ _ _ | exact Ent.func _ | refine Ents.cons ?_ ?_ | refine Ent.tup ?_ | refine Ent.agg ?_ | refine Ent.cells ?_ | exact Ent.of_eq rfl))
            first | refine SubF.cons rfl ?_ | (refine SubF.ent rfl ?_ ?_; · repeat (first | exact Ent.refl _ | exact Ents.nil | exact Ent.nil _ _ | exact Ent.row _ _ _ _ | exact Ent.func _ | refine Ents.cons ?_ ?_ | refine Ent.tup ?_ | refine Ent.agg ?_ | refine Ent.cells ?_ | exact Ent.of_eq rfl))
            exact SubF.nil
          · rw [htab]
            try dsimp only [List.cons_append, List.nil_append]
            repeat (first | exact SubL.nil | refine SubL.cons rfl ?_)
      · (try simp only [Bool.and_eq_true, Bool.or_eq_true, Bool.and_eq_false_iff, Bool.or_eq_false_iff, decide_eq_true_eq, decide_eq_false_iff_not, Bool.not_eq_true', Bool.not_eq_false', List.length_map, ne_eq, Decidable.not_not, Int.not_lt, Int.not_le] at h24)
        have hk3 : k = d.sites.length := by omega
        have hok := okFrom_end (by rw [len_es d hl]; omega) hk2
        exact absurd hv (by simp [validF, hl, hok])

theorem valid_v (d : Dep) (hl : d.sites.length = d.parents.length) (hv : validE d.es = true) (hx : d.sites.length ≤ 1000000) : FnP Try.prog 12 [aggP d.ps] (eqP (.bool true)) := by
  refine fn_pure' Try.func12 rfl Try.ntmps12 rfl ?_
  intro σ0 M ex Rf R hC hO
  simp only [frameOf, tokOf]
  refine tr_seq ?_
  refine tr_region (fun N0 hN => ?_)
  refine lxn (op_box (m := 1) (k := 1) rfl (.agg rfl) (by first | exact hC.low _ (by decide) | rfl)) rfl ?_
  refine lx (op_assign rfl) rfl ?_
  refine lx_end ⟨by kernel_rfl, ?_⟩
  refine pe_then_normal ?_
  refine tr_sub hC (.cons (t := 1) rfl .nil) (.cons (t := 1) rfl .nil) rfl ?_
  refine tr_seq ?_
  refine tr_region (fun N1 hN => ?_)
  first | refine lx (op_bload (m := 1) rfl rfl ag25 sz25) rfl ?_ | refine lx (op_bload_part (m := 1) rfl rfl ag25 sz25 rfl rfl) rfl ?_
  first | refine lxn (op_callG (del := []) (add := [(4, ((N1, 4), mapR ev iv (tab d.es)))]) (ks := [4]) (table_v d hl hv hx) (.cons rfl .nil) fn24 rfl rfl rfl (by intro x hx; cases hx) (fun x hx => .inl (by cases hx with | head => exact hC.low 4 (by decide) | tail _ h => cases h))) rfl ?_ | refine lxn (op_callG (del := []) (add := [(4, ((N1, 4), mapR ev iv (tab d.es)))]) (ks := [4]) (table_v d hl hv hx) (.ent rfl (by repeat (first | exact Ent.refl _ | exact Ents.nil | exact Ent.nil _ _ | exact Ent.row _ _ _ _ | exact Ent.func _ | refine Ents.cons ?_ ?_ | refine Ent.tup ?_ | refine Ent.agg ?_ | refine Ent.cells ?_ | exact Ent.of_eq rfl)) .nil) fn24 rfl rfl rfl (by intro x hx; cases hx) (fun x hx => .inl (by cases hx with | head => exact hC.low 4 (by decide) | tail _ h => cases h))) rfl ?_
  first | refine lx (op_neqmap_own rfl mp44) rfl ?_ | refine lx (op_neqmap_nil rfl mp44) rfl ?_
  refine lx (op_assign rfl) rfl ?_
  refine lx_end ⟨by kernel_rfl, ?_⟩
  refine pe_then_normal ?_
  refine tr_sub hC (.cons (t := 2) rfl .nil) .nil rfl ?_
  refine tr_ret ?_
  refine pe_ret1 rfl hO rfl (.tmp rfl .nil) ?_
  repeat (first | exact Ent.refl _ | exact Ents.nil | exact Ent.nil _ _ | exact Ent.row _ _ _ _ | exact Ent.func _ | refine Ents.cons ?_ ?_ | refine Ent.tup ?_ | refine Ent.agg ?_ | refine Ent.cells ?_ | exact Ent.of_eq rfl)

theorem valid_n (d : Dep) (hv : validF d = false) (hx : d.sites.length ≤ 1000000) : FnP Try.prog 12 [aggP d.ps] (eqP (.bool false)) := by
  refine fn_pure' Try.func12 rfl Try.ntmps12 rfl ?_
  intro σ0 M ex Rf R hC hO
  simp only [frameOf, tokOf]
  refine tr_seq ?_
  refine tr_region (fun N0 hN => ?_)
  refine lxn (op_box (m := 1) (k := 1) rfl (.agg rfl) (by first | exact hC.low _ (by decide) | rfl)) rfl ?_
  refine lx (op_assign rfl) rfl ?_
  refine lx_end ⟨by kernel_rfl, ?_⟩
  refine pe_then_normal ?_
  refine tr_sub hC (.cons (t := 1) rfl .nil) (.cons (t := 1) rfl .nil) rfl ?_
  refine tr_seq ?_
  refine tr_region (fun N1 hN => ?_)
  first | refine lx (op_bload (m := 1) rfl rfl ag25 sz25) rfl ?_ | refine lx (op_bload_part (m := 1) rfl rfl ag25 sz25 rfl rfl) rfl ?_
  first | refine lx (op_call (l := [(Go.Operand.tmp 3)]) (table_n d hv hx) (.cons rfl .nil) fn24) rfl ?_ | refine lx (op_call (l := [(Go.Operand.tmp 3)]) (table_n d hv hx) (.ent rfl (by repeat (first | exact Ent.refl _ | exact Ents.nil | exact Ent.nil _ _ | exact Ent.row _ _ _ _ | exact Ent.func _ | refine Ents.cons ?_ ?_ | refine Ent.tup ?_ | refine Ent.agg ?_ | refine Ent.cells ?_ | exact Ent.of_eq rfl)) .nil) fn24) rfl ?_
  first | refine lx (op_neqmap_own rfl mp44) rfl ?_ | refine lx (op_neqmap_nil rfl mp44) rfl ?_
  refine lx (op_assign rfl) rfl ?_
  refine lx_end ⟨by kernel_rfl, ?_⟩
  refine pe_then_normal ?_
  refine tr_sub hC (.cons (t := 2) rfl .nil) .nil rfl ?_
  refine tr_ret ?_
  refine pe_ret1 rfl hO rfl (.tmp rfl .nil) ?_
  repeat (first | exact Ent.refl _ | exact Ents.nil | exact Ent.nil _ _ | exact Ent.row _ _ _ _ | exact Ent.func _ | refine Ents.cons ?_ ?_ | refine Ent.tup ?_ | refine Ent.agg ?_ | refine Ent.cells ?_ | exact Ent.of_eq rfl)

theorem validF_iff (d : Dep) : validF d = true ↔ d.sites.length = d.parents.length ∧ validE d.es = true := by simp [validF]
theorem valid_ok (d : Dep) (hx : d.sites.length ≤ 1000000) : FnP Try.prog 12 [aggP d.ps] (eqP (.bool (validF d))) := by
  cases hv : validF d with
  | false => exact valid_n d hv hx
  | true => exact valid_v d ((validF_iff d).1 hv).1 ((validF_iff d).1 hv).2 hx
theorem build_n (d : Dep) (hv : validF d = false) (hx : d.sites.length ≤ 1000000) (hy : d.parents.length ≤ 1000000) : FnP Try.prog 25 [aggP d.ps] (tupP [anyP, eqP (.bool false)]) := by
  refine fn_pure' Try.func25 rfl Try.ntmps25 rfl ?_
  intro σ0 M ex Rf R hC hO
  simp only [frameOf, tokOf]
  refine tr_seq ?_
  refine tr_region (fun N0 hN => ?_)
  refine lxn (op_box (m := 1) (k := 1) rfl (.agg rfl) (by first | exact hC.low _ (by decide) | rfl)) rfl ?_
  refine lx (op_assign rfl) rfl ?_
  refine lx (op_assign rfl) rfl ?_
  refine lx_end ⟨by kernel_rfl, ?_⟩
  refine pe_then_normal ?_
  refine tr_sub hC (.cons (t := 1) rfl .nil) (.cons (t := 1) rfl .nil) rfl ?_
  refine tr_seq ?_
  refine tr_region (fun N1 hN => ?_)
  first | refine lx (op_bload (m := 1) rfl rfl ag25 sz25) rfl ?_ | refine lx (op_bload_part (m := 1) rfl rfl ag25 sz25 rfl rfl) rfl ?_
  first | refine lx (op_call (l := [(Go.Operand.tmp 5)]) (table_n d hv hx) (.cons rfl .nil) fn24) rfl ?_ | refine lx (op_call (l := [(Go.Operand.tmp 5)]) (table_n d hv hx) (.ent rfl (by repeat (first | exact Ent.refl _ | exact Ents.nil | exact Ent.nil _ _ | exact Ent.row _ _ _ _ | exact Ent.func _ | refine Ents.cons ?_ ?_ | refine Ent.tup ?_ | refine Ent.agg ?_ | refine Ent.cells ?_ | exact Ent.of_eq rfl)) .nil) fn24) rfl ?_
  refine lx (op_assign rfl) rfl ?_
  refine lx_end ⟨by kernel_rfl, ?_⟩
  refine pe_then_normal ?_
  refine tr_sub hC (.cons (t := 1) rfl (.cons (t := 4) rfl .nil)) (.cons (t := 1) rfl .nil) rfl ?_
  refine tr_seq ?_
  refine tr_drawn mixed (fun N2 hN => ?_)
  refine lx (op_fieldAddr rfl fl25_0 sz22) rfl ?_
  refine lx (op_bload_one (m := 1) rfl rfl ag22 rfl) rfl ?_
  first | refine lxn (op_callG (del := []) (add := [(9, ((N2, 9), tail 29 2 (d.sites.length * 2)))]) (ks := [9]) (sclone_ok d.sites hx) (.cons rfl .nil) fn32 rfl rfl rfl (by intro x hx; cases hx) (fun x hx => .inl (by cases hx with | head => exact hC.low 9 (by decide) | tail _ h => cases h))) rfl ?_ | refine lxn (op_callG (del := []) (add := [(9, ((N2, 9), tail 29 2 (d.sites.length * 2)))]) (ks := [9]) (sclone_ok d.sites hx) (.ent rfl (by repeat (first | exact Ent.refl _ | exact Ents.nil | exact Ent.nil _ _ | exact Ent.row _ _ _ _ | exact Ent.func _ | refine Ents.cons ?_ ?_ | refine Ent.tup ?_ | refine Ent.agg ?_ | refine Ent.cells ?_ | exact Ent.of_eq rfl)) .nil) fn32 rfl rfl rfl (by intro x hx; cases hx) (fun x hx => .inl (by cases hx with | head => exact hC.low 9 (by decide) | tail _ h => cases h))) rfl ?_
  refine lx (op_fieldAddr rfl fl25_1 sz23) rfl ?_
  refine lx (op_bload_one (m := 1) rfl rfl ag23 rfl) rfl ?_
  first | refine lxn (op_callG (del := []) (add := [(12, ((N2, 12), tail 3 1 (d.parents.length * 1)))]) (ks := [12]) (iclone_ok d.parents hy) (.cons rfl .nil) fn33 rfl rfl rfl (by intro x hx; cases hx) (fun x hx => .inl (by cases hx with | head => exact hC.low 12 (by decide) | tail _ h => cases h))) rfl ?_ | refine lxn (op_callG (del := []) (add := [(12, ((N2, 12), tail 3 1 (d.parents.length * 1)))]) (ks := [12]) (iclone_ok d.parents hy) (.ent rfl (by repeat (first | exact Ent.refl _ | exact Ents.nil | exact Ent.nil _ _ | exact Ent.row _ _ _ _ | exact Ent.func _ | refine Ents.cons ?_ ?_ | refine Ent.tup ?_ | refine Ent.agg ?_ | refine Ent.cells ?_ | exact Ent.of_eq rfl)) .nil) fn33 rfl rfl rfl (by intro x hx; cases hx) (fun x hx => .inl (by cases hx with | head => exact hC.low 12 (by decide) | tail _ h => cases h))) rfl ?_
  refine lx (op_build (parts := [(0, (Go.Operand.tmp 9)), (1, (Go.Operand.tmp 12))]) ze25 rfl rfl fs25 (.cons rfl (.one (by (first | exact One.eq rfl | exact One.mv _ _ _ _ _ | exact One.cl _ _ _ | exact One.map _ | exact One.sl _ _ _ | exact One.row _ _ _ _ | exact One.msl _ _ _ _ | exact One.ptr _ _ | exact One.b _ | exact One.cells _))) fl25_0 sz22 rfl (.cons rfl (.one (by (first | exact One.eq rfl | exact One.mv _ _ _ _ _ | exact One.cl _ _ _ | exact One.map _ | exact One.sl _ _ _ | exact One.row _ _ _ _ | exact One.msl _ _ _ _ | exact One.ptr _ _ | exact One.b _ | exact One.cells _))) fl25_1 sz23 rfl .nil)) rfl rfl) rfl ?_
  refine lx (op_move rfl) rfl ?_
  refine lx (op_build (parts := [(0, (Go.Operand.tmp 13)), (1, (Go.Operand.tmp 14))]) ze52 rfl rfl fs52 (.cons rfl (.agg rfl) fl52_0 sz25 rfl (.cons rfl (.one (by (first | exact One.eq rfl | exact One.mv _ _ _ _ _ | exact One.cl _ _ _ | exact One.map _ | exact One.sl _ _ _ | exact One.row _ _ _ _ | exact One.msl _ _ _ _ | exact One.ptr _ _ | exact One.b _ | exact One.cells _))) fl52_1 sz44 rfl .nil)) rfl rfl) rfl ?_
  refine lxn (op_box (m := 16) (k := 16) rfl (.agg rfl) (by first | exact hC.low _ (by decide) | rfl)) rfl ?_
  refine lx (op_move rfl) rfl ?_
  first | refine lx (op_neqmap_own rfl mp44) rfl ?_ | refine lx (op_neqmap_nil rfl mp44) rfl ?_
  refine lx (op_assign rfl) rfl ?_
  refine lx (op_assign rfl) rfl ?_
  refine lx_end ⟨by kernel_rfl, ?_⟩
  refine pe_then_normal ?_
  refine tr_sub hC (.cons (t := 2) rfl (.cons (t := 3) rfl .nil)) (.cons (t := 16) rfl .nil) rfl ?_
  refine tr_ret ?_
  refine pe_retN (rs := [.tmp 2, .tmp 3]) rfl rfl hO rfl (.tmp rfl (.tmp rfl .nil)) ?_
  exact Ent.tup (.cons (Ent.any _) (.cons (Ent.refl _) .nil))

theorem build_v (l : List E) (hv : validE l = true) (hx : l.length ≤ 1000000) : FnOK Try.prog 25 [aggP (ofE l).ps] [] 4 (fun ι => tupP [ptrP (ι 0) 0, eqP (.bool true)]) (fun ι => [(ι 0, blk 52 [rowP (ι 1) sp 2 ((l).map (·.2)), rowP (ι 2) ip 1 ((l).map (·.1)), mapP (ι 3)]), (ι 1, tail 29 2 (((l).map (·.2)).length * 2)), (ι 2, tail 3 1 (((l).map (·.1)).length * 1)), (ι 3, mapR ev iv (tab (l)))]) := by
  refine fn_ownN Try.func25 rfl Try.ntmps25 rfl ?_
  intro σ0 M Rf R hC hO
  simp only [frameOf, tokOf]
  refine tr_seq ?_
  refine tr_region (fun N0 hN => ?_)
  refine lxn (op_box (m := 1) (k := 1) rfl (.agg rfl) (by first | exact hC.low _ (by decide) | rfl)) rfl ?_
  refine lx (op_assign rfl) rfl ?_
  refine lx (op_assign rfl) rfl ?_
  refine lx_end ⟨by kernel_rfl, ?_⟩
  refine pe_then_normal ?_
  refine tr_sub hC (.cons (t := 1) rfl .nil) (.cons (t := 1) rfl .nil) rfl ?_
  refine tr_seq ?_
  refine tr_region (fun N1 hN => ?_)
  first | refine lx (op_bload (m := 1) rfl rfl ag25 sz25) rfl ?_ | refine lx (op_bload_part (m := 1) rfl rfl ag25 sz25 rfl rfl) rfl ?_
  first | refine lxn (op_callG (del := []) (add := [(6, ((N1, 6), mapR ev iv (tab (ofE l).es)))]) (ks := [6]) (table_v (ofE l) (by simp [ofE]) (by rw [es_ofE]; exact hv) (by simpa [ofE] using hx)) (.cons rfl .nil) fn24 rfl rfl rfl (by intro x hx; cases hx) (fun x hx => .inl (by cases hx with | head => exact hC.low 6 (by decide) | tail _ h => cases h))) rfl ?_ | refine lxn (op_callG (del := []) (add := [(6, ((N1, 6), mapR ev iv (tab (ofE l).es)))]) (ks := [6]) (table_v (ofE l) (by simp [ofE]) (by rw [es_ofE]; exact hv) (by simpa [ofE] using hx)) (.ent rfl (by repeat (first | exact Ent.refl _ | exact Ents.nil | exact Ent.nil _ _ | exact Ent.row _ _ _ _ | exact Ent.func _ | refine Ents.cons ?_ ?_ | refine Ent.tup ?_ | refine Ent.agg ?_ | refine Ent.cells ?_ | exact Ent.of_eq rfl)) .nil) fn24 rfl rfl rfl (by intro x hx; cases hx) (fun x hx => .inl (by cases hx with | head => exact hC.low 6 (by decide) | tail _ h => cases h))) rfl ?_
  refine lx (op_assign rfl) rfl ?_
  refine lx_end ⟨by kernel_rfl, ?_⟩
  refine pe_then_normal ?_
  refine tr_sub hC (.cons (t := 1) rfl (.cons (t := 4) rfl .nil)) (.cons (t := 1) rfl (.cons (t := 6) rfl .nil)) rfl ?_
  refine tr_seq ?_
  refine tr_drawn mixed (fun N2 hN => ?_)
  refine lx (op_fieldAddr rfl fl25_0 sz22) rfl ?_
  refine lx (op_bload_one (m := 1) rfl rfl ag22 rfl) rfl ?_
  first | refine lxn (op_callG (del := []) (add := [(9, ((N2, 9), tail 29 2 ((l.map (·.2)).length * 2)))]) (ks := [9]) (sclone_ok (l.map (·.2)) (by simpa using hx)) (.cons rfl .nil) fn32 rfl rfl rfl (by intro x hx; cases hx) (fun x hx => .inl (by cases hx with | head => exact hC.low 9 (by decide) | tail _ h => cases h))) rfl ?_ | refine lxn (op_callG (del := []) (add := [(9, ((N2, 9), tail 29 2 ((l.map (·.2)).length * 2)))]) (ks := [9]) (sclone_ok (l.map (·.2)) (by simpa using hx)) (.ent rfl (by repeat (first | exact Ent.refl _ | exact Ents.nil | exact Ent.nil _ _ | exact Ent.row _ _ _ _ | exact Ent.func _ | refine Ents.cons ?_ ?_ | refine Ent.tup ?_ | refine Ent.agg ?_ | refine Ent.cells ?_ | exact Ent.of_eq rfl)) .nil) fn32 rfl rfl rfl (by intro x hx; cases hx) (fun x hx => .inl (by cases hx with | head => exact hC.low 9 (by decide) | tail _ h => cases h))) rfl ?_
  refine lx (op_fieldAddr rfl fl25_1 sz23) rfl ?_
  refine lx (op_bload_one (m := 1) rfl rfl ag23 rfl) rfl ?_
  first | refine lxn (op_callG (del := []) (add := [(12, ((N2, 12), tail 3 1 ((l.map (·.1)).length * 1)))]) (ks := [12]) (iclone_ok (l.map (·.1)) (by simpa using hx)) (.cons rfl .nil) fn33 rfl rfl rfl (by intro x hx; cases hx) (fun x hx => .inl (by cases hx with | head => exact hC.low 12 (by decide) | tail _ h => cases h))) rfl ?_ | refine lxn (op_callG (del := []) (add := [(12, ((N2, 12), tail 3 1 ((l.map (·.1)).length * 1)))]) (ks := [12]) (iclone_ok (l.map (·.1)) (by simpa using hx)) (.ent rfl (by repeat (first | exact Ent.refl _ | exact Ents.nil | exact Ent.nil _ _ | exact Ent.row _ _ _ _ | exact Ent.func _ | refine Ents.cons ?_ ?_ | refine Ent.tup ?_ | refine Ent.agg ?_ | refine Ent.cells ?_ | exact Ent.of_eq rfl)) .nil) fn33 rfl rfl rfl (by intro x hx; cases hx) (fun x hx => .inl (by cases hx with | head => exact hC.low 12 (by decide) | tail _ h => cases h))) rfl ?_
  refine lx (op_build (parts := [(0, (Go.Operand.tmp 9)), (1, (Go.Operand.tmp 12))]) ze25 rfl rfl fs25 (.cons rfl (.one (by (first | exact One.eq rfl | exact One.mv _ _ _ _ _ | exact One.cl _ _ _ | exact One.map _ | exact One.sl _ _ _ | exact One.row _ _ _ _ | exact One.msl _ _ _ _ | exact One.ptr _ _ | exact One.b _ | exact One.cells _))) fl25_0 sz22 rfl (.cons rfl (.one (by (first | exact One.eq rfl | exact One.mv _ _ _ _ _ | exact One.cl _ _ _ | exact One.map _ | exact One.sl _ _ _ | exact One.row _ _ _ _ | exact One.msl _ _ _ _ | exact One.ptr _ _ | exact One.b _ | exact One.cells _))) fl25_1 sz23 rfl .nil)) rfl rfl) rfl ?_
  refine lx (op_move rfl) rfl ?_
  refine lx (op_build (parts := [(0, (Go.Operand.tmp 13)), (1, (Go.Operand.tmp 14))]) ze52 rfl rfl fs52 (.cons rfl (.agg rfl) fl52_0 sz25 rfl (.cons rfl (.one (by (first | exact One.eq rfl | exact One.mv _ _ _ _ _ | exact One.cl _ _ _ | exact One.map _ | exact One.sl _ _ _ | exact One.row _ _ _ _ | exact One.msl _ _ _ _ | exact One.ptr _ _ | exact One.b _ | exact One.cells _))) fl52_1 sz44 rfl .nil)) rfl rfl) rfl ?_
  refine lxn (op_box (m := 16) (k := 16) rfl (.agg rfl) (by first | exact hC.low _ (by decide) | rfl)) rfl ?_
  refine lx (op_move rfl) rfl ?_
  first | refine lx (op_neqmap_own rfl mp44) rfl ?_ | refine lx (op_neqmap_nil rfl mp44) rfl ?_
  refine lx (op_assign rfl) rfl ?_
  refine lx (op_assign rfl) rfl ?_
  refine lx_end ⟨by kernel_rfl, ?_⟩
  refine pe_then_normal ?_
  refine tr_sub hC (.cons (t := 2) rfl (.cons (t := 3) rfl .nil)) (.cons (t := 6) rfl (.cons (t := 9) rfl (.cons (t := 12) rfl (.cons (t := 16) rfl .nil)))) rfl ?_
  refine tr_ret ?_
  refine pe_ownT' (rs := [.tmp 2, .tmp 3]) [16, 9, 12, 6] rfl rfl hO rfl (.tmp rfl (.tmp rfl .nil)) (.cons (m := 16) rfl (RenR.blk _ _ _) (.cons (m := 9) rfl (RenR.tail _ _ _) (.cons (m := 12) rfl (RenR.tail _ _ _) (.cons (m := 6) rfl (RenR.map _ _ _) .nil)))) rfl rfl rfl ?_
  intro τ ι hs
  refine ⟨?_, ?_⟩
  · exact tupP_at (.cons (ptr_ren (hs 0 _ rfl).1) (.cons (ent_at (Ent.refl _)) .nil))
  · exact (.moved rfl (blk_ents (.cons (row_ren (hs 1 _ rfl).1 (hs 1 _ rfl).2) (.cons (row_ren (hs 2 _ rfl).1 (hs 2 _ rfl).2) (.cons (map_ren (hs 3 _ rfl).1) .nil)))) (.moved rfl (fun b o h => h) (.moved rfl (fun b o h => h) (.moved rfl (by rw [es_ofE]; exact fun b o h => h) .nil))))

end Go.Proofs.Ytoibihhocjbilaa
