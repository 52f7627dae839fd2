/- Parts of a proof that share one text: HpWalk11, HpWalk12, HpWalk13, HpWalk14, HpWalk15, HpWalk16, HpWalk17, HpWalk18. -/
import Derived.Test.YtibcbiamdjmckaaTe
import Derived.Test.YtibcbiamdjmckaaTb
set_option linter.unusedVariables false
set_option linter.unusedSimpArgs false

set_option linter.unusedVariables false
set_option linter.unusedSimpArgs false
namespace Go.Proofs.Ytibcbiamdjmckaa
open Go.AL Go.Ch Go.Hp Go.RowKit
theorem rPut_ok (m : Mc) (o : Ob) (hb : Bd 2000000 m) (ho : BdO 2000000 o) : FnP Try.prog 29 [aggP m.ps, aggP o.ps] (aggP (Mc.ps { m with objects := rputF o false m.objects })) := by
  have hbo := hb.objects
  have hbm : Bd 4000000 m := hb.mono (by decide)
  have hoo : BdO 4000000 o := ho.mono (by decide)
  refine fn_pure' Try.func29 rfl Try.ntmps29 rfl ?_
  intro σ0 M ex Rf R hC hO
  simp only [frameOf, tokOf]
  refine tr_seq ?_
  refine tr_region (fun N0 hN => ?_)
  refine lxn (op_box (m := 2) (k := 2) rfl (.agg rfl) (by first | exact hC.low _ (by decide) | rfl)) rfl ?_
  refine lxn (op_box (m := 3) (k := 3) rfl (.agg rfl) (by first | exact hC.low _ (by decide) | rfl)) rfl ?_
  refine lxn (op_alloc (m := 4) (k := 4) (ps := [eqP (.slice none 0 0), eqP (.slice none 0 0), eqP (.slice none 0 0), eqP (.slice none 0 0)]) ze29 rfl rfl (by first | exact hC.low _ (by decide) | rfl)) rfl ?_
  refine lx_end ⟨by kernel_rfl, ?_⟩
  refine pe_then_normal ?_
  refine tr_sub hC (.cons (t := 2) rfl (.cons (t := 3) rfl (.cons (t := 4) rfl .nil))) (.cons (t := 2) rfl (.cons (t := 3) rfl (.cons (t := 4) rfl .nil))) rfl ?_
  refine tr_seq ?_
  refine tr_region (fun N1 hN => ?_)
  refine lx (op_bload (m := 2) rfl rfl ag29 sz29) rfl ?_
  first | refine lx (op_call (l := [(Go.Operand.tmp 9)]) (copyM_ok m hbm) (.cons rfl .nil) fn15) rfl ?_ | refine lx (op_call (l := [(Go.Operand.tmp 9)]) (copyM_ok m hbm) (.ent rfl (by repeat (first | exact Ents.nil | refine Ents.cons ?_ ?_ | refine Ent.tup ?_ | refine Ent.agg ?_ | exact Ent.row _ _ _ _ | exact Ent.nil _ _ | exact Ent.func _ | exact Ent.refl _ | exact Ent.of_eq rfl | refine Ent.cells ?_)) .nil) fn15) rfl ?_
  refine lxn (op_alloc (m := 5) (k := 5) (ps := [eqP (.slice none 0 0), eqP (.slice none 0 0), eqP (.slice none 0 0), eqP (.slice none 0 0)]) ze29 rfl rfl (by first | exact hC.low _ (by decide) | rfl)) rfl ?_
  refine lxr (op_store_all (m := 5) rfl rfl rfl (.agg rfl) sz29 rfl) rfl ?_
  refine lx_end ⟨by kernel_rfl, ?_⟩
  refine pe_then_normal ?_
  refine tr_sub hC (.cons (t := 3) rfl (.cons (t := 4) rfl (.cons (t := 5) rfl .nil))) (.cons (t := 3) rfl (.cons (t := 4) rfl (.cons (t := 5) rfl .nil))) rfl ?_
  refine tr_seq ?_
  refine tr_region (fun N2 hN => ?_)
  refine lx (op_assign rfl) rfl ?_
  refine lx_end ⟨by kernel_rfl, ?_⟩
  refine pe_then_normal ?_
  refine tr_sub hC (.cons (t := 3) rfl (.cons (t := 4) rfl (.cons (t := 5) rfl (.cons (t := 6) rfl .nil)))) (.cons (t := 3) rfl (.cons (t := 4) rfl (.cons (t := 5) rfl .nil))) rfl ?_
  refine tr_seq ?_
  refine tr_region (fun N3 hN => ?_)
  refine lx (op_assign rfl) rfl ?_
  refine lx_end ⟨by kernel_rfl, ?_⟩
  refine pe_then_normal ?_
  refine tr_sub hC (.cons (t := 3) rfl (.cons (t := 4) rfl (.cons (t := 5) rfl (.cons (t := 6) rfl (.cons (t := 7) rfl .nil))))) (.cons (t := 3) rfl (.cons (t := 4) rfl (.cons (t := 5) rfl .nil))) rfl ?_
  refine tr_seq ?_
  refine tr_seq ?_
  refine tr_region (fun N4 hN => ?_)
  refine lx (op_assign rfl) rfl ?_
  refine lx_end ⟨by kernel_rfl, ?_⟩
  refine pe_then_normal ?_
  refine tr_sub hC (.cons (t := 3) rfl (.cons (t := 4) rfl (.cons (t := 5) rfl (.cons (t := 6) rfl (.cons (t := 7) rfl (.cons (t := 8) rfl .nil)))))) (.cons (t := 3) rfl (.cons (t := 4) rfl (.cons (t := 5) rfl .nil))) rfl ?_
  refine tr_block ?_
  refine tr_nilrow Ob.ps 10 33 6 600 rfl (by first | exact hC.low _ (by decide) | rfl) (fun idN => ?_)
  refine tr_loopK (α := {zz : Nat × (List Ob) × Bool × AL.Id // zz.1 ≤ m.objects.length ∧ zz.2.1 ++ rputF o zz.2.2.1 (m.objects.drop zz.1) = rputF o false m.objects ∧ zz.2.1.length ≤ 2 * zz.1}) (⟨(0, [], false, idN), Nat.zero_le _, rfl, Nat.le_refl _⟩) (fun zz => [(6, rowP zz.1.2.2.2 Ob.ps 10 zz.1.2.1), (7, eqP (.bool zz.1.2.2.1)), (8, eqP (.int .i64 (zz.1.1 : Int)))]) (fun zz => [(600, some (zz.1.2.2.2, tail 33 10 (zz.1.2.1.length * 10)))]) (fun zz => m.objects.length - zz.1.1) hC (.cons (t := 3) rfl (.cons (t := 4) rfl (.cons (t := 5) rfl .nil))) (.cons (t := 3) rfl (.cons (t := 4) rfl (.cons (t := 5) rfl .nil))) rfl ?_ ?_ (fun zz => ?_)
  · try dsimp only [List.cons_append, List.nil_append]
    first | refine SubF.cons rfl ?_ | (refine SubF.ent rfl ?_ ?_; · repeat (first | exact Ents.nil | refine Ents.cons ?_ ?_ | refine Ent.tup ?_ | refine Ent.agg ?_ | exact Ent.row _ _ _ _ | exact Ent.nil _ _ | exact Ent.func _ | exact Ent.refl _ | exact Ent.of_eq rfl | refine Ent.cells ?_))
    first | refine SubF.cons rfl ?_ | (refine SubF.ent rfl ?_ ?_; · repeat (first | exact Ents.nil | refine Ents.cons ?_ ?_ | refine Ent.tup ?_ | refine Ent.agg ?_ | exact Ent.row _ _ _ _ | exact Ent.nil _ _ | exact Ent.func _ | exact Ent.refl _ | exact Ent.of_eq rfl | refine Ent.cells ?_))
    first | refine SubF.cons rfl ?_ | (refine SubF.ent rfl ?_ ?_; · repeat (first | exact Ents.nil | refine Ents.cons ?_ ?_ | refine Ent.tup ?_ | refine Ent.agg ?_ | exact Ent.row _ _ _ _ | exact Ent.nil _ _ | exact Ent.func _ | exact Ent.refl _ | exact Ent.of_eq rfl | refine Ent.cells ?_))
    exact SubF.nil
  · try dsimp only [List.cons_append, List.nil_append]
    repeat (first | exact SubL.nil | refine SubL.cons rfl ?_)
  · obtain ⟨⟨k, out, dn, i⟩, hk1, hk2, hk3⟩ := zz
    try dsimp only at hk1
    try dsimp only at hk2
    try dsimp only at hk3
    dsimp only [List.cons_append, List.nil_append]
    refine tr_seq ?_
    refine tr_seq ?_
    refine tr_region (fun N5 hN => ?_)
    refine lx (op_move rfl) rfl ?_
    refine lx (op_fieldAddr rfl fl29_0 sz22) rfl ?_
    refine lx (op_bload_one (m := 5) rfl rfl ag22 rfl) rfl ?_
    first | refine lx (op_len rfl el22) rfl ?_ | refine lx (op_len_row rfl el22) rfl ?_ | refine lx (op_len_mv rfl el22) rfl ?_ | refine lx (op_len_nil rfl el22) rfl ?_
    refine lx (op_lss rfl rfl) rfl ?_
    refine lx_end ⟨by kernel_rfl, ?_⟩
    refine pe_then_normal ?_
    refine tr_sub hC (.cons (t := 3) rfl (.cons (t := 4) rfl (.cons (t := 5) rfl (.cons (t := 6) rfl (.cons (t := 7) rfl (.cons (t := 8) rfl (.cons (t := 15) rfl .nil))))))) (.cons (t := 600) rfl (.cons (t := 3) rfl (.cons (t := 4) rfl (.cons (t := 5) rfl .nil)))) rfl ?_
    refine tr_cond rfl (fun h15 => ?_) (fun h15 => ?_)
    · (try simp only [Bool.and_eq_true, Bool.or_eq_true, Bool.and_eq_false_iff, Bool.or_eq_false_iff, decide_eq_true_eq, decide_eq_false_iff_not, Bool.not_eq_true', Bool.not_eq_false', List.length_map, ne_eq, Decidable.not_not, Int.not_lt, Int.not_le] at h15)
      refine tr_skip ?_
      refine pe_then_normal ?_
      refine tr_sub hC (.cons (t := 3) rfl (.cons (t := 4) rfl (.cons (t := 5) rfl (.cons (t := 6) rfl (.cons (t := 7) rfl (.cons (t := 8) rfl .nil)))))) (.cons (t := 600) rfl (.cons (t := 3) rfl (.cons (t := 4) rfl (.cons (t := 5) rfl .nil)))) rfl ?_
      refine tr_seq ?_
      refine tr_block ?_
      refine tr_seq ?_
      refine tr_seq ?_
      refine tr_drawn mixed (fun N7 hN => ?_)
      refine lx (op_move rfl) rfl ?_
      first | refine lx (op_not rfl) rfl ?_ | refine lx (op_not_b rfl) rfl ?_
      refine lx (op_move rfl) rfl ?_
      refine lxs rfl rfl rfl guard_eq (.cons (t := 5) rfl (fun _ => Ent.refl _) .nil) (op_fieldAddr rfl fl29_0 sz22) rfl ?_
      refine lxs rfl rfl rfl guard_eq (.cons (t := 21) rfl (fun h => entW h) .nil) (op_bload_one (m := 5) rfl rfl ag22 rfl) rfl ?_
      refine lxs rfl rfl rfl guard_eq (.cons (t := 8) rfl (fun _ => Ent.refl _) .nil) (op_move rfl) rfl ?_
      refine lxs rfl rfl rfl guard_eq (.cons (t := 22) rfl (fun h => entW h) (.cons (t := 23) rfl (fun h => entW h) .nil)) (op_index rfl rfl el22 sz33 rfl (List.getElem?_eq_getElem (by omega : k < m.objects.length))) rfl ?_
      first | refine lxs rfl rfl rfl guard_eq (.cons (t := 24) rfl (fun h => entW h) .nil) (op_fieldAddr rfl fl33_0 sz3) rfl ?_ | refine lxs rfl rfl rfl guard_eq (.cons (t := 24) rfl (fun h => entW h) .nil) (op_fieldCells rfl fl33_0 sz3) rfl ?_
      first | refine lxs rfl rfl rfl guard_eq (.cons (t := 25) rfl (fun h => entW h) .nil) (op_load_one rfl ag3 rfl) rfl ?_ | refine lxs rfl rfl rfl guard_eq (.cons (t := 25) rfl (fun h => entW h) .nil) (op_bload_one (m := 600) rfl rfl ag3 rfl) rfl ?_ | refine lxs rfl rfl rfl guard_eq (.cons (t := 25) rfl (fun h => entW h) .nil) (op_bload_one (m := 3) rfl rfl ag3 rfl) rfl ?_ | refine lxs rfl rfl rfl guard_eq (.cons (t := 25) rfl (fun h => entW h) .nil) (op_bload_one (m := 4) rfl rfl ag3 rfl) rfl ?_ | refine lxs rfl rfl rfl guard_eq (.cons (t := 25) rfl (fun h => entW h) .nil) (op_bload_one (m := 5) rfl rfl ag3 rfl) rfl ?_
      refine lxs rfl rfl rfl guard_eq (.cons (t := 3) rfl (fun _ => Ent.refl _) .nil) (op_fieldAddr rfl fl33_0 sz3) rfl ?_
      refine lxs rfl rfl rfl guard_eq (.cons (t := 27) rfl (fun h => entW h) .nil) (op_bload_one (m := 3) rfl rfl ag3 rfl) rfl ?_
      refine lxs rfl rfl rfl guard_eq (.cons (t := 26) rfl (fun h => entW h) (.cons (t := 28) rfl (fun h => entW h) .nil)) (op_geq rfl rfl) rfl ?_
      refine lx (op_pick_and rfl rfl) rfl ?_
      refine lx_end ⟨by kernel_rfl, ?_⟩
      refine pe_then_normal ?_
      refine tr_sub hC (.cons (t := 3) rfl (.cons (t := 4) rfl (.cons (t := 5) rfl (.cons (t := 6) rfl (.cons (t := 7) rfl (.cons (t := 8) rfl (.cons (t := 30) rfl .nil))))))) (.cons (t := 600) rfl (.cons (t := 3) rfl (.cons (t := 4) rfl (.cons (t := 5) rfl .nil)))) rfl ?_
      refine tr_cond rfl (fun h30 => ?_) (fun h30 => ?_)
      · have g30 : (!dn && decide (m.objects[k].id ≥ o.id)) = true := h30
        refine tr_seq ?_
        refine tr_region (fun N8 hN => ?_)
        refine lx (op_move rfl) rfl ?_
        refine lx (op_bload (m := 3) rfl rfl ag33 sz33) rfl ?_
        first | refine lx (op_call (l := [(Go.Operand.tmp 32)]) (copyO_ok o hoo) (.cons rfl .nil) fn28) rfl ?_ | refine lx (op_call (l := [(Go.Operand.tmp 32)]) (copyO_ok o hoo) (.ent rfl (by repeat (first | exact Ents.nil | refine Ents.cons ?_ ?_ | refine Ent.tup ?_ | refine Ent.agg ?_ | exact Ent.row _ _ _ _ | exact Ent.nil _ _ | exact Ent.func _ | exact Ent.refl _ | exact Ent.of_eq rfl | refine Ent.cells ?_)) .nil) fn28) rfl ?_
        refine lx (op_buildSlice (f := Ob.ps) (xs := [o]) (l := [(0, (Go.Operand.tmp 33))]) ze33 rfl rfl (by decide) el22 sz33 Ob.len (.cons rfl (.agg rfl) .nil) rfl (by decide)) rfl ?_
        refine lxr (op_append (m := 600) (m' := 600) (kk := 35) rfl rfl rfl (.inl rfl) el22 ze33 sz33 by33 rfl Ob.len (by simp; omega) (by simp; omega)) rfl ?_
        refine lx (op_assign rfl) rfl ?_
        refine lx_end ⟨by kernel_rfl, ?_⟩
        refine pe_then_normal ?_
        refine tr_sub hC (.cons (t := 3) rfl (.cons (t := 4) rfl (.cons (t := 5) rfl (.cons (t := 6) rfl (.cons (t := 8) rfl .nil))))) (.cons (t := 3) rfl (.cons (t := 4) rfl (.cons (t := 5) rfl (.cons (t := 600) rfl .nil)))) rfl ?_
        refine tr_region (fun N9 hN => ?_)
        refine lx (op_assign rfl) rfl ?_
        refine lx_end ⟨by kernel_rfl, ?_⟩
        refine pe_then_normal ?_
        refine tr_sub hC (.cons (t := 3) rfl (.cons (t := 4) rfl (.cons (t := 5) rfl (.cons (t := 6) rfl (.cons (t := 7) rfl (.cons (t := 8) rfl .nil)))))) (.cons (t := 3) rfl (.cons (t := 4) rfl (.cons (t := 5) rfl (.cons (t := 600) rfl .nil)))) rfl ?_
        refine tr_seq ?_
        refine tr_drawn mixed (fun N10 hN => ?_)
        refine lx (op_fieldAddr rfl fl29_0 sz22) rfl ?_
        refine lx (op_bload_one (m := 5) rfl rfl ag22 rfl) rfl ?_
        refine lx (op_move rfl) rfl ?_
        refine lx (op_index rfl rfl el22 sz33 rfl (List.getElem?_eq_getElem (by omega : k < m.objects.length))) rfl ?_
        first | refine lx (op_fieldAddr rfl fl33_0 sz3) rfl ?_ | refine lx (op_fieldCells rfl fl33_0 sz3) rfl ?_
        first | refine lx (op_load_one rfl ag3 rfl) rfl ?_ | refine lx (op_bload_one (m := 3) rfl rfl ag3 rfl) rfl ?_ | refine lx (op_bload_one (m := 4) rfl rfl ag3 rfl) rfl ?_ | refine lx (op_bload_one (m := 5) rfl rfl ag3 rfl) rfl ?_ | refine lx (op_bload_one (m := 600) rfl rfl ag3 rfl) rfl ?_
        refine lx (op_fieldAddr rfl fl33_0 sz3) rfl ?_
        refine lx (op_bload_one (m := 3) rfl rfl ag3 rfl) rfl ?_
        refine lx (op_neq rfl rfl) rfl ?_
        refine lx_end ⟨by kernel_rfl, ?_⟩
        refine pe_then_normal ?_
        refine tr_sub hC (.cons (t := 3) rfl (.cons (t := 4) rfl (.cons (t := 5) rfl (.cons (t := 6) rfl (.cons (t := 7) rfl (.cons (t := 8) rfl (.cons (t := 44) rfl .nil))))))) (.cons (t := 3) rfl (.cons (t := 4) rfl (.cons (t := 5) rfl (.cons (t := 600) rfl .nil)))) rfl ?_
        refine tr_cond rfl (fun h44 => ?_) (fun h44 => ?_)
        · (try simp only [Bool.and_eq_true, Bool.or_eq_true, Bool.and_eq_false_iff, Bool.or_eq_false_iff, decide_eq_true_eq, decide_eq_false_iff_not, Bool.not_eq_true', Bool.not_eq_false', List.length_map, ne_eq, Decidable.not_not, Int.not_lt, Int.not_le] at h44)
          refine tr_region (fun N11 hN => ?_)
          refine lx (op_move rfl) rfl ?_
          refine lx (op_fieldAddr rfl fl29_0 sz22) rfl ?_
          refine lx (op_bload_one (m := 5) rfl rfl ag22 rfl) rfl ?_
          refine lx (op_move rfl) rfl ?_
          refine lx (op_index rfl rfl el22 sz33 rfl (List.getElem?_eq_getElem (by omega : k < m.objects.length))) rfl ?_
          first | refine lx (op_load_all rfl ag33 sz33) rfl ?_ | refine lx (op_load_agg rfl ag33 sz33 rfl) rfl ?_ | refine lx (op_bload (m := 3) rfl rfl ag33 sz33) rfl ?_ | refine lx (op_bload (m := 4) rfl rfl ag33 sz33) rfl ?_ | refine lx (op_bload (m := 5) rfl rfl ag33 sz33) rfl ?_ | refine lx (op_bload (m := 600) rfl rfl ag33 sz33) rfl ?_ | refine lx (op_bload_part (m := 3) (qs := [_, _, _, _, _, _, _, _, _, _]) rfl rfl ag33 sz33 rfl rfl) rfl ?_ | refine lx (op_bload_part (m := 4) (qs := [_, _, _, _, _, _, _, _, _, _]) rfl rfl ag33 sz33 rfl rfl) rfl ?_ | refine lx (op_bload_part (m := 5) (qs := [_, _, _, _, _, _, _, _, _, _]) rfl rfl ag33 sz33 rfl rfl) rfl ?_ | refine lx (op_bload_part (m := 600) (qs := [_, _, _, _, _, _, _, _, _, _]) rfl rfl ag33 sz33 rfl rfl) rfl ?_
          refine lx (op_buildSlice (f := Ob.ps) (xs := [m.objects[k]]) (l := [(0, (Go.Operand.tmp 50))]) ze33 rfl rfl (by decide) el22 sz33 Ob.len (.cons rfl (.agg rfl) .nil) rfl (by decide)) rfl ?_
          refine lxr (op_append (m := 600) (m' := 600) (kk := 52) rfl rfl rfl (.inl rfl) el22 ze33 sz33 by33 rfl Ob.len (by simp; omega) (by simp; omega)) rfl ?_
          refine lx (op_assign rfl) rfl ?_
          refine lx_end ⟨by kernel_rfl, ?_⟩
          refine pe_block_normal ?_
          refine pe_then_normal ?_
          refine tr_sub hC (.cons (t := 3) rfl (.cons (t := 4) rfl (.cons (t := 5) rfl (.cons (t := 6) rfl (.cons (t := 7) rfl (.cons (t := 8) rfl .nil)))))) (.cons (t := 3) rfl (.cons (t := 4) rfl (.cons (t := 5) rfl (.cons (t := 600) rfl .nil)))) rfl ?_
          refine tr_region (fun N6 hN => ?_)
          refine lx (op_move rfl) rfl ?_
          refine lx (op_add rfl rfl (by omega)) rfl ?_
          refine lx (op_assign rfl) rfl ?_
          refine lx_end ⟨by kernel_rfl, ?_⟩
          refine pe_round (⟨(k + 1, out ++ [o] ++ [m.objects[k]], true, (N11, 52)), by dsimp only; omega, rput_A (by omega) hk2 g30 h44, by dsimp only; first | omega | (simp; omega)⟩) (by dsimp only; omega) (pe_st hC ?_ ?_ rfl)
          · try dsimp only [List.cons_append, List.nil_append]
            first | refine SubF.cons rfl ?_ | (refine SubF.ent rfl ?_ ?_; · repeat (first | exact Ents.nil | refine Ents.cons ?_ ?_ | refine Ent.tup ?_ | refine Ent.agg ?_ | exact Ent.row _ _ _ _ | exact Ent.nil _ _ | exact Ent.func _ | exact Ent.refl _ | exact Ent.of_eq rfl | refine Ent.cells ?_))
            first | refine SubF.cons rfl ?_ | (refine SubF.ent rfl ?_ ?_; · repeat (first | exact Ents.nil | refine Ents.cons ?_ ?_ | refine Ent.tup ?_ | refine Ent.agg ?_ | exact Ent.row _ _ _ _ | exact Ent.nil _ _ | exact Ent.func _ | exact Ent.refl _ | exact Ent.of_eq rfl | refine Ent.cells ?_))
            first | refine SubF.cons rfl ?_ | (refine SubF.ent rfl ?_ ?_; · repeat (first | exact Ents.nil | refine Ents.cons ?_ ?_ | refine Ent.tup ?_ | refine Ent.agg ?_ | exact Ent.row _ _ _ _ | exact Ent.nil _ _ | exact Ent.func _ | exact Ent.refl _ | exact Ent.of_eq rfl | refine Ent.cells ?_))
            first | refine SubF.cons rfl ?_ | (refine SubF.ent rfl ?_ ?_; · repeat (first | exact Ents.nil | refine Ents.cons ?_ ?_ | refine Ent.tup ?_ | refine Ent.agg ?_ | exact Ent.row _ _ _ _ | exact Ent.nil _ _ | exact Ent.func _ | exact Ent.refl _ | exact Ent.of_eq rfl | refine Ent.cells ?_))
            first | refine SubF.cons rfl ?_ | (refine SubF.ent rfl ?_ ?_; · repeat (first | exact Ents.nil | refine Ents.cons ?_ ?_ | refine Ent.tup ?_ | refine Ent.agg ?_ | exact Ent.row _ _ _ _ | exact Ent.nil _ _ | exact Ent.func _ | exact Ent.refl _ | exact Ent.of_eq rfl | refine Ent.cells ?_))
            first | refine SubF.cons rfl ?_ | (refine SubF.ent rfl ?_ ?_; · repeat (first | exact Ents.nil | refine Ents.cons ?_ ?_ | refine Ent.tup ?_ | refine Ent.agg ?_ | exact Ent.row _ _ _ _ | exact Ent.nil _ _ | exact Ent.func _ | exact Ent.refl _ | exact Ent.of_eq rfl | refine Ent.cells ?_))
            exact SubF.nil
          · try dsimp only [List.cons_append, List.nil_append]
            repeat (first | exact SubL.nil | refine SubL.cons rfl ?_)
        · (try simp only [Bool.and_eq_true, Bool.or_eq_true, Bool.and_eq_false_iff, Bool.or_eq_false_iff, decide_eq_true_eq, decide_eq_false_iff_not, Bool.not_eq_true', Bool.not_eq_false', List.length_map, ne_eq, Decidable.not_not, Int.not_lt, Int.not_le] at h44)
          refine tr_skip ?_
          refine pe_block_normal ?_
          refine pe_then_normal ?_
          refine tr_sub hC (.cons (t := 3) rfl (.cons (t := 4) rfl (.cons (t := 5) rfl (.cons (t := 6) rfl (.cons (t := 7) rfl (.cons (t := 8) rfl .nil)))))) (.cons (t := 3) rfl (.cons (t := 4) rfl (.cons (t := 5) rfl (.cons (t := 600) rfl .nil)))) rfl ?_
          refine tr_region (fun N6 hN => ?_)
          refine lx (op_move rfl) rfl ?_
          refine lx (op_add rfl rfl (by omega)) rfl ?_
          refine lx (op_assign rfl) rfl ?_
          refine lx_end ⟨by kernel_rfl, ?_⟩
          refine pe_round (⟨(k + 1, out ++ [o], true, (N8, 35)), by dsimp only; omega, rput_B (by omega) hk2 g30 h44, by dsimp only; first | omega | (simp; omega)⟩) (by dsimp only; omega) (pe_st hC ?_ ?_ rfl)
          · try dsimp only [List.cons_append, List.nil_append]
            first | refine SubF.cons rfl ?_ | (refine SubF.ent rfl ?_ ?_; · repeat (first | exact Ents.nil | refine Ents.cons ?_ ?_ | refine Ent.tup ?_ | refine Ent.agg ?_ | exact Ent.row _ _ _ _ | exact Ent.nil _ _ | exact Ent.func _ | exact Ent.refl _ | exact Ent.of_eq rfl | refine Ent.cells ?_))
            first | refine SubF.cons rfl ?_ | (refine SubF.ent rfl ?_ ?_; · repeat (first | exact Ents.nil | refine Ents.cons ?_ ?_ | refine Ent.tup ?_ | refine Ent.agg ?_ | exact Ent.row _ _ _ _ | exact Ent.nil _ _ | exact Ent.func _ | exact Ent.refl _ | exact Ent.of_eq rfl | refine Ent.cells ?_))
            first | refine SubF.cons rfl ?_ | (refine SubF.ent rfl ?_ ?_; · repeat (first | exact Ents.nil | refine Ents.cons ?_ ?_ | refine Ent.tup ?_ | refine Ent.agg ?_ | exact Ent.row _ _ _ _ | exact Ent.nil _ _ | exact Ent.func _ | exact Ent.refl _ | exact Ent.of_eq rfl | refine Ent.cells ?_))
            first | refine SubF.cons rfl ?_ | (refine SubF.ent rfl ?_ ?_; · repeat (first | exact Ents.nil | refine Ents.cons ?_ ?_ | refine Ent.tup ?_ | refine Ent.agg ?_ | exact Ent.row _ _ _ _ | exact Ent.nil _ _ | exact Ent.func _ | exact Ent.refl _ | exact Ent.of_eq rfl | refine Ent.cells ?_))
            first | refine SubF.cons rfl ?_ | (refine SubF.ent rfl ?_ ?_; · repeat (first | exact Ents.nil | refine Ents.cons ?_ ?_ | refine Ent.tup ?_ | refine Ent.agg ?_ | exact Ent.row _ _ _ _ | exact Ent.nil _ _ | exact Ent.func _ | exact Ent.refl _ | exact Ent.of_eq rfl | refine Ent.cells ?_))
            first | refine SubF.cons rfl ?_ | (refine SubF.ent rfl ?_ ?_; · repeat (first | exact Ents.nil | refine Ents.cons ?_ ?_ | refine Ent.tup ?_ | refine Ent.agg ?_ | exact Ent.row _ _ _ _ | exact Ent.nil _ _ | exact Ent.func _ | exact Ent.refl _ | exact Ent.of_eq rfl | refine Ent.cells ?_))
            exact SubF.nil
          · try dsimp only [List.cons_append, List.nil_append]
            repeat (first | exact SubL.nil | refine SubL.cons rfl ?_)
      · have g30 : (!dn && decide (m.objects[k].id ≥ o.id)) = false := h30
        refine tr_skip ?_
        refine pe_then_normal ?_
        refine tr_sub hC (.cons (t := 3) rfl (.cons (t := 4) rfl (.cons (t := 5) rfl (.cons (t := 6) rfl (.cons (t := 7) rfl (.cons (t := 8) rfl .nil)))))) (.cons (t := 600) rfl (.cons (t := 3) rfl (.cons (t := 4) rfl (.cons (t := 5) rfl .nil)))) rfl ?_
        refine tr_seq ?_
        refine tr_drawn mixed (fun N10 hN => ?_)
        refine lx (op_fieldAddr rfl fl29_0 sz22) rfl ?_
        refine lx (op_bload_one (m := 5) rfl rfl ag22 rfl) rfl ?_
        refine lx (op_move rfl) rfl ?_
        refine lx (op_index rfl rfl el22 sz33 rfl (List.getElem?_eq_getElem (by omega : k < m.objects.length))) rfl ?_
        first | refine lx (op_fieldAddr rfl fl33_0 sz3) rfl ?_ | refine lx (op_fieldCells rfl fl33_0 sz3) rfl ?_
        first | refine lx (op_load_one rfl ag3 rfl) rfl ?_ | refine lx (op_bload_one (m := 600) rfl rfl ag3 rfl) rfl ?_ | refine lx (op_bload_one (m := 3) rfl rfl ag3 rfl) rfl ?_ | refine lx (op_bload_one (m := 4) rfl rfl ag3 rfl) rfl ?_ | refine lx (op_bload_one (m := 5) rfl rfl ag3 rfl) rfl ?_
        refine lx (op_fieldAddr rfl fl33_0 sz3) rfl ?_
        refine lx (op_bload_one (m := 3) rfl rfl ag3 rfl) rfl ?_
        refine lx (op_neq rfl rfl) rfl ?_
        refine lx_end ⟨by kernel_rfl, ?_⟩
        refine pe_then_normal ?_
        refine tr_sub hC (.cons (t := 3) rfl (.cons (t := 4) rfl (.cons (t := 5) rfl (.cons (t := 6) rfl (.cons (t := 7) rfl (.cons (t := 8) rfl (.cons (t := 44) rfl .nil))))))) (.cons (t := 600) rfl (.cons (t := 3) rfl (.cons (t := 4) rfl (.cons (t := 5) rfl .nil)))) rfl ?_
        refine tr_cond rfl (fun h44 => ?_) (fun h44 => ?_)
        · (try simp only [Bool.and_eq_true, Bool.or_eq_true, Bool.and_eq_false_iff, Bool.or_eq_false_iff, decide_eq_true_eq, decide_eq_false_iff_not, Bool.not_eq_true', Bool.not_eq_false', List.length_map, ne_eq, Decidable.not_not, Int.not_lt, Int.not_le] at h44)
          refine tr_region (fun N11 hN => ?_)
          refine lx (op_move rfl) rfl ?_
          refine lx (op_fieldAddr rfl fl29_0 sz22) rfl ?_
          refine lx (op_bload_one (m := 5) rfl rfl ag22 rfl) rfl ?_
          refine lx (op_move rfl) rfl ?_
          refine lx (op_index rfl rfl el22 sz33 rfl (List.getElem?_eq_getElem (by omega : k < m.objects.length))) rfl ?_
          first | refine lx (op_load_all rfl ag33 sz33) rfl ?_ | refine lx (op_load_agg rfl ag33 sz33 rfl) rfl ?_ | refine lx (op_bload (m := 600) rfl rfl ag33 sz33) rfl ?_ | refine lx (op_bload (m := 3) rfl rfl ag33 sz33) rfl ?_ | refine lx (op_bload (m := 4) rfl rfl ag33 sz33) rfl ?_ | refine lx (op_bload (m := 5) rfl rfl ag33 sz33) rfl ?_ | refine lx (op_bload_part (m := 600) (qs := [_, _, _, _, _, _, _, _, _, _]) rfl rfl ag33 sz33 rfl rfl) rfl ?_ | refine lx (op_bload_part (m := 3) (qs := [_, _, _, _, _, _, _, _, _, _]) rfl rfl ag33 sz33 rfl rfl) rfl ?_ | refine lx (op_bload_part (m := 4) (qs := [_, _, _, _, _, _, _, _, _, _]) rfl rfl ag33 sz33 rfl rfl) rfl ?_ | refine lx (op_bload_part (m := 5) (qs := [_, _, _, _, _, _, _, _, _, _]) rfl rfl ag33 sz33 rfl rfl) rfl ?_
          refine lx (op_buildSlice (f := Ob.ps) (xs := [m.objects[k]]) (l := [(0, (Go.Operand.tmp 50))]) ze33 rfl rfl (by decide) el22 sz33 Ob.len (.cons rfl (.agg rfl) .nil) rfl (by decide)) rfl ?_
          refine lxr (op_append (m := 600) (m' := 600) (kk := 52) rfl rfl rfl (.inl rfl) el22 ze33 sz33 by33 rfl Ob.len (by simp; omega) (by simp; omega)) rfl ?_
          refine lx (op_assign rfl) rfl ?_
          refine lx_end ⟨by kernel_rfl, ?_⟩
          refine pe_block_normal ?_
          refine pe_then_normal ?_
          refine tr_sub hC (.cons (t := 3) rfl (.cons (t := 4) rfl (.cons (t := 5) rfl (.cons (t := 6) rfl (.cons (t := 7) rfl (.cons (t := 8) rfl .nil)))))) (.cons (t := 3) rfl (.cons (t := 4) rfl (.cons (t := 5) rfl (.cons (t := 600) rfl .nil)))) rfl ?_
          refine tr_region (fun N6 hN => ?_)
          refine lx (op_move rfl) rfl ?_
          refine lx (op_add rfl rfl (by omega)) rfl ?_
          refine lx (op_assign rfl) rfl ?_
          refine lx_end ⟨by kernel_rfl, ?_⟩
          refine pe_round (⟨(k + 1, out ++ [m.objects[k]], dn, (N11, 52)), by dsimp only; omega, rput_C (by omega) hk2 g30 h44, by dsimp only; first | omega | (simp; omega)⟩) (by dsimp only; omega) (pe_st hC ?_ ?_ rfl)
          · try dsimp only [List.cons_append, List.nil_append]
            first | refine SubF.cons rfl ?_ | (refine SubF.ent rfl ?_ ?_; · repeat (first | exact Ents.nil | refine Ents.cons ?_ ?_ | refine Ent.tup ?_ | refine Ent.agg ?_ | exact Ent.row _ _ _ _ | exact Ent.nil _ _ | exact Ent.func _ | exact Ent.refl _ | exact Ent.of_eq rfl | refine Ent.cells ?_))
            first | refine SubF.cons rfl ?_ | (refine SubF.ent rfl ?_ ?_; · repeat (first | exact Ents.nil | refine Ents.cons ?_ ?_ | refine Ent.tup ?_ | refine Ent.agg ?_ | exact Ent.row _ _ _ _ | exact Ent.nil _ _ | exact Ent.func _ | exact Ent.refl _ | exact Ent.of_eq rfl | refine Ent.cells ?_))
            first | refine SubF.cons rfl ?_ | (refine SubF.ent rfl ?_ ?_; · repeat (first | exact Ents.nil | refine Ents.cons ?_ ?_ | refine Ent.tup ?_ | refine Ent.agg ?_ | exact Ent.row _ _ _ _ | exact Ent.nil _ _ | exact Ent.func _ | exact Ent.refl _ | exact Ent.of_eq rfl | refine Ent.cells ?_))
            first | refine SubF.cons rfl ?_ | (refine SubF.ent rfl ?_ ?_; · repeat (first | exact Ents.nil | refine Ents.cons ?_ ?_ | refine Ent.tup ?_ | refine Ent.agg ?_ | exact Ent.row _ _ _ _ | exact Ent.nil _ _ | exact Ent.func _ | exact Ent.refl _ | exact Ent.of_eq rfl | refine Ent.cells ?_))
            first | refine SubF.cons rfl ?_ | (refine SubF.ent rfl ?_ ?_; · repeat (first | exact Ents.nil | refine Ents.cons ?_ ?_ | refine Ent.tup ?_ | refine Ent.agg ?_ | exact Ent.row _ _ _ _ | exact Ent.nil _ _ | exact Ent.func _ | exact Ent.refl _ | exact Ent.of_eq rfl | refine Ent.cells ?_))
            first | refine SubF.cons rfl ?_ | (refine SubF.ent rfl ?_ ?_; · repeat (first | exact Ents.nil | refine Ents.cons ?_ ?_ | refine Ent.tup ?_ | refine Ent.agg ?_ | exact Ent.row _ _ _ _ | exact Ent.nil _ _ | exact Ent.func _ | exact Ent.refl _ | exact Ent.of_eq rfl | refine Ent.cells ?_))
            exact SubF.nil
          · try dsimp only [List.cons_append, List.nil_append]
            repeat (first | exact SubL.nil | refine SubL.cons rfl ?_)
        · (try simp only [Bool.and_eq_true, Bool.or_eq_true, Bool.and_eq_false_iff, Bool.or_eq_false_iff, decide_eq_true_eq, decide_eq_false_iff_not, Bool.not_eq_true', Bool.not_eq_false', List.length_map, ne_eq, Decidable.not_not, Int.not_lt, Int.not_le] at h44)
          refine tr_skip ?_
          refine pe_block_normal ?_
          refine pe_then_normal ?_
          refine tr_sub hC (.cons (t := 3) rfl (.cons (t := 4) rfl (.cons (t := 5) rfl (.cons (t := 6) rfl (.cons (t := 7) rfl (.cons (t := 8) rfl .nil)))))) (.cons (t := 600) rfl (.cons (t := 3) rfl (.cons (t := 4) rfl (.cons (t := 5) rfl .nil)))) rfl ?_
          refine tr_region (fun N6 hN => ?_)
          refine lx (op_move rfl) rfl ?_
          refine lx (op_add rfl rfl (by omega)) rfl ?_
          refine lx (op_assign rfl) rfl ?_
          refine lx_end ⟨by kernel_rfl, ?_⟩
          refine pe_round (⟨(k + 1, out, dn, i), by dsimp only; omega, rput_D (by omega) hk2 g30 h44, by dsimp only; first | omega | (simp; omega)⟩) (by dsimp only; omega) (pe_st hC ?_ ?_ rfl)
          · try dsimp only [List.cons_append, List.nil_append]
            first | refine SubF.cons rfl ?_ | (refine SubF.ent rfl ?_ ?_; · repeat (first | exact Ents.nil | refine Ents.cons ?_ ?_ | refine Ent.tup ?_ | refine Ent.agg ?_ | exact Ent.row _ _ _ _ | exact Ent.nil _ _ | exact Ent.func _ | exact Ent.refl _ | exact Ent.of_eq rfl | refine Ent.cells ?_))
            first | refine SubF.cons rfl ?_ | (refine SubF.ent rfl ?_ ?_; · repeat (first | exact Ents.nil | refine Ents.cons ?_ ?_ | refine Ent.tup ?_ | refine Ent.agg ?_ | exact Ent.row _ _ _ _ | exact Ent.nil _ _ | exact Ent.func _ | exact Ent.refl _ | exact Ent.of_eq rfl | refine Ent.cells ?_))
            first | refine SubF.cons rfl ?_ | (refine SubF.ent rfl ?_ ?_; · repeat (first | exact Ents.nil | refine Ents.cons ?_ ?_ | refine Ent.tup ?_ | refine Ent.agg ?_ | exact Ent.row _ _ _ _ | exact Ent.nil _ _ | exact Ent.func _ | exact Ent.refl _ | exact Ent.of_eq rfl | refine Ent.cells ?_))
            first | refine SubF.cons rfl ?_ | (refine SubF.ent rfl ?_ ?_; · repeat (first | exact Ents.nil | refine Ents.cons ?_ ?_ | refine Ent.tup ?_ | refine Ent.agg ?_ | exact Ent.row _ _ _ _ | exact Ent.nil _ _ | exact Ent.func _ | exact Ent.refl _ | exact Ent.of_eq rfl | refine Ent.cells ?_))
            first | refine SubF.cons rfl ?_ | (refine SubF.ent rfl ?_ ?_; · repeat (first | exact Ents.nil | refine Ents.cons ?_ ?_ | refine Ent.tup ?_ | refine Ent.agg ?_ | exact Ent.row _ _ _ _ | exact Ent.nil _ _ | exact Ent.func _ | exact Ent.refl _ | exact Ent.of_eq rfl | refine Ent.cells ?_))
            first | refine SubF.cons rfl ?_ | (refine SubF.ent rfl ?_ ?_; · repeat (first | exact Ents.nil | refine Ents.cons ?_ ?_ | refine Ent.tup ?_ | refine Ent.agg ?_ | exact Ent.row _ _ _ _ | exact Ent.nil _ _ | exact Ent.func _ | exact Ent.refl _ | exact Ent.of_eq rfl | refine Ent.cells ?_))
            exact SubF.nil
          · try dsimp only [List.cons_append, List.nil_append]
            repeat (first | exact SubL.nil | refine SubL.cons rfl ?_)
    · (try simp only [Bool.and_eq_true, Bool.or_eq_true, Bool.and_eq_false_iff, Bool.or_eq_false_iff, decide_eq_true_eq, decide_eq_false_iff_not, Bool.not_eq_true', Bool.not_eq_false', List.length_map, ne_eq, Decidable.not_not, Int.not_lt, Int.not_le] at h15)
      have hend := rput_end (by omega) hk2
      refine tr_exit ?_
      refine pe_then_exit ?_
      refine pe_then_exit ?_
      refine pe_block_eq ?_
      refine pe_then_normal ?_
      refine tr_sub hC (.cons (t := 3) rfl (.cons (t := 4) rfl (.cons (t := 5) rfl (.cons (t := 6) rfl (.cons (t := 7) rfl .nil))))) (.cons (t := 600) rfl (.cons (t := 3) rfl (.cons (t := 4) rfl (.cons (t := 5) rfl .nil)))) rfl ?_
      refine tr_seq ?_
      refine tr_seq ?_
      refine tr_region (fun N12 hN => ?_)
      refine lx (op_move rfl) rfl ?_
      first | refine lx (op_not rfl) rfl ?_ | refine lx (op_not_b rfl) rfl ?_
      refine lx_end ⟨by kernel_rfl, ?_⟩
      refine pe_then_normal ?_
      refine tr_sub hC (.cons (t := 3) rfl (.cons (t := 4) rfl (.cons (t := 5) rfl (.cons (t := 6) rfl (.cons (t := 54) rfl .nil))))) (.cons (t := 600) rfl (.cons (t := 3) rfl (.cons (t := 4) rfl (.cons (t := 5) rfl .nil)))) rfl ?_
      refine tr_cond rfl (fun h54 => ?_) (fun h54 => ?_)
      · (try simp only [Bool.and_eq_true, Bool.or_eq_true, Bool.and_eq_false_iff, Bool.or_eq_false_iff, decide_eq_true_eq, decide_eq_false_iff_not, Bool.not_eq_true', Bool.not_eq_false', List.length_map, ne_eq, Decidable.not_not, Int.not_lt, Int.not_le] at h54)
        have hfin : out ++ [o] = rputF o false m.objects := by rw [← hend, h54]; rfl
        refine tr_region (fun N13 hN => ?_)
        refine lx (op_move rfl) rfl ?_
        refine lx (op_bload (m := 3) rfl rfl ag33 sz33) rfl ?_
        first | refine lx (op_call (l := [(Go.Operand.tmp 56)]) (copyO_ok o hoo) (.cons rfl .nil) fn28) rfl ?_ | refine lx (op_call (l := [(Go.Operand.tmp 56)]) (copyO_ok o hoo) (.ent rfl (by repeat (first | exact Ents.nil | refine Ents.cons ?_ ?_ | refine Ent.tup ?_ | refine Ent.agg ?_ | exact Ent.row _ _ _ _ | exact Ent.nil _ _ | exact Ent.func _ | exact Ent.refl _ | exact Ent.of_eq rfl | refine Ent.cells ?_)) .nil) fn28) rfl ?_
        refine lx (op_buildSlice (f := Ob.ps) (xs := [o]) (l := [(0, (Go.Operand.tmp 57))]) ze33 rfl rfl (by decide) el22 sz33 Ob.len (.cons rfl (.agg rfl) .nil) rfl (by decide)) rfl ?_
        refine lxr (op_append (m := 600) (m' := 600) (kk := 59) rfl rfl rfl (.inl rfl) el22 ze33 sz33 by33 rfl Ob.len (by simp; omega) (by simp; omega)) rfl ?_
        refine lx (op_assign rfl) rfl ?_
        refine lx_end ⟨by kernel_rfl, ?_⟩
        refine pe_then_normal ?_
        refine tr_sub hC (.cons (t := 4) rfl (.cons (t := 5) rfl (.cons (t := 6) rfl .nil))) (.cons (t := 4) rfl (.cons (t := 5) rfl (.cons (t := 600) rfl .nil))) rfl ?_
        refine tr_sub hC (.cons (t := 4) rfl (.cons (t := 5) rfl (.ent (t := 6) rfl ((show Ent _ (slP Ob.ps 10 (rputF o false m.objects)) from Ent.trans (Ent.row _ _ _ _) (Ent.of_eq (by rw [hfin])))) .nil))) (.cons (t := 4) rfl (.cons (t := 5) rfl (.cons (t := 600) rfl .nil))) rfl ?_
        refine tr_seq ?_
        refine tr_region (fun N14 hN => ?_)
        refine lx (op_move rfl) rfl ?_
        refine lx (op_fieldAddr rfl fl29_0 sz22) rfl ?_
        refine lxr (op_store (m := 5) (rs := [_, _, _, _]) rfl rfl rfl (.one (by (first | exact One.eq rfl | exact One.mv _ _ _ _ _ | exact One.cl _ _ _ | exact One.map _ | exact One.sl _ _ _ | exact One.row _ _ _ _ | exact One.msl _ _ _ _ | exact One.ptr _ _ | exact One.b _ | exact One.cells _))) sz22 rfl rfl rfl) rfl ?_
        refine lx_end ⟨by kernel_rfl, ?_⟩
        refine pe_then_normal ?_
        refine tr_sub hC (.cons (t := 4) rfl (.cons (t := 5) rfl .nil)) (.cons (t := 4) rfl (.cons (t := 5) rfl (.cons (t := 600) rfl .nil))) rfl ?_
        refine tr_seq ?_
        refine tr_region (fun N15 hN => ?_)
        refine lx (op_bload (m := 5) rfl rfl ag29 sz29) rfl ?_
        refine lxr (op_store_all (m := 4) rfl rfl rfl (.agg rfl) sz29 rfl) rfl ?_
        refine lx_end ⟨by kernel_rfl, ?_⟩
        refine pe_then_normal ?_
        refine tr_sub hC (.cons (t := 4) rfl .nil) (.cons (t := 4) rfl (.cons (t := 600) rfl .nil)) rfl ?_
        refine tr_ret ?_
        refine pe_ret1 rfl hO rfl (.cell (m := 4) rfl rfl ag29 sz29 .nil) ?_
        repeat (first | exact Ents.nil | refine Ents.cons ?_ ?_ | refine Ent.tup ?_ | refine Ent.agg ?_ | exact Ent.row _ _ _ _ | exact Ent.nil _ _ | exact Ent.func _ | exact Ent.refl _ | exact Ent.of_eq rfl | refine Ent.cells ?_)
      · (try simp only [Bool.and_eq_true, Bool.or_eq_true, Bool.and_eq_false_iff, Bool.or_eq_false_iff, decide_eq_true_eq, decide_eq_false_iff_not, Bool.not_eq_true', Bool.not_eq_false', List.length_map, ne_eq, Decidable.not_not, Int.not_lt, Int.not_le] at h54)
        have hfin : out = rputF o false m.objects := by rw [← hend, h54]; simp
        refine tr_skip ?_
        refine pe_then_normal ?_
        refine tr_sub hC (.cons (t := 4) rfl (.cons (t := 5) rfl (.cons (t := 6) rfl .nil))) (.cons (t := 600) rfl (.cons (t := 4) rfl (.cons (t := 5) rfl .nil))) rfl ?_
        refine tr_sub hC (.cons (t := 4) rfl (.cons (t := 5) rfl (.ent (t := 6) rfl ((show Ent _ (slP Ob.ps 10 (rputF o false m.objects)) from Ent.trans (Ent.row _ _ _ _) (Ent.of_eq (by rw [hfin])))) .nil))) (.cons (t := 600) rfl (.cons (t := 4) rfl (.cons (t := 5) rfl .nil))) rfl ?_
        refine tr_seq ?_
        refine tr_region (fun N14 hN => ?_)
        refine lx (op_move rfl) rfl ?_
        refine lx (op_fieldAddr rfl fl29_0 sz22) rfl ?_
        refine lxr (op_store (m := 5) (rs := [_, _, _, _]) rfl rfl rfl (.one (by (first | exact One.eq rfl | exact One.mv _ _ _ _ _ | exact One.cl _ _ _ | exact One.map _ | exact One.sl _ _ _ | exact One.row _ _ _ _ | exact One.msl _ _ _ _ | exact One.ptr _ _ | exact One.b _ | exact One.cells _))) sz22 rfl rfl rfl) rfl ?_
        refine lx_end ⟨by kernel_rfl, ?_⟩
        refine pe_then_normal ?_
        refine tr_sub hC (.cons (t := 4) rfl (.cons (t := 5) rfl .nil)) (.cons (t := 600) rfl (.cons (t := 4) rfl (.cons (t := 5) rfl .nil))) rfl ?_
        refine tr_seq ?_
        refine tr_region (fun N15 hN => ?_)
        refine lx (op_bload (m := 5) rfl rfl ag29 sz29) rfl ?_
        refine lxr (op_store_all (m := 4) rfl rfl rfl (.agg rfl) sz29 rfl) rfl ?_
        refine lx_end ⟨by kernel_rfl, ?_⟩
        refine pe_then_normal ?_
        refine tr_sub hC (.cons (t := 4) rfl .nil) (.cons (t := 600) rfl (.cons (t := 4) rfl .nil)) rfl ?_
        refine tr_ret ?_
        refine pe_ret1 rfl hO rfl (.cell (m := 4) rfl rfl ag29 sz29 .nil) ?_
        repeat (first | exact Ents.nil | refine Ents.cons ?_ ?_ | refine Ent.tup ?_ | refine Ent.agg ?_ | exact Ent.row _ _ _ _ | exact Ent.nil _ _ | exact Ent.func _ | exact Ent.refl _ | exact Ent.of_eq rfl | refine Ent.cells ?_)
theorem rStore_n (m : Mc) (r v : V) (hb : Bd 2000000 m) (hc : ¬ (checkF m.objects r).2 = 0) : FnP Try.prog 22 [aggP m.ps, aggP (vp r), aggP (vp v)] (tupP [aggP (rstoreF m r v).1.ps, eqP (.int .i64 (rstoreF m r v).2)]) := by
  refine fn_pure' Try.func22 rfl Try.ntmps22 rfl ?_
  intro σ0 M ex Rf R hC hO
  simp only [frameOf, tokOf]
  refine tr_seq ?_
  refine tr_region (fun N0 hN => ?_)
  refine lxn (op_box (m := 3) (k := 3) rfl (.agg rfl) (by first | exact hC.low _ (by decide) | rfl)) rfl ?_
  refine lxn (op_box (m := 4) (k := 4) rfl (.agg rfl) (by first | exact hC.low _ (by decide) | rfl)) rfl ?_
  refine lxn (op_box (m := 5) (k := 5) rfl (.agg rfl) (by first | exact hC.low _ (by decide) | rfl)) rfl ?_
  refine lxn (op_alloc (m := 6) (k := 6) (ps := [eqP (.slice none 0 0), eqP (.slice none 0 0), eqP (.slice none 0 0), eqP (.slice none 0 0)]) ze29 rfl rfl (by first | exact hC.low _ (by decide) | rfl)) rfl ?_
  refine lx (op_assign rfl) rfl ?_
  refine lx_end ⟨by kernel_rfl, ?_⟩
  refine pe_then_normal ?_
  refine tr_sub hC (.cons (t := 3) rfl (.cons (t := 4) rfl (.cons (t := 5) rfl (.cons (t := 6) rfl .nil)))) (.cons (t := 3) rfl (.cons (t := 4) rfl (.cons (t := 5) rfl (.cons (t := 6) rfl .nil)))) rfl ?_
  refine tr_seq ?_
  refine tr_region (fun N1 hN => ?_)
  refine lx (op_bload (m := 3) rfl rfl ag29 sz29) rfl ?_
  refine lx (op_bload (m := 4) rfl rfl ag41 sz41) rfl ?_
  first | refine lx (op_call (l := [(Go.Operand.tmp 11), (Go.Operand.tmp 12)]) (Check_ok m (hb.mono (by decide)) r) (.cons rfl (.cons rfl .nil)) fn39) rfl ?_ | refine lx (op_call (l := [(Go.Operand.tmp 11), (Go.Operand.tmp 12)]) (Check_ok m (hb.mono (by decide)) r) (.ent rfl (by repeat (first | exact Ents.nil | refine Ents.cons ?_ ?_ | refine Ent.tup ?_ | refine Ent.agg ?_ | exact Ent.row _ _ _ _ | exact Ent.nil _ _ | exact Ent.func _ | exact Ent.refl _ | exact Ent.of_eq rfl | refine Ent.cells ?_)) (.ent rfl (by repeat (first | exact Ents.nil | refine Ents.cons ?_ ?_ | refine Ent.tup ?_ | refine Ent.agg ?_ | exact Ent.row _ _ _ _ | exact Ent.nil _ _ | exact Ent.func _ | exact Ent.refl _ | exact Ent.of_eq rfl | refine Ent.cells ?_)) .nil)) fn39) rfl ?_
  refine lx (op_move rfl) rfl ?_
  refine lx (op_extract rfl rfl) rfl ?_
  refine lx (op_extract rfl rfl) rfl ?_
  refine lxn (op_alloc (m := 8) (k := 8) (ps := [eqP (.int .i64 0), eqP (.slice none 0 0), eqP (.bool false), eqP (.int .i64 0), eqP (.slice none 0 0), eqP (.bool false), eqP (.int .i64 0), eqP (.int .i64 0), eqP (.slice none 0 0), eqP (.slice none 0 0)]) ze33 rfl rfl (by first | exact hC.low _ (by decide) | rfl)) rfl ?_
  refine lxr (op_store_all (m := 8) rfl rfl rfl (.agg rfl) sz33 rfl) rfl ?_
  refine lx (op_assign rfl) rfl ?_
  refine lx_end ⟨by kernel_rfl, ?_⟩
  refine pe_then_normal ?_
  refine tr_sub hC (.cons (t := 3) rfl (.cons (t := 4) rfl (.cons (t := 5) rfl (.cons (t := 6) rfl (.cons (t := 8) rfl (.cons (t := 9) rfl .nil)))))) (.cons (t := 3) rfl (.cons (t := 4) rfl (.cons (t := 5) rfl (.cons (t := 6) rfl (.cons (t := 8) rfl .nil))))) rfl ?_
  refine tr_seq ?_
  refine tr_seq ?_
  refine tr_region (fun N2 hN => ?_)
  refine lx (op_move rfl) rfl ?_
  refine lx (op_neq rfl rfl) rfl ?_
  refine lx_end ⟨by kernel_rfl, ?_⟩
  refine pe_then_normal ?_
  refine tr_sub hC (.cons (t := 3) rfl (.cons (t := 4) rfl (.cons (t := 5) rfl (.cons (t := 6) rfl (.cons (t := 8) rfl (.cons (t := 9) rfl (.cons (t := 17) rfl .nil))))))) (.cons (t := 3) rfl (.cons (t := 4) rfl (.cons (t := 5) rfl (.cons (t := 6) rfl (.cons (t := 8) rfl .nil))))) rfl ?_
  refine tr_cond rfl (fun h17 => ?_) (fun h17 => ?_)
  · (try simp only [Bool.and_eq_true, Bool.or_eq_true, Bool.and_eq_false_iff, Bool.or_eq_false_iff, decide_eq_true_eq, decide_eq_false_iff_not, Bool.not_eq_true', Bool.not_eq_false', List.length_map, ne_eq, Decidable.not_not, Int.not_lt, Int.not_le] at h17)
    refine tr_seq ?_
    refine tr_region (fun N3 hN => ?_)
    refine lx (op_build (qs := [_, _, _, _]) (parts := []) ze29 rfl rfl fs29 .nil rfl rfl) rfl ?_
    refine lx (op_move rfl) rfl ?_
    refine lxr (op_store_all (m := 6) rfl rfl rfl (.agg rfl) sz29 rfl) rfl ?_
    refine lx (op_assign rfl) rfl ?_
    refine lx_end ⟨by kernel_rfl, ?_⟩
    refine pe_then_normal ?_
    refine tr_sub hC (.cons (t := 6) rfl (.cons (t := 7) rfl .nil)) (.cons (t := 6) rfl .nil) rfl ?_
    refine tr_ret ?_
    refine pe_then_ret ?_
    refine pe_retN (rs := [.cell 6 29, .tmp 7]) rfl rfl hO rfl (.cell (m := 6) rfl rfl ag29 sz29 (.tmp rfl .nil)) ?_
    rw [rstore_n hc]
    repeat (first | exact Ents.nil | refine Ents.cons ?_ ?_ | refine Ent.tup ?_ | refine Ent.agg ?_ | exact Ent.row _ _ _ _ | exact Ent.nil _ _ | exact Ent.func _ | exact Ent.refl _ | exact Ent.of_eq rfl | refine Ent.cells ?_)
  · (try simp only [Bool.and_eq_true, Bool.or_eq_true, Bool.and_eq_false_iff, Bool.or_eq_false_iff, decide_eq_true_eq, decide_eq_false_iff_not, Bool.not_eq_true', Bool.not_eq_false', List.length_map, ne_eq, Decidable.not_not, Int.not_lt, Int.not_le] at h17)
    exact absurd h17 hc
theorem rStore_y (m : Mc) (r v : V) (hb : Bd 2000000 m) (hc : (checkF m.objects r).2 = 0) : FnP Try.prog 22 [aggP m.ps, aggP (vp r), aggP (vp v)] (tupP [aggP (rstoreF m r v).1.ps, eqP (.int .i64 (rstoreF m r v).2)]) := by
  obtain ⟨hk, hf, hof, hck⟩ := check_inv hc
  have hbf := rfind_bd hb hf.1
  refine fn_pure' Try.func22 rfl Try.ntmps22 rfl ?_
  intro σ0 M ex Rf R hC hO
  simp only [frameOf, tokOf]
  refine tr_seq ?_
  refine tr_region (fun N0 hN => ?_)
  refine lxn (op_box (m := 3) (k := 3) rfl (.agg rfl) (by first | exact hC.low _ (by decide) | rfl)) rfl ?_
  refine lxn (op_box (m := 4) (k := 4) rfl (.agg rfl) (by first | exact hC.low _ (by decide) | rfl)) rfl ?_
  refine lxn (op_box (m := 5) (k := 5) rfl (.agg rfl) (by first | exact hC.low _ (by decide) | rfl)) rfl ?_
  refine lxn (op_alloc (m := 6) (k := 6) (ps := [eqP (.slice none 0 0), eqP (.slice none 0 0), eqP (.slice none 0 0), eqP (.slice none 0 0)]) ze29 rfl rfl (by first | exact hC.low _ (by decide) | rfl)) rfl ?_
  refine lx (op_assign rfl) rfl ?_
  refine lx_end ⟨by kernel_rfl, ?_⟩
  refine pe_then_normal ?_
  refine tr_sub hC (.cons (t := 3) rfl (.cons (t := 4) rfl (.cons (t := 5) rfl (.cons (t := 6) rfl .nil)))) (.cons (t := 3) rfl (.cons (t := 4) rfl (.cons (t := 5) rfl (.cons (t := 6) rfl .nil)))) rfl ?_
  refine tr_seq ?_
  refine tr_region (fun N1 hN => ?_)
  refine lx (op_bload (m := 3) rfl rfl ag29 sz29) rfl ?_
  refine lx (op_bload (m := 4) rfl rfl ag41 sz41) rfl ?_
  first | refine lx_any rfl (op_callG2 (l := [(Go.Operand.tmp 11), (Go.Operand.tmp 12)]) (add := [(601, ((N1, 100130), blkX 3 41 ((rfindF m.objects r.n).1.cells.flatMap vp)))]) (ks := [100130]) (φ := tupP [aggP (obCs (rfindF m.objects r.n).1 (N1, 100130)), eqP (.int .i64 0)]) .nil (Check_own m (hb.mono (by decide)) r hc) (.cons rfl (.cons rfl .nil)) fn39 rfl rfl rfl (.new (by first | exact hC.low _ (by decide) | rfl) .nil) rfl) (dOK_spec rfl) ?_ | refine lx_any rfl (op_callG2 (l := [(Go.Operand.tmp 11), (Go.Operand.tmp 12)]) (add := [(601, ((N1, 100130), blkX 3 41 ((rfindF m.objects r.n).1.cells.flatMap vp)))]) (ks := [100130]) (φ := tupP [aggP (obCs (rfindF m.objects r.n).1 (N1, 100130)), eqP (.int .i64 0)]) .nil (Check_own m (hb.mono (by decide)) r hc) (.ent rfl (by repeat (first | exact Ents.nil | refine Ents.cons ?_ ?_ | refine Ent.tup ?_ | refine Ent.agg ?_ | exact Ent.row _ _ _ _ | exact Ent.nil _ _ | exact Ent.func _ | exact Ent.refl _ | exact Ent.of_eq rfl | refine Ent.cells ?_)) (.ent rfl (by repeat (first | exact Ents.nil | refine Ents.cons ?_ ?_ | refine Ent.tup ?_ | refine Ent.agg ?_ | exact Ent.row _ _ _ _ | exact Ent.nil _ _ | exact Ent.func _ | exact Ent.refl _ | exact Ent.of_eq rfl | refine Ent.cells ?_)) .nil)) fn39 rfl rfl rfl (.new (by first | exact hC.low _ (by decide) | rfl) .nil) rfl) (dOK_spec rfl) ?_
  refine lx (op_move rfl) rfl ?_
  refine lx (op_extract rfl rfl) rfl ?_
  refine lx (op_extract rfl rfl) rfl ?_
  refine lxn (op_alloc (m := 8) (k := 8) (ps := [eqP (.int .i64 0), eqP (.slice none 0 0), eqP (.bool false), eqP (.int .i64 0), eqP (.slice none 0 0), eqP (.bool false), eqP (.int .i64 0), eqP (.int .i64 0), eqP (.slice none 0 0), eqP (.slice none 0 0)]) ze33 rfl rfl (by first | exact hC.low _ (by decide) | rfl)) rfl ?_
  refine lxr (op_store_all (m := 8) rfl rfl rfl (.agg rfl) sz33 rfl) rfl ?_
  refine lx (op_assign rfl) rfl ?_
  refine lx_end ⟨by kernel_rfl, ?_⟩
  refine pe_then_normal ?_
  refine tr_sub hC (.cons (t := 3) rfl (.cons (t := 4) rfl (.cons (t := 5) rfl (.cons (t := 6) rfl (.cons (t := 8) rfl (.cons (t := 9) rfl .nil)))))) (.cons (t := 3) rfl (.cons (t := 4) rfl (.cons (t := 5) rfl (.cons (t := 6) rfl (.cons (t := 601) rfl (.cons (t := 8) rfl .nil)))))) rfl ?_
  refine tr_seq ?_
  refine tr_seq ?_
  refine tr_region (fun N2 hN => ?_)
  refine lx (op_move rfl) rfl ?_
  refine lx (op_neq rfl rfl) rfl ?_
  refine lx_end ⟨by kernel_rfl, ?_⟩
  refine pe_then_normal ?_
  refine tr_sub hC (.cons (t := 3) rfl (.cons (t := 4) rfl (.cons (t := 5) rfl (.cons (t := 6) rfl (.cons (t := 8) rfl (.cons (t := 9) rfl (.cons (t := 17) rfl .nil))))))) (.cons (t := 3) rfl (.cons (t := 4) rfl (.cons (t := 5) rfl (.cons (t := 6) rfl (.cons (t := 601) rfl (.cons (t := 8) rfl .nil)))))) rfl ?_
  refine tr_cond rfl (fun h17 => ?_) (fun h17 => ?_)
  · (try simp only [Bool.and_eq_true, Bool.or_eq_true, Bool.and_eq_false_iff, Bool.or_eq_false_iff, decide_eq_true_eq, decide_eq_false_iff_not, Bool.not_eq_true', Bool.not_eq_false', List.length_map, ne_eq, Decidable.not_not, Int.not_lt, Int.not_le] at h17)
    simp at h17
  · (try simp only [Bool.and_eq_true, Bool.or_eq_true, Bool.and_eq_false_iff, Bool.or_eq_false_iff, decide_eq_true_eq, decide_eq_false_iff_not, Bool.not_eq_true', Bool.not_eq_false', List.length_map, ne_eq, Decidable.not_not, Int.not_lt, Int.not_le] at h17)
    refine tr_skip ?_
    refine pe_then_normal ?_
    refine tr_sub hC (.cons (t := 3) rfl (.cons (t := 4) rfl (.cons (t := 5) rfl (.cons (t := 6) rfl (.cons (t := 8) rfl (.cons (t := 9) rfl .nil)))))) (.cons (t := 3) rfl (.cons (t := 4) rfl (.cons (t := 5) rfl (.cons (t := 6) rfl (.cons (t := 601) rfl (.cons (t := 8) rfl .nil)))))) rfl ?_
    refine tr_seq ?_
    refine tr_region (fun N4 hN => ?_)
    refine lx (op_fieldAddr rfl fl33_1 sz30) rfl ?_
    refine lx (op_bload_one (m := 8) rfl rfl ag30 rfl) rfl ?_
    refine lx (op_fieldAddr rfl fl41_2 sz3) rfl ?_
    refine lx (op_bload_one (m := 4) rfl rfl ag3 rfl) rfl ?_
    refine lx (op_bload (m := 5) rfl rfl ag41 sz41) rfl ?_
    refine lx (op_index_mv rfl rfl el30 sz41 (by omega : r.off = ((r.off.toNat : Nat) : Int)) (show r.off.toNat < (rfindF m.objects r.n).1.cells.length by omega)) rfl ?_
    refine lxr (op_tstore (m := 601) (j := r.off.toNat) (fo := 0) (z' := v) rfl rfl rfl (.agg rfl) sz41 rfl vp_len (by omega) (List.getElem?_eq_getElem (by omega : r.off.toNat < (rfindF m.objects r.n).1.cells.length)) rfl rfl) rfl ?_
    refine lx_end ⟨by kernel_rfl, ?_⟩
    refine pe_then_normal ?_
    refine tr_sub hC (.cons (t := 3) rfl (.cons (t := 6) rfl (.cons (t := 8) rfl (.cons (t := 9) rfl .nil)))) (.cons (t := 3) rfl (.cons (t := 6) rfl (.cons (t := 601) rfl (.cons (t := 8) rfl .nil)))) rfl ?_
    refine tr_bound 0 (m := 601) rfl ?_
    refine tr_freeze (m := 601) rfl (.ent (t := 0) rfl FEnt.frz_bound (.cons (t := 3) rfl (.cons (t := 6) rfl (.cons (t := 8) rfl (.cons (t := 9) rfl .nil))))) ?_
    refine tr_thaw (t := 0) (n := 8) (qs' := Ob.ps (setC (rfindF m.objects r.n).1 r v)) rfl (.cons (t := 3) rfl (.cons (t := 6) rfl (.cons (t := 8) rfl (.cons (t := 9) rfl .nil)))) rfl (.cons (.of (Ent.refl _)) (.cons (FEnt.mv (by simp [setC]) ⟨[], by simp [setC]⟩ vp_len) (FEnts.refl _ _ _))) ?_
    refine tr_seq ?_
    refine tr_region (fun N5 hN => ?_)
    refine lx (op_bload (m := 3) rfl rfl ag29 sz29) rfl ?_
    refine lx (op_bload (m := 8) rfl rfl ag33 sz33) rfl ?_
    first | refine lx (op_call (l := [(Go.Operand.tmp 26), (Go.Operand.tmp 27)]) (rPut_ok m (setC (rfindF m.objects r.n).1 r v) hb (setC_bd hbf)) (.cons rfl (.cons rfl .nil)) fn29) rfl ?_ | refine lx (op_call (l := [(Go.Operand.tmp 26), (Go.Operand.tmp 27)]) (rPut_ok m (setC (rfindF m.objects r.n).1 r v) hb (setC_bd hbf)) (.ent rfl (by repeat (first | exact Ents.nil | refine Ents.cons ?_ ?_ | refine Ent.tup ?_ | refine Ent.agg ?_ | exact Ent.row _ _ _ _ | exact Ent.nil _ _ | exact Ent.func _ | exact Ent.refl _ | exact Ent.of_eq rfl | refine Ent.cells ?_)) (.ent rfl (by repeat (first | exact Ents.nil | refine Ents.cons ?_ ?_ | refine Ent.tup ?_ | refine Ent.agg ?_ | exact Ent.row _ _ _ _ | exact Ent.nil _ _ | exact Ent.func _ | exact Ent.refl _ | exact Ent.of_eq rfl | refine Ent.cells ?_)) .nil)) fn29) rfl ?_
    refine lx (op_move rfl) rfl ?_
    refine lxr (op_store_all (m := 6) rfl rfl rfl (.agg rfl) sz29 rfl) rfl ?_
    refine lx (op_assign rfl) rfl ?_
    refine lx_end ⟨by kernel_rfl, ?_⟩
    refine pe_then_normal ?_
    refine tr_sub hC (.cons (t := 6) rfl (.cons (t := 7) rfl .nil)) (.cons (t := 6) rfl .nil) rfl ?_
    refine tr_ret ?_
    refine pe_retN (rs := [.cell 6 29, .tmp 7]) rfl rfl hO rfl (.cell (m := 6) rfl rfl ag29 sz29 (.tmp rfl .nil)) ?_
    rw [rstore_y hc]
    repeat (first | exact Ents.nil | refine Ents.cons ?_ ?_ | refine Ent.tup ?_ | refine Ent.agg ?_ | exact Ent.row _ _ _ _ | exact Ent.nil _ _ | exact Ent.func _ | exact Ent.refl _ | exact Ent.of_eq rfl | refine Ent.cells ?_)
end Go.Proofs.Ytibcbiamdjmckaa


set_option linter.unusedVariables false
set_option linter.unusedSimpArgs false
namespace Go.Proofs.Ytibcbiamdjmckaa
open Go.AL Go.Ch Go.Hp Go.RowKit
theorem fcl (xs : List Fm) (hx : xs.length ≤ 4000000) : FnOK Try.prog 52 [slP Fm.ps 9 xs] [] 1 (fun ι => mvP (ι 0) 9 0 xs.length xs.length) (fun ι => [(ι 0, blkX 9 92 (xs.flatMap Fm.ps))]) := by
  refine fn_ownN Try.func52 rfl Try.ntmps52 rfl ?_
  intro σ0 M Rf R hC hO
  simp only [frameOf, tokOf]
  refine tr_seq ?_
  refine tr_region (fun N0 hN => ?_)
  refine lx (op_assign rfl) rfl ?_
  refine lx_end ⟨by kernel_rfl, ?_⟩
  refine pe_then_normal ?_
  refine tr_sub hC (.cons (t := 0) rfl .nil) .nil rfl ?_
  refine tr_seq ?_
  refine tr_seq ?_
  refine tr_region (fun N1 hN => ?_)
  refine lx (op_move rfl) rfl ?_
  refine lx (op_eqnil rfl el68) rfl ?_
  refine lx_end ⟨by kernel_rfl, ?_⟩
  refine pe_then_normal ?_
  refine tr_sub hC (.cons (t := 0) rfl (.cons (t := 4) rfl .nil)) .nil rfl ?_
  refine tr_cond_b rfl (fun h4 => ?_) (fun h4 => ?_)
  · (try simp only [Bool.and_eq_true, Bool.or_eq_true, Bool.and_eq_false_iff, Bool.or_eq_false_iff, decide_eq_true_eq, decide_eq_false_iff_not, Bool.not_eq_true', Bool.not_eq_false', List.length_map, ne_eq, Decidable.not_not, Int.not_lt, Int.not_le] at h4)
    have hxs : xs = [] := by first | exact h4 rfl | exact h4 trivial
    subst hxs
    refine tr_seq ?_
    refine tr_region (fun N2 hN => ?_)
    refine lx (op_assign rfl) rfl ?_
    refine lx_end ⟨by kernel_rfl, ?_⟩
    refine pe_then_normal ?_
    refine tr_sub hC (.cons (t := 2) rfl .nil) .nil rfl ?_
    refine tr_nilmv 9 92 2 600 rfl (by first | exact hC.low _ (by decide) | rfl) (fun idN => ?_)
    refine tr_ret ?_
    refine pe_then_ret ?_
    refine pe_ownS' [600] rfl hO rfl (.tmp rfl .nil) (.cons (m := 600) rfl (RenR.blk _ _ _) .nil) rfl rfl rfl ?_
    intro τ ι hs'
    refine ⟨?_, ?_⟩
    · exact mv_ren (hs' 0 _ rfl).1 (hs' 0 _ rfl).2
    · exact (.moved rfl (fun b o h => h) .nil)
  · (try simp only [Bool.and_eq_true, Bool.or_eq_true, Bool.and_eq_false_iff, Bool.or_eq_false_iff, decide_eq_true_eq, decide_eq_false_iff_not, Bool.not_eq_true', Bool.not_eq_false', List.length_map, ne_eq, Decidable.not_not, Int.not_lt, Int.not_le] at h4)
    refine tr_skip ?_
    refine pe_then_normal ?_
    refine tr_sub hC (.cons (t := 0) rfl .nil) .nil rfl ?_
    refine tr_seq ?_
    refine tr_region (fun N3 hN => ?_)
    refine lxn (op_buildEmptyM (m' := 5) (kk := 5) el68 sz92 (by first | exact hC.low _ (by decide) | rfl)) rfl ?_
    refine lx (op_move rfl) rfl ?_
    refine lxr (op_append_t (m := 5) (m' := 5) (kk := 7) (f := Fm.ps) (xs := []) rfl rfl rfl (.inl rfl) el68 ze92 sz92 by92 rfl (by decide) Fm.len (by simp; omega) (by simp; omega)) rfl ?_
    refine lx (op_assign rfl) rfl ?_
    refine lx_end ⟨by kernel_rfl, ?_⟩
    refine pe_then_normal ?_
    refine tr_sub hC (.cons (t := 2) rfl .nil) (.cons (t := 5) rfl .nil) rfl ?_
    refine tr_ret ?_
    refine pe_ownS' [5] rfl hO rfl (.tmp rfl .nil) (.cons (m := 5) rfl (RenR.blk _ _ _) .nil) rfl rfl rfl ?_
    intro τ ι hs'
    refine ⟨?_, ?_⟩
    · exact mv_ren (hs' 0 _ rfl).1 (hs' 0 _ rfl).2
    · exact (.moved rfl (fun b o h => h) .nil)
theorem dcl (xs : List Df) (hx : xs.length ≤ 4000000) : FnOK Try.prog 54 [slP Df.ps 2 xs] [] 1 (fun ι => mvP (ι 0) 2 0 xs.length xs.length) (fun ι => [(ι 0, blkX 2 94 (xs.flatMap Df.ps))]) := by
  refine fn_ownN Try.func54 rfl Try.ntmps54 rfl ?_
  intro σ0 M Rf R hC hO
  simp only [frameOf, tokOf]
  refine tr_seq ?_
  refine tr_region (fun N0 hN => ?_)
  refine lx (op_assign rfl) rfl ?_
  refine lx_end ⟨by kernel_rfl, ?_⟩
  refine pe_then_normal ?_
  refine tr_sub hC (.cons (t := 0) rfl .nil) .nil rfl ?_
  refine tr_seq ?_
  refine tr_seq ?_
  refine tr_region (fun N1 hN => ?_)
  refine lx (op_move rfl) rfl ?_
  refine lx (op_eqnil rfl el90) rfl ?_
  refine lx_end ⟨by kernel_rfl, ?_⟩
  refine pe_then_normal ?_
  refine tr_sub hC (.cons (t := 0) rfl (.cons (t := 4) rfl .nil)) .nil rfl ?_
  refine tr_cond_b rfl (fun h4 => ?_) (fun h4 => ?_)
  · (try simp only [Bool.and_eq_true, Bool.or_eq_true, Bool.and_eq_false_iff, Bool.or_eq_false_iff, decide_eq_true_eq, decide_eq_false_iff_not, Bool.not_eq_true', Bool.not_eq_false', List.length_map, ne_eq, Decidable.not_not, Int.not_lt, Int.not_le] at h4)
    have hxs : xs = [] := by first | exact h4 rfl | exact h4 trivial
    subst hxs
    refine tr_seq ?_
    refine tr_region (fun N2 hN => ?_)
    refine lx (op_assign rfl) rfl ?_
    refine lx_end ⟨by kernel_rfl, ?_⟩
    refine pe_then_normal ?_
    refine tr_sub hC (.cons (t := 2) rfl .nil) .nil rfl ?_
    refine tr_nilmv 2 94 2 600 rfl (by first | exact hC.low _ (by decide) | rfl) (fun idN => ?_)
    refine tr_ret ?_
    refine pe_then_ret ?_
    refine pe_ownS' [600] rfl hO rfl (.tmp rfl .nil) (.cons (m := 600) rfl (RenR.blk _ _ _) .nil) rfl rfl rfl ?_
    intro τ ι hs'
    refine ⟨?_, ?_⟩
    · exact mv_ren (hs' 0 _ rfl).1 (hs' 0 _ rfl).2
    · exact (.moved rfl (fun b o h => h) .nil)
  · (try simp only [Bool.and_eq_true, Bool.or_eq_true, Bool.and_eq_false_iff, Bool.or_eq_false_iff, decide_eq_true_eq, decide_eq_false_iff_not, Bool.not_eq_true', Bool.not_eq_false', List.length_map, ne_eq, Decidable.not_not, Int.not_lt, Int.not_le] at h4)
    refine tr_skip ?_
    refine pe_then_normal ?_
    refine tr_sub hC (.cons (t := 0) rfl .nil) .nil rfl ?_
    refine tr_seq ?_
    refine tr_region (fun N3 hN => ?_)
    refine lxn (op_buildEmptyM (m' := 5) (kk := 5) el90 sz94 (by first | exact hC.low _ (by decide) | rfl)) rfl ?_
    refine lx (op_move rfl) rfl ?_
    refine lxr (op_append_t (m := 5) (m' := 5) (kk := 7) (f := Df.ps) (xs := []) rfl rfl rfl (.inl rfl) el90 ze94 sz94 by94 rfl (by decide) Df.len (by simp; omega) (by simp; omega)) rfl ?_
    refine lx (op_assign rfl) rfl ?_
    refine lx_end ⟨by kernel_rfl, ?_⟩
    refine pe_then_normal ?_
    refine tr_sub hC (.cons (t := 2) rfl .nil) (.cons (t := 5) rfl .nil) rfl ?_
    refine tr_ret ?_
    refine pe_ownS' [5] rfl hO rfl (.tmp rfl .nil) (.cons (m := 5) rfl (RenR.blk _ _ _) .nil) rfl rfl rfl ?_
    intro τ ι hs'
    refine ⟨?_, ?_⟩
    · exact mv_ren (hs' 0 _ rfl).1 (hs' 0 _ rfl).2
    · exact (.moved rfl (fun b o h => h) .nil)
theorem vcl_own (xs : List V) (hx : xs.length ≤ 4000000) : FnOK Try.prog 53 [slP vp 3 xs] [] 1 (fun ι => mvP (ι 0) 3 0 xs.length xs.length) (fun ι => [(ι 0, blkX 3 41 (xs.flatMap vp))]) := by
  refine fn_ownN Try.func53 rfl Try.ntmps53 rfl ?_
  intro σ0 M Rf R hC hO
  simp only [frameOf, tokOf]
  refine tr_seq ?_
  refine tr_region (fun N0 hN => ?_)
  refine lx (op_assign rfl) rfl ?_
  refine lx_end ⟨by kernel_rfl, ?_⟩
  refine pe_then_normal ?_
  refine tr_sub hC (.cons (t := 0) rfl .nil) .nil rfl ?_
  refine tr_seq ?_
  refine tr_seq ?_
  refine tr_region (fun N1 hN => ?_)
  refine lx (op_move rfl) rfl ?_
  refine lx (op_eqnil rfl el30) rfl ?_
  refine lx_end ⟨by kernel_rfl, ?_⟩
  refine pe_then_normal ?_
  refine tr_sub hC (.cons (t := 0) rfl (.cons (t := 4) rfl .nil)) .nil rfl ?_
  refine tr_cond_b rfl (fun h4 => ?_) (fun h4 => ?_)
  · (try simp only [Bool.and_eq_true, Bool.or_eq_true, Bool.and_eq_false_iff, Bool.or_eq_false_iff, decide_eq_true_eq, decide_eq_false_iff_not, Bool.not_eq_true', Bool.not_eq_false', List.length_map, ne_eq, Decidable.not_not, Int.not_lt, Int.not_le] at h4)
    have hxs : xs = [] := by first | exact h4 rfl | exact h4 trivial
    subst hxs
    refine tr_seq ?_
    refine tr_region (fun N2 hN => ?_)
    refine lx (op_assign rfl) rfl ?_
    refine lx_end ⟨by kernel_rfl, ?_⟩
    refine pe_then_normal ?_
    refine tr_sub hC (.cons (t := 2) rfl .nil) .nil rfl ?_
    refine tr_nilmv 3 41 2 600 rfl (by first | exact hC.low _ (by decide) | rfl) (fun idN => ?_)
    refine tr_ret ?_
    refine pe_then_ret ?_
    refine pe_ownS' [600] rfl hO rfl (.tmp rfl .nil) (.cons (m := 600) rfl (RenR.blk _ _ _) .nil) rfl rfl rfl ?_
    intro τ ι hs'
    refine ⟨?_, ?_⟩
    · exact mv_ren (hs' 0 _ rfl).1 (hs' 0 _ rfl).2
    · exact (.moved rfl (fun b o h => h) .nil)
  · (try simp only [Bool.and_eq_true, Bool.or_eq_true, Bool.and_eq_false_iff, Bool.or_eq_false_iff, decide_eq_true_eq, decide_eq_false_iff_not, Bool.not_eq_true', Bool.not_eq_false', List.length_map, ne_eq, Decidable.not_not, Int.not_lt, Int.not_le] at h4)
    refine tr_skip ?_
    refine pe_then_normal ?_
    refine tr_sub hC (.cons (t := 0) rfl .nil) .nil rfl ?_
    refine tr_seq ?_
    refine tr_region (fun N3 hN => ?_)
    refine lxn (op_buildEmptyM (m' := 5) (kk := 5) el30 sz41 (by first | exact hC.low _ (by decide) | rfl)) rfl ?_
    refine lx (op_move rfl) rfl ?_
    refine lxr (op_append_t (m := 5) (m' := 5) (kk := 7) (f := vp) (xs := []) rfl rfl rfl (.inl rfl) el30 ze41 sz41 by41 rfl (by decide) vp_len (by simp; omega) (by simp; omega)) rfl ?_
    refine lx (op_assign rfl) rfl ?_
    refine lx_end ⟨by kernel_rfl, ?_⟩
    refine pe_then_normal ?_
    refine tr_sub hC (.cons (t := 2) rfl .nil) (.cons (t := 5) rfl .nil) rfl ?_
    refine tr_ret ?_
    refine pe_ownS' [5] rfl hO rfl (.tmp rfl .nil) (.cons (m := 5) rfl (RenR.blk _ _ _) .nil) rfl rfl rfl ?_
    intro τ ι hs'
    refine ⟨?_, ?_⟩
    · exact mv_ren (hs' 0 _ rfl).1 (hs' 0 _ rfl).2
    · exact (.moved rfl (fun b o h => h) .nil)
theorem own_own (o : Ob) (hs : BdO 4000000 o) : FnOK Try.prog 42 [aggP o.ps] [] 1 (fun ι => aggP (obCs o (ι 0))) (fun ι => [(ι 0, blkX 3 41 (o.cells.flatMap vp))]) := by
  refine fn_ownN Try.func42 rfl Try.ntmps42 rfl ?_
  intro σ0 M Rf R hC hO
  simp only [frameOf, tokOf]
  refine tr_seq ?_
  refine tr_region (fun N0 hN => ?_)
  refine lxn (op_box (m := 1) (k := 1) rfl (.agg rfl) (by first | exact hC.low _ (by decide) | rfl)) rfl ?_
  refine lxn (op_alloc (m := 2) (k := 2) (ps := [eqP (.int .i64 0), eqP (.slice none 0 0), eqP (.bool false), eqP (.int .i64 0), eqP (.slice none 0 0), eqP (.bool false), eqP (.int .i64 0), eqP (.int .i64 0), eqP (.slice none 0 0), eqP (.slice none 0 0)]) ze33 rfl rfl (by first | exact hC.low _ (by decide) | rfl)) rfl ?_
  refine lx_end ⟨by kernel_rfl, ?_⟩
  refine pe_then_normal ?_
  refine tr_sub hC (.cons (t := 1) rfl (.cons (t := 2) rfl .nil)) (.cons (t := 1) rfl (.cons (t := 2) rfl .nil)) rfl ?_
  refine tr_seq ?_
  refine tr_region (fun N1 hN => ?_)
  refine lx (op_fieldAddr rfl fl33_1 sz30) rfl ?_
  refine lx (op_bload_one (m := 1) rfl rfl ag30 rfl) rfl ?_
  first | refine lx_any rfl (op_callG2 (l := [(Go.Operand.tmp 4)]) (add := [(601, ((N1, 100050), blkX 3 41 (o.cells.flatMap vp)))]) (ks := [100050]) (φ := mvP (N1, 100050) 3 0 o.cells.length o.cells.length) .nil (vcl_own o.cells hs.cells) (.cons rfl .nil) fn53 rfl rfl rfl (.new (by first | exact hC.low _ (by decide) | rfl) .nil) rfl) (dOK_spec rfl) ?_ | refine lx_any rfl (op_callG2 (l := [(Go.Operand.tmp 4)]) (add := [(601, ((N1, 100050), blkX 3 41 (o.cells.flatMap vp)))]) (ks := [100050]) (φ := mvP (N1, 100050) 3 0 o.cells.length o.cells.length) .nil (vcl_own o.cells hs.cells) (.ent rfl (by repeat (first | exact Ents.nil | refine Ents.cons ?_ ?_ | refine Ent.tup ?_ | refine Ent.agg ?_ | exact Ent.row _ _ _ _ | exact Ent.nil _ _ | exact Ent.func _ | exact Ent.refl _ | exact Ent.of_eq rfl | refine Ent.cells ?_)) .nil) fn53 rfl rfl rfl (.new (by first | exact hC.low _ (by decide) | rfl) .nil) rfl) (dOK_spec rfl) ?_
  refine lx (op_fieldAddr rfl fl33_1 sz30) rfl ?_
  refine lxr (op_store (m := 1) (rs := [_, _, _, _, _, _, _, _, _, _]) rfl rfl rfl (.one (by (first | exact One.eq rfl | exact One.mv _ _ _ _ _ | exact One.cl _ _ _ | exact One.map _ | exact One.sl _ _ _ | exact One.row _ _ _ _ | exact One.msl _ _ _ _ | exact One.ptr _ _ | exact One.b _ | exact One.cells _))) sz30 rfl rfl rfl) rfl ?_
  refine lx_end ⟨by kernel_rfl, ?_⟩
  refine pe_then_normal ?_
  refine tr_sub hC (.cons (t := 1) rfl (.cons (t := 2) rfl .nil)) (.cons (t := 1) rfl (.cons (t := 2) rfl (.cons (t := 601) rfl .nil))) rfl ?_
  refine tr_seq ?_
  refine tr_region (fun N2 hN => ?_)
  refine lx (op_fieldAddr rfl fl33_4 sz30) rfl ?_
  refine lx (op_bload_one (m := 1) rfl rfl ag30 rfl) rfl ?_
  first | refine lx (op_call (l := [(Go.Operand.tmp 8)]) (vcl o.queue hs.queue) (.cons rfl .nil) fn53) rfl ?_ | refine lx (op_call (l := [(Go.Operand.tmp 8)]) (vcl o.queue hs.queue) (.ent rfl (by repeat (first | exact Ents.nil | refine Ents.cons ?_ ?_ | refine Ent.tup ?_ | refine Ent.agg ?_ | exact Ent.row _ _ _ _ | exact Ent.nil _ _ | exact Ent.func _ | exact Ent.refl _ | exact Ent.of_eq rfl | refine Ent.cells ?_)) .nil) fn53) rfl ?_
  refine lx (op_fieldAddr rfl fl33_4 sz30) rfl ?_
  refine lxr (op_store (m := 1) (rs := [_, _, _, _, _, _, _, _, _, _]) rfl rfl rfl (.one (by (first | exact One.eq rfl | exact One.mv _ _ _ _ _ | exact One.cl _ _ _ | exact One.map _ | exact One.sl _ _ _ | exact One.row _ _ _ _ | exact One.msl _ _ _ _ | exact One.ptr _ _ | exact One.b _ | exact One.cells _))) sz30 rfl rfl rfl) rfl ?_
  refine lx_end ⟨by kernel_rfl, ?_⟩
  refine pe_then_normal ?_
  refine tr_sub hC (.cons (t := 1) rfl (.cons (t := 2) rfl .nil)) (.cons (t := 1) rfl (.cons (t := 2) rfl (.cons (t := 601) rfl .nil))) rfl ?_
  refine tr_seq ?_
  refine tr_region (fun N3 hN => ?_)
  refine lx (op_fieldAddr rfl fl33_8 sz31) rfl ?_
  refine lx (op_bload_one (m := 1) rfl rfl ag31 rfl) rfl ?_
  first | refine lx (op_call (l := [(Go.Operand.tmp 12)]) (wcl o.senders hs.senders) (.cons rfl .nil) fn58) rfl ?_ | refine lx (op_call (l := [(Go.Operand.tmp 12)]) (wcl o.senders hs.senders) (.ent rfl (by repeat (first | exact Ents.nil | refine Ents.cons ?_ ?_ | refine Ent.tup ?_ | refine Ent.agg ?_ | exact Ent.row _ _ _ _ | exact Ent.nil _ _ | exact Ent.func _ | exact Ent.refl _ | exact Ent.of_eq rfl | refine Ent.cells ?_)) .nil) fn58) rfl ?_
  refine lx (op_fieldAddr rfl fl33_8 sz31) rfl ?_
  refine lxr (op_store (m := 1) (rs := [_, _, _, _, _, _, _, _, _, _]) rfl rfl rfl (.one (by (first | exact One.eq rfl | exact One.mv _ _ _ _ _ | exact One.cl _ _ _ | exact One.map _ | exact One.sl _ _ _ | exact One.row _ _ _ _ | exact One.msl _ _ _ _ | exact One.ptr _ _ | exact One.b _ | exact One.cells _))) sz31 rfl rfl rfl) rfl ?_
  refine lx_end ⟨by kernel_rfl, ?_⟩
  refine pe_then_normal ?_
  refine tr_sub hC (.cons (t := 1) rfl (.cons (t := 2) rfl .nil)) (.cons (t := 1) rfl (.cons (t := 2) rfl (.cons (t := 601) rfl .nil))) rfl ?_
  refine tr_seq ?_
  refine tr_region (fun N4 hN => ?_)
  refine lx (op_fieldAddr rfl fl33_9 sz31) rfl ?_
  refine lx (op_bload_one (m := 1) rfl rfl ag31 rfl) rfl ?_
  first | refine lx (op_call (l := [(Go.Operand.tmp 16)]) (wcl o.receivers hs.receivers) (.cons rfl .nil) fn58) rfl ?_ | refine lx (op_call (l := [(Go.Operand.tmp 16)]) (wcl o.receivers hs.receivers) (.ent rfl (by repeat (first | exact Ents.nil | refine Ents.cons ?_ ?_ | refine Ent.tup ?_ | refine Ent.agg ?_ | exact Ent.row _ _ _ _ | exact Ent.nil _ _ | exact Ent.func _ | exact Ent.refl _ | exact Ent.of_eq rfl | refine Ent.cells ?_)) .nil) fn58) rfl ?_
  refine lx (op_fieldAddr rfl fl33_9 sz31) rfl ?_
  refine lxr (op_store (m := 1) (rs := [_, _, _, _, _, _, _, _, _, _]) rfl rfl rfl (.one (by (first | exact One.eq rfl | exact One.mv _ _ _ _ _ | exact One.cl _ _ _ | exact One.map _ | exact One.sl _ _ _ | exact One.row _ _ _ _ | exact One.msl _ _ _ _ | exact One.ptr _ _ | exact One.b _ | exact One.cells _))) sz31 rfl rfl rfl) rfl ?_
  refine lx_end ⟨by kernel_rfl, ?_⟩
  refine pe_then_normal ?_
  refine tr_sub hC (.cons (t := 1) rfl (.cons (t := 2) rfl .nil)) (.cons (t := 1) rfl (.cons (t := 2) rfl (.cons (t := 601) rfl .nil))) rfl ?_
  refine tr_seq ?_
  refine tr_region (fun N5 hN => ?_)
  refine lx (op_bload (m := 1) rfl rfl ag33 sz33) rfl ?_
  refine lxr (op_store_all (m := 2) rfl rfl rfl (.agg rfl) sz33 rfl) rfl ?_
  refine lx_end ⟨by kernel_rfl, ?_⟩
  refine pe_then_normal ?_
  refine tr_sub hC (.cons (t := 2) rfl .nil) (.cons (t := 2) rfl (.cons (t := 601) rfl .nil)) rfl ?_
  refine tr_ret ?_
  refine pe_ownS' [601] rfl hO rfl (.cell (m := 2) rfl rfl ag33 sz33 .nil) (.cons (m := 601) rfl (RenR.blk _ _ _) .nil) rfl rfl rfl ?_
  intro τ ι hs'
  refine ⟨?_, ?_⟩
  · exact aggP_at (.cons (ent_at (Ent.refl _)) (.cons (mv_ren (hs' 0 _ rfl).1 (hs' 0 _ rfl).2) (.cons (ent_at (Ent.refl _)) (.cons (ent_at (Ent.refl _)) (.cons (ent_at (Ent.refl _)) (.cons (ent_at (Ent.refl _)) (.cons (ent_at (Ent.refl _)) (.cons (ent_at (Ent.refl _)) (.cons (ent_at (Ent.refl _)) (.cons (ent_at (Ent.refl _)) .nil))))))))))
  · exact (.moved rfl (fun b o h => h) .nil)
end Go.Proofs.Ytibcbiamdjmckaa


set_option linter.unusedVariables false
set_option linter.unusedSimpArgs false
namespace Go.Proofs.Ytibcbiamdjmckaa
open Go.AL Go.Ch Go.Hp Go.RowKit
theorem fn51 : fnB Try.prog 51 = true := by kernel_rfl
theorem fn52 : fnB Try.prog 52 = true := by kernel_rfl
theorem fn54 : fnB Try.prog 54 = true := by kernel_rfl
theorem set_same {α : Type} {xs : List α} {j : Nat} {z : α} (h : xs[j]? = some z) : xs.set j z = xs := by
  obtain ⟨hj, rfl⟩ := List.getElem?_eq_some_iff.1 h
  exact List.set_getElem_self hj
section
variable {P : Program} {n N : Nat} {F : Fr} {R : Toks} {T Ty B : TypeId} {pos : String} {after : Array Edge} {m κ k : Nat} {id : AL.Id} {α : Type} {xs : List α} {f : α → List Pred}
/-- a store of what was there -/
theorem op_tstore_id {x y : Operand} {off j fo w : Nat} {z : α} {p : Pred} {qs : List Pred} (hx : opd F x = some (ptrP id off)) (hy : opd F y = some p) (hR : R m = some (id, blkX κ B (xs.flatMap f))) (hv : Val p qs) (hs : sizeB P Ty = some w) (hl : Nat.beq qs.length w = true)
    (hk : ∀ z, (f z).length = k) (hoff : off = j * k + fo) (hz : xs[j]? = some z) (hw : Nat.ble (fo + w) k = true) (hq : splice (f z) fo qs = f z) :
    OpJ P n N F R ⟨none, .store Ty x y, T, pos, after, none⟩ ⟨rdo x (ptrP id off) ++ rdo y p, [], [(m, id, blkX κ B (xs.flatMap f))], [(m, id, blkX κ B (xs.flatMap f))], [], eqP undef⟩ := by
  have h := op_tstore (P := P) (n := n) (N := N) (T := T) (pos := pos) (after := after) (z' := z) hx hy hR hv hs hl hk hoff hz hw hq
  rwa [set_same hz] at h
end
end Go.Proofs.Ytibcbiamdjmckaa


set_option linter.unusedVariables false
set_option linter.unusedSimpArgs false
namespace Go.Proofs.Ytibcbiamdjmckaa
open Go.AL Go.Ch Go.Hp Go.RowKit
set_option maxHeartbeats 4000000 in
theorem copied_own (m : Mc) (hb : Bd 4000000 m) : FnOK Try.prog 40 [aggP m.ps] [] 2 (fun ι => aggP ([mvP (ι 0) 10 0 m.objects.length m.objects.length, slP Sy.ps 6 m.syncs, mvP (ι 1) 4 0 m.gors.length m.gors.length, slP ip 1 m.output])) (fun ι => [(ι 0, blkX 10 33 (m.objects.flatMap Ob.ps)), (ι 1, blkX 4 70 (m.gors.flatMap Gr.ps))]) := by
  have hbo := hb.objects
  have hbs := hb.syncs
  have hbg := hb.gors
  have hbt := hb.output
  refine fn_ownN Try.func40 rfl Try.ntmps40 rfl ?_
  intro σ0 M Rf R hC hO
  simp only [frameOf, tokOf]
  refine tr_seq ?_
  refine tr_region (fun N0 hN => ?_)
  refine lxn (op_box (m := 1) (k := 1) rfl (.agg rfl) (by first | exact hC.low _ (by decide) | rfl)) rfl ?_
  refine lxn (op_alloc (m := 2) (k := 2) (ps := [eqP (.slice none 0 0), eqP (.slice none 0 0), eqP (.slice none 0 0), eqP (.slice none 0 0)]) ze29 rfl rfl (by first | exact hC.low _ (by decide) | rfl)) rfl ?_
  refine lx_end ⟨by kernel_rfl, ?_⟩
  refine pe_then_normal ?_
  refine tr_sub hC (.cons (t := 1) rfl (.cons (t := 2) rfl .nil)) (.cons (t := 1) rfl (.cons (t := 2) rfl .nil)) rfl ?_
  refine tr_seq ?_
  refine tr_region (fun N1 hN => ?_)
  refine lx (op_fieldAddr rfl fl29_3 sz27) rfl ?_
  refine lx (op_bload_one (m := 1) rfl rfl ag27 rfl) rfl ?_
  first | refine lx (op_call (l := [(Go.Operand.tmp 15)]) (icl m.output hbt) (.cons rfl .nil) fn51) rfl ?_ | refine lx (op_call (l := [(Go.Operand.tmp 15)]) (icl m.output hbt) (.ent rfl (by repeat (first | exact Ents.nil | refine Ents.cons ?_ ?_ | refine Ent.tup ?_ | refine Ent.agg ?_ | exact Ent.row _ _ _ _ | exact Ent.nil _ _ | exact Ent.func _ | exact Ent.refl _ | exact Ent.of_eq rfl | refine Ent.cells ?_)) .nil) fn51) rfl ?_
  refine lx (op_build (qs := [_, _, _, _]) (parts := [(3, (Go.Operand.tmp 16))]) ze29 rfl rfl fs29 (.cons rfl (.one (by (first | exact One.eq rfl | exact One.mv _ _ _ _ _ | exact One.cl _ _ _ | exact One.map _ | exact One.sl _ _ _ | exact One.row _ _ _ _ | exact One.msl _ _ _ _ | exact One.ptr _ _ | exact One.b _ | exact One.cells _))) fl29_3 sz27 rfl .nil) rfl rfl) rfl ?_
  refine lxn (op_alloc (m := 3) (k := 3) (ps := [eqP (.slice none 0 0), eqP (.slice none 0 0), eqP (.slice none 0 0), eqP (.slice none 0 0)]) ze29 rfl rfl (by first | exact hC.low _ (by decide) | rfl)) rfl ?_
  refine lxr (op_store_all (m := 3) rfl rfl rfl (.agg rfl) sz29 rfl) rfl ?_
  refine lx_end ⟨by kernel_rfl, ?_⟩
  refine pe_then_normal ?_
  refine tr_sub hC (.cons (t := 1) rfl (.cons (t := 2) rfl (.cons (t := 3) rfl .nil))) (.cons (t := 1) rfl (.cons (t := 2) rfl (.cons (t := 3) rfl .nil))) rfl ?_
  refine tr_seq ?_
  refine tr_seq ?_
  refine tr_region (fun N2 hN => ?_)
  refine lx (op_fieldAddr rfl fl29_0 sz22) rfl ?_
  refine lx (op_bload_one (m := 1) rfl rfl ag22 rfl) rfl ?_
  first | refine lx (op_len rfl el22) rfl ?_ | refine lx (op_len_row rfl el22) rfl ?_ | refine lx (op_len_mv rfl el22) rfl ?_ | refine lx (op_len_nil rfl el22) rfl ?_
  refine lx (op_move rfl) rfl ?_
  refine lx_end ⟨by kernel_rfl, ?_⟩
  refine pe_then_normal ?_
  refine tr_sub hC (.cons (t := 1) rfl (.cons (t := 2) rfl (.cons (t := 3) rfl (.cons (t := 19) rfl (.cons (t := 20) rfl (.cons (t := 21) rfl .nil)))))) (.cons (t := 1) rfl (.cons (t := 2) rfl (.cons (t := 3) rfl .nil))) rfl ?_
  refine tr_block ?_
  refine tr_nilboxM 10 33 3 0 600 rfl rfl (by first | exact hC.low _ (by decide) | rfl) (fun idN => ?_)
  try dsimp only [List.set]
  refine tr_loopK (α := {zz : Nat × (List Ob) × AL.Id // zz.1 ≤ m.objects.length ∧ zz.2.1 = m.objects.take zz.1}) (⟨(0, [], idN), Nat.zero_le _, rfl⟩) (fun zz => [(21, eqP (.int .i64 (zz.1.1 : Int)))]) (fun zz => [(3, some ((N1, 3), blk 29 [mvP zz.1.2.2 10 0 zz.1.2.1.length zz.1.2.1.length, eqP (.slice none 0 0), eqP (.slice none 0 0), slP ip 1 m.output])), (600, some (zz.1.2.2, blkX 10 33 (zz.1.2.1.flatMap Ob.ps)))]) (fun zz => m.objects.length - zz.1.1) hC (.cons (t := 1) rfl (.cons (t := 2) rfl (.cons (t := 3) rfl (.cons (t := 19) rfl (.cons (t := 20) rfl .nil))))) (.cons (t := 1) rfl (.cons (t := 2) rfl .nil)) rfl ?_ ?_ (fun zz => ?_)
  · try dsimp only [List.cons_append, List.nil_append]
    first | refine SubF.cons rfl ?_ | (refine SubF.ent rfl ?_ ?_; · repeat (first | exact Ents.nil | refine Ents.cons ?_ ?_ | refine Ent.tup ?_ | refine Ent.agg ?_ | exact Ent.row _ _ _ _ | exact Ent.nil _ _ | exact Ent.func _ | exact Ent.refl _ | exact Ent.of_eq rfl | refine Ent.cells ?_))
    exact SubF.nil
  · try dsimp only [List.cons_append, List.nil_append]
    repeat (first | exact SubL.nil | refine SubL.cons rfl ?_)
  · obtain ⟨⟨k, xs, io⟩, hk1, hxs⟩ := zz
    try dsimp only at hk1
    try dsimp only at hxs
    dsimp only [List.cons_append, List.nil_append]
    refine tr_seq ?_
    refine tr_region (fun N3 hN => ?_)
    refine lx (op_lss rfl rfl) rfl ?_
    refine lx_end ⟨by kernel_rfl, ?_⟩
    refine pe_then_normal ?_
    refine tr_sub hC (.cons (t := 1) rfl (.cons (t := 2) rfl (.cons (t := 3) rfl (.cons (t := 19) rfl (.cons (t := 20) rfl (.cons (t := 21) rfl (.cons (t := 22) rfl .nil))))))) (.cons (t := 3) rfl (.cons (t := 600) rfl (.cons (t := 1) rfl (.cons (t := 2) rfl .nil)))) rfl ?_
    refine tr_seq ?_
    refine tr_cond rfl (fun h22 => ?_) (fun h22 => ?_)
    · (try simp only [Bool.and_eq_true, Bool.or_eq_true, Bool.and_eq_false_iff, Bool.or_eq_false_iff, decide_eq_true_eq, decide_eq_false_iff_not, Bool.not_eq_true', Bool.not_eq_false', List.length_map, ne_eq, Decidable.not_not, Int.not_lt, Int.not_le] at h22)
      have hbk := hb.object _ (List.getElem_mem (by omega : k < m.objects.length))
      have hxl : xs.length ≤ k := by rw [hxs, List.length_take]; omega
      refine tr_skip ?_
      refine pe_then_normal ?_
      refine tr_sub hC (.cons (t := 1) rfl (.cons (t := 2) rfl (.cons (t := 3) rfl (.cons (t := 19) rfl (.cons (t := 20) rfl (.cons (t := 21) rfl .nil)))))) (.cons (t := 3) rfl (.cons (t := 600) rfl (.cons (t := 1) rfl (.cons (t := 2) rfl .nil)))) rfl ?_
      refine tr_seq ?_
      refine tr_block ?_
      refine tr_seq ?_
      refine tr_region (fun N4 hN => ?_)
      refine lx (op_index rfl rfl el22 sz33 rfl (List.getElem?_eq_getElem (by omega : k < m.objects.length))) rfl ?_
      first | refine lx (op_load_all rfl ag33 sz33) rfl ?_ | refine lx (op_load_agg rfl ag33 sz33 rfl) rfl ?_ | refine lx (op_bload (m := 3) rfl rfl ag33 sz33) rfl ?_ | refine lx (op_bload (m := 600) rfl rfl ag33 sz33) rfl ?_ | refine lx (op_bload (m := 1) rfl rfl ag33 sz33) rfl ?_ | refine lx (op_bload (m := 2) rfl rfl ag33 sz33) rfl ?_ | refine lx (op_bload_part (m := 3) (qs := [_, _, _, _, _, _, _, _, _, _]) rfl rfl ag33 sz33 rfl rfl) rfl ?_ | refine lx (op_bload_part (m := 600) (qs := [_, _, _, _, _, _, _, _, _, _]) rfl rfl ag33 sz33 rfl rfl) rfl ?_ | refine lx (op_bload_part (m := 1) (qs := [_, _, _, _, _, _, _, _, _, _]) rfl rfl ag33 sz33 rfl rfl) rfl ?_ | refine lx (op_bload_part (m := 2) (qs := [_, _, _, _, _, _, _, _, _, _]) rfl rfl ag33 sz33 rfl rfl) rfl ?_
      refine lxn (op_alloc (m := 5) (k := 5) (ps := [eqP (.int .i64 0), eqP (.slice none 0 0), eqP (.bool false), eqP (.int .i64 0), eqP (.slice none 0 0), eqP (.bool false), eqP (.int .i64 0), eqP (.int .i64 0), eqP (.slice none 0 0), eqP (.slice none 0 0)]) ze33 rfl rfl (by first | exact hC.low _ (by decide) | rfl)) rfl ?_
      refine lxr (op_store_all (m := 5) rfl rfl rfl (.agg rfl) sz33 rfl) rfl ?_
      refine lx_end ⟨by kernel_rfl, ?_⟩
      refine pe_then_normal ?_
      refine tr_sub hC (.cons (t := 1) rfl (.cons (t := 2) rfl (.cons (t := 3) rfl (.cons (t := 5) rfl (.cons (t := 19) rfl (.cons (t := 20) rfl (.cons (t := 21) rfl .nil))))))) (.cons (t := 3) rfl (.cons (t := 600) rfl (.cons (t := 1) rfl (.cons (t := 2) rfl (.cons (t := 5) rfl .nil))))) rfl ?_
      refine tr_drawn mixed (fun N5 hN => ?_)
      refine lx (op_fieldAddr rfl fl29_0 sz22) rfl ?_
      refine lx (op_bload_one (m := 3) rfl rfl ag22 rfl) rfl ?_
      refine lx (op_bload (m := 5) rfl rfl ag33 sz33) rfl ?_
      first | refine lx (op_call (l := [(Go.Operand.tmp 27)]) (own_ok m.objects[k] hbk) (.cons rfl .nil) fn42) rfl ?_ | refine lx (op_call (l := [(Go.Operand.tmp 27)]) (own_ok m.objects[k] hbk) (.ent rfl (by repeat (first | exact Ents.nil | refine Ents.cons ?_ ?_ | refine Ent.tup ?_ | refine Ent.agg ?_ | exact Ent.row _ _ _ _ | exact Ent.nil _ _ | exact Ent.func _ | exact Ent.refl _ | exact Ent.of_eq rfl | refine Ent.cells ?_)) .nil) fn42) rfl ?_
      refine lx (op_buildSlice (f := Ob.ps) (xs := [m.objects[k]]) (l := [(0, (Go.Operand.tmp 28))]) ze33 rfl rfl (by decide) el22 sz33 Ob.len (.cons rfl (.agg rfl) .nil) rfl (by decide)) rfl ?_
      refine lxr (op_append_t (m := 600) (m' := 600) (kk := 30) (f := Ob.ps) rfl rfl rfl (.inl rfl) el22 ze33 sz33 by33 rfl (by decide) Ob.len (by rw [List.length_singleton]; omega) (by rw [List.length_singleton]; omega)) rfl ?_
      refine lx (op_fieldAddr rfl fl29_0 sz22) rfl ?_
      refine lxr (op_store (m := 3) (rs := [_, _, _, _]) rfl rfl rfl (.one (by (first | exact One.eq rfl | exact One.mv _ _ _ _ _ | exact One.cl _ _ _ | exact One.map _ | exact One.sl _ _ _ | exact One.row _ _ _ _ | exact One.msl _ _ _ _ | exact One.ptr _ _ | exact One.b _ | exact One.cells _))) sz22 rfl rfl rfl) rfl ?_
      refine lx_end ⟨by kernel_rfl, ?_⟩
      refine pe_block_normal ?_
      refine pe_then_normal ?_
      refine tr_sub hC (.cons (t := 1) rfl (.cons (t := 2) rfl (.cons (t := 3) rfl (.cons (t := 19) rfl (.cons (t := 20) rfl (.cons (t := 21) rfl .nil)))))) (.cons (t := 3) rfl (.cons (t := 1) rfl (.cons (t := 2) rfl (.cons (t := 600) rfl .nil)))) rfl ?_
      refine tr_region (fun N6 hN => ?_)
      refine lx (op_add rfl rfl (by omega)) rfl ?_
      refine lx (op_move rfl) rfl ?_
      refine lx_end ⟨by kernel_rfl, ?_⟩
      refine pe_round (⟨(k + 1, xs ++ [m.objects[k]], (N5, 30)), by dsimp only; omega, by dsimp only; rw [hxs, take_at (by omega : k < m.objects.length)]⟩) (by dsimp only; omega) (pe_st hC ?_ ?_ rfl)
      · try dsimp only [List.cons_append, List.nil_append]
        first | refine SubF.cons rfl ?_ | (refine SubF.ent rfl ?_ ?_; · repeat (first | exact Ents.nil | refine Ents.cons ?_ ?_ | refine Ent.tup ?_ | refine Ent.agg ?_ | exact Ent.row _ _ _ _ | exact Ent.nil _ _ | exact Ent.func _ | exact Ent.refl _ | exact Ent.of_eq rfl | refine Ent.cells ?_))
        first | refine SubF.cons rfl ?_ | (refine SubF.ent rfl ?_ ?_; · repeat (first | exact Ents.nil | refine Ents.cons ?_ ?_ | refine Ent.tup ?_ | refine Ent.agg ?_ | exact Ent.row _ _ _ _ | exact Ent.nil _ _ | exact Ent.func _ | exact Ent.refl _ | exact Ent.of_eq rfl | refine Ent.cells ?_))
        first | refine SubF.cons rfl ?_ | (refine SubF.ent rfl ?_ ?_; · repeat (first | exact Ents.nil | refine Ents.cons ?_ ?_ | refine Ent.tup ?_ | refine Ent.agg ?_ | exact Ent.row _ _ _ _ | exact Ent.nil _ _ | exact Ent.func _ | exact Ent.refl _ | exact Ent.of_eq rfl | refine Ent.cells ?_))
        first | refine SubF.cons rfl ?_ | (refine SubF.ent rfl ?_ ?_; · repeat (first | exact Ents.nil | refine Ents.cons ?_ ?_ | refine Ent.tup ?_ | refine Ent.agg ?_ | exact Ent.row _ _ _ _ | exact Ent.nil _ _ | exact Ent.func _ | exact Ent.refl _ | exact Ent.of_eq rfl | refine Ent.cells ?_))
        first | refine SubF.cons rfl ?_ | (refine SubF.ent rfl ?_ ?_; · repeat (first | exact Ents.nil | refine Ents.cons ?_ ?_ | refine Ent.tup ?_ | refine Ent.agg ?_ | exact Ent.row _ _ _ _ | exact Ent.nil _ _ | exact Ent.func _ | exact Ent.refl _ | exact Ent.of_eq rfl | refine Ent.cells ?_))
        first | refine SubF.cons rfl ?_ | (refine SubF.ent rfl ?_ ?_; · repeat (first | exact Ents.nil | refine Ents.cons ?_ ?_ | refine Ent.tup ?_ | refine Ent.agg ?_ | exact Ent.row _ _ _ _ | exact Ent.nil _ _ | exact Ent.func _ | exact Ent.refl _ | exact Ent.of_eq rfl | refine Ent.cells ?_))
        exact SubF.nil
      · try dsimp only [List.cons_append, List.nil_append]
        repeat (first | exact SubL.nil | refine SubL.cons rfl ?_)
    · (try simp only [Bool.and_eq_true, Bool.or_eq_true, Bool.and_eq_false_iff, Bool.or_eq_false_iff, decide_eq_true_eq, decide_eq_false_iff_not, Bool.not_eq_true', Bool.not_eq_false', List.length_map, ne_eq, Decidable.not_not, Int.not_lt, Int.not_le] at h22)
      have hfin : xs = m.objects := by rw [hxs, List.take_of_length_le (by omega)]
      subst hfin
      refine tr_exit ?_
      refine pe_then_exit ?_
      refine pe_then_exit ?_
      refine pe_block_eq ?_
      refine pe_then_normal ?_
      refine tr_sub hC (.cons (t := 1) rfl (.cons (t := 2) rfl (.cons (t := 3) rfl .nil))) (.cons (t := 3) rfl (.cons (t := 600) rfl (.cons (t := 1) rfl (.cons (t := 2) rfl .nil)))) rfl ?_
      refine tr_seq ?_
      refine tr_seq ?_
      refine tr_region (fun N7 hN => ?_)
      refine lx (op_fieldAddr rfl fl29_1 sz25) rfl ?_
      refine lx (op_bload_one (m := 1) rfl rfl ag25 rfl) rfl ?_
      first | refine lx (op_len rfl el25) rfl ?_ | refine lx (op_len_row rfl el25) rfl ?_ | refine lx (op_len_mv rfl el25) rfl ?_ | refine lx (op_len_nil rfl el25) rfl ?_
      refine lx (op_move rfl) rfl ?_
      refine lx_end ⟨by kernel_rfl, ?_⟩
      refine pe_then_normal ?_
      refine tr_sub hC (.cons (t := 1) rfl (.cons (t := 2) rfl (.cons (t := 3) rfl (.cons (t := 34) rfl (.cons (t := 35) rfl (.cons (t := 36) rfl .nil)))))) (.cons (t := 3) rfl (.cons (t := 600) rfl (.cons (t := 1) rfl (.cons (t := 2) rfl .nil)))) rfl ?_
      refine tr_block ?_
      refine tr_nilbox Sy.ps 6 67 3 1 601 rfl rfl (by first | exact hC.low _ (by decide) | rfl) (fun idN => ?_)
      try dsimp only [List.set]
      refine tr_loopK (α := {zz : Nat × (List Sy) × AL.Id // zz.1 ≤ m.syncs.length ∧ zz.2.1 = m.syncs.take zz.1}) (⟨(0, [], idN), Nat.zero_le _, rfl⟩) (fun zz => [(36, eqP (.int .i64 (zz.1.1 : Int)))]) (fun zz => [(3, some ((N1, 3), blk 29 [mvP io 10 0 m.objects.length m.objects.length, rowP zz.1.2.2 Sy.ps 6 zz.1.2.1, eqP (.slice none 0 0), slP ip 1 m.output])), (601, some (zz.1.2.2, tail 67 6 (zz.1.2.1.length * 6)))]) (fun zz => m.syncs.length - zz.1.1) hC (.cons (t := 1) rfl (.cons (t := 2) rfl (.cons (t := 3) rfl (.cons (t := 34) rfl (.cons (t := 35) rfl .nil))))) (.cons (t := 600) rfl (.cons (t := 1) rfl (.cons (t := 2) rfl .nil))) rfl ?_ ?_ (fun zz => ?_)
      · try dsimp only [List.cons_append, List.nil_append]
        first | refine SubF.cons rfl ?_ | (refine SubF.ent rfl ?_ ?_; · repeat (first | exact Ents.nil | refine Ents.cons ?_ ?_ | refine Ent.tup ?_ | refine Ent.agg ?_ | exact Ent.row _ _ _ _ | exact Ent.nil _ _ | exact Ent.func _ | exact Ent.refl _ | exact Ent.of_eq rfl | refine Ent.cells ?_))
        exact SubF.nil
      · try dsimp only [List.cons_append, List.nil_append]
        repeat (first | exact SubL.nil | refine SubL.cons rfl ?_)
      · obtain ⟨⟨k, xs, i⟩, hk1, hxs⟩ := zz
        try dsimp only at hk1
        try dsimp only at hxs
        dsimp only [List.cons_append, List.nil_append]
        refine tr_seq ?_
        refine tr_region (fun N8 hN => ?_)
        refine lx (op_lss rfl rfl) rfl ?_
        refine lx_end ⟨by kernel_rfl, ?_⟩
        refine pe_then_normal ?_
        refine tr_sub hC (.cons (t := 1) rfl (.cons (t := 2) rfl (.cons (t := 3) rfl (.cons (t := 34) rfl (.cons (t := 35) rfl (.cons (t := 36) rfl (.cons (t := 37) rfl .nil))))))) (.cons (t := 3) rfl (.cons (t := 601) rfl (.cons (t := 600) rfl (.cons (t := 1) rfl (.cons (t := 2) rfl .nil))))) rfl ?_
        refine tr_seq ?_
        refine tr_cond rfl (fun h37 => ?_) (fun h37 => ?_)
        · (try simp only [Bool.and_eq_true, Bool.or_eq_true, Bool.and_eq_false_iff, Bool.or_eq_false_iff, decide_eq_true_eq, decide_eq_false_iff_not, Bool.not_eq_true', Bool.not_eq_false', List.length_map, ne_eq, Decidable.not_not, Int.not_lt, Int.not_le] at h37)
          have hbk := hb.readers _ (List.getElem_mem (by omega : k < m.syncs.length))
          have hxl : xs.length ≤ k := by rw [hxs, List.length_take]; omega
          refine tr_skip ?_
          refine pe_then_normal ?_
          refine tr_sub hC (.cons (t := 1) rfl (.cons (t := 2) rfl (.cons (t := 3) rfl (.cons (t := 34) rfl (.cons (t := 35) rfl (.cons (t := 36) rfl .nil)))))) (.cons (t := 3) rfl (.cons (t := 601) rfl (.cons (t := 600) rfl (.cons (t := 1) rfl (.cons (t := 2) rfl .nil))))) rfl ?_
          refine tr_seq ?_
          refine tr_block ?_
          refine tr_seq ?_
          refine tr_region (fun N9 hN => ?_)
          refine lx (op_index rfl rfl el25 sz67 rfl (List.getElem?_eq_getElem (by omega : k < m.syncs.length))) rfl ?_
          first | refine lx (op_load_all rfl ag67 sz67) rfl ?_ | refine lx (op_load_agg rfl ag67 sz67 rfl) rfl ?_ | refine lx (op_bload (m := 3) rfl rfl ag67 sz67) rfl ?_ | refine lx (op_bload (m := 601) rfl rfl ag67 sz67) rfl ?_ | refine lx (op_bload (m := 600) rfl rfl ag67 sz67) rfl ?_ | refine lx (op_bload (m := 1) rfl rfl ag67 sz67) rfl ?_ | refine lx (op_bload (m := 2) rfl rfl ag67 sz67) rfl ?_ | refine lx (op_bload_part (m := 3) (qs := [_, _, _, _, _, _]) rfl rfl ag67 sz67 rfl rfl) rfl ?_ | refine lx (op_bload_part (m := 601) (qs := [_, _, _, _, _, _]) rfl rfl ag67 sz67 rfl rfl) rfl ?_ | refine lx (op_bload_part (m := 600) (qs := [_, _, _, _, _, _]) rfl rfl ag67 sz67 rfl rfl) rfl ?_ | refine lx (op_bload_part (m := 1) (qs := [_, _, _, _, _, _]) rfl rfl ag67 sz67 rfl rfl) rfl ?_ | refine lx (op_bload_part (m := 2) (qs := [_, _, _, _, _, _]) rfl rfl ag67 sz67 rfl rfl) rfl ?_
          refine lxn (op_alloc (m := 7) (k := 7) (ps := [eqP (.int .i64 0), eqP (.int .i64 0), eqP (.int .i64 0), eqP (.int .i64 0), eqP (.slice none 0 0), eqP (.int .i64 0)]) ze67 rfl rfl (by first | exact hC.low _ (by decide) | rfl)) rfl ?_
          refine lxr (op_store_all (m := 7) rfl rfl rfl (.agg rfl) sz67 rfl) rfl ?_
          refine lx_end ⟨by kernel_rfl, ?_⟩
          refine pe_then_normal ?_
          refine tr_sub hC (.cons (t := 1) rfl (.cons (t := 2) rfl (.cons (t := 3) rfl (.cons (t := 7) rfl (.cons (t := 34) rfl (.cons (t := 35) rfl (.cons (t := 36) rfl .nil))))))) (.cons (t := 3) rfl (.cons (t := 601) rfl (.cons (t := 600) rfl (.cons (t := 1) rfl (.cons (t := 2) rfl (.cons (t := 7) rfl .nil)))))) rfl ?_
          refine tr_seq ?_
          refine tr_region (fun N10 hN => ?_)
          refine lx (op_fieldAddr rfl fl67_4 sz27) rfl ?_
          refine lx (op_bload_one (m := 7) rfl rfl ag27 rfl) rfl ?_
          first | refine lx (op_call (l := [(Go.Operand.tmp 41)]) (icl m.syncs[k].readers hbk) (.cons rfl .nil) fn51) rfl ?_ | refine lx (op_call (l := [(Go.Operand.tmp 41)]) (icl m.syncs[k].readers hbk) (.ent rfl (by repeat (first | exact Ents.nil | refine Ents.cons ?_ ?_ | refine Ent.tup ?_ | refine Ent.agg ?_ | exact Ent.row _ _ _ _ | exact Ent.nil _ _ | exact Ent.func _ | exact Ent.refl _ | exact Ent.of_eq rfl | refine Ent.cells ?_)) .nil) fn51) rfl ?_
          refine lx (op_fieldAddr rfl fl67_4 sz27) rfl ?_
          refine lxr (op_store (m := 7) (rs := [_, _, _, _, _, _]) rfl rfl rfl (.one (by (first | exact One.eq rfl | exact One.mv _ _ _ _ _ | exact One.cl _ _ _ | exact One.map _ | exact One.sl _ _ _ | exact One.row _ _ _ _ | exact One.msl _ _ _ _ | exact One.ptr _ _ | exact One.b _ | exact One.cells _))) sz27 rfl rfl rfl) rfl ?_
          refine lx_end ⟨by kernel_rfl, ?_⟩
          refine pe_then_normal ?_
          refine tr_sub hC (.cons (t := 1) rfl (.cons (t := 2) rfl (.cons (t := 3) rfl (.cons (t := 7) rfl (.cons (t := 34) rfl (.cons (t := 35) rfl (.cons (t := 36) rfl .nil))))))) (.cons (t := 3) rfl (.cons (t := 601) rfl (.cons (t := 600) rfl (.cons (t := 1) rfl (.cons (t := 2) rfl (.cons (t := 7) rfl .nil)))))) rfl ?_
          refine tr_region (fun N11 hN => ?_)
          refine lx (op_fieldAddr rfl fl29_1 sz25) rfl ?_
          refine lx (op_bload_one (m := 3) rfl rfl ag25 rfl) rfl ?_
          refine lx (op_bload (m := 7) rfl rfl ag67 sz67) rfl ?_
          refine lx (op_buildSlice (f := Sy.ps) (xs := [m.syncs[k]]) (l := [(0, (Go.Operand.tmp 46))]) ze67 rfl rfl (by decide) el25 sz67 Sy.len (.cons rfl (.agg rfl) .nil) rfl (by decide)) rfl ?_
          refine lxr (op_append (m := 601) (m' := 601) (kk := 48) rfl rfl rfl (.inl rfl) el25 ze67 sz67 by67 rfl Sy.len (by rw [List.length_singleton]; omega) (by rw [List.length_singleton]; omega)) rfl ?_
          refine lx (op_fieldAddr rfl fl29_1 sz25) rfl ?_
          refine lxr (op_store (m := 3) (rs := [_, _, _, _]) rfl rfl rfl (.one (by (first | exact One.eq rfl | exact One.mv _ _ _ _ _ | exact One.cl _ _ _ | exact One.map _ | exact One.sl _ _ _ | exact One.row _ _ _ _ | exact One.msl _ _ _ _ | exact One.ptr _ _ | exact One.b _ | exact One.cells _))) sz25 rfl rfl rfl) rfl ?_
          refine lx_end ⟨by kernel_rfl, ?_⟩
          refine pe_block_normal ?_
          refine pe_then_normal ?_
          refine tr_sub hC (.cons (t := 1) rfl (.cons (t := 2) rfl (.cons (t := 3) rfl (.cons (t := 34) rfl (.cons (t := 35) rfl (.cons (t := 36) rfl .nil)))))) (.cons (t := 3) rfl (.cons (t := 600) rfl (.cons (t := 1) rfl (.cons (t := 2) rfl (.cons (t := 601) rfl .nil))))) rfl ?_
          refine tr_region (fun N12 hN => ?_)
          refine lx (op_add rfl rfl (by omega)) rfl ?_
          refine lx (op_move rfl) rfl ?_
          refine lx_end ⟨by kernel_rfl, ?_⟩
          refine pe_round (⟨(k + 1, xs ++ [m.syncs[k]], (N11, 48)), by dsimp only; omega, by dsimp only; rw [hxs, take_at (by omega : k < m.syncs.length)]⟩) (by dsimp only; omega) (pe_st hC ?_ ?_ rfl)
          · try dsimp only [List.cons_append, List.nil_append]
            first | refine SubF.cons rfl ?_ | (refine SubF.ent rfl ?_ ?_; · repeat (first | exact Ents.nil | refine Ents.cons ?_ ?_ | refine Ent.tup ?_ | refine Ent.agg ?_ | exact Ent.row _ _ _ _ | exact Ent.nil _ _ | exact Ent.func _ | exact Ent.refl _ | exact Ent.of_eq rfl | refine Ent.cells ?_))
            first | refine SubF.cons rfl ?_ | (refine SubF.ent rfl ?_ ?_; · repeat (first | exact Ents.nil | refine Ents.cons ?_ ?_ | refine Ent.tup ?_ | refine Ent.agg ?_ | exact Ent.row _ _ _ _ | exact Ent.nil _ _ | exact Ent.func _ | exact Ent.refl _ | exact Ent.of_eq rfl | refine Ent.cells ?_))
            first | refine SubF.cons rfl ?_ | (refine SubF.ent rfl ?_ ?_; · repeat (first | exact Ents.nil | refine Ents.cons ?_ ?_ | refine Ent.tup ?_ | refine Ent.agg ?_ | exact Ent.row _ _ _ _ | exact Ent.nil _ _ | exact Ent.func _ | exact Ent.refl _ | exact Ent.of_eq rfl | refine Ent.cells ?_))
            first | refine SubF.cons rfl ?_ | (refine SubF.ent rfl ?_ ?_; · repeat (first | exact Ents.nil | refine Ents.cons ?_ ?_ | refine Ent.tup ?_ | refine Ent.agg ?_ | exact Ent.row _ _ _ _ | exact Ent.nil _ _ | exact Ent.func _ | exact Ent.refl _ | exact Ent.of_eq rfl | refine Ent.cells ?_))
            first | refine SubF.cons rfl ?_ | (refine SubF.ent rfl ?_ ?_; · repeat (first | exact Ents.nil | refine Ents.cons ?_ ?_ | refine Ent.tup ?_ | refine Ent.agg ?_ | exact Ent.row _ _ _ _ | exact Ent.nil _ _ | exact Ent.func _ | exact Ent.refl _ | exact Ent.of_eq rfl | refine Ent.cells ?_))
            first | refine SubF.cons rfl ?_ | (refine SubF.ent rfl ?_ ?_; · repeat (first | exact Ents.nil | refine Ents.cons ?_ ?_ | refine Ent.tup ?_ | refine Ent.agg ?_ | exact Ent.row _ _ _ _ | exact Ent.nil _ _ | exact Ent.func _ | exact Ent.refl _ | exact Ent.of_eq rfl | refine Ent.cells ?_))
            exact SubF.nil
          · try dsimp only [List.cons_append, List.nil_append]
            repeat (first | exact SubL.nil | refine SubL.cons rfl ?_)
        · (try simp only [Bool.and_eq_true, Bool.or_eq_true, Bool.and_eq_false_iff, Bool.or_eq_false_iff, decide_eq_true_eq, decide_eq_false_iff_not, Bool.not_eq_true', Bool.not_eq_false', List.length_map, ne_eq, Decidable.not_not, Int.not_lt, Int.not_le] at h37)
          have hfin : xs = m.syncs := by rw [hxs, List.take_of_length_le (by omega)]
          refine tr_exit ?_
          refine pe_then_exit ?_
          refine pe_then_exit ?_
          refine pe_block_eq ?_
          refine pe_then_normal ?_
          refine tr_sub hC (.cons (t := 1) rfl (.cons (t := 2) rfl (.cons (t := 3) rfl .nil))) (.cons (t := 3) rfl (.cons (t := 601) rfl (.cons (t := 600) rfl (.cons (t := 1) rfl (.cons (t := 2) rfl .nil))))) rfl ?_
          refine tr_weakTok (m := 3) (qs := [mvP io 10 0 m.objects.length m.objects.length, slP Sy.ps 6 m.syncs, eqP (.slice none 0 0), slP ip 1 m.output]) rfl ?_ ?_
          · repeat (first | exact Ents.nil | refine Ents.cons ?_ ?_ | exact Ent.refl _ | exact Ent.row _ _ _ _ | exact Ent.nil _ _ | exact Ent.trans (Ent.row _ _ _ _) (Ent.of_eq (by rw [hfin])))
          refine tr_seq ?_
          refine tr_seq ?_
          refine tr_region (fun N13 hN => ?_)
          refine lx (op_fieldAddr rfl fl29_2 sz26) rfl ?_
          refine lx (op_bload_one (m := 1) rfl rfl ag26 rfl) rfl ?_
          first | refine lx (op_len rfl el26) rfl ?_ | refine lx (op_len_row rfl el26) rfl ?_ | refine lx (op_len_mv rfl el26) rfl ?_ | refine lx (op_len_nil rfl el26) rfl ?_
          refine lx (op_move rfl) rfl ?_
          refine lx_end ⟨by kernel_rfl, ?_⟩
          refine pe_then_normal ?_
          refine tr_sub hC (.cons (t := 2) rfl (.cons (t := 3) rfl (.cons (t := 52) rfl (.cons (t := 53) rfl (.cons (t := 54) rfl .nil))))) (.cons (t := 3) rfl (.cons (t := 601) rfl (.cons (t := 600) rfl (.cons (t := 2) rfl .nil)))) rfl ?_
          refine tr_block ?_
          refine tr_nilboxM 4 70 3 2 604 rfl rfl (by first | exact hC.low _ (by decide) | rfl) (fun idN => ?_)
          try dsimp only [List.set]
          refine tr_loopK (α := {zz : Nat × (List Gr) × AL.Id // zz.1 ≤ m.gors.length ∧ zz.2.1 = m.gors.take zz.1}) (⟨(0, [], idN), Nat.zero_le _, rfl⟩) (fun zz => [(54, eqP (.int .i64 (zz.1.1 : Int)))]) (fun zz => [(3, some ((N1, 3), blk 29 [mvP io 10 0 m.objects.length m.objects.length, slP Sy.ps 6 m.syncs, mvP zz.1.2.2 4 0 zz.1.2.1.length zz.1.2.1.length, slP ip 1 m.output])), (604, some (zz.1.2.2, blkX 4 70 (zz.1.2.1.flatMap Gr.ps)))]) (fun zz => m.gors.length - zz.1.1) hC (.cons (t := 2) rfl (.cons (t := 3) rfl (.cons (t := 52) rfl (.cons (t := 53) rfl .nil)))) (.cons (t := 601) rfl (.cons (t := 600) rfl (.cons (t := 2) rfl .nil))) rfl ?_ ?_ (fun zz => ?_)
          · try dsimp only [List.cons_append, List.nil_append]
            first | refine SubF.cons rfl ?_ | (refine SubF.ent rfl ?_ ?_; · repeat (first | exact Ents.nil | refine Ents.cons ?_ ?_ | refine Ent.tup ?_ | refine Ent.agg ?_ | exact Ent.row _ _ _ _ | exact Ent.nil _ _ | exact Ent.func _ | exact Ent.refl _ | exact Ent.of_eq rfl | refine Ent.cells ?_))
            exact SubF.nil
          · try dsimp only [List.cons_append, List.nil_append]
            repeat (first | exact SubL.nil | refine SubL.cons rfl ?_)
          · obtain ⟨⟨k, xs, i⟩, hk1, hxs⟩ := zz
            try dsimp only at hk1
            try dsimp only at hxs
            dsimp only [List.cons_append, List.nil_append]
            refine tr_seq ?_
            refine tr_region (fun N14 hN => ?_)
            refine lx (op_lss rfl rfl) rfl ?_
            refine lx_end ⟨by kernel_rfl, ?_⟩
            refine pe_then_normal ?_
            refine tr_sub hC (.cons (t := 2) rfl (.cons (t := 3) rfl (.cons (t := 52) rfl (.cons (t := 53) rfl (.cons (t := 54) rfl (.cons (t := 55) rfl .nil)))))) (.cons (t := 3) rfl (.cons (t := 604) rfl (.cons (t := 601) rfl (.cons (t := 600) rfl (.cons (t := 2) rfl .nil))))) rfl ?_
            refine tr_seq ?_
            refine tr_cond rfl (fun h55 => ?_) (fun h55 => ?_)
            · (try simp only [Bool.and_eq_true, Bool.or_eq_true, Bool.and_eq_false_iff, Bool.or_eq_false_iff, decide_eq_true_eq, decide_eq_false_iff_not, Bool.not_eq_true', Bool.not_eq_false', List.length_map, ne_eq, Decidable.not_not, Int.not_lt, Int.not_le] at h55)
              have hbk := hb.gor _ (List.getElem_mem (by omega : k < m.gors.length))
              have hxl : xs.length ≤ k := by rw [hxs, List.length_take]; omega
              have hbfr := hbk.frames
              refine tr_skip ?_
              refine pe_then_normal ?_
              refine tr_sub hC (.cons (t := 2) rfl (.cons (t := 3) rfl (.cons (t := 52) rfl (.cons (t := 53) rfl (.cons (t := 54) rfl .nil))))) (.cons (t := 3) rfl (.cons (t := 604) rfl (.cons (t := 601) rfl (.cons (t := 600) rfl (.cons (t := 2) rfl .nil))))) rfl ?_
              refine tr_seq ?_
              refine tr_block ?_
              refine tr_seq ?_
              refine tr_region (fun N15 hN => ?_)
              refine lx (op_index rfl rfl el26 sz70 rfl (List.getElem?_eq_getElem (by omega : k < m.gors.length))) rfl ?_
              first | refine lx (op_load_all rfl ag70 sz70) rfl ?_ | refine lx (op_load_agg rfl ag70 sz70 rfl) rfl ?_ | refine lx (op_bload (m := 3) rfl rfl ag70 sz70) rfl ?_ | refine lx (op_bload (m := 604) rfl rfl ag70 sz70) rfl ?_ | refine lx (op_bload (m := 601) rfl rfl ag70 sz70) rfl ?_ | refine lx (op_bload (m := 600) rfl rfl ag70 sz70) rfl ?_ | refine lx (op_bload (m := 2) rfl rfl ag70 sz70) rfl ?_ | refine lx (op_bload_part (m := 3) (qs := [_, _, _, _]) rfl rfl ag70 sz70 rfl rfl) rfl ?_ | refine lx (op_bload_part (m := 604) (qs := [_, _, _, _]) rfl rfl ag70 sz70 rfl rfl) rfl ?_ | refine lx (op_bload_part (m := 601) (qs := [_, _, _, _]) rfl rfl ag70 sz70 rfl rfl) rfl ?_ | refine lx (op_bload_part (m := 600) (qs := [_, _, _, _]) rfl rfl ag70 sz70 rfl rfl) rfl ?_ | refine lx (op_bload_part (m := 2) (qs := [_, _, _, _]) rfl rfl ag70 sz70 rfl rfl) rfl ?_
              refine lxn (op_alloc (m := 9) (k := 9) (ps := [eqP (.int .i64 0), eqP (.int .i64 0), eqP (.int .i64 0), eqP (.slice none 0 0)]) ze70 rfl rfl (by first | exact hC.low _ (by decide) | rfl)) rfl ?_
              refine lxr (op_store_all (m := 9) rfl rfl rfl (.agg rfl) sz70 rfl) rfl ?_
              refine lx_end ⟨by kernel_rfl, ?_⟩
              refine pe_then_normal ?_
              refine tr_sub hC (.cons (t := 2) rfl (.cons (t := 3) rfl (.cons (t := 9) rfl (.cons (t := 52) rfl (.cons (t := 53) rfl (.cons (t := 54) rfl .nil)))))) (.cons (t := 3) rfl (.cons (t := 604) rfl (.cons (t := 601) rfl (.cons (t := 600) rfl (.cons (t := 2) rfl (.cons (t := 9) rfl .nil)))))) rfl ?_
              refine tr_seq ?_
              refine tr_region (fun N16 hN => ?_)
              refine lx (op_fieldAddr rfl fl70_3 sz68) rfl ?_
              refine lx (op_bload_one (m := 9) rfl rfl ag68 rfl) rfl ?_
              first | refine lx_any rfl (op_callG2 (l := [(Go.Operand.tmp 59)]) (add := [(602, ((N16, 100600), blkX 9 92 (m.gors[k].frames.flatMap Fm.ps)))]) (ks := [100600]) (φ := mvP (N16, 100600) 9 0 m.gors[k].frames.length m.gors[k].frames.length) .nil (fcl m.gors[k].frames hbk.frames) (.cons rfl .nil) fn52 rfl rfl rfl (.new (by first | exact hC.low _ (by decide) | rfl) .nil) rfl) (dOK_spec rfl) ?_ | refine lx_any rfl (op_callG2 (l := [(Go.Operand.tmp 59)]) (add := [(602, ((N16, 100600), blkX 9 92 (m.gors[k].frames.flatMap Fm.ps)))]) (ks := [100600]) (φ := mvP (N16, 100600) 9 0 m.gors[k].frames.length m.gors[k].frames.length) .nil (fcl m.gors[k].frames hbk.frames) (.ent rfl (by repeat (first | exact Ents.nil | refine Ents.cons ?_ ?_ | refine Ent.tup ?_ | refine Ent.agg ?_ | exact Ent.row _ _ _ _ | exact Ent.nil _ _ | exact Ent.func _ | exact Ent.refl _ | exact Ent.of_eq rfl | refine Ent.cells ?_)) .nil) fn52 rfl rfl rfl (.new (by first | exact hC.low _ (by decide) | rfl) .nil) rfl) (dOK_spec rfl) ?_
              refine lx (op_assign rfl) rfl ?_
              refine lx_end ⟨by kernel_rfl, ?_⟩
              refine pe_then_normal ?_
              refine tr_sub hC (.cons (t := 2) rfl (.cons (t := 3) rfl (.cons (t := 9) rfl (.cons (t := 10) rfl (.cons (t := 52) rfl (.cons (t := 53) rfl (.cons (t := 54) rfl .nil))))))) (.cons (t := 3) rfl (.cons (t := 604) rfl (.cons (t := 601) rfl (.cons (t := 600) rfl (.cons (t := 2) rfl (.cons (t := 9) rfl (.cons (t := 602) rfl .nil))))))) rfl ?_
              refine tr_seq ?_
              refine tr_seq ?_
              refine tr_region (fun N17 hN => ?_)
              refine lx (op_move rfl) rfl ?_
              first | refine lx (op_len rfl el68) rfl ?_ | refine lx (op_len_row rfl el68) rfl ?_ | refine lx (op_len_mv rfl el68) rfl ?_ | refine lx (op_len_nil rfl el68) rfl ?_
              refine lx (op_move rfl) rfl ?_
              refine lx_end ⟨by kernel_rfl, ?_⟩
              refine pe_then_normal ?_
              refine tr_sub hC (.cons (t := 2) rfl (.cons (t := 3) rfl (.cons (t := 9) rfl (.cons (t := 10) rfl (.cons (t := 52) rfl (.cons (t := 53) rfl (.cons (t := 54) rfl (.cons (t := 62) rfl (.cons (t := 63) rfl .nil))))))))) (.cons (t := 3) rfl (.cons (t := 604) rfl (.cons (t := 601) rfl (.cons (t := 600) rfl (.cons (t := 2) rfl (.cons (t := 9) rfl (.cons (t := 602) rfl .nil))))))) rfl ?_
              refine tr_block ?_
              refine tr_loopK (α := {zz : Nat // zz ≤ m.gors[k].frames.length}) (⟨(0), Nat.zero_le _⟩) (fun zz => [(63, eqP (.int .i64 (zz.1 : Int)))]) (fun zz => []) (fun zz => m.gors[k].frames.length - zz.1) hC (.cons (t := 2) rfl (.cons (t := 3) rfl (.cons (t := 9) rfl (.cons (t := 10) rfl (.cons (t := 52) rfl (.cons (t := 53) rfl (.cons (t := 54) rfl (.cons (t := 62) rfl .nil)))))))) (.cons (t := 3) rfl (.cons (t := 604) rfl (.cons (t := 601) rfl (.cons (t := 600) rfl (.cons (t := 2) rfl (.cons (t := 9) rfl (.cons (t := 602) rfl .nil))))))) rfl ?_ ?_ (fun zz => ?_)
              · try dsimp only [List.cons_append, List.nil_append]
                first | refine SubF.cons rfl ?_ | (refine SubF.ent rfl ?_ ?_; · repeat (first | exact Ents.nil | refine Ents.cons ?_ ?_ | refine Ent.tup ?_ | refine Ent.agg ?_ | exact Ent.row _ _ _ _ | exact Ent.nil _ _ | exact Ent.func _ | exact Ent.refl _ | exact Ent.of_eq rfl | refine Ent.cells ?_))
                exact SubF.nil
              · try dsimp only [List.cons_append, List.nil_append]
                repeat (first | exact SubL.nil | refine SubL.cons rfl ?_)
              · obtain ⟨j, hj1⟩ := zz
                dsimp only [List.cons_append, List.nil_append]
                refine tr_seq ?_
                refine tr_region (fun N18 hN => ?_)
                refine lx (op_lss rfl rfl) rfl ?_
                refine lx_end ⟨by kernel_rfl, ?_⟩
                refine pe_then_normal ?_
                refine tr_sub hC (.cons (t := 2) rfl (.cons (t := 3) rfl (.cons (t := 9) rfl (.cons (t := 10) rfl (.cons (t := 52) rfl (.cons (t := 53) rfl (.cons (t := 54) rfl (.cons (t := 62) rfl (.cons (t := 63) rfl (.cons (t := 64) rfl .nil)))))))))) (.cons (t := 3) rfl (.cons (t := 604) rfl (.cons (t := 601) rfl (.cons (t := 600) rfl (.cons (t := 2) rfl (.cons (t := 9) rfl (.cons (t := 602) rfl .nil))))))) rfl ?_
                refine tr_seq ?_
                refine tr_cond rfl (fun h64 => ?_) (fun h64 => ?_)
                · (try simp only [Bool.and_eq_true, Bool.or_eq_true, Bool.and_eq_false_iff, Bool.or_eq_false_iff, decide_eq_true_eq, decide_eq_false_iff_not, Bool.not_eq_true', Bool.not_eq_false', List.length_map, ne_eq, Decidable.not_not, Int.not_lt, Int.not_le] at h64)
                  have hbf := hbk.each _ (List.getElem_mem (by omega : j < m.gors[k].frames.length))
                  have hbd := hbf.defers
                  refine tr_skip ?_
                  refine pe_then_normal ?_
                  refine tr_sub hC (.cons (t := 2) rfl (.cons (t := 3) rfl (.cons (t := 9) rfl (.cons (t := 10) rfl (.cons (t := 52) rfl (.cons (t := 53) rfl (.cons (t := 54) rfl (.cons (t := 62) rfl (.cons (t := 63) rfl .nil))))))))) (.cons (t := 3) rfl (.cons (t := 604) rfl (.cons (t := 601) rfl (.cons (t := 600) rfl (.cons (t := 2) rfl (.cons (t := 9) rfl (.cons (t := 602) rfl .nil))))))) rfl ?_
                  refine tr_seq ?_
                  refine tr_block ?_
                  refine tr_seq ?_
                  refine tr_region (fun N19 hN => ?_)
                  refine lx (op_move rfl) rfl ?_
                  refine lx (op_assign rfl) rfl ?_
                  refine lx_end ⟨by kernel_rfl, ?_⟩
                  refine pe_then_normal ?_
                  refine tr_sub hC (.cons (t := 2) rfl (.cons (t := 3) rfl (.cons (t := 9) rfl (.cons (t := 10) rfl (.cons (t := 11) rfl (.cons (t := 52) rfl (.cons (t := 53) rfl (.cons (t := 54) rfl (.cons (t := 62) rfl (.cons (t := 63) rfl .nil)))))))))) (.cons (t := 3) rfl (.cons (t := 604) rfl (.cons (t := 601) rfl (.cons (t := 600) rfl (.cons (t := 2) rfl (.cons (t := 9) rfl (.cons (t := 602) rfl .nil))))))) rfl ?_
                  refine tr_seq ?_
                  refine tr_region (fun N20 hN => ?_)
                  refine lx (op_move rfl) rfl ?_
                  refine lx (op_move rfl) rfl ?_
                  refine lx (op_move rfl) rfl ?_
                  refine lx (op_move rfl) rfl ?_
                  refine lx (op_index_mv rfl rfl el68 sz92 rfl (by omega)) rfl ?_
                  refine lx (op_fieldAddr rfl fl92_2 sz30) rfl ?_
                  refine lx (op_tload_one (m := 602) (j := j) (fo := 2) rfl rfl ag30 Fm.len (by omega) (List.getElem?_eq_getElem (by omega : j < m.gors[k].frames.length)) rfl) rfl ?_
                  first | refine lx (op_call (l := [(Go.Operand.tmp 72)]) (vcl m.gors[k].frames[j].regs hbf.regs) (.cons rfl .nil) fn53) rfl ?_ | refine lx (op_call (l := [(Go.Operand.tmp 72)]) (vcl m.gors[k].frames[j].regs hbf.regs) (.ent rfl (by repeat (first | exact Ents.nil | refine Ents.cons ?_ ?_ | refine Ent.tup ?_ | refine Ent.agg ?_ | exact Ent.row _ _ _ _ | exact Ent.nil _ _ | exact Ent.func _ | exact Ent.refl _ | exact Ent.of_eq rfl | refine Ent.cells ?_)) .nil) fn53) rfl ?_
                  refine lx (op_index_mv rfl rfl el68 sz92 rfl (by omega)) rfl ?_
                  refine lx (op_fieldAddr rfl fl92_2 sz30) rfl ?_
                  refine lxr (op_tstore_id (m := 602) (j := j) (fo := 2) (z := m.gors[k].frames[j]) rfl rfl rfl (.one (by (first | exact One.eq rfl | exact One.mv _ _ _ _ _ | exact One.cl _ _ _ | exact One.map _ | exact One.sl _ _ _ | exact One.row _ _ _ _ | exact One.msl _ _ _ _ | exact One.ptr _ _ | exact One.b _ | exact One.cells _))) sz30 rfl Fm.len (by omega) (List.getElem?_eq_getElem (by omega : j < m.gors[k].frames.length)) rfl rfl) rfl ?_
                  refine lx_end ⟨by kernel_rfl, ?_⟩
                  refine pe_then_normal ?_
                  refine tr_sub hC (.cons (t := 2) rfl (.cons (t := 3) rfl (.cons (t := 9) rfl (.cons (t := 10) rfl (.cons (t := 11) rfl (.cons (t := 52) rfl (.cons (t := 53) rfl (.cons (t := 54) rfl (.cons (t := 62) rfl (.cons (t := 63) rfl .nil)))))))))) (.cons (t := 3) rfl (.cons (t := 604) rfl (.cons (t := 601) rfl (.cons (t := 600) rfl (.cons (t := 2) rfl (.cons (t := 9) rfl (.cons (t := 602) rfl .nil))))))) rfl ?_
                  refine tr_seq ?_
                  refine tr_region (fun N21 hN => ?_)
                  refine lx (op_move rfl) rfl ?_
                  refine lx (op_move rfl) rfl ?_
                  refine lx (op_index_mv rfl rfl el68 sz92 rfl (by omega)) rfl ?_
                  refine lx (op_fieldAddr rfl fl92_4 sz90) rfl ?_
                  refine lx (op_tload_one (m := 602) (j := j) (fo := 4) rfl rfl ag90 Fm.len (by omega) (List.getElem?_eq_getElem (by omega : j < m.gors[k].frames.length)) rfl) rfl ?_
                  first | refine lx_any rfl (op_callG2 (l := [(Go.Operand.tmp 80)]) (add := [(603, ((N21, 100810), blkX 2 94 (m.gors[k].frames[j].defers.flatMap Df.ps)))]) (ks := [100810]) (φ := mvP (N21, 100810) 2 0 m.gors[k].frames[j].defers.length m.gors[k].frames[j].defers.length) .nil (dcl m.gors[k].frames[j].defers hbf.defers) (.cons rfl .nil) fn54 rfl rfl rfl (.new (by first | exact hC.low _ (by decide) | rfl) .nil) rfl) (dOK_spec rfl) ?_ | refine lx_any rfl (op_callG2 (l := [(Go.Operand.tmp 80)]) (add := [(603, ((N21, 100810), blkX 2 94 (m.gors[k].frames[j].defers.flatMap Df.ps)))]) (ks := [100810]) (φ := mvP (N21, 100810) 2 0 m.gors[k].frames[j].defers.length m.gors[k].frames[j].defers.length) .nil (dcl m.gors[k].frames[j].defers hbf.defers) (.ent rfl (by repeat (first | exact Ents.nil | refine Ents.cons ?_ ?_ | refine Ent.tup ?_ | refine Ent.agg ?_ | exact Ent.row _ _ _ _ | exact Ent.nil _ _ | exact Ent.func _ | exact Ent.refl _ | exact Ent.of_eq rfl | refine Ent.cells ?_)) .nil) fn54 rfl rfl rfl (.new (by first | exact hC.low _ (by decide) | rfl) .nil) rfl) (dOK_spec rfl) ?_
                  refine lx (op_assign rfl) rfl ?_
                  refine lx_end ⟨by kernel_rfl, ?_⟩
                  refine pe_then_normal ?_
                  refine tr_sub hC (.cons (t := 2) rfl (.cons (t := 3) rfl (.cons (t := 9) rfl (.cons (t := 10) rfl (.cons (t := 11) rfl (.cons (t := 12) rfl (.cons (t := 52) rfl (.cons (t := 53) rfl (.cons (t := 54) rfl (.cons (t := 62) rfl (.cons (t := 63) rfl .nil))))))))))) (.cons (t := 3) rfl (.cons (t := 604) rfl (.cons (t := 601) rfl (.cons (t := 600) rfl (.cons (t := 2) rfl (.cons (t := 9) rfl (.cons (t := 602) rfl (.cons (t := 603) rfl .nil)))))))) rfl ?_
                  refine tr_seq ?_
                  refine tr_seq ?_
                  refine tr_region (fun N22 hN => ?_)
                  refine lx (op_move rfl) rfl ?_
                  first | refine lx (op_len rfl el90) rfl ?_ | refine lx (op_len_row rfl el90) rfl ?_ | refine lx (op_len_mv rfl el90) rfl ?_ | refine lx (op_len_nil rfl el90) rfl ?_
                  refine lx (op_move rfl) rfl ?_
                  refine lx_end ⟨by kernel_rfl, ?_⟩
                  refine pe_then_normal ?_
                  refine tr_sub hC (.cons (t := 2) rfl (.cons (t := 3) rfl (.cons (t := 9) rfl (.cons (t := 10) rfl (.cons (t := 11) rfl (.cons (t := 12) rfl (.cons (t := 52) rfl (.cons (t := 53) rfl (.cons (t := 54) rfl (.cons (t := 62) rfl (.cons (t := 63) rfl (.cons (t := 83) rfl (.cons (t := 84) rfl .nil))))))))))))) (.cons (t := 3) rfl (.cons (t := 604) rfl (.cons (t := 601) rfl (.cons (t := 600) rfl (.cons (t := 2) rfl (.cons (t := 9) rfl (.cons (t := 602) rfl (.cons (t := 603) rfl .nil)))))))) rfl ?_
                  refine tr_block ?_
                  refine tr_loopK (α := {zz : Nat // zz ≤ m.gors[k].frames[j].defers.length}) (⟨(0), Nat.zero_le _⟩) (fun zz => [(84, eqP (.int .i64 (zz.1 : Int)))]) (fun zz => []) (fun zz => m.gors[k].frames[j].defers.length - zz.1) hC (.cons (t := 2) rfl (.cons (t := 3) rfl (.cons (t := 9) rfl (.cons (t := 10) rfl (.cons (t := 11) rfl (.cons (t := 12) rfl (.cons (t := 52) rfl (.cons (t := 53) rfl (.cons (t := 54) rfl (.cons (t := 62) rfl (.cons (t := 63) rfl (.cons (t := 83) rfl .nil)))))))))))) (.cons (t := 3) rfl (.cons (t := 604) rfl (.cons (t := 601) rfl (.cons (t := 600) rfl (.cons (t := 2) rfl (.cons (t := 9) rfl (.cons (t := 602) rfl (.cons (t := 603) rfl .nil)))))))) rfl ?_ ?_ (fun zz => ?_)
                  · try dsimp only [List.cons_append, List.nil_append]
                    first | refine SubF.cons rfl ?_ | (refine SubF.ent rfl ?_ ?_; · repeat (first | exact Ents.nil | refine Ents.cons ?_ ?_ | refine Ent.tup ?_ | refine Ent.agg ?_ | exact Ent.row _ _ _ _ | exact Ent.nil _ _ | exact Ent.func _ | exact Ent.refl _ | exact Ent.of_eq rfl | refine Ent.cells ?_))
                    exact SubF.nil
                  · try dsimp only [List.cons_append, List.nil_append]
                    repeat (first | exact SubL.nil | refine SubL.cons rfl ?_)
                  · obtain ⟨q, hq1⟩ := zz
                    dsimp only [List.cons_append, List.nil_append]
                    refine tr_seq ?_
                    refine tr_region (fun N23 hN => ?_)
                    refine lx (op_lss rfl rfl) rfl ?_
                    refine lx_end ⟨by kernel_rfl, ?_⟩
                    refine pe_then_normal ?_
                    refine tr_sub hC (.cons (t := 2) rfl (.cons (t := 3) rfl (.cons (t := 9) rfl (.cons (t := 10) rfl (.cons (t := 11) rfl (.cons (t := 12) rfl (.cons (t := 52) rfl (.cons (t := 53) rfl (.cons (t := 54) rfl (.cons (t := 62) rfl (.cons (t := 63) rfl (.cons (t := 83) rfl (.cons (t := 84) rfl (.cons (t := 85) rfl .nil)))))))))))))) (.cons (t := 3) rfl (.cons (t := 604) rfl (.cons (t := 601) rfl (.cons (t := 600) rfl (.cons (t := 2) rfl (.cons (t := 9) rfl (.cons (t := 602) rfl (.cons (t := 603) rfl .nil)))))))) rfl ?_
                    refine tr_seq ?_
                    refine tr_cond rfl (fun h85 => ?_) (fun h85 => ?_)
                    · (try simp only [Bool.and_eq_true, Bool.or_eq_true, Bool.and_eq_false_iff, Bool.or_eq_false_iff, decide_eq_true_eq, decide_eq_false_iff_not, Bool.not_eq_true', Bool.not_eq_false', List.length_map, ne_eq, Decidable.not_not, Int.not_lt, Int.not_le] at h85)
                      refine tr_skip ?_
                      refine pe_then_normal ?_
                      refine tr_sub hC (.cons (t := 2) rfl (.cons (t := 3) rfl (.cons (t := 9) rfl (.cons (t := 10) rfl (.cons (t := 11) rfl (.cons (t := 12) rfl (.cons (t := 52) rfl (.cons (t := 53) rfl (.cons (t := 54) rfl (.cons (t := 62) rfl (.cons (t := 63) rfl (.cons (t := 83) rfl (.cons (t := 84) rfl .nil))))))))))))) (.cons (t := 3) rfl (.cons (t := 604) rfl (.cons (t := 601) rfl (.cons (t := 600) rfl (.cons (t := 2) rfl (.cons (t := 9) rfl (.cons (t := 602) rfl (.cons (t := 603) rfl .nil)))))))) rfl ?_
                      refine tr_seq ?_
                      refine tr_block ?_
                      refine tr_seq ?_
                      refine tr_region (fun N24 hN => ?_)
                      refine lx (op_move rfl) rfl ?_
                      refine lx (op_assign rfl) rfl ?_
                      refine lx_end ⟨by kernel_rfl, ?_⟩
                      refine pe_then_normal ?_
                      refine tr_sub hC (.cons (t := 2) rfl (.cons (t := 3) rfl (.cons (t := 9) rfl (.cons (t := 10) rfl (.cons (t := 11) rfl (.cons (t := 12) rfl (.cons (t := 13) rfl (.cons (t := 52) rfl (.cons (t := 53) rfl (.cons (t := 54) rfl (.cons (t := 62) rfl (.cons (t := 63) rfl (.cons (t := 83) rfl (.cons (t := 84) rfl .nil)))))))))))))) (.cons (t := 3) rfl (.cons (t := 604) rfl (.cons (t := 601) rfl (.cons (t := 600) rfl (.cons (t := 2) rfl (.cons (t := 9) rfl (.cons (t := 602) rfl (.cons (t := 603) rfl .nil)))))))) rfl ?_
                      refine tr_region (fun N25 hN => ?_)
                      refine lx (op_move rfl) rfl ?_
                      refine lx (op_move rfl) rfl ?_
                      refine lx (op_move rfl) rfl ?_
                      refine lx (op_move rfl) rfl ?_
                      refine lx (op_index_mv rfl rfl el90 sz94 rfl (by omega)) rfl ?_
                      refine lx (op_fieldAddr rfl fl94_1 sz30) rfl ?_
                      refine lx (op_tload_one (m := 603) (j := q) (fo := 1) rfl rfl ag30 Df.len (by omega) (List.getElem?_eq_getElem (by omega : q < m.gors[k].frames[j].defers.length)) rfl) rfl ?_
                      first | refine lx (op_call (l := [(Go.Operand.tmp 93)]) (vcl m.gors[k].frames[j].defers[q].args (hbf.args _ (List.getElem_mem ..))) (.cons rfl .nil) fn53) rfl ?_ | refine lx (op_call (l := [(Go.Operand.tmp 93)]) (vcl m.gors[k].frames[j].defers[q].args (hbf.args _ (List.getElem_mem ..))) (.ent rfl (by repeat (first | exact Ents.nil | refine Ents.cons ?_ ?_ | refine Ent.tup ?_ | refine Ent.agg ?_ | exact Ent.row _ _ _ _ | exact Ent.nil _ _ | exact Ent.func _ | exact Ent.refl _ | exact Ent.of_eq rfl | refine Ent.cells ?_)) .nil) fn53) rfl ?_
                      refine lx (op_index_mv rfl rfl el90 sz94 rfl (by omega)) rfl ?_
                      refine lx (op_fieldAddr rfl fl94_1 sz30) rfl ?_
                      refine lxr (op_tstore_id (m := 603) (j := q) (fo := 1) (z := m.gors[k].frames[j].defers[q]) rfl rfl rfl (.one (by (first | exact One.eq rfl | exact One.mv _ _ _ _ _ | exact One.cl _ _ _ | exact One.map _ | exact One.sl _ _ _ | exact One.row _ _ _ _ | exact One.msl _ _ _ _ | exact One.ptr _ _ | exact One.b _ | exact One.cells _))) sz30 rfl Df.len (by omega) (List.getElem?_eq_getElem (by omega : q < m.gors[k].frames[j].defers.length)) rfl rfl) rfl ?_
                      refine lx_end ⟨by kernel_rfl, ?_⟩
                      refine pe_block_normal ?_
                      refine pe_then_normal ?_
                      refine tr_sub hC (.cons (t := 2) rfl (.cons (t := 3) rfl (.cons (t := 9) rfl (.cons (t := 10) rfl (.cons (t := 11) rfl (.cons (t := 12) rfl (.cons (t := 52) rfl (.cons (t := 53) rfl (.cons (t := 54) rfl (.cons (t := 62) rfl (.cons (t := 63) rfl (.cons (t := 83) rfl (.cons (t := 84) rfl .nil))))))))))))) (.cons (t := 3) rfl (.cons (t := 604) rfl (.cons (t := 601) rfl (.cons (t := 600) rfl (.cons (t := 2) rfl (.cons (t := 9) rfl (.cons (t := 602) rfl (.cons (t := 603) rfl .nil)))))))) rfl ?_
                      refine tr_region (fun N26 hN => ?_)
                      refine lx (op_add rfl rfl (by omega)) rfl ?_
                      refine lx (op_move rfl) rfl ?_
                      refine lx_end ⟨by kernel_rfl, ?_⟩
                      refine pe_round (⟨(q + 1), by omega⟩) (by dsimp only; omega) (pe_st hC ?_ ?_ rfl)
                      · try dsimp only [List.cons_append, List.nil_append]
                        first | refine SubF.cons rfl ?_ | (refine SubF.ent rfl ?_ ?_; · repeat (first | exact Ents.nil | refine Ents.cons ?_ ?_ | refine Ent.tup ?_ | refine Ent.agg ?_ | exact Ent.row _ _ _ _ | exact Ent.nil _ _ | exact Ent.func _ | exact Ent.refl _ | exact Ent.of_eq rfl | refine Ent.cells ?_))
                        first | refine SubF.cons rfl ?_ | (refine SubF.ent rfl ?_ ?_; · repeat (first | exact Ents.nil | refine Ents.cons ?_ ?_ | refine Ent.tup ?_ | refine Ent.agg ?_ | exact Ent.row _ _ _ _ | exact Ent.nil _ _ | exact Ent.func _ | exact Ent.refl _ | exact Ent.of_eq rfl | refine Ent.cells ?_))
                        first | refine SubF.cons rfl ?_ | (refine SubF.ent rfl ?_ ?_; · repeat (first | exact Ents.nil | refine Ents.cons ?_ ?_ | refine Ent.tup ?_ | refine Ent.agg ?_ | exact Ent.row _ _ _ _ | exact Ent.nil _ _ | exact Ent.func _ | exact Ent.refl _ | exact Ent.of_eq rfl | refine Ent.cells ?_))
                        first | refine SubF.cons rfl ?_ | (refine SubF.ent rfl ?_ ?_; · repeat (first | exact Ents.nil | refine Ents.cons ?_ ?_ | refine Ent.tup ?_ | refine Ent.agg ?_ | exact Ent.row _ _ _ _ | exact Ent.nil _ _ | exact Ent.func _ | exact Ent.refl _ | exact Ent.of_eq rfl | refine Ent.cells ?_))
                        first | refine SubF.cons rfl ?_ | (refine SubF.ent rfl ?_ ?_; · repeat (first | exact Ents.nil | refine Ents.cons ?_ ?_ | refine Ent.tup ?_ | refine Ent.agg ?_ | exact Ent.row _ _ _ _ | exact Ent.nil _ _ | exact Ent.func _ | exact Ent.refl _ | exact Ent.of_eq rfl | refine Ent.cells ?_))
                        first | refine SubF.cons rfl ?_ | (refine SubF.ent rfl ?_ ?_; · repeat (first | exact Ents.nil | refine Ents.cons ?_ ?_ | refine Ent.tup ?_ | refine Ent.agg ?_ | exact Ent.row _ _ _ _ | exact Ent.nil _ _ | exact Ent.func _ | exact Ent.refl _ | exact Ent.of_eq rfl | refine Ent.cells ?_))
                        first | refine SubF.cons rfl ?_ | (refine SubF.ent rfl ?_ ?_; · repeat (first | exact Ents.nil | refine Ents.cons ?_ ?_ | refine Ent.tup ?_ | refine Ent.agg ?_ | exact Ent.row _ _ _ _ | exact Ent.nil _ _ | exact Ent.func _ | exact Ent.refl _ | exact Ent.of_eq rfl | refine Ent.cells ?_))
                        first | refine SubF.cons rfl ?_ | (refine SubF.ent rfl ?_ ?_; · repeat (first | exact Ents.nil | refine Ents.cons ?_ ?_ | refine Ent.tup ?_ | refine Ent.agg ?_ | exact Ent.row _ _ _ _ | exact Ent.nil _ _ | exact Ent.func _ | exact Ent.refl _ | exact Ent.of_eq rfl | refine Ent.cells ?_))
                        first | refine SubF.cons rfl ?_ | (refine SubF.ent rfl ?_ ?_; · repeat (first | exact Ents.nil | refine Ents.cons ?_ ?_ | refine Ent.tup ?_ | refine Ent.agg ?_ | exact Ent.row _ _ _ _ | exact Ent.nil _ _ | exact Ent.func _ | exact Ent.refl _ | exact Ent.of_eq rfl | refine Ent.cells ?_))
                        first | refine SubF.cons rfl ?_ | (refine SubF.ent rfl ?_ ?_; · repeat (first | exact Ents.nil | refine Ents.cons ?_ ?_ | refine Ent.tup ?_ | refine Ent.agg ?_ | exact Ent.row _ _ _ _ | exact Ent.nil _ _ | exact Ent.func _ | exact Ent.refl _ | exact Ent.of_eq rfl | refine Ent.cells ?_))
                        first | refine SubF.cons rfl ?_ | (refine SubF.ent rfl ?_ ?_; · repeat (first | exact Ents.nil | refine Ents.cons ?_ ?_ | refine Ent.tup ?_ | refine Ent.agg ?_ | exact Ent.row _ _ _ _ | exact Ent.nil _ _ | exact Ent.func _ | exact Ent.refl _ | exact Ent.of_eq rfl | refine Ent.cells ?_))
                        first | refine SubF.cons rfl ?_ | (refine SubF.ent rfl ?_ ?_; · repeat (first | exact Ents.nil | refine Ents.cons ?_ ?_ | refine Ent.tup ?_ | refine Ent.agg ?_ | exact Ent.row _ _ _ _ | exact Ent.nil _ _ | exact Ent.func _ | exact Ent.refl _ | exact Ent.of_eq rfl | refine Ent.cells ?_))
                        first | refine SubF.cons rfl ?_ | (refine SubF.ent rfl ?_ ?_; · repeat (first | exact Ents.nil | refine Ents.cons ?_ ?_ | refine Ent.tup ?_ | refine Ent.agg ?_ | exact Ent.row _ _ _ _ | exact Ent.nil _ _ | exact Ent.func _ | exact Ent.refl _ | exact Ent.of_eq rfl | refine Ent.cells ?_))
                        exact SubF.nil
                      · try dsimp only [List.cons_append, List.nil_append]
                        repeat (first | exact SubL.nil | refine SubL.cons rfl ?_)
                    · (try simp only [Bool.and_eq_true, Bool.or_eq_true, Bool.and_eq_false_iff, Bool.or_eq_false_iff, decide_eq_true_eq, decide_eq_false_iff_not, Bool.not_eq_true', Bool.not_eq_false', List.length_map, ne_eq, Decidable.not_not, Int.not_lt, Int.not_le] at h85)
                      refine tr_exit ?_
                      refine pe_then_exit ?_
                      refine pe_then_exit ?_
                      refine pe_block_eq ?_
                      refine pe_then_normal ?_
                      refine tr_sub hC (.cons (t := 2) rfl (.cons (t := 3) rfl (.cons (t := 9) rfl (.cons (t := 10) rfl (.cons (t := 11) rfl (.cons (t := 12) rfl (.cons (t := 52) rfl (.cons (t := 53) rfl (.cons (t := 54) rfl (.cons (t := 62) rfl (.cons (t := 63) rfl .nil))))))))))) (.cons (t := 3) rfl (.cons (t := 604) rfl (.cons (t := 601) rfl (.cons (t := 600) rfl (.cons (t := 2) rfl (.cons (t := 9) rfl (.cons (t := 602) rfl (.cons (t := 603) rfl .nil)))))))) rfl ?_
                      refine tr_freeze (m := 603) rfl (.cons (t := 2) rfl (.cons (t := 3) rfl (.cons (t := 9) rfl (.cons (t := 10) rfl (.cons (t := 11) rfl (.ent (t := 12) rfl (FEnt.mv (xs := m.gors[k].frames[j].defers) (f := Df.ps) rfl ⟨[], by simp⟩ Df.len) (.cons (t := 52) rfl (.cons (t := 53) rfl (.cons (t := 54) rfl (.cons (t := 62) rfl (.cons (t := 63) rfl .nil))))))))))) ?_
                      try dsimp only
                      refine tr_region (fun N27 hN => ?_)
                      refine lx (op_move rfl) rfl ?_
                      refine lx (op_move rfl) rfl ?_
                      refine lx (op_move rfl) rfl ?_
                      refine lx (op_index_mv rfl rfl el68 sz92 rfl (by omega)) rfl ?_
                      refine lx (op_fieldAddr rfl fl92_4 sz90) rfl ?_
                      refine lxr (op_tstore_id (m := 602) (j := j) (fo := 4) (z := m.gors[k].frames[j]) rfl rfl rfl (.one (by (first | exact One.eq rfl | exact One.mv _ _ _ _ _ | exact One.cl _ _ _ | exact One.map _ | exact One.sl _ _ _ | exact One.row _ _ _ _ | exact One.msl _ _ _ _ | exact One.ptr _ _ | exact One.b _ | exact One.cells _))) sz90 rfl Fm.len (by omega) (List.getElem?_eq_getElem (by omega : j < m.gors[k].frames.length)) rfl rfl) rfl ?_
                      refine lx_end ⟨by kernel_rfl, ?_⟩
                      refine pe_block_normal ?_
                      refine pe_then_normal ?_
                      refine tr_sub hC (.cons (t := 2) rfl (.cons (t := 3) rfl (.cons (t := 9) rfl (.cons (t := 10) rfl (.cons (t := 52) rfl (.cons (t := 53) rfl (.cons (t := 54) rfl (.cons (t := 62) rfl (.cons (t := 63) rfl .nil))))))))) (.cons (t := 3) rfl (.cons (t := 604) rfl (.cons (t := 601) rfl (.cons (t := 600) rfl (.cons (t := 2) rfl (.cons (t := 9) rfl (.cons (t := 602) rfl .nil))))))) rfl ?_
                      refine tr_region (fun N28 hN => ?_)
                      refine lx (op_add rfl rfl (by omega)) rfl ?_
                      refine lx (op_move rfl) rfl ?_
                      refine lx_end ⟨by kernel_rfl, ?_⟩
                      refine pe_round (⟨(j + 1), by omega⟩) (by dsimp only; omega) (pe_st hC ?_ ?_ rfl)
                      · try dsimp only [List.cons_append, List.nil_append]
                        first | refine SubF.cons rfl ?_ | (refine SubF.ent rfl ?_ ?_; · repeat (first | exact Ents.nil | refine Ents.cons ?_ ?_ | refine Ent.tup ?_ | refine Ent.agg ?_ | exact Ent.row _ _ _ _ | exact Ent.nil _ _ | exact Ent.func _ | exact Ent.refl _ | exact Ent.of_eq rfl | refine Ent.cells ?_))
                        first | refine SubF.cons rfl ?_ | (refine SubF.ent rfl ?_ ?_; · repeat (first | exact Ents.nil | refine Ents.cons ?_ ?_ | refine Ent.tup ?_ | refine Ent.agg ?_ | exact Ent.row _ _ _ _ | exact Ent.nil _ _ | exact Ent.func _ | exact Ent.refl _ | exact Ent.of_eq rfl | refine Ent.cells ?_))
                        first | refine SubF.cons rfl ?_ | (refine SubF.ent rfl ?_ ?_; · repeat (first | exact Ents.nil | refine Ents.cons ?_ ?_ | refine Ent.tup ?_ | refine Ent.agg ?_ | exact Ent.row _ _ _ _ | exact Ent.nil _ _ | exact Ent.func _ | exact Ent.refl _ | exact Ent.of_eq rfl | refine Ent.cells ?_))
                        first | refine SubF.cons rfl ?_ | (refine SubF.ent rfl ?_ ?_; · repeat (first | exact Ents.nil | refine Ents.cons ?_ ?_ | refine Ent.tup ?_ | refine Ent.agg ?_ | exact Ent.row _ _ _ _ | exact Ent.nil _ _ | exact Ent.func _ | exact Ent.refl _ | exact Ent.of_eq rfl | refine Ent.cells ?_))
                        first | refine SubF.cons rfl ?_ | (refine SubF.ent rfl ?_ ?_; · repeat (first | exact Ents.nil | refine Ents.cons ?_ ?_ | refine Ent.tup ?_ | refine Ent.agg ?_ | exact Ent.row _ _ _ _ | exact Ent.nil _ _ | exact Ent.func _ | exact Ent.refl _ | exact Ent.of_eq rfl | refine Ent.cells ?_))
                        first | refine SubF.cons rfl ?_ | (refine SubF.ent rfl ?_ ?_; · repeat (first | exact Ents.nil | refine Ents.cons ?_ ?_ | refine Ent.tup ?_ | refine Ent.agg ?_ | exact Ent.row _ _ _ _ | exact Ent.nil _ _ | exact Ent.func _ | exact Ent.refl _ | exact Ent.of_eq rfl | refine Ent.cells ?_))
                        first | refine SubF.cons rfl ?_ | (refine SubF.ent rfl ?_ ?_; · repeat (first | exact Ents.nil | refine Ents.cons ?_ ?_ | refine Ent.tup ?_ | refine Ent.agg ?_ | exact Ent.row _ _ _ _ | exact Ent.nil _ _ | exact Ent.func _ | exact Ent.refl _ | exact Ent.of_eq rfl | refine Ent.cells ?_))
                        first | refine SubF.cons rfl ?_ | (refine SubF.ent rfl ?_ ?_; · repeat (first | exact Ents.nil | refine Ents.cons ?_ ?_ | refine Ent.tup ?_ | refine Ent.agg ?_ | exact Ent.row _ _ _ _ | exact Ent.nil _ _ | exact Ent.func _ | exact Ent.refl _ | exact Ent.of_eq rfl | refine Ent.cells ?_))
                        first | refine SubF.cons rfl ?_ | (refine SubF.ent rfl ?_ ?_; · repeat (first | exact Ents.nil | refine Ents.cons ?_ ?_ | refine Ent.tup ?_ | refine Ent.agg ?_ | exact Ent.row _ _ _ _ | exact Ent.nil _ _ | exact Ent.func _ | exact Ent.refl _ | exact Ent.of_eq rfl | refine Ent.cells ?_))
                        exact SubF.nil
                      · try dsimp only [List.cons_append, List.nil_append]
                        repeat (first | exact SubL.nil | refine SubL.cons rfl ?_)
                · (try simp only [Bool.and_eq_true, Bool.or_eq_true, Bool.and_eq_false_iff, Bool.or_eq_false_iff, decide_eq_true_eq, decide_eq_false_iff_not, Bool.not_eq_true', Bool.not_eq_false', List.length_map, ne_eq, Decidable.not_not, Int.not_lt, Int.not_le] at h64)
                  refine tr_exit ?_
                  refine pe_then_exit ?_
                  refine pe_then_exit ?_
                  refine pe_block_eq ?_
                  refine pe_then_normal ?_
                  refine tr_sub hC (.cons (t := 2) rfl (.cons (t := 3) rfl (.cons (t := 9) rfl (.cons (t := 10) rfl (.cons (t := 52) rfl (.cons (t := 53) rfl (.cons (t := 54) rfl .nil))))))) (.cons (t := 3) rfl (.cons (t := 604) rfl (.cons (t := 601) rfl (.cons (t := 600) rfl (.cons (t := 2) rfl (.cons (t := 9) rfl (.cons (t := 602) rfl .nil))))))) rfl ?_
                  refine tr_freeze (m := 602) rfl (.cons (t := 2) rfl (.cons (t := 3) rfl (.cons (t := 9) rfl (.ent (t := 10) rfl (FEnt.mv (xs := m.gors[k].frames) (f := Fm.ps) rfl ⟨[], by simp⟩ Fm.len) (.cons (t := 52) rfl (.cons (t := 53) rfl (.cons (t := 54) rfl .nil))))))) ?_
                  try dsimp only
                  refine tr_seq ?_
                  refine tr_region (fun N29 hN => ?_)
                  refine lx (op_move rfl) rfl ?_
                  refine lx (op_fieldAddr rfl fl70_3 sz68) rfl ?_
                  refine lxr (op_store (m := 9) (rs := [_, _, _, _]) rfl rfl rfl (.one (by (first | exact One.eq rfl | exact One.mv _ _ _ _ _ | exact One.cl _ _ _ | exact One.map _ | exact One.sl _ _ _ | exact One.row _ _ _ _ | exact One.msl _ _ _ _ | exact One.ptr _ _ | exact One.b _ | exact One.cells _))) sz68 rfl rfl rfl) rfl ?_
                  refine lx_end ⟨by kernel_rfl, ?_⟩
                  refine pe_then_normal ?_
                  refine tr_sub hC (.cons (t := 2) rfl (.cons (t := 3) rfl (.cons (t := 9) rfl (.cons (t := 52) rfl (.cons (t := 53) rfl (.cons (t := 54) rfl .nil)))))) (.cons (t := 3) rfl (.cons (t := 604) rfl (.cons (t := 601) rfl (.cons (t := 600) rfl (.cons (t := 2) rfl (.cons (t := 9) rfl .nil)))))) rfl ?_
                  refine tr_region (fun N30 hN => ?_)
                  refine lx (op_fieldAddr rfl fl29_2 sz26) rfl ?_
                  refine lx (op_bload_one (m := 3) rfl rfl ag26 rfl) rfl ?_
                  refine lx (op_bload (m := 9) rfl rfl ag70 sz70) rfl ?_
                  refine lx (op_buildSlice (f := Gr.ps) (xs := [m.gors[k]]) (l := [(0, (Go.Operand.tmp 108))]) ze70 rfl rfl (by decide) el26 sz70 Gr.len (.cons rfl (.agg rfl) .nil) rfl (by decide)) rfl ?_
                  refine lxr (op_append_t (m := 604) (m' := 604) (kk := 110) (f := Gr.ps) rfl rfl rfl (.inl rfl) el26 ze70 sz70 by70 rfl (by decide) Gr.len (by rw [List.length_singleton]; omega) (by rw [List.length_singleton]; omega)) rfl ?_
                  refine lx (op_fieldAddr rfl fl29_2 sz26) rfl ?_
                  refine lxr (op_store (m := 3) (rs := [_, _, _, _]) rfl rfl rfl (.one (by (first | exact One.eq rfl | exact One.mv _ _ _ _ _ | exact One.cl _ _ _ | exact One.map _ | exact One.sl _ _ _ | exact One.row _ _ _ _ | exact One.msl _ _ _ _ | exact One.ptr _ _ | exact One.b _ | exact One.cells _))) sz26 rfl rfl rfl) rfl ?_
                  refine lx_end ⟨by kernel_rfl, ?_⟩
                  refine pe_block_normal ?_
                  refine pe_then_normal ?_
                  refine tr_sub hC (.cons (t := 2) rfl (.cons (t := 3) rfl (.cons (t := 52) rfl (.cons (t := 53) rfl (.cons (t := 54) rfl .nil))))) (.cons (t := 3) rfl (.cons (t := 601) rfl (.cons (t := 600) rfl (.cons (t := 2) rfl (.cons (t := 604) rfl .nil))))) rfl ?_
                  refine tr_region (fun N31 hN => ?_)
                  refine lx (op_add rfl rfl (by omega)) rfl ?_
                  refine lx (op_move rfl) rfl ?_
                  refine lx_end ⟨by kernel_rfl, ?_⟩
                  refine pe_round (⟨(k + 1, xs ++ [m.gors[k]], (N30, 110)), by dsimp only; omega, by dsimp only; rw [hxs, take_at (by omega : k < m.gors.length)]⟩) (by dsimp only; omega) (pe_st hC ?_ ?_ rfl)
                  · try dsimp only [List.cons_append, List.nil_append]
                    first | refine SubF.cons rfl ?_ | (refine SubF.ent rfl ?_ ?_; · repeat (first | exact Ents.nil | refine Ents.cons ?_ ?_ | refine Ent.tup ?_ | refine Ent.agg ?_ | exact Ent.row _ _ _ _ | exact Ent.nil _ _ | exact Ent.func _ | exact Ent.refl _ | exact Ent.of_eq rfl | refine Ent.cells ?_))
                    first | refine SubF.cons rfl ?_ | (refine SubF.ent rfl ?_ ?_; · repeat (first | exact Ents.nil | refine Ents.cons ?_ ?_ | refine Ent.tup ?_ | refine Ent.agg ?_ | exact Ent.row _ _ _ _ | exact Ent.nil _ _ | exact Ent.func _ | exact Ent.refl _ | exact Ent.of_eq rfl | refine Ent.cells ?_))
                    first | refine SubF.cons rfl ?_ | (refine SubF.ent rfl ?_ ?_; · repeat (first | exact Ents.nil | refine Ents.cons ?_ ?_ | refine Ent.tup ?_ | refine Ent.agg ?_ | exact Ent.row _ _ _ _ | exact Ent.nil _ _ | exact Ent.func _ | exact Ent.refl _ | exact Ent.of_eq rfl | refine Ent.cells ?_))
                    first | refine SubF.cons rfl ?_ | (refine SubF.ent rfl ?_ ?_; · repeat (first | exact Ents.nil | refine Ents.cons ?_ ?_ | refine Ent.tup ?_ | refine Ent.agg ?_ | exact Ent.row _ _ _ _ | exact Ent.nil _ _ | exact Ent.func _ | exact Ent.refl _ | exact Ent.of_eq rfl | refine Ent.cells ?_))
                    first | refine SubF.cons rfl ?_ | (refine SubF.ent rfl ?_ ?_; · repeat (first | exact Ents.nil | refine Ents.cons ?_ ?_ | refine Ent.tup ?_ | refine Ent.agg ?_ | exact Ent.row _ _ _ _ | exact Ent.nil _ _ | exact Ent.func _ | exact Ent.refl _ | exact Ent.of_eq rfl | refine Ent.cells ?_))
                    exact SubF.nil
                  · try dsimp only [List.cons_append, List.nil_append]
                    repeat (first | exact SubL.nil | refine SubL.cons rfl ?_)
            · (try simp only [Bool.and_eq_true, Bool.or_eq_true, Bool.and_eq_false_iff, Bool.or_eq_false_iff, decide_eq_true_eq, decide_eq_false_iff_not, Bool.not_eq_true', Bool.not_eq_false', List.length_map, ne_eq, Decidable.not_not, Int.not_lt, Int.not_le] at h55)
              have hfin : xs = m.gors := by rw [hxs, List.take_of_length_le (by omega)]
              subst hfin
              refine tr_exit ?_
              refine pe_then_exit ?_
              refine pe_then_exit ?_
              refine pe_block_eq ?_
              refine pe_then_normal ?_
              refine tr_sub hC (.cons (t := 2) rfl (.cons (t := 3) rfl .nil)) (.cons (t := 3) rfl (.cons (t := 604) rfl (.cons (t := 601) rfl (.cons (t := 600) rfl (.cons (t := 2) rfl .nil))))) rfl ?_
              refine tr_seq ?_
              refine tr_region (fun N32 hN => ?_)
              refine lx (op_bload (m := 3) rfl rfl ag29 sz29) rfl ?_
              refine lxr (op_store_all (m := 2) rfl rfl rfl (.agg rfl) sz29 rfl) rfl ?_
              refine lx_end ⟨by kernel_rfl, ?_⟩
              refine pe_then_normal ?_
              refine tr_sub hC (.cons (t := 2) rfl .nil) (.cons (t := 604) rfl (.cons (t := 601) rfl (.cons (t := 600) rfl (.cons (t := 2) rfl .nil)))) rfl ?_
              refine tr_ret ?_
              refine pe_ownS' [600, 604] rfl hO rfl (.cell (m := 2) rfl rfl ag29 sz29 .nil) (.cons (m := 600) rfl (RenR.blk _ _ _) (.cons (m := 604) rfl (RenR.blk _ _ _) .nil)) rfl rfl rfl ?_
              intro τ ι hs'
              refine ⟨?_, ?_⟩
              · exact aggP_at (.cons (mv_ren (hs' 0 _ rfl).1 (hs' 0 _ rfl).2) (.cons (ent_at (Ent.refl _)) (.cons (mv_ren (hs' 1 _ rfl).1 (hs' 1 _ rfl).2) (.cons (ent_at (Ent.refl _)) .nil))))
              · exact (.moved rfl (fun b o h => h) (.moved rfl (fun b o h => h) .nil))
end Go.Proofs.Ytibcbiamdjmckaa


set_option linter.unusedVariables false
set_option linter.unusedSimpArgs false
namespace Go.Proofs.Ytibcbiamdjmckaa
open Go.AL Go.Ch Go.Hp Go.RowKit
theorem bsearch_own (id : AL.Id) (xs : List Ob) (x : Int) (hs : Srt xs) (hx : xs.length ≤ 4000000) : FnOK Try.prog 55 [mvP id 10 0 xs.length xs.length, eqP (.int .i64 x), clP 56 [] []] [(id, blkX 10 33 (xs.flatMap Ob.ps))] 0 (fun ι => tupP [eqP (.int .i64 (pos xs x : Int)), eqP (.bool (fnd xs x))]) (fun ι => [(id, blkX 10 33 (xs.flatMap Ob.ps))]) := by
  refine fn_ownN Try.func55 rfl Try.ntmps55 rfl ?_
  intro σ0 M Rf R hC hO
  simp only [frameOf, tokOf]
  refine tr_seq ?_
  refine tr_region (fun N0 hN => ?_)
  refine lx (op_assign rfl) rfl ?_
  refine lx (op_assign rfl) rfl ?_
  refine lx_end ⟨by kernel_rfl, ?_⟩
  refine pe_then_normal ?_
  refine tr_sub hC (.cons (t := 0) rfl (.cons (t := 1) rfl (.cons (t := 2) rfl .nil))) (.cons (t := 0) rfl .nil) rfl ?_
  refine tr_seq ?_
  refine tr_region (fun N1 hN => ?_)
  refine lx (op_move rfl) rfl ?_
  first | refine lx (op_len rfl el22) rfl ?_ | refine lx (op_len_row rfl el22) rfl ?_ | refine lx (op_len_mv rfl el22) rfl ?_ | refine lx (op_len_nil rfl el22) rfl ?_
  refine lx (op_assign rfl) rfl ?_
  refine lx_end ⟨by kernel_rfl, ?_⟩
  refine pe_then_normal ?_
  refine tr_sub hC (.cons (t := 0) rfl (.cons (t := 1) rfl (.cons (t := 2) rfl (.cons (t := 8) rfl .nil)))) (.cons (t := 0) rfl .nil) rfl ?_
  refine tr_seq ?_
  refine tr_region (fun N2 hN => ?_)
  refine lx (op_move rfl) rfl ?_
  refine lx (op_assign rfl) rfl ?_
  refine lx (op_assign rfl) rfl ?_
  refine lx_end ⟨by kernel_rfl, ?_⟩
  refine pe_then_normal ?_
  refine tr_sub hC (.cons (t := 0) rfl (.cons (t := 1) rfl (.cons (t := 2) rfl (.cons (t := 8) rfl (.cons (t := 9) rfl (.cons (t := 10) rfl .nil)))))) (.cons (t := 0) rfl .nil) rfl ?_
  refine tr_seq ?_
  refine tr_block ?_
  refine tr_loopK (α := {zz : Nat × Nat // zz.1 ≤ zz.2 ∧ zz.2 ≤ xs.length ∧ (∀ o ∈ xs.take zz.1, o.id < x) ∧ (∀ o ∈ xs.drop zz.2, x ≤ o.id)}) (⟨(0, xs.length), Nat.zero_le _, Nat.le_refl _, by simp, by simp⟩) (fun zz => [(9, eqP (.int .i64 (zz.1.1 : Int))), (10, eqP (.int .i64 (zz.1.2 : Int)))]) (fun zz => []) (fun zz => zz.1.2 - zz.1.1) hC (.cons (t := 0) rfl (.cons (t := 1) rfl (.cons (t := 2) rfl (.cons (t := 8) rfl .nil)))) (.cons (t := 0) rfl .nil) rfl ?_ ?_ (fun zz => ?_)
  · try dsimp only [List.cons_append, List.nil_append]
    first | refine SubF.cons rfl ?_ | (refine SubF.ent rfl ?_ ?_; · repeat (first | exact Ents.nil | refine Ents.cons ?_ ?_ | refine Ent.tup ?_ | refine Ent.agg ?_ | exact Ent.row _ _ _ _ | exact Ent.nil _ _ | exact Ent.func _ | exact Ent.refl _ | exact Ent.of_eq rfl | refine Ent.cells ?_))
    first | refine SubF.cons rfl ?_ | (refine SubF.ent rfl ?_ ?_; · repeat (first | exact Ents.nil | refine Ents.cons ?_ ?_ | refine Ent.tup ?_ | refine Ent.agg ?_ | exact Ent.row _ _ _ _ | exact Ent.nil _ _ | exact Ent.func _ | exact Ent.refl _ | exact Ent.of_eq rfl | refine Ent.cells ?_))
    exact SubF.nil
  · try dsimp only [List.cons_append, List.nil_append]
    repeat (first | exact SubL.nil | refine SubL.cons rfl ?_)
  · obtain ⟨⟨i, j⟩, hij, hj, hi1, hi2⟩ := zz
    try dsimp only at hij
    try dsimp only at hj
    try dsimp only at hi1
    try dsimp only at hi2
    dsimp only [List.cons_append, List.nil_append]
    refine tr_seq ?_
    refine tr_seq ?_
    refine tr_region (fun N3 hN => ?_)
    refine lx (op_move rfl) rfl ?_
    refine lx (op_move rfl) rfl ?_
    refine lx (op_lss rfl rfl) rfl ?_
    refine lx_end ⟨by kernel_rfl, ?_⟩
    refine pe_then_normal ?_
    refine tr_sub hC (.cons (t := 0) rfl (.cons (t := 1) rfl (.cons (t := 2) rfl (.cons (t := 8) rfl (.cons (t := 9) rfl (.cons (t := 10) rfl (.cons (t := 17) rfl .nil))))))) (.cons (t := 0) rfl .nil) rfl ?_
    refine tr_cond rfl (fun h17 => ?_) (fun h17 => ?_)
    · (try simp only [Bool.and_eq_true, Bool.or_eq_true, Bool.and_eq_false_iff, Bool.or_eq_false_iff, decide_eq_true_eq, decide_eq_false_iff_not, Bool.not_eq_true', Bool.not_eq_false', List.length_map, ne_eq, Decidable.not_not, Int.not_lt, Int.not_le] at h17)
      refine tr_skip ?_
      refine pe_then_normal ?_
      refine tr_sub hC (.cons (t := 0) rfl (.cons (t := 1) rfl (.cons (t := 2) rfl (.cons (t := 8) rfl (.cons (t := 9) rfl (.cons (t := 10) rfl .nil)))))) (.cons (t := 0) rfl .nil) rfl ?_
      refine tr_block ?_
      refine tr_seq ?_
      refine tr_region (fun N4 hN => ?_)
      refine lx (op_move rfl) rfl ?_
      refine lx (op_move rfl) rfl ?_
      refine lx (op_add rfl rfl (by omega)) rfl ?_
      refine lx (op_convert rfl us3 ik105) rfl ?_
      refine lx (op_shr rfl rfl rfl) rfl ?_
      refine lx (op_convert rfl us105 ik3) rfl ?_
      refine lx (op_assign rfl) rfl ?_
      refine lx_end ⟨by kernel_rfl, ?_⟩
      refine pe_then_normal ?_
      refine tr_sub hC (.cons (t := 0) rfl (.cons (t := 1) rfl (.cons (t := 2) rfl (.cons (t := 8) rfl (.cons (t := 9) rfl (.cons (t := 10) rfl (.cons (t := 11) rfl .nil))))))) (.cons (t := 0) rfl .nil) rfl ?_
      refine tr_sub hC (.cons (t := 0) rfl (.cons (t := 1) rfl (.cons (t := 2) rfl (.cons (t := 8) rfl (.cons (t := 9) rfl (.cons (t := 10) rfl (.ent (t := 11) rfl ((show Ent _ (eqP (.int .i64 (((i + j) / 2 : Nat) : Int))) from entI (half (by omega)))) .nil))))))) (.cons (t := 0) rfl .nil) rfl ?_
      refine tr_seq ?_
      refine tr_region (fun N5 hN => ?_)
      refine lx (op_move rfl) rfl ?_
      refine lx (op_move rfl) rfl ?_
      refine lx (op_move rfl) rfl ?_
      refine lx (op_index_mv rfl rfl el22 sz33 rfl (by omega)) rfl ?_
      refine lx (op_tload (m := 0) (j := (i + j) / 2) (fo := 0) rfl rfl ag33 sz33 Ob.len (by omega) (List.getElem?_eq_getElem (by omega : (i + j) / 2 < xs.length)) rfl rfl) rfl ?_
      refine lx (op_move rfl) rfl ?_
      first | refine lx (op_callV (l := [(Go.Operand.tmp 28), (Go.Operand.tmp 29)]) rfl (scmp_ok (xs[(i + j) / 2]'(by omega)) x) (.cons rfl (.cons rfl .nil)) fn56) rfl ?_ | refine lx (op_callV (l := [(Go.Operand.tmp 28), (Go.Operand.tmp 29)]) rfl (scmp_ok (xs[(i + j) / 2]'(by omega)) x) (.ent rfl (by repeat (first | exact Ents.nil | refine Ents.cons ?_ ?_ | refine Ent.tup ?_ | refine Ent.agg ?_ | exact Ent.row _ _ _ _ | exact Ent.nil _ _ | exact Ent.func _ | exact Ent.refl _ | exact Ent.of_eq rfl | refine Ent.cells ?_)) (.ent rfl (by repeat (first | exact Ents.nil | refine Ents.cons ?_ ?_ | refine Ent.tup ?_ | refine Ent.agg ?_ | exact Ent.row _ _ _ _ | exact Ent.nil _ _ | exact Ent.func _ | exact Ent.refl _ | exact Ent.of_eq rfl | refine Ent.cells ?_)) .nil)) fn56) rfl ?_
      refine lx (op_lss rfl rfl) rfl ?_
      refine lx_end ⟨by kernel_rfl, ?_⟩
      refine pe_then_normal ?_
      refine tr_sub hC (.cons (t := 0) rfl (.cons (t := 1) rfl (.cons (t := 2) rfl (.cons (t := 8) rfl (.cons (t := 9) rfl (.cons (t := 10) rfl (.cons (t := 11) rfl (.cons (t := 31) rfl .nil)))))))) (.cons (t := 0) rfl .nil) rfl ?_
      refine tr_cond rfl (fun h31 => ?_) (fun h31 => ?_)
      · (try simp only [Bool.and_eq_true, Bool.or_eq_true, Bool.and_eq_false_iff, Bool.or_eq_false_iff, decide_eq_true_eq, decide_eq_false_iff_not, Bool.not_eq_true', Bool.not_eq_false', List.length_map, ne_eq, Decidable.not_not, Int.not_lt, Int.not_le] at h31)
        have hst := lo_step hs (by omega : (i + j) / 2 < xs.length) (cmp_lt h31)
        refine tr_region (fun N6 hN => ?_)
        refine lx (op_move rfl) rfl ?_
        refine lx (op_add rfl rfl (by omega)) rfl ?_
        refine lx (op_assign rfl) rfl ?_
        refine lx_end ⟨by kernel_rfl, ?_⟩
        refine pe_block_normal ?_
        refine pe_round (⟨((i + j) / 2 + 1, j), by dsimp only; omega, by dsimp only; omega, hst, hi2⟩) (by dsimp only; omega) (pe_st hC ?_ ?_ rfl)
        · try dsimp only [List.cons_append, List.nil_append]
          first | refine SubF.cons rfl ?_ | (refine SubF.ent rfl ?_ ?_; · repeat (first | exact Ents.nil | refine Ents.cons ?_ ?_ | refine Ent.tup ?_ | refine Ent.agg ?_ | exact Ent.row _ _ _ _ | exact Ent.nil _ _ | exact Ent.func _ | exact Ent.refl _ | exact Ent.of_eq rfl | refine Ent.cells ?_))
          first | refine SubF.cons rfl ?_ | (refine SubF.ent rfl ?_ ?_; · repeat (first | exact Ents.nil | refine Ents.cons ?_ ?_ | refine Ent.tup ?_ | refine Ent.agg ?_ | exact Ent.row _ _ _ _ | exact Ent.nil _ _ | exact Ent.func _ | exact Ent.refl _ | exact Ent.of_eq rfl | refine Ent.cells ?_))
          first | refine SubF.cons rfl ?_ | (refine SubF.ent rfl ?_ ?_; · repeat (first | exact Ents.nil | refine Ents.cons ?_ ?_ | refine Ent.tup ?_ | refine Ent.agg ?_ | exact Ent.row _ _ _ _ | exact Ent.nil _ _ | exact Ent.func _ | exact Ent.refl _ | exact Ent.of_eq rfl | refine Ent.cells ?_))
          first | refine SubF.cons rfl ?_ | (refine SubF.ent rfl ?_ ?_; · repeat (first | exact Ents.nil | refine Ents.cons ?_ ?_ | refine Ent.tup ?_ | refine Ent.agg ?_ | exact Ent.row _ _ _ _ | exact Ent.nil _ _ | exact Ent.func _ | exact Ent.refl _ | exact Ent.of_eq rfl | refine Ent.cells ?_))
          first | refine SubF.cons rfl ?_ | (refine SubF.ent rfl ?_ ?_; · repeat (first | exact Ents.nil | refine Ents.cons ?_ ?_ | refine Ent.tup ?_ | refine Ent.agg ?_ | exact Ent.row _ _ _ _ | exact Ent.nil _ _ | exact Ent.func _ | exact Ent.refl _ | exact Ent.of_eq rfl | refine Ent.cells ?_))
          first | refine SubF.cons rfl ?_ | (refine SubF.ent rfl ?_ ?_; · repeat (first | exact Ents.nil | refine Ents.cons ?_ ?_ | refine Ent.tup ?_ | refine Ent.agg ?_ | exact Ent.row _ _ _ _ | exact Ent.nil _ _ | exact Ent.func _ | exact Ent.refl _ | exact Ent.of_eq rfl | refine Ent.cells ?_))
          exact SubF.nil
        · try dsimp only [List.cons_append, List.nil_append]
          repeat (first | exact SubL.nil | refine SubL.cons rfl ?_)
      · (try simp only [Bool.and_eq_true, Bool.or_eq_true, Bool.and_eq_false_iff, Bool.or_eq_false_iff, decide_eq_true_eq, decide_eq_false_iff_not, Bool.not_eq_true', Bool.not_eq_false', List.length_map, ne_eq, Decidable.not_not, Int.not_lt, Int.not_le] at h31)
        have hst := hi_step hs (by omega : (i + j) / 2 < xs.length) (cmp_ge h31)
        refine tr_region (fun N7 hN => ?_)
        refine lx (op_move rfl) rfl ?_
        refine lx (op_assign rfl) rfl ?_
        refine lx_end ⟨by kernel_rfl, ?_⟩
        refine pe_block_normal ?_
        refine pe_round (⟨(i, (i + j) / 2), by dsimp only; omega, by dsimp only; omega, hi1, hst⟩) (by dsimp only; omega) (pe_st hC ?_ ?_ rfl)
        · try dsimp only [List.cons_append, List.nil_append]
          first | refine SubF.cons rfl ?_ | (refine SubF.ent rfl ?_ ?_; · repeat (first | exact Ents.nil | refine Ents.cons ?_ ?_ | refine Ent.tup ?_ | refine Ent.agg ?_ | exact Ent.row _ _ _ _ | exact Ent.nil _ _ | exact Ent.func _ | exact Ent.refl _ | exact Ent.of_eq rfl | refine Ent.cells ?_))
          first | refine SubF.cons rfl ?_ | (refine SubF.ent rfl ?_ ?_; · repeat (first | exact Ents.nil | refine Ents.cons ?_ ?_ | refine Ent.tup ?_ | refine Ent.agg ?_ | exact Ent.row _ _ _ _ | exact Ent.nil _ _ | exact Ent.func _ | exact Ent.refl _ | exact Ent.of_eq rfl | refine Ent.cells ?_))
          first | refine SubF.cons rfl ?_ | (refine SubF.ent rfl ?_ ?_; · repeat (first | exact Ents.nil | refine Ents.cons ?_ ?_ | refine Ent.tup ?_ | refine Ent.agg ?_ | exact Ent.row _ _ _ _ | exact Ent.nil _ _ | exact Ent.func _ | exact Ent.refl _ | exact Ent.of_eq rfl | refine Ent.cells ?_))
          first | refine SubF.cons rfl ?_ | (refine SubF.ent rfl ?_ ?_; · repeat (first | exact Ents.nil | refine Ents.cons ?_ ?_ | refine Ent.tup ?_ | refine Ent.agg ?_ | exact Ent.row _ _ _ _ | exact Ent.nil _ _ | exact Ent.func _ | exact Ent.refl _ | exact Ent.of_eq rfl | refine Ent.cells ?_))
          first | refine SubF.cons rfl ?_ | (refine SubF.ent rfl ?_ ?_; · repeat (first | exact Ents.nil | refine Ents.cons ?_ ?_ | refine Ent.tup ?_ | refine Ent.agg ?_ | exact Ent.row _ _ _ _ | exact Ent.nil _ _ | exact Ent.func _ | exact Ent.refl _ | exact Ent.of_eq rfl | refine Ent.cells ?_))
          first | refine SubF.cons rfl ?_ | (refine SubF.ent rfl ?_ ?_; · repeat (first | exact Ents.nil | refine Ents.cons ?_ ?_ | refine Ent.tup ?_ | refine Ent.agg ?_ | exact Ent.row _ _ _ _ | exact Ent.nil _ _ | exact Ent.func _ | exact Ent.refl _ | exact Ent.of_eq rfl | refine Ent.cells ?_))
          exact SubF.nil
        · try dsimp only [List.cons_append, List.nil_append]
          repeat (first | exact SubL.nil | refine SubL.cons rfl ?_)
    · (try simp only [Bool.and_eq_true, Bool.or_eq_true, Bool.and_eq_false_iff, Bool.or_eq_false_iff, decide_eq_true_eq, decide_eq_false_iff_not, Bool.not_eq_true', Bool.not_eq_false', List.length_map, ne_eq, Decidable.not_not, Int.not_lt, Int.not_le] at h17)
      obtain rfl : i = j := by omega
      have hps := pos_at hj hi1 hi2
      refine tr_exit ?_
      refine pe_then_exit ?_
      refine pe_then_exit ?_
      refine pe_block_eq ?_
      refine pe_then_normal ?_
      refine tr_sub hC (.cons (t := 0) rfl (.cons (t := 1) rfl (.cons (t := 2) rfl (.cons (t := 8) rfl (.cons (t := 9) rfl .nil))))) (.cons (t := 0) rfl .nil) rfl ?_
      refine tr_seq ?_
      refine tr_region (fun N8 hN => ?_)
      refine lx (op_move rfl) rfl ?_
      refine lx (op_move rfl) rfl ?_
      refine lx (op_move rfl) rfl ?_
      refine lx (op_lss rfl rfl) rfl ?_
      refine lxc (op_move rfl) rfl (fun h39 => ?_) (fun h39 => ?_)
      · (try simp only [Bool.and_eq_true, Bool.or_eq_true, Bool.and_eq_false_iff, Bool.or_eq_false_iff, decide_eq_true_eq, decide_eq_false_iff_not, Bool.not_eq_true', Bool.not_eq_false', List.length_map, ne_eq, Decidable.not_not, Int.not_lt, Int.not_le] at h39)
        have hil : i < xs.length := by omega
        have hfd := fnd_at hs hil hi1 hi2
        refine lxg rfl rfl rfl (op_move rfl) rfl ?_
        refine lxg rfl rfl rfl (op_move rfl) rfl ?_
        refine lxg rfl rfl rfl (op_move rfl) rfl ?_
        refine lxg rfl rfl rfl (op_index_mv rfl rfl el22 sz33 rfl (by omega)) rfl ?_
        refine lxg rfl rfl rfl (op_tload (m := 0) (j := i) (fo := 0) rfl rfl ag33 sz33 Ob.len (by omega) (List.getElem?_eq_getElem (by omega : i < xs.length)) rfl rfl) rfl ?_
        refine lxg rfl rfl rfl (op_move rfl) rfl ?_
        first | refine lxg rfl rfl rfl (op_callV (l := [(Go.Operand.tmp 44), (Go.Operand.tmp 45)]) rfl (scmp_ok (xs[i]'(by omega)) x) (.cons rfl (.cons rfl .nil)) fn56) rfl ?_ | refine lxg rfl rfl rfl (op_callV (l := [(Go.Operand.tmp 44), (Go.Operand.tmp 45)]) rfl (scmp_ok (xs[i]'(by omega)) x) (.ent rfl (by repeat (first | exact Ents.nil | refine Ents.cons ?_ ?_ | refine Ent.tup ?_ | refine Ent.agg ?_ | exact Ent.row _ _ _ _ | exact Ent.nil _ _ | exact Ent.func _ | exact Ent.refl _ | exact Ent.of_eq rfl | refine Ent.cells ?_)) (.ent rfl (by repeat (first | exact Ents.nil | refine Ents.cons ?_ ?_ | refine Ent.tup ?_ | refine Ent.agg ?_ | exact Ent.row _ _ _ _ | exact Ent.nil _ _ | exact Ent.func _ | exact Ent.refl _ | exact Ent.of_eq rfl | refine Ent.cells ?_)) .nil)) fn56) rfl ?_
        refine lxg rfl rfl rfl (op_eql rfl rfl) rfl ?_
        refine lx (op_pick_t rfl rfl) rfl ?_
        refine lx (op_assign rfl) rfl ?_
        refine lx (op_assign rfl) rfl ?_
        refine lx_end ⟨by kernel_rfl, ?_⟩
        refine pe_then_normal ?_
        refine tr_sub hC (.cons (t := 6) rfl (.cons (t := 7) rfl .nil)) (.cons (t := 0) rfl .nil) rfl ?_
        refine tr_ret ?_
        refine pe_ownT' (rs := [.tmp 6, .tmp 7]) [0] rfl rfl hO rfl (.tmp rfl (.tmp rfl .nil)) .nil rfl rfl rfl ?_
        intro τ ι hs
        refine ⟨?_, ?_⟩
        · rw [hps, hfd]
          exact fun v h => h
        · exact (.kept rfl rfl (fun b o h => h) .nil)
      · (try simp only [Bool.and_eq_true, Bool.or_eq_true, Bool.and_eq_false_iff, Bool.or_eq_false_iff, decide_eq_true_eq, decide_eq_false_iff_not, Bool.not_eq_true', Bool.not_eq_false', List.length_map, ne_eq, Decidable.not_not, Int.not_lt, Int.not_le] at h39)
        have hfd := fnd_no (by omega) hi1
        refine lx_skip rfl rfl rfl (by first | exact notThe_bool rfl | exact notThe_undef) rfl ?_
        refine lx_skip rfl rfl rfl (by first | exact notThe_bool rfl | exact notThe_undef) rfl ?_
        refine lx_skip rfl rfl rfl (by first | exact notThe_bool rfl | exact notThe_undef) rfl ?_
        refine lx_skip rfl rfl rfl (by first | exact notThe_bool rfl | exact notThe_undef) rfl ?_
        refine lx_skip rfl rfl rfl (by first | exact notThe_bool rfl | exact notThe_undef) rfl ?_
        refine lx_skip rfl rfl rfl (by first | exact notThe_bool rfl | exact notThe_undef) rfl ?_
        refine lx_skip rfl rfl rfl (by first | exact notThe_bool rfl | exact notThe_undef) rfl ?_
        refine lx_skip rfl rfl rfl (by first | exact notThe_bool rfl | exact notThe_undef) rfl ?_
        refine lx (op_pick_f rfl rfl) rfl ?_
        refine lx (op_assign rfl) rfl ?_
        refine lx (op_assign rfl) rfl ?_
        refine lx_end ⟨by kernel_rfl, ?_⟩
        refine pe_then_normal ?_
        refine tr_sub hC (.cons (t := 6) rfl (.cons (t := 7) rfl .nil)) (.cons (t := 0) rfl .nil) rfl ?_
        refine tr_ret ?_
        refine pe_ownT' (rs := [.tmp 6, .tmp 7]) [0] rfl rfl hO rfl (.tmp rfl (.tmp rfl .nil)) .nil rfl rfl rfl ?_
        intro τ ι hs
        refine ⟨?_, ?_⟩
        · rw [hps, hfd]
          exact fun v h => h
        · exact (.kept rfl rfl (fun b o h => h) .nil)
theorem search_own (id : AL.Id) (xs : List Ob) (x : Int) (hs : Srt xs) (hx : xs.length ≤ 4000000) : FnOK Try.prog 41 [mvP id 10 0 xs.length xs.length, eqP (.int .i64 x)] [(id, blkX 10 33 (xs.flatMap Ob.ps))] 0 (fun ι => tupP [eqP (.int .i64 (pos xs x : Int)), eqP (.bool (fnd xs x))]) (fun ι => [(id, blkX 10 33 (xs.flatMap Ob.ps))]) := by
  refine fn_ownN Try.func41 rfl Try.ntmps41 rfl ?_
  intro σ0 M Rf R hC hO
  simp only [frameOf, tokOf]
  refine tr_seq ?_
  refine tr_region (fun N0 hN => ?_)
  refine lx (op_assign rfl) rfl ?_
  refine lx (op_assign rfl) rfl ?_
  refine lx_end ⟨by kernel_rfl, ?_⟩
  refine pe_then_normal ?_
  refine tr_sub hC (.cons (t := 0) rfl (.cons (t := 1) rfl .nil)) (.cons (t := 0) rfl .nil) rfl ?_
  refine tr_seq ?_
  refine tr_region (fun N1 hN => ?_)
  refine lx (op_move rfl) rfl ?_
  refine lx (op_move rfl) rfl ?_
  first | refine lx_any rfl (op_callG2 (l := [(Go.Operand.tmp 6), (Go.Operand.tmp 7), (Go.Operand.func 56)]) (add := [(0, (id, blkX 10 33 (xs.flatMap Ob.ps)))]) (ks := []) (φ := tupP [eqP (.int .i64 (pos xs x : Int)), eqP (.bool (fnd xs x))]) (.cons (m := 0) rfl .nil) (bsearch_own id xs x hs hx) (.cons rfl (.cons rfl (.cons rfl .nil))) fn55 rfl rfl rfl (.old rfl .nil) rfl) (dOK_spec rfl) ?_ | refine lx_any rfl (op_callG2 (l := [(Go.Operand.tmp 6), (Go.Operand.tmp 7), (Go.Operand.func 56)]) (add := [(0, (id, blkX 10 33 (xs.flatMap Ob.ps)))]) (ks := []) (φ := tupP [eqP (.int .i64 (pos xs x : Int)), eqP (.bool (fnd xs x))]) (.cons (m := 0) rfl .nil) (bsearch_own id xs x hs hx) (.ent rfl (by repeat (first | exact Ents.nil | refine Ents.cons ?_ ?_ | refine Ent.tup ?_ | refine Ent.agg ?_ | exact Ent.row _ _ _ _ | exact Ent.nil _ _ | exact Ent.func _ | exact Ent.refl _ | exact Ent.of_eq rfl | refine Ent.cells ?_)) (.ent rfl (by repeat (first | exact Ents.nil | refine Ents.cons ?_ ?_ | refine Ent.tup ?_ | refine Ent.agg ?_ | exact Ent.row _ _ _ _ | exact Ent.nil _ _ | exact Ent.func _ | exact Ent.refl _ | exact Ent.of_eq rfl | refine Ent.cells ?_)) (.ent rfl (by repeat (first | exact Ents.nil | refine Ents.cons ?_ ?_ | refine Ent.tup ?_ | refine Ent.agg ?_ | exact Ent.row _ _ _ _ | exact Ent.nil _ _ | exact Ent.func _ | exact Ent.refl _ | exact Ent.of_eq rfl | refine Ent.cells ?_)) .nil))) fn55 rfl rfl rfl (.old rfl .nil) rfl) (dOK_spec rfl) ?_
  refine lx (op_extract rfl rfl) rfl ?_
  refine lx (op_extract rfl rfl) rfl ?_
  refine lx (op_assign rfl) rfl ?_
  refine lx (op_assign rfl) rfl ?_
  refine lx_end ⟨by kernel_rfl, ?_⟩
  refine pe_then_normal ?_
  refine tr_sub hC (.cons (t := 4) rfl (.cons (t := 5) rfl .nil)) (.cons (t := 0) rfl .nil) rfl ?_
  refine tr_ret ?_
  refine pe_ownT' (rs := [.tmp 4, .tmp 5]) [0] rfl rfl hO rfl (.tmp rfl (.tmp rfl .nil)) .nil rfl rfl rfl ?_
  intro τ ι hs
  refine ⟨?_, ?_⟩
  · exact fun v h => h
  · exact (.kept rfl rfl (fun b o h => h) .nil)
end Go.Proofs.Ytibcbiamdjmckaa


set_option linter.unusedVariables false
set_option linter.unusedSimpArgs false
namespace Go.Proofs.Ytibcbiamdjmckaa
open Go.AL Go.Ch Go.Hp Go.RowKit
theorem insert_ok (id idv : AL.Id) (xs : List Ob) (i : Nat) (v : Ob) (hi : i ≤ xs.length) (hx : xs.length ≤ 4000000) : FnOK Try.prog 43 [mvP id 10 0 xs.length xs.length, eqP (.int .i64 (i : Int)), rowP idv Ob.ps 10 [v]] [(id, blkX 10 33 (xs.flatMap Ob.ps)), (idv, tail 33 10 (([v] : List Ob).length * 10))] 1 (fun ι => mvP (ι 0) 10 0 (xs.length + 1) (xs.length + 1)) (fun ι => [(ι 0, blkX 10 33 ((insL xs i v).flatMap Ob.ps))]) := by
  have hv1 : ([v] : List Ob).length = 1 := rfl
  refine fn_ownN Try.func43 rfl Try.ntmps43 rfl ?_
  intro σ0 M Rf R hC hO
  simp only [frameOf, tokOf]
  refine tr_seq ?_
  refine tr_region (fun N0 hN => ?_)
  refine lx (op_assign rfl) rfl ?_
  refine lx_end ⟨by kernel_rfl, ?_⟩
  refine pe_then_normal ?_
  refine tr_sub hC (.cons (t := 0) rfl (.cons (t := 1) rfl (.cons (t := 2) rfl .nil))) (.cons (t := 0) rfl (.cons (t := 1) rfl .nil)) rfl ?_
  refine tr_seq ?_
  refine tr_region (fun N1 hN => ?_)
  refine lx (op_move rfl) rfl ?_
  refine lx (op_move rfl) rfl ?_
  refine lx (op_mslice_l rfl rfl el22 sz33 rfl (by omega)) rfl ?_
  refine lx_end ⟨by kernel_rfl, ?_⟩
  refine pe_then_normal ?_
  refine tr_sub hC (.cons (t := 0) rfl (.cons (t := 1) rfl (.cons (t := 2) rfl .nil))) (.cons (t := 0) rfl (.cons (t := 1) rfl .nil)) rfl ?_
  refine tr_seq ?_
  refine tr_region (fun N2 hN => ?_)
  refine lx (op_move rfl) rfl ?_
  first | refine lx (op_len rfl el22) rfl ?_ | refine lx (op_len_row rfl el22) rfl ?_ | refine lx (op_len_mv rfl el22) rfl ?_ | refine lx (op_len_nil rfl el22) rfl ?_
  refine lx (op_assign rfl) rfl ?_
  refine lx_end ⟨by kernel_rfl, ?_⟩
  refine pe_then_normal ?_
  refine tr_sub hC (.cons (t := 0) rfl (.cons (t := 1) rfl (.cons (t := 2) rfl (.cons (t := 7) rfl .nil)))) (.cons (t := 0) rfl (.cons (t := 1) rfl .nil)) rfl ?_
  refine tr_seq ?_
  refine tr_seq ?_
  refine tr_region (fun N3 hN => ?_)
  refine lx (op_move rfl) rfl ?_
  refine lx (op_eql rfl rfl) rfl ?_
  refine lx_end ⟨by kernel_rfl, ?_⟩
  refine pe_then_normal ?_
  refine tr_sub hC (.cons (t := 0) rfl (.cons (t := 1) rfl (.cons (t := 2) rfl (.cons (t := 7) rfl (.cons (t := 16) rfl .nil))))) (.cons (t := 0) rfl (.cons (t := 1) rfl .nil)) rfl ?_
  refine tr_cond rfl (fun h16 => ?_) (fun h16 => ?_)
  · (try simp only [Bool.and_eq_true, Bool.or_eq_true, Bool.and_eq_false_iff, Bool.or_eq_false_iff, decide_eq_true_eq, decide_eq_false_iff_not, Bool.not_eq_true', Bool.not_eq_false', List.length_map, ne_eq, Decidable.not_not, Int.not_lt, Int.not_le] at h16)
    exact absurd h16 (by simp)
  · (try simp only [Bool.and_eq_true, Bool.or_eq_true, Bool.and_eq_false_iff, Bool.or_eq_false_iff, decide_eq_true_eq, decide_eq_false_iff_not, Bool.not_eq_true', Bool.not_eq_false', List.length_map, ne_eq, Decidable.not_not, Int.not_lt, Int.not_le] at h16)
    refine tr_skip ?_
    refine pe_then_normal ?_
    refine tr_sub hC (.cons (t := 0) rfl (.cons (t := 1) rfl (.cons (t := 2) rfl (.cons (t := 7) rfl .nil)))) (.cons (t := 0) rfl (.cons (t := 1) rfl .nil)) rfl ?_
    refine tr_seq ?_
    refine tr_region (fun N5 hN => ?_)
    refine lx (op_move rfl) rfl ?_
    first | refine lx (op_len rfl el22) rfl ?_ | refine lx (op_len_row rfl el22) rfl ?_ | refine lx (op_len_mv rfl el22) rfl ?_ | refine lx (op_len_nil rfl el22) rfl ?_
    refine lx (op_assign rfl) rfl ?_
    refine lx_end ⟨by kernel_rfl, ?_⟩
    refine pe_then_normal ?_
    refine tr_sub hC (.cons (t := 0) rfl (.cons (t := 1) rfl (.cons (t := 2) rfl (.cons (t := 7) rfl (.cons (t := 8) rfl .nil))))) (.cons (t := 0) rfl (.cons (t := 1) rfl .nil)) rfl ?_
    refine tr_seq ?_
    refine tr_seq ?_
    refine tr_region (fun N6 hN => ?_)
    refine lx (op_move rfl) rfl ?_
    refine lx (op_move rfl) rfl ?_
    refine lx (op_eql rfl rfl) rfl ?_
    refine lx_end ⟨by kernel_rfl, ?_⟩
    refine pe_then_normal ?_
    refine tr_sub hC (.cons (t := 0) rfl (.cons (t := 1) rfl (.cons (t := 2) rfl (.cons (t := 7) rfl (.cons (t := 8) rfl (.cons (t := 22) rfl .nil)))))) (.cons (t := 0) rfl (.cons (t := 1) rfl .nil)) rfl ?_
    refine tr_cond rfl (fun h22 => ?_) (fun h22 => ?_)
    · (try simp only [Bool.and_eq_true, Bool.or_eq_true, Bool.and_eq_false_iff, Bool.or_eq_false_iff, decide_eq_true_eq, decide_eq_false_iff_not, Bool.not_eq_true', Bool.not_eq_false', List.length_map, ne_eq, Decidable.not_not, Int.not_lt, Int.not_le] at h22)
      obtain rfl : i = xs.length := by omega
      refine tr_sub hC (.cons (t := 0) rfl (.cons (t := 1) rfl (.ent (t := 2) rfl (Ent.row _ _ _ _) (.cons (t := 7) rfl (.cons (t := 8) rfl (.cons (t := 22) rfl .nil)))))) (.cons (t := 0) rfl (.cons (t := 1) rfl .nil)) rfl ?_
      refine tr_seq ?_
      refine tr_region (fun N7 hN => ?_)
      refine lx (op_move rfl) rfl ?_
      refine lx (op_move rfl) rfl ?_
      refine lxr (op_append_t (m := 0) (m' := 0) (kk := 25) (f := Ob.ps) rfl rfl rfl (.inl rfl) el22 ze33 sz33 by33 rfl (by decide) Ob.len (by simp; omega) (by simp; omega)) rfl ?_
      refine lx (op_assign rfl) rfl ?_
      refine lx_end ⟨by kernel_rfl, ?_⟩
      refine pe_then_normal ?_
      refine tr_sub hC (.cons (t := 6) rfl .nil) (.cons (t := 1) rfl (.cons (t := 0) rfl .nil)) rfl ?_
      refine tr_ret ?_
      refine pe_then_ret ?_
      refine pe_ownS' [0] rfl hO rfl (.tmp rfl .nil) (.cons (m := 0) rfl (RenR.blk _ _ _) .nil) rfl rfl rfl ?_
      intro τ ι hs'
      refine ⟨?_, ?_⟩
      · exact mv_ren' (hs' 0 _ rfl).1 (hs' 0 _ rfl).2 (by first | omega | (simp; done) | (simp; omega)) (by first | omega | (simp; done) | (simp; omega))
      · exact (.moved rfl (by rw [← insL_end]; exact fun b o h => h) .nil)
    · (try simp only [Bool.and_eq_true, Bool.or_eq_true, Bool.and_eq_false_iff, Bool.or_eq_false_iff, decide_eq_true_eq, decide_eq_false_iff_not, Bool.not_eq_true', Bool.not_eq_false', List.length_map, ne_eq, Decidable.not_not, Int.not_lt, Int.not_le] at h22)
      have hlt : i < xs.length := by omega
      refine tr_skip ?_
      refine pe_then_normal ?_
      refine tr_sub hC (.cons (t := 0) rfl (.cons (t := 1) rfl (.cons (t := 2) rfl (.cons (t := 7) rfl (.cons (t := 8) rfl .nil))))) (.cons (t := 0) rfl (.cons (t := 1) rfl .nil)) rfl ?_
      refine tr_room2 0 700 rfl (fun z hz1 hz2 hz3 => ?_)
      refine tr_seq ?_
      refine tr_seq ?_
      refine tr_region (fun N8 hN => ?_)
      refine lx (op_move rfl) rfl ?_
      refine lx (op_move rfl) rfl ?_
      refine lx (op_add rfl rfl (by omega)) rfl ?_
      refine lx (op_move rfl) rfl ?_
      refine lx (op_cap_z 700 rfl rfl el22) rfl ?_
      refine lx (op_gtr rfl rfl) rfl ?_
      refine lx_end ⟨by kernel_rfl, ?_⟩
      refine pe_then_normal ?_
      refine tr_sub hC (.cons (t := 0) rfl (.cons (t := 1) rfl (.cons (t := 2) rfl (.cons (t := 7) rfl (.cons (t := 8) rfl (.cons (t := 31) rfl (.cons (t := 700) rfl .nil))))))) (.cons (t := 0) rfl (.cons (t := 1) rfl .nil)) rfl ?_
      refine tr_cond rfl (fun h31 => ?_) (fun h31 => ?_)
      · (try simp only [Bool.and_eq_true, Bool.or_eq_true, Bool.and_eq_false_iff, Bool.or_eq_false_iff, decide_eq_true_eq, decide_eq_false_iff_not, Bool.not_eq_true', Bool.not_eq_false', List.length_map, ne_eq, Decidable.not_not, Int.not_lt, Int.not_le] at h31)
        have hgr : z < xs.length + 1 := by omega
        refine tr_seq ?_
        refine tr_region (fun N9 hN => ?_)
        refine lx (op_move rfl) rfl ?_
        refine lx (op_move rfl) rfl ?_
        refine lx (op_mslice_h rfl rfl el22 sz33 rfl (by omega)) rfl ?_
        refine lx (op_move rfl) rfl ?_
        refine lx (op_move rfl) rfl ?_
        refine lx (op_add rfl rfl (by omega)) rfl ?_
        refine lx (op_move rfl) rfl ?_
        refine lx (op_sub rfl rfl (by omega)) rfl ?_
        refine lxn (op_append_zeros_t (m := 0) (m' := 40) (kk := 40) (u := 700) (f := Ob.ps) (cz := xs.length + 1 - i) ob0 rfl rfl (by omega) (by omega) rfl (by omega) rfl (by first | exact hC.low _ (by decide) | rfl) (by omega) Ob.len (by repeat (first | exact Ents.nil | refine Ents.cons ?_ ?_ | refine Ent.tup ?_ | refine Ent.agg ?_ | exact Ent.row _ _ _ _ | exact Ent.nil _ _ | exact Ent.func _ | exact Ent.refl _ | exact Ent.of_eq rfl | refine Ent.cells ?_)) el22 ik3 ze33 sz33 by33 rfl rfl rfl (by omega) (by omega)) rfl ?_
        refine lx (op_assign rfl) rfl ?_
        refine lx_end ⟨by kernel_rfl, ?_⟩
        refine pe_then_normal ?_
        refine tr_sub hC (.cons (t := 0) rfl (.cons (t := 1) rfl (.cons (t := 2) rfl (.cons (t := 7) rfl (.cons (t := 9) rfl (.cons (t := 700) rfl .nil)))))) (.cons (t := 0) rfl (.cons (t := 1) rfl (.cons (t := 40) rfl .nil))) rfl ?_
        refine tr_sub hC (.cons (t := 0) rfl (.cons (t := 1) rfl (.ent (t := 2) rfl (Ent.row _ _ _ _) (.cons (t := 7) rfl (.cons (t := 9) rfl (.cons (t := 700) rfl .nil)))))) (.cons (t := 0) rfl (.cons (t := 1) rfl (.cons (t := 40) rfl .nil))) rfl ?_
        refine tr_seq ?_
        refine tr_region (fun N10 hN => ?_)
        refine lx (op_move rfl) rfl ?_
        refine lx (op_move rfl) rfl ?_
        refine lx (op_mslice_l rfl rfl el22 sz33 rfl (by omega)) rfl ?_
        refine lx (op_move rfl) rfl ?_
        refine lxr (op_copy_sl (m := 40) (f := Ob.ps) rfl rfl rfl el22 sz33 (by decide) Ob.len (by simp) (by simp; omega) (by first | omega | (simp [spl]; omega))) rfl ?_
        refine lx_end ⟨by kernel_rfl, ?_⟩
        refine pe_then_normal ?_
        refine tr_sub hC (.cons (t := 0) rfl (.cons (t := 1) rfl (.cons (t := 7) rfl (.cons (t := 9) rfl (.cons (t := 700) rfl .nil))))) (.cons (t := 0) rfl (.cons (t := 1) rfl (.cons (t := 40) rfl .nil))) rfl ?_
        refine tr_seq ?_
        refine tr_drawn mixed (fun N11 hN => ?_)
        refine lx (op_move rfl) rfl ?_
        refine lx (op_move rfl) rfl ?_
        refine lx (op_move rfl) rfl ?_
        refine lx (op_add rfl rfl (by omega)) rfl ?_
        refine lx (op_mslice_l rfl rfl el22 sz33 (lo := i + 1) (by omega) (by omega)) rfl ?_
        refine lx (op_move rfl) rfl ?_
        refine lx (op_move rfl) rfl ?_
        refine lx (op_mslice_l rfl rfl el22 sz33 rfl (by omega)) rfl ?_
        refine lxr (op_copy_two (m := 40) (m2 := 0) (f := Ob.ps) (cnt := xs.length - i) rfl rfl rfl rfl el22 sz33 (by decide) Ob.len (by omega) (by show min _ _ = _; omega) (by simp [spl]; omega) (by omega)) rfl ?_
        refine lx_end ⟨by kernel_rfl, ?_⟩
        refine pe_then_normal ?_
        refine tr_sub hC (.cons (t := 9) rfl (.cons (t := 700) rfl .nil)) (.cons (t := 0) rfl (.cons (t := 1) rfl (.cons (t := 40) rfl .nil))) rfl ?_
        refine tr_seq ?_
        refine tr_region (fun N12 hN => ?_)
        refine lx (op_move rfl) rfl ?_
        refine lx (op_assign rfl) rfl ?_
        refine lx_end ⟨by kernel_rfl, ?_⟩
        refine pe_then_normal ?_
        refine tr_sub hC (.cons (t := 6) rfl (.cons (t := 700) rfl .nil)) (.cons (t := 0) rfl (.cons (t := 1) rfl (.cons (t := 40) rfl .nil))) rfl ?_
        refine tr_ret ?_
        refine pe_then_ret ?_
        refine pe_ownS' [40] rfl hO rfl (.tmp rfl .nil) (.cons (m := 40) rfl (RenR.blk _ _ _) .nil) rfl rfl rfl ?_
        intro τ ι hs'
        refine ⟨?_, ?_⟩
        · exact mv_ren' (hs' 0 _ rfl).1 (hs' 0 _ rfl).2 (by first | omega | (simp; done) | (simp; omega)) (by first | omega | (simp; done) | (simp; omega))
        · exact (.moved rfl (by rw [← insL_grow2 (d := ob0) hlt rfl]; exact fun b o h => h) .nil)
      · (try simp only [Bool.and_eq_true, Bool.or_eq_true, Bool.and_eq_false_iff, Bool.or_eq_false_iff, decide_eq_true_eq, decide_eq_false_iff_not, Bool.not_eq_true', Bool.not_eq_false', List.length_map, ne_eq, Decidable.not_not, Int.not_lt, Int.not_le] at h31)
        have hro : xs.length + 1 ≤ z := by omega
        refine tr_skip ?_
        refine pe_then_normal ?_
        refine tr_sub hC (.cons (t := 0) rfl (.cons (t := 1) rfl (.cons (t := 2) rfl (.cons (t := 7) rfl (.cons (t := 8) rfl (.cons (t := 700) rfl .nil)))))) (.cons (t := 0) rfl (.cons (t := 1) rfl .nil)) rfl ?_
        refine tr_seq ?_
        refine tr_region (fun N13 hN => ?_)
        refine lx (op_move rfl) rfl ?_
        refine lx (op_move rfl) rfl ?_
        refine lx (op_move rfl) rfl ?_
        refine lx (op_add rfl rfl (by omega)) rfl ?_
        refine lx (op_mslice_xh (hi := xs.length + 1) rfl rfl el22 sz33 (by omega) (by omega)) rfl ?_
        refine lx (op_assign rfl) rfl ?_
        refine lx_end ⟨by kernel_rfl, ?_⟩
        refine pe_then_normal ?_
        refine tr_sub hC (.cons (t := 0) rfl (.cons (t := 1) rfl (.cons (t := 2) rfl (.cons (t := 7) rfl (.cons (t := 8) rfl (.cons (t := 700) rfl .nil)))))) (.cons (t := 0) rfl (.cons (t := 1) rfl .nil)) rfl ?_
        refine tr_seq ?_
        refine tr_seq ?_
        refine tr_region (fun N14 hN => ?_)
        refine lx (op_move rfl) rfl ?_
        refine lx (op_move rfl) rfl ?_
        refine lx (op_move rfl) rfl ?_
        refine lx (op_move rfl) rfl ?_
        refine lx (op_add rfl rfl (by omega)) rfl ?_
        refine lx (op_mslice_l rfl rfl el22 sz33 (lo := i + 1) (by omega) (by omega)) rfl ?_
        refine lx (op_overlaps (tS := 22) (tR := 4) (ma := 1) (mb := 0) Try.func59 ⟨⟨rfl, rfl⟩, by kernel_rfl⟩ (by kernel_rfl) rfl rfl rfl rfl rfl rfl (by omega) (by decide) el22 sz33) rfl ?_
        first | refine lx (op_not rfl) rfl ?_ | refine lx (op_not_b rfl) rfl ?_
        refine lx_end ⟨by kernel_rfl, ?_⟩
        refine pe_then_normal ?_
        refine tr_sub hC (.cons (t := 0) rfl (.cons (t := 1) rfl (.cons (t := 2) rfl (.cons (t := 7) rfl (.cons (t := 8) rfl (.cons (t := 68) rfl (.cons (t := 700) rfl .nil))))))) (.cons (t := 0) rfl (.cons (t := 1) rfl .nil)) rfl ?_
        refine tr_cond rfl (fun h68 => ?_) (fun h68 => ?_)
        · (try simp only [Bool.and_eq_true, Bool.or_eq_true, Bool.and_eq_false_iff, Bool.or_eq_false_iff, decide_eq_true_eq, decide_eq_false_iff_not, Bool.not_eq_true', Bool.not_eq_false', List.length_map, ne_eq, Decidable.not_not, Int.not_lt, Int.not_le] at h68)
          refine tr_seq ?_
          refine tr_drawn mixed (fun N15 hN => ?_)
          refine lx (op_move rfl) rfl ?_
          refine lx (op_move rfl) rfl ?_
          refine lx (op_move rfl) rfl ?_
          refine lx (op_add rfl rfl (by omega)) rfl ?_
          refine lx (op_mslice_l rfl rfl el22 sz33 (lo := i + 1) (by omega) (by omega)) rfl ?_
          refine lx (op_move rfl) rfl ?_
          refine lx (op_move rfl) rfl ?_
          refine lx (op_mslice_l rfl rfl el22 sz33 rfl (by omega)) rfl ?_
          refine lxr (op_copy_in (m := 0) (f := Ob.ps) (cnt := xs.length - i) rfl rfl rfl el22 sz33 (by decide) Ob.len (by omega) (by show min _ _ = _; omega) (by omega) (by omega)) rfl ?_
          refine lx_end ⟨by kernel_rfl, ?_⟩
          refine pe_then_normal ?_
          refine tr_sub hC (.cons (t := 0) rfl (.cons (t := 1) rfl (.cons (t := 2) rfl (.cons (t := 700) rfl .nil)))) (.cons (t := 0) rfl (.cons (t := 1) rfl .nil)) rfl ?_
          refine tr_sub hC (.cons (t := 0) rfl (.cons (t := 1) rfl (.ent (t := 2) rfl (Ent.row _ _ _ _) (.cons (t := 700) rfl .nil)))) (.cons (t := 0) rfl (.cons (t := 1) rfl .nil)) rfl ?_
          refine tr_seq ?_
          refine tr_region (fun N16 hN => ?_)
          refine lx (op_move rfl) rfl ?_
          refine lx (op_move rfl) rfl ?_
          refine lx (op_mslice_l rfl rfl el22 sz33 rfl (by omega)) rfl ?_
          refine lx (op_move rfl) rfl ?_
          refine lxr (op_copy_sl (m := 0) (f := Ob.ps) rfl rfl rfl el22 sz33 (by decide) Ob.len (by simp) (by simp; omega) (by first | omega | (simp [spl]; omega))) rfl ?_
          refine lx_end ⟨by kernel_rfl, ?_⟩
          refine pe_then_normal ?_
          refine tr_sub hC (.cons (t := 0) rfl (.cons (t := 700) rfl .nil)) (.cons (t := 0) rfl (.cons (t := 1) rfl .nil)) rfl ?_
          refine tr_seq ?_
          refine tr_region (fun N17 hN => ?_)
          refine lx (op_move rfl) rfl ?_
          refine lx (op_assign rfl) rfl ?_
          refine lx_end ⟨by kernel_rfl, ?_⟩
          refine pe_then_normal ?_
          refine tr_sub hC (.cons (t := 6) rfl (.cons (t := 700) rfl .nil)) (.cons (t := 0) rfl (.cons (t := 1) rfl .nil)) rfl ?_
          refine tr_ret ?_
          refine pe_then_ret ?_
          refine pe_ownS' [0] rfl hO rfl (.tmp rfl .nil) (.cons (m := 0) rfl (RenR.blk _ _ _) .nil) rfl rfl rfl ?_
          intro τ ι hs'
          refine ⟨?_, ?_⟩
          · exact mv_ren' (hs' 0 _ rfl).1 (hs' 0 _ rfl).2 (by first | omega | (simp; done) | (simp; omega)) (by first | omega | (simp; done) | (simp; omega))
          · exact (.moved rfl (by rw [← insL_in2 hlt]; exact fun b o h => h) .nil)
        · exact absurd h68 (by decide)
end Go.Proofs.Ytibcbiamdjmckaa


set_option linter.unusedVariables false
set_option linter.unusedSimpArgs false
namespace Go.Proofs.Ytibcbiamdjmckaa
open Go.AL Go.Ch Go.Hp Go.RowKit
theorem fn40 : fnB Try.prog 40 = true := by kernel_rfl
theorem fn43 : fnB Try.prog 43 = true := by kernel_rfl
theorem Put_own (m : Mc) (o : Ob) (hb : Bd 4000000 m) (ho : BdO 4000000 o) (hs : Srt m.objects) : FnOK Try.prog 24 [aggP m.ps, aggP o.ps] [] 1 (fun ι => aggP (mcG { m with objects := putF o m.objects } (ι 0))) (fun ι => [(ι 0, blkX 4 70 (m.gors.flatMap Gr.ps))]) := by
  refine fn_ownN Try.func24 rfl Try.ntmps24 rfl ?_
  intro σ0 M Rf R hC hO
  simp only [frameOf, tokOf]
  refine tr_seq ?_
  refine tr_region (fun N0 hN => ?_)
  refine lxn (op_box (m := 2) (k := 2) rfl (.agg rfl) (by first | exact hC.low _ (by decide) | rfl)) rfl ?_
  refine lxn (op_box (m := 3) (k := 3) rfl (.agg rfl) (by first | exact hC.low _ (by decide) | rfl)) rfl ?_
  refine lxn (op_alloc (m := 4) (k := 4) (ps := [eqP (.slice none 0 0), eqP (.slice none 0 0), eqP (.slice none 0 0), eqP (.slice none 0 0)]) ze29 rfl rfl (by first | exact hC.low _ (by decide) | rfl)) rfl ?_
  refine lx_end ⟨by kernel_rfl, ?_⟩
  refine pe_then_normal ?_
  refine tr_sub hC (.cons (t := 2) rfl (.cons (t := 3) rfl (.cons (t := 4) rfl .nil))) (.cons (t := 2) rfl (.cons (t := 3) rfl (.cons (t := 4) rfl .nil))) rfl ?_
  refine tr_seq ?_
  refine tr_region (fun N1 hN => ?_)
  refine lx (op_bload (m := 2) rfl rfl ag29 sz29) rfl ?_
  first | refine lx_any rfl (op_callG2 (l := [(Go.Operand.tmp 8)]) (add := [(601, ((N1, 100090), blkX 10 33 (m.objects.flatMap Ob.ps))), (602, ((N1, 100091), blkX 4 70 (m.gors.flatMap Gr.ps)))]) (ks := [100090, 100091]) (φ := aggP ([mvP (N1, 100090) 10 0 m.objects.length m.objects.length, slP Sy.ps 6 m.syncs, mvP (N1, 100091) 4 0 m.gors.length m.gors.length, slP ip 1 m.output])) .nil (copied_own m hb) (.cons rfl .nil) fn40 rfl rfl rfl (.new (by first | exact hC.low _ (by decide) | rfl) (.new (by first | exact hC.low _ (by decide) | rfl) .nil)) rfl) (dOK_spec rfl) ?_ | refine lx_any rfl (op_callG2 (l := [(Go.Operand.tmp 8)]) (add := [(601, ((N1, 100090), blkX 10 33 (m.objects.flatMap Ob.ps))), (602, ((N1, 100091), blkX 4 70 (m.gors.flatMap Gr.ps)))]) (ks := [100090, 100091]) (φ := aggP ([mvP (N1, 100090) 10 0 m.objects.length m.objects.length, slP Sy.ps 6 m.syncs, mvP (N1, 100091) 4 0 m.gors.length m.gors.length, slP ip 1 m.output])) .nil (copied_own m hb) (.ent rfl (by repeat (first | exact Ents.nil | refine Ents.cons ?_ ?_ | refine Ent.tup ?_ | refine Ent.agg ?_ | exact Ent.row _ _ _ _ | exact Ent.nil _ _ | exact Ent.func _ | exact Ent.refl _ | exact Ent.of_eq rfl | refine Ent.cells ?_)) .nil) fn40 rfl rfl rfl (.new (by first | exact hC.low _ (by decide) | rfl) (.new (by first | exact hC.low _ (by decide) | rfl) .nil)) rfl) (dOK_spec rfl) ?_
  refine lxn (op_alloc (m := 5) (k := 5) (ps := [eqP (.slice none 0 0), eqP (.slice none 0 0), eqP (.slice none 0 0), eqP (.slice none 0 0)]) ze29 rfl rfl (by first | exact hC.low _ (by decide) | rfl)) rfl ?_
  refine lxr (op_store_all (m := 5) rfl rfl rfl (.agg rfl) sz29 rfl) rfl ?_
  refine lx_end ⟨by kernel_rfl, ?_⟩
  refine pe_then_normal ?_
  refine tr_sub hC (.cons (t := 3) rfl (.cons (t := 4) rfl (.cons (t := 5) rfl .nil))) (.cons (t := 3) rfl (.cons (t := 4) rfl (.cons (t := 601) rfl (.cons (t := 602) rfl (.cons (t := 5) rfl .nil))))) rfl ?_
  refine tr_seq ?_
  refine tr_region (fun N2 hN => ?_)
  refine lx (op_fieldAddr rfl fl29_0 sz22) rfl ?_
  refine lx (op_bload_one (m := 5) rfl rfl ag22 rfl) rfl ?_
  refine lx (op_fieldAddr rfl fl33_0 sz3) rfl ?_
  refine lx (op_bload_one (m := 3) rfl rfl ag3 rfl) rfl ?_
  first | refine lx_any rfl (op_callG2 (l := [(Go.Operand.tmp 12), (Go.Operand.tmp 14)]) (add := [(601, ((N1, 100090), blkX 10 33 (m.objects.flatMap Ob.ps)))]) (ks := []) (φ := tupP [eqP (.int .i64 (pos m.objects o.id : Int)), eqP (.bool (fnd m.objects o.id))]) (.cons (m := 601) rfl .nil) (search_own (N1, 100090) m.objects o.id hs hb.objects) (.cons rfl (.cons rfl .nil)) fn41 rfl rfl rfl (.old rfl .nil) rfl) (dOK_spec rfl) ?_ | refine lx_any rfl (op_callG2 (l := [(Go.Operand.tmp 12), (Go.Operand.tmp 14)]) (add := [(601, ((N1, 100090), blkX 10 33 (m.objects.flatMap Ob.ps)))]) (ks := []) (φ := tupP [eqP (.int .i64 (pos m.objects o.id : Int)), eqP (.bool (fnd m.objects o.id))]) (.cons (m := 601) rfl .nil) (search_own (N1, 100090) m.objects o.id hs hb.objects) (.ent rfl (by repeat (first | exact Ents.nil | refine Ents.cons ?_ ?_ | refine Ent.tup ?_ | refine Ent.agg ?_ | exact Ent.row _ _ _ _ | exact Ent.nil _ _ | exact Ent.func _ | exact Ent.refl _ | exact Ent.of_eq rfl | refine Ent.cells ?_)) (.ent rfl (by repeat (first | exact Ents.nil | refine Ents.cons ?_ ?_ | refine Ent.tup ?_ | refine Ent.agg ?_ | exact Ent.row _ _ _ _ | exact Ent.nil _ _ | exact Ent.func _ | exact Ent.refl _ | exact Ent.of_eq rfl | refine Ent.cells ?_)) .nil)) fn41 rfl rfl rfl (.old rfl .nil) rfl) (dOK_spec rfl) ?_
  refine lx (op_move rfl) rfl ?_
  refine lx (op_extract rfl rfl) rfl ?_
  refine lx (op_extract rfl rfl) rfl ?_
  refine lx (op_assign rfl) rfl ?_
  refine lx (op_assign rfl) rfl ?_
  refine lx_end ⟨by kernel_rfl, ?_⟩
  refine pe_then_normal ?_
  refine tr_sub hC (.cons (t := 3) rfl (.cons (t := 4) rfl (.cons (t := 5) rfl (.cons (t := 6) rfl (.cons (t := 7) rfl .nil))))) (.cons (t := 3) rfl (.cons (t := 4) rfl (.cons (t := 602) rfl (.cons (t := 5) rfl (.cons (t := 601) rfl .nil))))) rfl ?_
  refine tr_seq ?_
  refine tr_seq ?_
  refine tr_region (fun N3 hN => ?_)
  refine lx (op_move rfl) rfl ?_
  refine lx_end ⟨by kernel_rfl, ?_⟩
  refine pe_then_normal ?_
  refine tr_sub hC (.cons (t := 3) rfl (.cons (t := 4) rfl (.cons (t := 5) rfl (.cons (t := 6) rfl (.cons (t := 18) rfl .nil))))) (.cons (t := 3) rfl (.cons (t := 4) rfl (.cons (t := 602) rfl (.cons (t := 5) rfl (.cons (t := 601) rfl .nil))))) rfl ?_
  refine tr_cond rfl (fun h18 => ?_) (fun h18 => ?_)
  · (try simp only [Bool.and_eq_true, Bool.or_eq_true, Bool.and_eq_false_iff, Bool.or_eq_false_iff, decide_eq_true_eq, decide_eq_false_iff_not, Bool.not_eq_true', Bool.not_eq_false', List.length_map, ne_eq, Decidable.not_not, Int.not_lt, Int.not_le] at h18)
    have hp := put_set h18
    obtain ⟨hpl, o1, ho1, hoid⟩ := fnd_pos h18 hs
    refine tr_drawn mixed (fun N4 hN => ?_)
    refine lx (op_fieldAddr rfl fl29_0 sz22) rfl ?_
    refine lx (op_bload_one (m := 5) rfl rfl ag22 rfl) rfl ?_
    refine lx (op_move rfl) rfl ?_
    refine lx (op_bload (m := 3) rfl rfl ag33 sz33) rfl ?_
    first | refine lx (op_call (l := [(Go.Operand.tmp 22)]) (own_ok o ho) (.cons rfl .nil) fn42) rfl ?_ | refine lx (op_call (l := [(Go.Operand.tmp 22)]) (own_ok o ho) (.ent rfl (by repeat (first | exact Ents.nil | refine Ents.cons ?_ ?_ | refine Ent.tup ?_ | refine Ent.agg ?_ | exact Ent.row _ _ _ _ | exact Ent.nil _ _ | exact Ent.func _ | exact Ent.refl _ | exact Ent.of_eq rfl | refine Ent.cells ?_)) .nil) fn42) rfl ?_
    refine lx (op_index_mv rfl rfl el22 sz33 rfl hpl) rfl ?_
    refine lxr (op_tstore (m := 601) (j := (pos m.objects o.id)) (fo := 0) (z' := o) rfl rfl rfl (.agg rfl) sz33 rfl Ob.len (by omega) ho1 rfl rfl) rfl ?_
    refine lx_end ⟨by kernel_rfl, ?_⟩
    refine pe_then_normal ?_
    refine tr_sub hC (.cons (t := 4) rfl (.cons (t := 5) rfl .nil)) (.cons (t := 4) rfl (.cons (t := 602) rfl (.cons (t := 5) rfl (.cons (t := 601) rfl .nil)))) rfl ?_
    refine tr_bound 0 (m := 601) rfl ?_
    refine tr_freeze (m := 601) rfl (.ent (t := 0) rfl FEnt.frz_bound (.cons (t := 4) rfl (.cons (t := 5) rfl .nil))) ?_
    refine tr_thaw (t := 0) (n := 5) (qs' := [slP Ob.ps 10 (putF o m.objects), slP Sy.ps 6 m.syncs, mvP (N1, 100091) 4 0 m.gors.length m.gors.length, slP ip 1 m.output]) rfl (.cons (t := 4) rfl (.cons (t := 5) rfl .nil)) rfl (.cons (FEnt.mv (by rw [hp]; first | (rw [List.length_set]; done) | rw [insL_len pos_le]) ⟨[], by rw [hp]; simp⟩ Ob.len) (.cons (.of (Ent.refl _)) (.cons (.of (Ent.refl _)) (.cons (.of (Ent.refl _)) .nil)))) ?_
    refine tr_seq ?_
    refine tr_region (fun N6 hN => ?_)
    refine lx (op_bload (m := 5) rfl rfl ag29 sz29) rfl ?_
    refine lxr (op_store_all (m := 4) rfl rfl rfl (.agg rfl) sz29 rfl) rfl ?_
    refine lx_end ⟨by kernel_rfl, ?_⟩
    refine pe_then_normal ?_
    refine tr_sub hC (.cons (t := 4) rfl .nil) (.cons (t := 4) rfl (.cons (t := 602) rfl .nil)) rfl ?_
    refine tr_ret ?_
    refine pe_ownS' [602] rfl hO rfl (.cell (m := 4) rfl rfl ag29 sz29 .nil) (.cons (m := 602) rfl (RenR.blk _ _ _) .nil) rfl rfl rfl ?_
    intro τ ι hs'
    refine ⟨?_, ?_⟩
    · exact aggP_at (.cons (ent_at (Ent.refl _)) (.cons (ent_at (Ent.refl _)) (.cons (mv_ren (hs' 0 _ rfl).1 (hs' 0 _ rfl).2) (.cons (ent_at (Ent.refl _)) .nil))))
    · exact (.moved rfl (fun b o h => h) .nil)
  · (try simp only [Bool.and_eq_true, Bool.or_eq_true, Bool.and_eq_false_iff, Bool.or_eq_false_iff, decide_eq_true_eq, decide_eq_false_iff_not, Bool.not_eq_true', Bool.not_eq_false', List.length_map, ne_eq, Decidable.not_not, Int.not_lt, Int.not_le] at h18)
    have hp := put_ins h18
    refine tr_drawn mixed (fun N5 hN => ?_)
    refine lx (op_fieldAddr rfl fl29_0 sz22) rfl ?_
    refine lx (op_bload_one (m := 5) rfl rfl ag22 rfl) rfl ?_
    refine lx (op_move rfl) rfl ?_
    refine lx (op_bload (m := 3) rfl rfl ag33 sz33) rfl ?_
    first | refine lx (op_call (l := [(Go.Operand.tmp 28)]) (own_ok o ho) (.cons rfl .nil) fn42) rfl ?_ | refine lx (op_call (l := [(Go.Operand.tmp 28)]) (own_ok o ho) (.ent rfl (by repeat (first | exact Ents.nil | refine Ents.cons ?_ ?_ | refine Ent.tup ?_ | refine Ent.agg ?_ | exact Ent.row _ _ _ _ | exact Ent.nil _ _ | exact Ent.func _ | exact Ent.refl _ | exact Ent.of_eq rfl | refine Ent.cells ?_)) .nil) fn42) rfl ?_
    refine lxn (op_buildRow (m' := 30) (kk := 30) (f := Ob.ps) (xs := [o]) (l := [(0, (Go.Operand.tmp 29))]) ze33 rfl rfl (by decide) el22 sz33 Ob.len (.cons rfl (.agg rfl) .nil) rfl (by decide) (by first | exact hC.low _ (by decide) | rfl)) rfl ?_
    first | refine lx_any rfl (op_callG2 (l := [(Go.Operand.tmp 26), (Go.Operand.tmp 27), (Go.Operand.tmp 30)]) (add := [(601, ((N5, 100310), blkX 10 33 ((insL m.objects (pos m.objects o.id) o).flatMap Ob.ps)))]) (ks := [100310]) (φ := mvP (N5, 100310) 10 0 (m.objects.length + 1) (m.objects.length + 1)) (.cons (m := 601) rfl (.cons (m := 30) rfl .nil)) (insert_ok (N1, 100090) (N5, 30) m.objects (pos m.objects o.id) o pos_le hb.objects) (.cons rfl (.cons rfl (.cons rfl .nil))) fn43 rfl rfl rfl (.old rfl .nil) rfl) (dOK_spec rfl) ?_ | refine lx_any rfl (op_callG2 (l := [(Go.Operand.tmp 26), (Go.Operand.tmp 27), (Go.Operand.tmp 30)]) (add := [(601, ((N5, 100310), blkX 10 33 ((insL m.objects (pos m.objects o.id) o).flatMap Ob.ps)))]) (ks := [100310]) (φ := mvP (N5, 100310) 10 0 (m.objects.length + 1) (m.objects.length + 1)) (.cons (m := 601) rfl (.cons (m := 30) rfl .nil)) (insert_ok (N1, 100090) (N5, 30) m.objects (pos m.objects o.id) o pos_le hb.objects) (.ent rfl (by repeat (first | exact Ents.nil | refine Ents.cons ?_ ?_ | refine Ent.tup ?_ | refine Ent.agg ?_ | exact Ent.row _ _ _ _ | exact Ent.nil _ _ | exact Ent.func _ | exact Ent.refl _ | exact Ent.of_eq rfl | refine Ent.cells ?_)) (.ent rfl (by repeat (first | exact Ents.nil | refine Ents.cons ?_ ?_ | refine Ent.tup ?_ | refine Ent.agg ?_ | exact Ent.row _ _ _ _ | exact Ent.nil _ _ | exact Ent.func _ | exact Ent.refl _ | exact Ent.of_eq rfl | refine Ent.cells ?_)) (.ent rfl (by repeat (first | exact Ents.nil | refine Ents.cons ?_ ?_ | refine Ent.tup ?_ | refine Ent.agg ?_ | exact Ent.row _ _ _ _ | exact Ent.nil _ _ | exact Ent.func _ | exact Ent.refl _ | exact Ent.of_eq rfl | refine Ent.cells ?_)) .nil))) fn43 rfl rfl rfl (.old rfl .nil) rfl) (dOK_spec rfl) ?_
    refine lx (op_fieldAddr rfl fl29_0 sz22) rfl ?_
    refine lxr (op_store (m := 5) (rs := [_, _, _, _]) rfl rfl rfl (.one (by (first | exact One.eq rfl | exact One.mv _ _ _ _ _ | exact One.cl _ _ _ | exact One.map _ | exact One.sl _ _ _ | exact One.row _ _ _ _ | exact One.msl _ _ _ _ | exact One.ptr _ _ | exact One.b _ | exact One.cells _))) sz22 rfl rfl rfl) rfl ?_
    refine lx_end ⟨by kernel_rfl, ?_⟩
    refine pe_then_normal ?_
    refine tr_sub hC (.cons (t := 4) rfl (.cons (t := 5) rfl .nil)) (.cons (t := 4) rfl (.cons (t := 602) rfl (.cons (t := 5) rfl (.cons (t := 601) rfl .nil)))) rfl ?_
    refine tr_bound 0 (m := 601) rfl ?_
    refine tr_freeze (m := 601) rfl (.ent (t := 0) rfl FEnt.frz_bound (.cons (t := 4) rfl (.cons (t := 5) rfl .nil))) ?_
    refine tr_thaw (t := 0) (n := 5) (qs' := [slP Ob.ps 10 (putF o m.objects), slP Sy.ps 6 m.syncs, mvP (N1, 100091) 4 0 m.gors.length m.gors.length, slP ip 1 m.output]) rfl (.cons (t := 4) rfl (.cons (t := 5) rfl .nil)) rfl (.cons (FEnt.mv (by rw [hp]; first | (rw [List.length_set]; done) | rw [insL_len pos_le]) ⟨[], by rw [hp]; simp⟩ Ob.len) (.cons (.of (Ent.refl _)) (.cons (.of (Ent.refl _)) (.cons (.of (Ent.refl _)) .nil)))) ?_
    refine tr_seq ?_
    refine tr_region (fun N6 hN => ?_)
    refine lx (op_bload (m := 5) rfl rfl ag29 sz29) rfl ?_
    refine lxr (op_store_all (m := 4) rfl rfl rfl (.agg rfl) sz29 rfl) rfl ?_
    refine lx_end ⟨by kernel_rfl, ?_⟩
    refine pe_then_normal ?_
    refine tr_sub hC (.cons (t := 4) rfl .nil) (.cons (t := 4) rfl (.cons (t := 602) rfl .nil)) rfl ?_
    refine tr_ret ?_
    refine pe_ownS' [602] rfl hO rfl (.cell (m := 4) rfl rfl ag29 sz29 .nil) (.cons (m := 602) rfl (RenR.blk _ _ _) .nil) rfl rfl rfl ?_
    intro τ ι hs'
    refine ⟨?_, ?_⟩
    · exact aggP_at (.cons (ent_at (Ent.refl _)) (.cons (ent_at (Ent.refl _)) (.cons (mv_ren (hs' 0 _ rfl).1 (hs' 0 _ rfl).2) (.cons (ent_at (Ent.refl _)) .nil))))
    · exact (.moved rfl (fun b o h => h) .nil)
theorem Put_ok (m : Mc) (o : Ob) (hb : Bd 4000000 m) (ho : BdO 4000000 o) (hs : Srt m.objects) : FnP Try.prog 24 [aggP m.ps, aggP o.ps] (aggP (Mc.ps { m with objects := putF o m.objects })) := by
  refine fn_pure' Try.func24 rfl Try.ntmps24 rfl ?_
  intro σ0 M ex Rf R hC hO
  simp only [frameOf, tokOf]
  refine tr_seq ?_
  refine tr_region (fun N0 hN => ?_)
  refine lxn (op_box (m := 2) (k := 2) rfl (.agg rfl) (by first | exact hC.low _ (by decide) | rfl)) rfl ?_
  refine lxn (op_box (m := 3) (k := 3) rfl (.agg rfl) (by first | exact hC.low _ (by decide) | rfl)) rfl ?_
  refine lxn (op_alloc (m := 4) (k := 4) (ps := [eqP (.slice none 0 0), eqP (.slice none 0 0), eqP (.slice none 0 0), eqP (.slice none 0 0)]) ze29 rfl rfl (by first | exact hC.low _ (by decide) | rfl)) rfl ?_
  refine lx_end ⟨by kernel_rfl, ?_⟩
  refine pe_then_normal ?_
  refine tr_sub hC (.cons (t := 2) rfl (.cons (t := 3) rfl (.cons (t := 4) rfl .nil))) (.cons (t := 2) rfl (.cons (t := 3) rfl (.cons (t := 4) rfl .nil))) rfl ?_
  refine tr_seq ?_
  refine tr_region (fun N1 hN => ?_)
  refine lx (op_bload (m := 2) rfl rfl ag29 sz29) rfl ?_
  first | refine lx_any rfl (op_callG2 (l := [(Go.Operand.tmp 8)]) (add := [(601, ((N1, 100090), blkX 10 33 (m.objects.flatMap Ob.ps))), (602, ((N1, 100091), blkX 4 70 (m.gors.flatMap Gr.ps)))]) (ks := [100090, 100091]) (φ := aggP ([mvP (N1, 100090) 10 0 m.objects.length m.objects.length, slP Sy.ps 6 m.syncs, mvP (N1, 100091) 4 0 m.gors.length m.gors.length, slP ip 1 m.output])) .nil (copied_own m hb) (.cons rfl .nil) fn40 rfl rfl rfl (.new (by first | exact hC.low _ (by decide) | rfl) (.new (by first | exact hC.low _ (by decide) | rfl) .nil)) rfl) (dOK_spec rfl) ?_ | refine lx_any rfl (op_callG2 (l := [(Go.Operand.tmp 8)]) (add := [(601, ((N1, 100090), blkX 10 33 (m.objects.flatMap Ob.ps))), (602, ((N1, 100091), blkX 4 70 (m.gors.flatMap Gr.ps)))]) (ks := [100090, 100091]) (φ := aggP ([mvP (N1, 100090) 10 0 m.objects.length m.objects.length, slP Sy.ps 6 m.syncs, mvP (N1, 100091) 4 0 m.gors.length m.gors.length, slP ip 1 m.output])) .nil (copied_own m hb) (.ent rfl (by repeat (first | exact Ents.nil | refine Ents.cons ?_ ?_ | refine Ent.tup ?_ | refine Ent.agg ?_ | exact Ent.row _ _ _ _ | exact Ent.nil _ _ | exact Ent.func _ | exact Ent.refl _ | exact Ent.of_eq rfl | refine Ent.cells ?_)) .nil) fn40 rfl rfl rfl (.new (by first | exact hC.low _ (by decide) | rfl) (.new (by first | exact hC.low _ (by decide) | rfl) .nil)) rfl) (dOK_spec rfl) ?_
  refine lxn (op_alloc (m := 5) (k := 5) (ps := [eqP (.slice none 0 0), eqP (.slice none 0 0), eqP (.slice none 0 0), eqP (.slice none 0 0)]) ze29 rfl rfl (by first | exact hC.low _ (by decide) | rfl)) rfl ?_
  refine lxr (op_store_all (m := 5) rfl rfl rfl (.agg rfl) sz29 rfl) rfl ?_
  refine lx_end ⟨by kernel_rfl, ?_⟩
  refine pe_then_normal ?_
  refine tr_sub hC (.cons (t := 3) rfl (.cons (t := 4) rfl (.cons (t := 5) rfl .nil))) (.cons (t := 3) rfl (.cons (t := 4) rfl (.cons (t := 601) rfl (.cons (t := 602) rfl (.cons (t := 5) rfl .nil))))) rfl ?_
  refine tr_seq ?_
  refine tr_region (fun N2 hN => ?_)
  refine lx (op_fieldAddr rfl fl29_0 sz22) rfl ?_
  refine lx (op_bload_one (m := 5) rfl rfl ag22 rfl) rfl ?_
  refine lx (op_fieldAddr rfl fl33_0 sz3) rfl ?_
  refine lx (op_bload_one (m := 3) rfl rfl ag3 rfl) rfl ?_
  first | refine lx_any rfl (op_callG2 (l := [(Go.Operand.tmp 12), (Go.Operand.tmp 14)]) (add := [(601, ((N1, 100090), blkX 10 33 (m.objects.flatMap Ob.ps)))]) (ks := []) (φ := tupP [eqP (.int .i64 (pos m.objects o.id : Int)), eqP (.bool (fnd m.objects o.id))]) (.cons (m := 601) rfl .nil) (search_own (N1, 100090) m.objects o.id hs hb.objects) (.cons rfl (.cons rfl .nil)) fn41 rfl rfl rfl (.old rfl .nil) rfl) (dOK_spec rfl) ?_ | refine lx_any rfl (op_callG2 (l := [(Go.Operand.tmp 12), (Go.Operand.tmp 14)]) (add := [(601, ((N1, 100090), blkX 10 33 (m.objects.flatMap Ob.ps)))]) (ks := []) (φ := tupP [eqP (.int .i64 (pos m.objects o.id : Int)), eqP (.bool (fnd m.objects o.id))]) (.cons (m := 601) rfl .nil) (search_own (N1, 100090) m.objects o.id hs hb.objects) (.ent rfl (by repeat (first | exact Ents.nil | refine Ents.cons ?_ ?_ | refine Ent.tup ?_ | refine Ent.agg ?_ | exact Ent.row _ _ _ _ | exact Ent.nil _ _ | exact Ent.func _ | exact Ent.refl _ | exact Ent.of_eq rfl | refine Ent.cells ?_)) (.ent rfl (by repeat (first | exact Ents.nil | refine Ents.cons ?_ ?_ | refine Ent.tup ?_ | refine Ent.agg ?_ | exact Ent.row _ _ _ _ | exact Ent.nil _ _ | exact Ent.func _ | exact Ent.refl _ | exact Ent.of_eq rfl | refine Ent.cells ?_)) .nil)) fn41 rfl rfl rfl (.old rfl .nil) rfl) (dOK_spec rfl) ?_
  refine lx (op_move rfl) rfl ?_
  refine lx (op_extract rfl rfl) rfl ?_
  refine lx (op_extract rfl rfl) rfl ?_
  refine lx (op_assign rfl) rfl ?_
  refine lx (op_assign rfl) rfl ?_
  refine lx_end ⟨by kernel_rfl, ?_⟩
  refine pe_then_normal ?_
  refine tr_sub hC (.cons (t := 3) rfl (.cons (t := 4) rfl (.cons (t := 5) rfl (.cons (t := 6) rfl (.cons (t := 7) rfl .nil))))) (.cons (t := 3) rfl (.cons (t := 4) rfl (.cons (t := 602) rfl (.cons (t := 5) rfl (.cons (t := 601) rfl .nil))))) rfl ?_
  refine tr_seq ?_
  refine tr_seq ?_
  refine tr_region (fun N3 hN => ?_)
  refine lx (op_move rfl) rfl ?_
  refine lx_end ⟨by kernel_rfl, ?_⟩
  refine pe_then_normal ?_
  refine tr_sub hC (.cons (t := 3) rfl (.cons (t := 4) rfl (.cons (t := 5) rfl (.cons (t := 6) rfl (.cons (t := 18) rfl .nil))))) (.cons (t := 3) rfl (.cons (t := 4) rfl (.cons (t := 602) rfl (.cons (t := 5) rfl (.cons (t := 601) rfl .nil))))) rfl ?_
  refine tr_cond rfl (fun h18 => ?_) (fun h18 => ?_)
  · (try simp only [Bool.and_eq_true, Bool.or_eq_true, Bool.and_eq_false_iff, Bool.or_eq_false_iff, decide_eq_true_eq, decide_eq_false_iff_not, Bool.not_eq_true', Bool.not_eq_false', List.length_map, ne_eq, Decidable.not_not, Int.not_lt, Int.not_le] at h18)
    have hp := put_set h18
    obtain ⟨hpl, o1, ho1, hoid⟩ := fnd_pos h18 hs
    refine tr_drawn mixed (fun N4 hN => ?_)
    refine lx (op_fieldAddr rfl fl29_0 sz22) rfl ?_
    refine lx (op_bload_one (m := 5) rfl rfl ag22 rfl) rfl ?_
    refine lx (op_move rfl) rfl ?_
    refine lx (op_bload (m := 3) rfl rfl ag33 sz33) rfl ?_
    first | refine lx (op_call (l := [(Go.Operand.tmp 22)]) (own_ok o ho) (.cons rfl .nil) fn42) rfl ?_ | refine lx (op_call (l := [(Go.Operand.tmp 22)]) (own_ok o ho) (.ent rfl (by repeat (first | exact Ents.nil | refine Ents.cons ?_ ?_ | refine Ent.tup ?_ | refine Ent.agg ?_ | exact Ent.row _ _ _ _ | exact Ent.nil _ _ | exact Ent.func _ | exact Ent.refl _ | exact Ent.of_eq rfl | refine Ent.cells ?_)) .nil) fn42) rfl ?_
    refine lx (op_index_mv rfl rfl el22 sz33 rfl hpl) rfl ?_
    refine lxr (op_tstore (m := 601) (j := (pos m.objects o.id)) (fo := 0) (z' := o) rfl rfl rfl (.agg rfl) sz33 rfl Ob.len (by omega) ho1 rfl rfl) rfl ?_
    refine lx_end ⟨by kernel_rfl, ?_⟩
    refine pe_then_normal ?_
    refine tr_sub hC (.cons (t := 4) rfl (.cons (t := 5) rfl .nil)) (.cons (t := 4) rfl (.cons (t := 602) rfl (.cons (t := 5) rfl (.cons (t := 601) rfl .nil)))) rfl ?_
    refine tr_bound 0 (m := 601) rfl ?_
    refine tr_freeze (m := 601) rfl (.ent (t := 0) rfl FEnt.frz_bound (.cons (t := 4) rfl (.cons (t := 5) rfl .nil))) ?_
    refine tr_thaw (t := 0) (n := 5) (qs' := [slP Ob.ps 10 (putF o m.objects), slP Sy.ps 6 m.syncs, mvP (N1, 100091) 4 0 m.gors.length m.gors.length, slP ip 1 m.output]) rfl (.cons (t := 4) rfl (.cons (t := 5) rfl .nil)) rfl (.cons (FEnt.mv (by rw [hp]; first | (rw [List.length_set]; done) | rw [insL_len pos_le]) ⟨[], by rw [hp]; simp⟩ Ob.len) (.cons (.of (Ent.refl _)) (.cons (.of (Ent.refl _)) (.cons (.of (Ent.refl _)) .nil)))) ?_
    refine tr_bound 1 (m := 602) rfl ?_
    refine tr_freeze (m := 602) rfl (.ent (t := 1) rfl FEnt.frz_bound (.cons (t := 4) rfl (.cons (t := 5) rfl .nil))) ?_
    refine tr_thaw (t := 1) (n := 5) (qs' := [slP Ob.ps 10 (putF o m.objects), slP Sy.ps 6 m.syncs, slP Gr.ps 4 m.gors, slP ip 1 m.output]) rfl (.cons (t := 4) rfl (.cons (t := 5) rfl .nil)) rfl (.cons (.of (Ent.refl _)) (.cons (.of (Ent.refl _)) (.cons (FEnt.mv rfl ⟨[], by simp⟩ Gr.len) (.cons (.of (Ent.refl _)) .nil)))) ?_
    refine tr_seq ?_
    refine tr_region (fun N6 hN => ?_)
    refine lx (op_bload (m := 5) rfl rfl ag29 sz29) rfl ?_
    refine lxr (op_store_all (m := 4) rfl rfl rfl (.agg rfl) sz29 rfl) rfl ?_
    refine lx_end ⟨by kernel_rfl, ?_⟩
    refine pe_then_normal ?_
    refine tr_sub hC (.cons (t := 4) rfl .nil) (.cons (t := 4) rfl .nil) rfl ?_
    refine tr_ret ?_
    refine pe_ret1 rfl hO rfl (.cell (m := 4) rfl rfl ag29 sz29 .nil) ?_
    repeat (first | exact Ents.nil | refine Ents.cons ?_ ?_ | refine Ent.tup ?_ | refine Ent.agg ?_ | exact Ent.row _ _ _ _ | exact Ent.nil _ _ | exact Ent.func _ | exact Ent.refl _ | exact Ent.of_eq rfl | refine Ent.cells ?_)
  · (try simp only [Bool.and_eq_true, Bool.or_eq_true, Bool.and_eq_false_iff, Bool.or_eq_false_iff, decide_eq_true_eq, decide_eq_false_iff_not, Bool.not_eq_true', Bool.not_eq_false', List.length_map, ne_eq, Decidable.not_not, Int.not_lt, Int.not_le] at h18)
    have hp := put_ins h18
    refine tr_drawn mixed (fun N5 hN => ?_)
    refine lx (op_fieldAddr rfl fl29_0 sz22) rfl ?_
    refine lx (op_bload_one (m := 5) rfl rfl ag22 rfl) rfl ?_
    refine lx (op_move rfl) rfl ?_
    refine lx (op_bload (m := 3) rfl rfl ag33 sz33) rfl ?_
    first | refine lx (op_call (l := [(Go.Operand.tmp 28)]) (own_ok o ho) (.cons rfl .nil) fn42) rfl ?_ | refine lx (op_call (l := [(Go.Operand.tmp 28)]) (own_ok o ho) (.ent rfl (by repeat (first | exact Ents.nil | refine Ents.cons ?_ ?_ | refine Ent.tup ?_ | refine Ent.agg ?_ | exact Ent.row _ _ _ _ | exact Ent.nil _ _ | exact Ent.func _ | exact Ent.refl _ | exact Ent.of_eq rfl | refine Ent.cells ?_)) .nil) fn42) rfl ?_
    refine lxn (op_buildRow (m' := 30) (kk := 30) (f := Ob.ps) (xs := [o]) (l := [(0, (Go.Operand.tmp 29))]) ze33 rfl rfl (by decide) el22 sz33 Ob.len (.cons rfl (.agg rfl) .nil) rfl (by decide) (by first | exact hC.low _ (by decide) | rfl)) rfl ?_
    first | refine lx_any rfl (op_callG2 (l := [(Go.Operand.tmp 26), (Go.Operand.tmp 27), (Go.Operand.tmp 30)]) (add := [(601, ((N5, 100310), blkX 10 33 ((insL m.objects (pos m.objects o.id) o).flatMap Ob.ps)))]) (ks := [100310]) (φ := mvP (N5, 100310) 10 0 (m.objects.length + 1) (m.objects.length + 1)) (.cons (m := 601) rfl (.cons (m := 30) rfl .nil)) (insert_ok (N1, 100090) (N5, 30) m.objects (pos m.objects o.id) o pos_le hb.objects) (.cons rfl (.cons rfl (.cons rfl .nil))) fn43 rfl rfl rfl (.old rfl .nil) rfl) (dOK_spec rfl) ?_ | refine lx_any rfl (op_callG2 (l := [(Go.Operand.tmp 26), (Go.Operand.tmp 27), (Go.Operand.tmp 30)]) (add := [(601, ((N5, 100310), blkX 10 33 ((insL m.objects (pos m.objects o.id) o).flatMap Ob.ps)))]) (ks := [100310]) (φ := mvP (N5, 100310) 10 0 (m.objects.length + 1) (m.objects.length + 1)) (.cons (m := 601) rfl (.cons (m := 30) rfl .nil)) (insert_ok (N1, 100090) (N5, 30) m.objects (pos m.objects o.id) o pos_le hb.objects) (.ent rfl (by repeat (first | exact Ents.nil | refine Ents.cons ?_ ?_ | refine Ent.tup ?_ | refine Ent.agg ?_ | exact Ent.row _ _ _ _ | exact Ent.nil _ _ | exact Ent.func _ | exact Ent.refl _ | exact Ent.of_eq rfl | refine Ent.cells ?_)) (.ent rfl (by repeat (first | exact Ents.nil | refine Ents.cons ?_ ?_ | refine Ent.tup ?_ | refine Ent.agg ?_ | exact Ent.row _ _ _ _ | exact Ent.nil _ _ | exact Ent.func _ | exact Ent.refl _ | exact Ent.of_eq rfl | refine Ent.cells ?_)) (.ent rfl (by repeat (first | exact Ents.nil | refine Ents.cons ?_ ?_ | refine Ent.tup ?_ | refine Ent.agg ?_ | exact Ent.row _ _ _ _ | exact Ent.nil _ _ | exact Ent.func _ | exact Ent.refl _ | exact Ent.of_eq rfl | refine Ent.cells ?_)) .nil))) fn43 rfl rfl rfl (.old rfl .nil) rfl) (dOK_spec rfl) ?_
    refine lx (op_fieldAddr rfl fl29_0 sz22) rfl ?_
    refine lxr (op_store (m := 5) (rs := [_, _, _, _]) rfl rfl rfl (.one (by (first | exact One.eq rfl | exact One.mv _ _ _ _ _ | exact One.cl _ _ _ | exact One.map _ | exact One.sl _ _ _ | exact One.row _ _ _ _ | exact One.msl _ _ _ _ | exact One.ptr _ _ | exact One.b _ | exact One.cells _))) sz22 rfl rfl rfl) rfl ?_
    refine lx_end ⟨by kernel_rfl, ?_⟩
    refine pe_then_normal ?_
    refine tr_sub hC (.cons (t := 4) rfl (.cons (t := 5) rfl .nil)) (.cons (t := 4) rfl (.cons (t := 602) rfl (.cons (t := 5) rfl (.cons (t := 601) rfl .nil)))) rfl ?_
    refine tr_bound 0 (m := 601) rfl ?_
    refine tr_freeze (m := 601) rfl (.ent (t := 0) rfl FEnt.frz_bound (.cons (t := 4) rfl (.cons (t := 5) rfl .nil))) ?_
    refine tr_thaw (t := 0) (n := 5) (qs' := [slP Ob.ps 10 (putF o m.objects), slP Sy.ps 6 m.syncs, mvP (N1, 100091) 4 0 m.gors.length m.gors.length, slP ip 1 m.output]) rfl (.cons (t := 4) rfl (.cons (t := 5) rfl .nil)) rfl (.cons (FEnt.mv (by rw [hp]; first | (rw [List.length_set]; done) | rw [insL_len pos_le]) ⟨[], by rw [hp]; simp⟩ Ob.len) (.cons (.of (Ent.refl _)) (.cons (.of (Ent.refl _)) (.cons (.of (Ent.refl _)) .nil)))) ?_
    refine tr_bound 1 (m := 602) rfl ?_
    refine tr_freeze (m := 602) rfl (.ent (t := 1) rfl FEnt.frz_bound (.cons (t := 4) rfl (.cons (t := 5) rfl .nil))) ?_
    refine tr_thaw (t := 1) (n := 5) (qs' := [slP Ob.ps 10 (putF o m.objects), slP Sy.ps 6 m.syncs, slP Gr.ps 4 m.gors, slP ip 1 m.output]) rfl (.cons (t := 4) rfl (.cons (t := 5) rfl .nil)) rfl (.cons (.of (Ent.refl _)) (.cons (.of (Ent.refl _)) (.cons (FEnt.mv rfl ⟨[], by simp⟩ Gr.len) (.cons (.of (Ent.refl _)) .nil)))) ?_
    refine tr_seq ?_
    refine tr_region (fun N6 hN => ?_)
    refine lx (op_bload (m := 5) rfl rfl ag29 sz29) rfl ?_
    refine lxr (op_store_all (m := 4) rfl rfl rfl (.agg rfl) sz29 rfl) rfl ?_
    refine lx_end ⟨by kernel_rfl, ?_⟩
    refine pe_then_normal ?_
    refine tr_sub hC (.cons (t := 4) rfl .nil) (.cons (t := 4) rfl .nil) rfl ?_
    refine tr_ret ?_
    refine pe_ret1 rfl hO rfl (.cell (m := 4) rfl rfl ag29 sz29 .nil) ?_
    repeat (first | exact Ents.nil | refine Ents.cons ?_ ?_ | refine Ent.tup ?_ | refine Ent.agg ?_ | exact Ent.row _ _ _ _ | exact Ent.nil _ _ | exact Ent.func _ | exact Ent.refl _ | exact Ent.of_eq rfl | refine Ent.cells ?_)
end Go.Proofs.Ytibcbiamdjmckaa


set_option linter.unusedVariables false
set_option linter.unusedSimpArgs false
namespace Go.Proofs.Ytibcbiamdjmckaa
open Go.AL Go.Ch Go.Hp Go.RowKit
theorem fn24 : fnB Try.prog 24 = true := by kernel_rfl
theorem Alloc_ok (m : Mc) (x : Int) (o : Ob) (hb : Bd 4000000 m) (ho : BdO 4000000 o) (hs : Srt m.objects) : FnP Try.prog 16 [aggP m.ps, eqP (.int .i64 x), aggP o.ps] (tupP [aggP (allocF putF m x o).1.ps, eqP (.int .i64 (allocF putF m x o).2.1), eqP (.int .i64 (allocF putF m x o).2.2)]) := by
  refine fn_pure' Try.func16 rfl Try.ntmps16 rfl ?_
  intro σ0 M ex Rf R hC hO
  simp only [frameOf, tokOf]
  refine tr_seq ?_
  refine tr_region (fun N0 hN => ?_)
  refine lxn (op_box (m := 3) (k := 3) rfl (.agg rfl) (by first | exact hC.low _ (by decide) | rfl)) rfl ?_
  refine lxn (op_box (m := 5) (k := 5) rfl (.agg rfl) (by first | exact hC.low _ (by decide) | rfl)) rfl ?_
  refine lxn (op_alloc (m := 6) (k := 6) (ps := [eqP (.slice none 0 0), eqP (.slice none 0 0), eqP (.slice none 0 0), eqP (.slice none 0 0)]) ze29 rfl rfl (by first | exact hC.low _ (by decide) | rfl)) rfl ?_
  refine lx (op_assign rfl) rfl ?_
  refine lx (op_assign rfl) rfl ?_
  refine lx_end ⟨by kernel_rfl, ?_⟩
  refine pe_then_normal ?_
  refine tr_sub hC (.cons (t := 1) rfl (.cons (t := 3) rfl (.cons (t := 5) rfl (.cons (t := 6) rfl .nil)))) (.cons (t := 3) rfl (.cons (t := 5) rfl (.cons (t := 6) rfl .nil))) rfl ?_
  refine tr_seq ?_
  refine tr_seq ?_
  refine tr_region (fun N1 hN => ?_)
  refine lx (op_move rfl) rfl ?_
  refine lx (op_lss rfl rfl) rfl ?_
  refine lx (op_move rfl) rfl ?_
  refine lxs rfl rfl rfl guard_eq (.cons (t := 1) rfl (fun _ => Ent.refl _) .nil) (op_move rfl) rfl ?_
  refine lxs rfl rfl rfl guard_eq (.cons (t := 14) rfl (fun h => entW h) .nil) (op_geq rfl rfl) rfl ?_
  refine lx (op_pick_or rfl rfl) rfl ?_
  refine lx (op_move rfl) rfl ?_
  refine lxs rfl rfl rfl guard_eq (.cons (t := 1) rfl (fun _ => Ent.refl _) .nil) (op_move rfl) rfl ?_
  refine lxs rfl rfl rfl guard_eq (.cons (t := 3) rfl (fun _ => Ent.refl _) .nil) (op_fieldAddr rfl fl29_2 sz26) rfl ?_
  refine lxs rfl rfl rfl guard_eq (.cons (t := 19) rfl (fun h => entW h) .nil) (op_bload_one (m := 3) rfl rfl ag26 rfl) rfl ?_
  first | refine lxs rfl rfl rfl guard_eq (.cons (t := 20) rfl (fun h => entW h) .nil) (op_len rfl el26) rfl ?_ | refine lxs rfl rfl rfl guard_eq (.cons (t := 20) rfl (fun h => entW h) .nil) (op_len_row rfl el26) rfl ?_ | refine lxs rfl rfl rfl guard_eq (.cons (t := 20) rfl (fun h => entW h) .nil) (op_len_mv rfl el26) rfl ?_ | refine lxs rfl rfl rfl guard_eq (.cons (t := 20) rfl (fun h => entW h) .nil) (op_len_nil rfl el26) rfl ?_
  refine lxs rfl rfl rfl guard_eq (.cons (t := 18) rfl (fun h => entW h) (.cons (t := 21) rfl (fun h => entW h) .nil)) (op_geq rfl rfl) rfl ?_
  refine lx (op_pick_or rfl rfl) rfl ?_
  refine lx_end ⟨by kernel_rfl, ?_⟩
  refine pe_then_normal ?_
  refine tr_sub hC (.cons (t := 1) rfl (.cons (t := 3) rfl (.cons (t := 5) rfl (.cons (t := 6) rfl (.cons (t := 23) rfl .nil))))) (.cons (t := 3) rfl (.cons (t := 5) rfl (.cons (t := 6) rfl .nil))) rfl ?_
  refine tr_cond rfl (fun h23 => ?_) (fun h23 => ?_)
  · (try simp only [Bool.and_eq_true, Bool.or_eq_true, Bool.and_eq_false_iff, Bool.or_eq_false_iff, decide_eq_true_eq, decide_eq_false_iff_not, Bool.not_eq_true', Bool.not_eq_false', List.length_map, ne_eq, Decidable.not_not, Int.not_lt, Int.not_le] at h23)
    have h := alloc_1 (put := putF) (m := m) (g := x) (o := o) (by omega)
    refine tr_seq ?_
    refine tr_region (fun N2 hN => ?_)
    refine lx (op_build (qs := [_, _, _, _]) (parts := []) ze29 rfl rfl fs29 .nil rfl rfl) rfl ?_
    refine lxr (op_store_all (m := 6) rfl rfl rfl (.agg rfl) sz29 rfl) rfl ?_
    refine lx (op_assign rfl) rfl ?_
    refine lx (op_assign rfl) rfl ?_
    refine lx_end ⟨by kernel_rfl, ?_⟩
    refine pe_then_normal ?_
    refine tr_sub hC (.cons (t := 6) rfl (.cons (t := 7) rfl (.cons (t := 8) rfl .nil))) (.cons (t := 6) rfl .nil) rfl ?_
    refine tr_ret ?_
    refine pe_then_ret ?_
    refine pe_retN (rs := [.cell 6 29, .tmp 7, .tmp 8]) rfl rfl hO rfl (.cell (m := 6) rfl rfl ag29 sz29 (.tmp rfl (.tmp rfl .nil))) ?_
    rw [h]
    repeat (first | exact Ents.nil | refine Ents.cons ?_ ?_ | refine Ent.tup ?_ | refine Ent.agg ?_ | exact Ent.row _ _ _ _ | exact Ent.nil _ _ | exact Ent.func _ | exact Ent.refl _ | exact Ent.of_eq rfl | refine Ent.cells ?_)
  · (try simp only [Bool.and_eq_true, Bool.or_eq_true, Bool.and_eq_false_iff, Bool.or_eq_false_iff, decide_eq_true_eq, decide_eq_false_iff_not, Bool.not_eq_true', Bool.not_eq_false', List.length_map, ne_eq, Decidable.not_not, Int.not_lt, Int.not_le] at h23)
    have hx : 0 ≤ x ∧ x < (m.gors.length : Int) ∧ x < 8 := by omega
    obtain ⟨gr, hgr⟩ : ∃ gr, m.gors[x.toNat]? = some gr := ⟨_, List.getElem?_eq_getElem (by omega)⟩
    refine tr_skip ?_
    refine pe_then_normal ?_
    refine tr_sub hC (.cons (t := 1) rfl (.cons (t := 3) rfl (.cons (t := 5) rfl (.cons (t := 6) rfl .nil)))) (.cons (t := 3) rfl (.cons (t := 5) rfl (.cons (t := 6) rfl .nil))) rfl ?_
    refine tr_seq ?_
    refine tr_region (fun N3 hN => ?_)
    refine lx (op_fieldAddr rfl fl29_2 sz26) rfl ?_
    refine lx (op_bload_one (m := 3) rfl rfl ag26 rfl) rfl ?_
    refine lx (op_move rfl) rfl ?_
    refine lx (op_index rfl rfl el26 sz70 (by omega : x = ((x.toNat : Nat) : Int)) hgr) rfl ?_
    first | refine lx (op_fieldAddr rfl fl70_2 sz3) rfl ?_ | refine lx (op_fieldCells rfl fl70_2 sz3) rfl ?_
    first | refine lx (op_load_one rfl ag3 rfl) rfl ?_ | refine lx (op_bload_one (m := 3) rfl rfl ag3 rfl) rfl ?_ | refine lx (op_bload_one (m := 5) rfl rfl ag3 rfl) rfl ?_ | refine lx (op_bload_one (m := 6) rfl rfl ag3 rfl) rfl ?_
    refine lx (op_assign rfl) rfl ?_
    refine lx_end ⟨by kernel_rfl, ?_⟩
    refine pe_then_normal ?_
    refine tr_sub hC (.cons (t := 1) rfl (.cons (t := 3) rfl (.cons (t := 5) rfl (.cons (t := 6) rfl (.cons (t := 9) rfl .nil))))) (.cons (t := 3) rfl (.cons (t := 5) rfl (.cons (t := 6) rfl .nil))) rfl ?_
    refine tr_seq ?_
    refine tr_seq ?_
    refine tr_region (fun N4 hN => ?_)
    refine lx (op_move rfl) rfl ?_
    refine lx (op_lss rfl rfl) rfl ?_
    refine lx (op_move rfl) rfl ?_
    refine lxs rfl rfl rfl guard_eq (.cons (t := 9) rfl (fun _ => Ent.refl _) .nil) (op_move rfl) rfl ?_
    refine lxs rfl rfl rfl guard_eq (.cons (t := 34) rfl (fun h => entW h) .nil) (op_geq rfl rfl) rfl ?_
    refine lx (op_pick_or rfl rfl) rfl ?_
    refine lx_end ⟨by kernel_rfl, ?_⟩
    refine pe_then_normal ?_
    refine tr_sub hC (.cons (t := 1) rfl (.cons (t := 3) rfl (.cons (t := 5) rfl (.cons (t := 6) rfl (.cons (t := 9) rfl (.cons (t := 36) rfl .nil)))))) (.cons (t := 3) rfl (.cons (t := 5) rfl (.cons (t := 6) rfl .nil))) rfl ?_
    refine tr_cond rfl (fun h36 => ?_) (fun h36 => ?_)
    · (try simp only [Bool.and_eq_true, Bool.or_eq_true, Bool.and_eq_false_iff, Bool.or_eq_false_iff, decide_eq_true_eq, decide_eq_false_iff_not, Bool.not_eq_true', Bool.not_eq_false', List.length_map, ne_eq, Decidable.not_not, Int.not_lt, Int.not_le] at h36)
      have h := alloc_2 (put := putF) (o := o) (by omega) hgr (by omega)
      refine tr_seq ?_
      refine tr_region (fun N5 hN => ?_)
      refine lx (op_build (qs := [_, _, _, _]) (parts := []) ze29 rfl rfl fs29 .nil rfl rfl) rfl ?_
      refine lxr (op_store_all (m := 6) rfl rfl rfl (.agg rfl) sz29 rfl) rfl ?_
      refine lx (op_assign rfl) rfl ?_
      refine lx (op_assign rfl) rfl ?_
      refine lx_end ⟨by kernel_rfl, ?_⟩
      refine pe_then_normal ?_
      refine tr_sub hC (.cons (t := 6) rfl (.cons (t := 7) rfl (.cons (t := 8) rfl .nil))) (.cons (t := 6) rfl .nil) rfl ?_
      refine tr_ret ?_
      refine pe_then_ret ?_
      refine pe_retN (rs := [.cell 6 29, .tmp 7, .tmp 8]) rfl rfl hO rfl (.cell (m := 6) rfl rfl ag29 sz29 (.tmp rfl (.tmp rfl .nil))) ?_
      rw [h]
      repeat (first | exact Ents.nil | refine Ents.cons ?_ ?_ | refine Ent.tup ?_ | refine Ent.agg ?_ | exact Ent.row _ _ _ _ | exact Ent.nil _ _ | exact Ent.func _ | exact Ent.refl _ | exact Ent.of_eq rfl | refine Ent.cells ?_)
    · (try simp only [Bool.and_eq_true, Bool.or_eq_true, Bool.and_eq_false_iff, Bool.or_eq_false_iff, decide_eq_true_eq, decide_eq_false_iff_not, Bool.not_eq_true', Bool.not_eq_false', List.length_map, ne_eq, Decidable.not_not, Int.not_lt, Int.not_le] at h36)
      have h := alloc_3 (put := putF) (o := o) (by omega) hgr (by omega)
      refine tr_skip ?_
      refine pe_then_normal ?_
      refine tr_sub hC (.cons (t := 1) rfl (.cons (t := 3) rfl (.cons (t := 5) rfl (.cons (t := 6) rfl (.cons (t := 9) rfl .nil))))) (.cons (t := 3) rfl (.cons (t := 5) rfl (.cons (t := 6) rfl .nil))) rfl ?_
      refine tr_seq ?_
      refine tr_region (fun N6 hN => ?_)
      refine lx (op_move rfl) rfl ?_
      refine lx (op_add rfl rfl (by omega)) rfl ?_
      refine lx (op_move rfl) rfl ?_
      refine lx (op_mul rfl rfl (by omega)) rfl ?_
      refine lx (op_add rfl rfl (by omega)) rfl ?_
      refine lx (op_fieldAddr rfl fl33_0 sz3) rfl ?_
      refine lxr (op_store (m := 5) (rs := [_, _, _, _, _, _, _, _, _, _]) rfl rfl rfl (.one (by (first | exact One.eq rfl | exact One.mv _ _ _ _ _ | exact One.cl _ _ _ | exact One.map _ | exact One.sl _ _ _ | exact One.row _ _ _ _ | exact One.msl _ _ _ _ | exact One.ptr _ _ | exact One.b _ | exact One.cells _))) sz3 rfl rfl rfl) rfl ?_
      refine lx_end ⟨by kernel_rfl, ?_⟩
      refine pe_then_normal ?_
      refine tr_sub hC (.cons (t := 1) rfl (.cons (t := 3) rfl (.cons (t := 5) rfl (.cons (t := 6) rfl .nil)))) (.cons (t := 3) rfl (.cons (t := 5) rfl (.cons (t := 6) rfl .nil))) rfl ?_
      refine tr_seq ?_
      refine tr_region (fun N7 hN => ?_)
      refine lx (op_bload (m := 3) rfl rfl ag29 sz29) rfl ?_
      refine lx (op_bload (m := 5) rfl rfl ag33 sz33) rfl ?_
      first | refine lx_any rfl (op_callG2 (l := [(Go.Operand.tmp 44), (Go.Operand.tmp 45)]) (add := [(601, ((N7, 100460), blkX 4 70 (m.gors.flatMap Gr.ps)))]) (ks := [100460]) (φ := aggP (mcG { m with objects := putF { o with id := nid x gr.allocs } m.objects } (N7, 100460))) .nil (Put_own m { o with id := nid x gr.allocs } hb ⟨ho.cells, ho.queue, ho.senders, ho.receivers⟩ hs) (.cons rfl (.cons rfl .nil)) fn24 rfl rfl rfl (.new (by first | exact hC.low _ (by decide) | rfl) .nil) rfl) (dOK_spec rfl) ?_ | refine lx_any rfl (op_callG2 (l := [(Go.Operand.tmp 44), (Go.Operand.tmp 45)]) (add := [(601, ((N7, 100460), blkX 4 70 (m.gors.flatMap Gr.ps)))]) (ks := [100460]) (φ := aggP (mcG { m with objects := putF { o with id := nid x gr.allocs } m.objects } (N7, 100460))) .nil (Put_own m { o with id := nid x gr.allocs } hb ⟨ho.cells, ho.queue, ho.senders, ho.receivers⟩ hs) (.ent rfl (by repeat (first | exact Ents.nil | refine Ents.cons ?_ ?_ | refine Ent.tup ?_ | refine Ent.agg ?_ | exact Ent.row _ _ _ _ | exact Ent.nil _ _ | exact Ent.func _ | exact Ent.refl _ | exact Ent.of_eq rfl | refine Ent.cells ?_)) (.ent rfl (by repeat (first | exact Ents.nil | refine Ents.cons ?_ ?_ | refine Ent.tup ?_ | refine Ent.agg ?_ | exact Ent.row _ _ _ _ | exact Ent.nil _ _ | exact Ent.func _ | exact Ent.refl _ | exact Ent.of_eq rfl | refine Ent.cells ?_)) .nil)) fn24 rfl rfl rfl (.new (by first | exact hC.low _ (by decide) | rfl) .nil) rfl) (dOK_spec rfl) ?_
      refine lxn (op_alloc (m := 10) (k := 10) (ps := [eqP (.slice none 0 0), eqP (.slice none 0 0), eqP (.slice none 0 0), eqP (.slice none 0 0)]) ze29 rfl rfl (by first | exact hC.low _ (by decide) | rfl)) rfl ?_
      refine lxr (op_store_all (m := 10) rfl rfl rfl (.agg rfl) sz29 rfl) rfl ?_
      refine lx_end ⟨by kernel_rfl, ?_⟩
      refine pe_then_normal ?_
      refine tr_sub hC (.cons (t := 1) rfl (.cons (t := 5) rfl (.cons (t := 6) rfl (.cons (t := 10) rfl .nil)))) (.cons (t := 5) rfl (.cons (t := 6) rfl (.cons (t := 601) rfl (.cons (t := 10) rfl .nil)))) rfl ?_
      refine tr_seq ?_
      refine tr_region (fun N8 hN => ?_)
      refine lx (op_fieldAddr rfl fl29_2 sz26) rfl ?_
      refine lx (op_bload_one (m := 10) rfl rfl ag26 rfl) rfl ?_
      refine lx (op_move rfl) rfl ?_
      refine lx (op_index_mv rfl rfl el26 sz70 (by omega : x = ((x.toNat : Nat) : Int)) (show x.toNat < m.gors.length by omega)) rfl ?_
      refine lx (op_fieldAddr rfl fl70_2 sz3) rfl ?_
      refine lx (op_tload_one (m := 601) (j := x.toNat) (fo := 2) rfl rfl ag3 Gr.len (by omega) hgr rfl) rfl ?_
      refine lx (op_add rfl rfl (by omega)) rfl ?_
      refine lx (op_index_mv rfl rfl el26 sz70 (by omega : x = ((x.toNat : Nat) : Int)) (show x.toNat < m.gors.length by omega)) rfl ?_
      refine lx (op_fieldAddr rfl fl70_2 sz3) rfl ?_
      refine lxr (op_tstore (m := 601) (j := x.toNat) (fo := 2) (z' := { gr with allocs := gr.allocs + 1 }) rfl rfl rfl (.one (by (first | exact One.eq rfl | exact One.mv _ _ _ _ _ | exact One.cl _ _ _ | exact One.map _ | exact One.sl _ _ _ | exact One.row _ _ _ _ | exact One.msl _ _ _ _ | exact One.ptr _ _ | exact One.b _ | exact One.cells _))) sz3 rfl Gr.len (by omega) hgr rfl rfl) rfl ?_
      refine lx_end ⟨by kernel_rfl, ?_⟩
      refine pe_then_normal ?_
      refine tr_sub hC (.cons (t := 5) rfl (.cons (t := 6) rfl (.cons (t := 10) rfl .nil))) (.cons (t := 5) rfl (.cons (t := 6) rfl (.cons (t := 601) rfl (.cons (t := 10) rfl .nil)))) rfl ?_
      refine tr_bound 0 (m := 601) rfl ?_
      refine tr_freeze (m := 601) rfl (.ent (t := 0) rfl FEnt.frz_bound (.cons (t := 5) rfl (.cons (t := 6) rfl (.cons (t := 10) rfl .nil)))) ?_
      refine tr_thaw (t := 0) (n := 10) (qs' := Mc.ps ({ m with objects := putF { o with id := nid x gr.allocs } m.objects, gors := m.gors.set x.toNat { gr with allocs := gr.allocs + 1 } })) rfl (.cons (t := 5) rfl (.cons (t := 6) rfl (.cons (t := 10) rfl .nil))) rfl (.cons (.of (Ent.refl _)) (.cons (.of (Ent.refl _)) (.cons (FEnt.mv (by simp) ⟨[], by simp⟩ Gr.len) (.cons (.of (Ent.refl _)) .nil)))) ?_
      refine tr_seq ?_
      refine tr_drawn mixed (fun N9 hN => ?_)
      refine lx (op_bload (m := 10) rfl rfl ag29 sz29) rfl ?_
      refine lx (op_fieldAddr rfl fl33_0 sz3) rfl ?_
      refine lx (op_bload_one (m := 5) rfl rfl ag3 rfl) rfl ?_
      refine lxr (op_store_all (m := 6) rfl rfl rfl (.agg rfl) sz29 rfl) rfl ?_
      refine lx (op_assign rfl) rfl ?_
      refine lx (op_assign rfl) rfl ?_
      refine lx_end ⟨by kernel_rfl, ?_⟩
      refine pe_then_normal ?_
      refine tr_sub hC (.cons (t := 6) rfl (.cons (t := 7) rfl (.cons (t := 8) rfl .nil))) (.cons (t := 6) rfl .nil) rfl ?_
      refine tr_ret ?_
      refine pe_retN (rs := [.cell 6 29, .tmp 7, .tmp 8]) rfl rfl hO rfl (.cell (m := 6) rfl rfl ag29 sz29 (.tmp rfl (.tmp rfl .nil))) ?_
      rw [h]
      repeat (first | exact Ents.nil | refine Ents.cons ?_ ?_ | refine Ent.tup ?_ | refine Ent.agg ?_ | exact Ent.row _ _ _ _ | exact Ent.nil _ _ | exact Ent.func _ | exact Ent.refl _ | exact Ent.of_eq rfl | refine Ent.cells ?_)
end Go.Proofs.Ytibcbiamdjmckaa
