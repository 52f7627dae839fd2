/- Parts of a proof that share one text: HpWalk11, HpWalk12, HpWalk13, HpWalk14, HpWalk15, AlCopy, AlCopy2, HpWalk16, HpPlain9. -/
import Derived.Test.YtibcbiamdjmckaaPe
import Derived.Test.YtibcbiamdjmckaaPb
import Derived.Laws.CopyRow
import Derived.Lib.AppendZerosOnto
import Derived.Lib.Overlaps

set_option linter.unusedVariables false
set_option linter.unusedSimpArgs false
namespace Go.Proofs.Ytibcbiamdjmckaa
open Go.AL Go.Ch Go.Hp Go.RowKit
theorem rPut_ok (m : Mc) (o : Ob) (hb : Bd 2000000 m) (ho : BdO 2000000 o) : FnP Try.prog 29 [aggP m.ps, aggP o.ps] (aggP (Mc.ps { m with objects := rputF o false m.objects })) := by
  have hbo := hb.objects
  have hbm : Bd 4000000 m := hb.mono (by decide)
  have hoo : BdO 4000000 o := ho.mono (by decide)
  refine fn_pure' Try.func29 rfl Try.ntmps29 rfl ?_
  intro σ0 M ex Rf R hC hO
  simp only [frameOf, tokOf]
  refine tr_seq ?_
  refine tr_region (fun N0 hN => ?_)
  refine lxn (op_box (m := 2) (k := 2) rfl (.agg rfl) (by first | exact hC.low _ (by decide) | rfl)) rfl ?_
  refine lxn (op_box (m := 3) (k := 3) rfl (.agg rfl) (by first | exact hC.low _ (by decide) | rfl)) rfl ?_
  refine lxn (op_alloc (m := 4) (k := 4) (ps := [eqP (.slice none 0 0), eqP (.slice none 0 0), eqP (.slice none 0 0), eqP (.slice none 0 0)]) ze29 rfl rfl (by first | exact hC.low _ (by decide) | rfl)) rfl ?_
  refine lx_end ⟨by kernel_rfl, ?_⟩
  refine pe_then_normal ?_
  refine tr_sub hC (.cons (t := 2) rfl (.cons (t := 3) rfl (.cons (t := 4) rfl .nil))) (.cons (t := 2) rfl (.cons (t := 3) rfl (.cons (t := 4) rfl .nil))) rfl ?_
  refine tr_seq ?_
  refine tr_region (fun N1 hN => ?_)
  refine lx (op_bload (m := 2) rfl rfl ag29 sz29) rfl ?_
  first | refine lx (op_call (l := [(Go.Operand.tmp 9)]) (copyM_ok m hbm) (.cons rfl .nil) fn15) rfl ?_ | refine lx (op_call (l := [(Go.Operand.tmp 9)]) (copyM_ok m hbm) (.ent rfl (by repeat (first | exact Ents.nil | refine Ents.cons ?_ ?_ | refine Ent.tup ?_ | refine Ent.agg ?_ | exact Ent.row _ _ _ _ | exact Ent.nil _ _ | exact Ent.func _ | exact Ent.refl _ | exact Ent.of_eq rfl | refine Ent.cells ?_)) .nil) fn15) rfl ?_
  refine lxn (op_alloc (m := 5) (k := 5) (ps := [eqP (.slice none 0 0), eqP (.slice none 0 0), eqP (.slice none 0 0), eqP (.slice none 0 0)]) ze29 rfl rfl (by first | exact hC.low _ (by decide) | rfl)) rfl ?_
  refine lxr (op_store_all (m := 5) rfl rfl rfl (.agg rfl) sz29 rfl) rfl ?_
  refine lx_end ⟨by kernel_rfl, ?_⟩
  refine pe_then_normal ?_
  refine tr_sub hC (.cons (t := 3) rfl (.cons (t := 4) rfl (.cons (t := 5) rfl .nil))) (.cons (t := 3) rfl (.cons (t := 4) rfl (.cons (t := 5) rfl .nil))) rfl ?_
  refine tr_seq ?_
  refine tr_region (fun N2 hN => ?_)
  refine lx (op_assign rfl) rfl ?_
  refine lx_end ⟨by kernel_rfl, ?_⟩
  refine pe_then_normal ?_
  refine tr_sub hC (.cons (t := 3) rfl (.cons (t := 4) rfl (.cons (t := 5) rfl (.cons (t := 6) rfl .nil)))) (.cons (t := 3) rfl (.cons (t := 4) rfl (.cons (t := 5) rfl .nil))) rfl ?_
  refine tr_seq ?_
  refine tr_region (fun N3 hN => ?_)
  refine lx (op_assign rfl) rfl ?_
  refine lx_end ⟨by kernel_rfl, ?_⟩
  refine pe_then_normal ?_
  refine tr_sub hC (.cons (t := 3) rfl (.cons (t := 4) rfl (.cons (t := 5) rfl (.cons (t := 6) rfl (.cons (t := 7) rfl .nil))))) (.cons (t := 3) rfl (.cons (t := 4) rfl (.cons (t := 5) rfl .nil))) rfl ?_
  refine tr_seq ?_
  refine tr_seq ?_
  refine tr_region (fun N4 hN => ?_)
  refine lx (op_assign rfl) rfl ?_
  refine lx_end ⟨by kernel_rfl, ?_⟩
  refine pe_then_normal ?_
  refine tr_sub hC (.cons (t := 3) rfl (.cons (t := 4) rfl (.cons (t := 5) rfl (.cons (t := 6) rfl (.cons (t := 7) rfl (.cons (t := 8) rfl .nil)))))) (.cons (t := 3) rfl (.cons (t := 4) rfl (.cons (t := 5) rfl .nil))) rfl ?_
  refine tr_block ?_
  refine tr_nilrow Ob.ps 10 33 6 600 rfl (by first | exact hC.low _ (by decide) | rfl) (fun idN => ?_)
  refine tr_loopK (α := {zz : Nat × (List Ob) × Bool × AL.Id // zz.1 ≤ m.objects.length ∧ zz.2.1 ++ rputF o zz.2.2.1 (m.objects.drop zz.1) = rputF o false m.objects ∧ zz.2.1.length ≤ 2 * zz.1}) (⟨(0, [], false, idN), Nat.zero_le _, rfl, Nat.le_refl _⟩) (fun zz => [(6, rowP zz.1.2.2.2 Ob.ps 10 zz.1.2.1), (7, eqP (.bool zz.1.2.2.1)), (8, eqP (.int .i64 (zz.1.1 : Int)))]) (fun zz => [(600, some (zz.1.2.2.2, tail 33 10 (zz.1.2.1.length * 10)))]) (fun zz => m.objects.length - zz.1.1) hC (.cons (t := 3) rfl (.cons (t := 4) rfl (.cons (t := 5) rfl .nil))) (.cons (t := 3) rfl (.cons (t := 4) rfl (.cons (t := 5) rfl .nil))) rfl ?_ ?_ (fun zz => ?_)
  · try dsimp only [List.cons_append, List.nil_append]
    first | refine SubF.cons rfl ?_ | (refine SubF.ent rfl ?_ ?_; · repeat (first | exact Ents.nil | refine Ents.cons ?_ ?_ | refine Ent.tup ?_ | refine Ent.agg ?_ | exact Ent.row _ _ _ _ | exact Ent.nil _ _ | exact Ent.func _ | exact Ent.refl _ | exact Ent.of_eq rfl | refine Ent.cells ?_))
    first | refine SubF.cons rfl ?_ | (refine SubF.ent rfl ?_ ?_; · repeat (first | exact Ents.nil | refine Ents.cons ?_ ?_ | refine Ent.tup ?_ | refine Ent.agg ?_ | exact Ent.row _ _ _ _ | exact Ent.nil _ _ | exact Ent.func _ | exact Ent.refl _ | exact Ent.of_eq rfl | refine Ent.cells ?_))
    first | refine SubF.cons rfl ?_ | (refine SubF.ent rfl ?_ ?_; · repeat (first | exact Ents.nil | refine Ents.cons ?_ ?_ | refine Ent.tup ?_ | refine Ent.agg ?_ | exact Ent.row _ _ _ _ | exact Ent.nil _ _ | exact Ent.func _ | exact Ent.refl _ | exact Ent.of_eq rfl | refine Ent.cells ?_))
    exact SubF.nil
  · try dsimp only [List.cons_append, List.nil_append]
    repeat (first | exact SubL.nil | refine SubL.cons rfl ?_)
  · obtain ⟨⟨k, out, dn, i⟩, hk1, hk2, hk3⟩ := zz
    try dsimp only at hk1
    try dsimp only at hk2
    try dsimp only at hk3
    dsimp only [List.cons_append, List.nil_append]
    refine tr_seq ?_
    refine tr_seq ?_
    refine tr_region (fun N5 hN => ?_)
    refine lx (op_move rfl) rfl ?_
    refine lx (op_fieldAddr rfl fl29_0 sz22) rfl ?_
    refine lx (op_bload_one (m := 5) rfl rfl ag22 rfl) rfl ?_
    first | refine lx (op_len rfl el22) rfl ?_ | refine lx (op_len_row rfl el22) rfl ?_ | refine lx (op_len_mv rfl el22) rfl ?_ | refine lx (op_len_nil rfl el22) rfl ?_
    refine lx (op_lss rfl rfl) rfl ?_
    refine lx_end ⟨by kernel_rfl, ?_⟩
    refine pe_then_normal ?_
    refine tr_sub hC (.cons (t := 3) rfl (.cons (t := 4) rfl (.cons (t := 5) rfl (.cons (t := 6) rfl (.cons (t := 7) rfl (.cons (t := 8) rfl (.cons (t := 15) rfl .nil))))))) (.cons (t := 600) rfl (.cons (t := 3) rfl (.cons (t := 4) rfl (.cons (t := 5) rfl .nil)))) rfl ?_
    refine tr_cond rfl (fun h15 => ?_) (fun h15 => ?_)
    · (try simp only [Bool.and_eq_true, Bool.or_eq_true, Bool.and_eq_false_iff, Bool.or_eq_false_iff, decide_eq_true_eq, decide_eq_false_iff_not, Bool.not_eq_true', Bool.not_eq_false', List.length_map, ne_eq, Decidable.not_not, Int.not_lt, Int.not_le] at h15)
      refine tr_skip ?_
      refine pe_then_normal ?_
      refine tr_sub hC (.cons (t := 3) rfl (.cons (t := 4) rfl (.cons (t := 5) rfl (.cons (t := 6) rfl (.cons (t := 7) rfl (.cons (t := 8) rfl .nil)))))) (.cons (t := 600) rfl (.cons (t := 3) rfl (.cons (t := 4) rfl (.cons (t := 5) rfl .nil)))) rfl ?_
      refine tr_seq ?_
      refine tr_block ?_
      refine tr_seq ?_
      refine tr_seq ?_
      refine tr_drawn mixed (fun N7 hN => ?_)
      refine lx (op_move rfl) rfl ?_
      first | refine lx (op_not rfl) rfl ?_ | refine lx (op_not_b rfl) rfl ?_
      refine lx (op_move rfl) rfl ?_
      refine lxs rfl rfl rfl guard_eq (.cons (t := 5) rfl (fun _ => Ent.refl _) .nil) (op_fieldAddr rfl fl29_0 sz22) rfl ?_
      refine lxs rfl rfl rfl guard_eq (.cons (t := 21) rfl (fun h => entW h) .nil) (op_bload_one (m := 5) rfl rfl ag22 rfl) rfl ?_
      refine lxs rfl rfl rfl guard_eq (.cons (t := 8) rfl (fun _ => Ent.refl _) .nil) (op_move rfl) rfl ?_
      refine lxs rfl rfl rfl guard_eq (.cons (t := 22) rfl (fun h => entW h) (.cons (t := 23) rfl (fun h => entW h) .nil)) (op_index rfl rfl el22 sz33 rfl (List.getElem?_eq_getElem (by omega : k < m.objects.length))) rfl ?_
      first | refine lxs rfl rfl rfl guard_eq (.cons (t := 24) rfl (fun h => entW h) .nil) (op_fieldAddr rfl fl33_0 sz3) rfl ?_ | refine lxs rfl rfl rfl guard_eq (.cons (t := 24) rfl (fun h => entW h) .nil) (op_fieldCells rfl fl33_0 sz3) rfl ?_
      first | refine lxs rfl rfl rfl guard_eq (.cons (t := 25) rfl (fun h => entW h) .nil) (op_load_one rfl ag3 rfl) rfl ?_ | refine lxs rfl rfl rfl guard_eq (.cons (t := 25) rfl (fun h => entW h) .nil) (op_bload_one (m := 600) rfl rfl ag3 rfl) rfl ?_ | refine lxs rfl rfl rfl guard_eq (.cons (t := 25) rfl (fun h => entW h) .nil) (op_bload_one (m := 3) rfl rfl ag3 rfl) rfl ?_ | refine lxs rfl rfl rfl guard_eq (.cons (t := 25) rfl (fun h => entW h) .nil) (op_bload_one (m := 4) rfl rfl ag3 rfl) rfl ?_ | refine lxs rfl rfl rfl guard_eq (.cons (t := 25) rfl (fun h => entW h) .nil) (op_bload_one (m := 5) rfl rfl ag3 rfl) rfl ?_
      refine lxs rfl rfl rfl guard_eq (.cons (t := 3) rfl (fun _ => Ent.refl _) .nil) (op_fieldAddr rfl fl33_0 sz3) rfl ?_
      refine lxs rfl rfl rfl guard_eq (.cons (t := 27) rfl (fun h => entW h) .nil) (op_bload_one (m := 3) rfl rfl ag3 rfl) rfl ?_
      refine lxs rfl rfl rfl guard_eq (.cons (t := 26) rfl (fun h => entW h) (.cons (t := 28) rfl (fun h => entW h) .nil)) (op_geq rfl rfl) rfl ?_
      refine lx (op_pick_and rfl rfl) rfl ?_
      refine lx_end ⟨by kernel_rfl, ?_⟩
      refine pe_then_normal ?_
      refine tr_sub hC (.cons (t := 3) rfl (.cons (t := 4) rfl (.cons (t := 5) rfl (.cons (t := 6) rfl (.cons (t := 7) rfl (.cons (t := 8) rfl (.cons (t := 30) rfl .nil))))))) (.cons (t := 600) rfl (.cons (t := 3) rfl (.cons (t := 4) rfl (.cons (t := 5) rfl .nil)))) rfl ?_
      refine tr_cond rfl (fun h30 => ?_) (fun h30 => ?_)
      · have g30 : (!dn && decide (m.objects[k].id ≥ o.id)) = true := h30
        refine tr_seq ?_
        refine tr_region (fun N8 hN => ?_)
        refine lx (op_move rfl) rfl ?_
        refine lx (op_bload (m := 3) rfl rfl ag33 sz33) rfl ?_
        first | refine lx (op_call (l := [(Go.Operand.tmp 32)]) (copyO_ok o hoo) (.cons rfl .nil) fn28) rfl ?_ | refine lx (op_call (l := [(Go.Operand.tmp 32)]) (copyO_ok o hoo) (.ent rfl (by repeat (first | exact Ents.nil | refine Ents.cons ?_ ?_ | refine Ent.tup ?_ | refine Ent.agg ?_ | exact Ent.row _ _ _ _ | exact Ent.nil _ _ | exact Ent.func _ | exact Ent.refl _ | exact Ent.of_eq rfl | refine Ent.cells ?_)) .nil) fn28) rfl ?_
        refine lx (op_buildSlice (f := Ob.ps) (xs := [o]) (l := [(0, (Go.Operand.tmp 33))]) ze33 rfl rfl (by decide) el22 sz33 Ob.len (.cons rfl (.agg rfl) .nil) rfl (by decide)) rfl ?_
        refine lxr (op_append (m := 600) (m' := 600) (kk := 35) rfl rfl rfl (.inl rfl) el22 ze33 sz33 by33 rfl Ob.len (by simp; omega) (by simp; omega)) rfl ?_
        refine lx (op_assign rfl) rfl ?_
        refine lx_end ⟨by kernel_rfl, ?_⟩
        refine pe_then_normal ?_
        refine tr_sub hC (.cons (t := 3) rfl (.cons (t := 4) rfl (.cons (t := 5) rfl (.cons (t := 6) rfl (.cons (t := 8) rfl .nil))))) (.cons (t := 3) rfl (.cons (t := 4) rfl (.cons (t := 5) rfl (.cons (t := 600) rfl .nil)))) rfl ?_
        refine tr_region (fun N9 hN => ?_)
        refine lx (op_assign rfl) rfl ?_
        refine lx_end ⟨by kernel_rfl, ?_⟩
        refine pe_then_normal ?_
        refine tr_sub hC (.cons (t := 3) rfl (.cons (t := 4) rfl (.cons (t := 5) rfl (.cons (t := 6) rfl (.cons (t := 7) rfl (.cons (t := 8) rfl .nil)))))) (.cons (t := 3) rfl (.cons (t := 4) rfl (.cons (t := 5) rfl (.cons (t := 600) rfl .nil)))) rfl ?_
        refine tr_seq ?_
        refine tr_drawn mixed (fun N10 hN => ?_)
        refine lx (op_fieldAddr rfl fl29_0 sz22) rfl ?_
        refine lx (op_bload_one (m := 5) rfl rfl ag22 rfl) rfl ?_
        refine lx (op_move rfl) rfl ?_
        refine lx (op_index rfl rfl el22 sz33 rfl (List.getElem?_eq_getElem (by omega : k < m.objects.length))) rfl ?_
        first | refine lx (op_fieldAddr rfl fl33_0 sz3) rfl ?_ | refine lx (op_fieldCells rfl fl33_0 sz3) rfl ?_
        first | refine lx (op_load_one rfl ag3 rfl) rfl ?_ | refine lx (op_bload_one (m := 3) rfl rfl ag3 rfl) rfl ?_ | refine lx (op_bload_one (m := 4) rfl rfl ag3 rfl) rfl ?_ | refine lx (op_bload_one (m := 5) rfl rfl ag3 rfl) rfl ?_ | refine lx (op_bload_one (m := 600) rfl rfl ag3 rfl) rfl ?_
        refine lx (op_fieldAddr rfl fl33_0 sz3) rfl ?_
        refine lx (op_bload_one (m := 3) rfl rfl ag3 rfl) rfl ?_
        refine lx (op_neq rfl rfl) rfl ?_
        refine lx_end ⟨by kernel_rfl, ?_⟩
        refine pe_then_normal ?_
        refine tr_sub hC (.cons (t := 3) rfl (.cons (t := 4) rfl (.cons (t := 5) rfl (.cons (t := 6) rfl (.cons (t := 7) rfl (.cons (t := 8) rfl (.cons (t := 44) rfl .nil))))))) (.cons (t := 3) rfl (.cons (t := 4) rfl (.cons (t := 5) rfl (.cons (t := 600) rfl .nil)))) rfl ?_
        refine tr_cond rfl (fun h44 => ?_) (fun h44 => ?_)
        · (try simp only [Bool.and_eq_true, Bool.or_eq_true, Bool.and_eq_false_iff, Bool.or_eq_false_iff, decide_eq_true_eq, decide_eq_false_iff_not, Bool.not_eq_true', Bool.not_eq_false', List.length_map, ne_eq, Decidable.not_not, Int.not_lt, Int.not_le] at h44)
          refine tr_region (fun N11 hN => ?_)
          refine lx (op_move rfl) rfl ?_
          refine lx (op_fieldAddr rfl fl29_0 sz22) rfl ?_
          refine lx (op_bload_one (m := 5) rfl rfl ag22 rfl) rfl ?_
          refine lx (op_move rfl) rfl ?_
          refine lx (op_index rfl rfl el22 sz33 rfl (List.getElem?_eq_getElem (by omega : k < m.objects.length))) rfl ?_
          first | refine lx (op_load_all rfl ag33 sz33) rfl ?_ | refine lx (op_load_agg rfl ag33 sz33 rfl) rfl ?_ | refine lx (op_bload (m := 3) rfl rfl ag33 sz33) rfl ?_ | refine lx (op_bload (m := 4) rfl rfl ag33 sz33) rfl ?_ | refine lx (op_bload (m := 5) rfl rfl ag33 sz33) rfl ?_ | refine lx (op_bload (m := 600) rfl rfl ag33 sz33) rfl ?_ | refine lx (op_bload_part (m := 3) (qs := [_, _, _, _, _, _, _, _, _, _]) rfl rfl ag33 sz33 rfl rfl) rfl ?_ | refine lx (op_bload_part (m := 4) (qs := [_, _, _, _, _, _, _, _, _, _]) rfl rfl ag33 sz33 rfl rfl) rfl ?_ | refine lx (op_bload_part (m := 5) (qs := [_, _, _, _, _, _, _, _, _, _]) rfl rfl ag33 sz33 rfl rfl) rfl ?_ | refine lx (op_bload_part (m := 600) (qs := [_, _, _, _, _, _, _, _, _, _]) rfl rfl ag33 sz33 rfl rfl) rfl ?_
          refine lx (op_buildSlice (f := Ob.ps) (xs := [m.objects[k]]) (l := [(0, (Go.Operand.tmp 50))]) ze33 rfl rfl (by decide) el22 sz33 Ob.len (.cons rfl (.agg rfl) .nil) rfl (by decide)) rfl ?_
          refine lxr (op_append (m := 600) (m' := 600) (kk := 52) rfl rfl rfl (.inl rfl) el22 ze33 sz33 by33 rfl Ob.len (by simp; omega) (by simp; omega)) rfl ?_
          refine lx (op_assign rfl) rfl ?_
          refine lx_end ⟨by kernel_rfl, ?_⟩
          refine pe_block_normal ?_
          refine pe_then_normal ?_
          refine tr_sub hC (.cons (t := 3) rfl (.cons (t := 4) rfl (.cons (t := 5) rfl (.cons (t := 6) rfl (.cons (t := 7) rfl (.cons (t := 8) rfl .nil)))))) (.cons (t := 3) rfl (.cons (t := 4) rfl (.cons (t := 5) rfl (.cons (t := 600) rfl .nil)))) rfl ?_
          refine tr_region (fun N6 hN => ?_)
          refine lx (op_move rfl) rfl ?_
          refine lx (op_add rfl rfl (by omega)) rfl ?_
          refine lx (op_assign rfl) rfl ?_
          refine lx_end ⟨by kernel_rfl, ?_⟩
          refine pe_round (⟨(k + 1, out ++ [o] ++ [m.objects[k]], true, (N11, 52)), by dsimp only; omega, rput_A (by omega) hk2 g30 h44, by dsimp only; first | omega | (simp; omega)⟩) (by dsimp only; omega) (pe_st hC ?_ ?_ rfl)
          · try dsimp only [List.cons_append, List.nil_append]
            first | refine SubF.cons rfl ?_ | (refine SubF.ent rfl ?_ ?_; · repeat (first | exact Ents.nil | refine Ents.cons ?_ ?_ | refine Ent.tup ?_ | refine Ent.agg ?_ | exact Ent.row _ _ _ _ | exact Ent.nil _ _ | exact Ent.func _ | exact Ent.refl _ | exact Ent.of_eq rfl | refine Ent.cells ?_))
            first | refine SubF.cons rfl ?_ | (refine SubF.ent rfl ?_ ?_; · repeat (first | exact Ents.nil | refine Ents.cons ?_ ?_ | refine Ent.tup ?_ | refine Ent.agg ?_ | exact Ent.row _ _ _ _ | exact Ent.nil _ _ | exact Ent.func _ | exact Ent.refl _ | exact Ent.of_eq rfl | refine Ent.cells ?_))
            first | refine SubF.cons rfl ?_ | (refine SubF.ent rfl ?_ ?_; · repeat (first | exact Ents.nil | refine Ents.cons ?_ ?_ | refine Ent.tup ?_ | refine Ent.agg ?_ | exact Ent.row _ _ _ _ | exact Ent.nil _ _ | exact Ent.func _ | exact Ent.refl _ | exact Ent.of_eq rfl | refine Ent.cells ?_))
            first | refine SubF.cons rfl ?_ | (refine SubF.ent rfl ?_ ?_; · repeat (first | exact Ents.nil | refine Ents.cons ?_ ?_ | refine Ent.tup ?_ | refine Ent.agg ?_ | exact Ent.row _ _ _ _ | exact Ent.nil _ _ | exact Ent.func _ | exact Ent.refl _ | exact Ent.of_eq rfl | refine Ent.cells ?_))
            first | refine SubF.cons rfl ?_ | (refine SubF.ent rfl ?_ ?_; · repeat (first | exact Ents.nil | refine Ents.cons ?_ ?_ | refine Ent.tup ?_ | refine Ent.agg ?_ | exact Ent.row _ _ _ _ | exact Ent.nil _ _ | exact Ent.func _ | exact Ent.refl _ | exact Ent.of_eq rfl | refine Ent.cells ?_))
            first | refine SubF.cons rfl ?_ | (refine SubF.ent rfl ?_ ?_; · repeat (first | exact Ents.nil | refine Ents.cons ?_ ?_ | refine Ent.tup ?_ | refine Ent.agg ?_ | exact Ent.row _ _ _ _ | exact Ent.nil _ _ | exact Ent.func _ | exact Ent.refl _ | exact Ent.of_eq rfl | refine Ent.cells ?_))
            exact SubF.nil
          · try dsimp only [List.cons_append, List.nil_append]
            repeat (first | exact SubL.nil | refine SubL.cons rfl ?_)
        · (try simp only [Bool.and_eq_true, Bool.or_eq_true, Bool.and_eq_false_iff, Bool.or_eq_false_iff, decide_eq_true_eq, decide_eq_false_iff_not, Bool.not_eq_true', Bool.not_eq_false', List.length_map, ne_eq, Decidable.not_not, Int.not_lt, Int.not_le] at h44)
          refine tr_skip ?_
          refine pe_block_normal ?_
          refine pe_then_normal ?_
          refine tr_sub hC (.cons (t := 3) rfl (.cons (t := 4) rfl (.cons (t := 5) rfl (.cons (t := 6) rfl (.cons (t := 7) rfl (.cons (t := 8) rfl .nil)))))) (.cons (t := 3) rfl (.cons (t := 4) rfl (.cons (t := 5) rfl (.cons (t := 600) rfl .nil)))) rfl ?_
          refine tr_region (fun N6 hN => ?_)
          refine lx (op_move rfl) rfl ?_
          refine lx (op_add rfl rfl (by omega)) rfl ?_
          refine lx (op_assign rfl) rfl ?_
          refine lx_end ⟨by kernel_rfl, ?_⟩
          refine pe_round (⟨(k + 1, out ++ [o], true, (N8, 35)), by dsimp only; omega, rput_B (by omega) hk2 g30 h44, by dsimp only; first | omega | (simp; omega)⟩) (by dsimp only; omega) (pe_st hC ?_ ?_ rfl)
          · try dsimp only [List.cons_append, List.nil_append]
            first | refine SubF.cons rfl ?_ | (refine SubF.ent rfl ?_ ?_; · repeat (first | exact Ents.nil | refine Ents.cons ?_ ?_ | refine Ent.tup ?_ | refine Ent.agg ?_ | exact Ent.row _ _ _ _ | exact Ent.nil _ _ | exact Ent.func _ | exact Ent.refl _ | exact Ent.of_eq rfl | refine Ent.cells ?_))
            first | refine SubF.cons rfl ?_ | (refine SubF.ent rfl ?_ ?_; · repeat (first | exact Ents.nil | refine Ents.cons ?_ ?_ | refine Ent.tup ?_ | refine Ent.agg ?_ | exact Ent.row _ _ _ _ | exact Ent.nil _ _ | exact Ent.func _ | exact Ent.refl _ | exact Ent.of_eq rfl | refine Ent.cells ?_))
            first | refine SubF.cons rfl ?_ | (refine SubF.ent rfl ?_ ?_; · repeat (first | exact Ents.nil | refine Ents.cons ?_ ?_ | refine Ent.tup ?_ | refine Ent.agg ?_ | exact Ent.row _ _ _ _ | exact Ent.nil _ _ | exact Ent.func _ | exact Ent.refl _ | exact Ent.of_eq rfl | refine Ent.cells ?_))
            first | refine SubF.cons rfl ?_ | (refine SubF.ent rfl ?_ ?_; · repeat (first | exact Ents.nil | refine Ents.cons ?_ ?_ | refine Ent.tup ?_ | refine Ent.agg ?_ | exact Ent.row _ _ _ _ | exact Ent.nil _ _ | exact Ent.func _ | exact Ent.refl _ | exact Ent.of_eq rfl | refine Ent.cells ?_))
            first | refine SubF.cons rfl ?_ | (refine SubF.ent rfl ?_ ?_; · repeat (first | exact Ents.nil | refine Ents.cons ?_ ?_ | refine Ent.tup ?_ | refine Ent.agg ?_ | exact Ent.row _ _ _ _ | exact Ent.nil _ _ | exact Ent.func _ | exact Ent.refl _ | exact Ent.of_eq rfl | refine Ent.cells ?_))
            first | refine SubF.cons rfl ?_ | (refine SubF.ent rfl ?_ ?_; · repeat (first | exact Ents.nil | refine Ents.cons ?_ ?_ | refine Ent.tup ?_ | refine Ent.agg ?_ | exact Ent.row _ _ _ _ | exact Ent.nil _ _ | exact Ent.func _ | exact Ent.refl _ | exact Ent.of_eq rfl | refine Ent.cells ?_))
            exact SubF.nil
          · try dsimp only [List.cons_append, List.nil_append]
            repeat (first | exact SubL.nil | refine SubL.cons rfl ?_)
      · have g30 : (!dn && decide (m.objects[k].id ≥ o.id)) = false := h30
        refine tr_skip ?_
        refine pe_then_normal ?_
        refine tr_sub hC (.cons (t := 3) rfl (.cons (t := 4) rfl (.cons (t := 5) rfl (.cons (t := 6) rfl (.cons (t := 7) rfl (.cons (t := 8) rfl .nil)))))) (.cons (t := 600) rfl (.cons (t := 3) rfl (.cons (t := 4) rfl (.cons (t := 5) rfl .nil)))) rfl ?_
        refine tr_seq ?_
        refine tr_drawn mixed (fun N10 hN => ?_)
        refine lx (op_fieldAddr rfl fl29_0 sz22) rfl ?_
        refine lx (op_bload_one (m := 5) rfl rfl ag22 rfl) rfl ?_
        refine lx (op_move rfl) rfl ?_
        refine lx (op_index rfl rfl el22 sz33 rfl (List.getElem?_eq_getElem (by omega : k < m.objects.length))) rfl ?_
        first | refine lx (op_fieldAddr rfl fl33_0 sz3) rfl ?_ | refine lx (op_fieldCells rfl fl33_0 sz3) rfl ?_
        first | refine lx (op_load_one rfl ag3 rfl) rfl ?_ | refine lx (op_bload_one (m := 600) rfl rfl ag3 rfl) rfl ?_ | refine lx (op_bload_one (m := 3) rfl rfl ag3 rfl) rfl ?_ | refine lx (op_bload_one (m := 4) rfl rfl ag3 rfl) rfl ?_ | refine lx (op_bload_one (m := 5) rfl rfl ag3 rfl) rfl ?_
        refine lx (op_fieldAddr rfl fl33_0 sz3) rfl ?_
        refine lx (op_bload_one (m := 3) rfl rfl ag3 rfl) rfl ?_
        refine lx (op_neq rfl rfl) rfl ?_
        refine lx_end ⟨by kernel_rfl, ?_⟩
        refine pe_then_normal ?_
        refine tr_sub hC (.cons (t := 3) rfl (.cons (t := 4) rfl (.cons (t := 5) rfl (.cons (t := 6) rfl (.cons (t := 7) rfl (.cons (t := 8) rfl (.cons (t := 44) rfl .nil))))))) (.cons (t := 600) rfl (.cons (t := 3) rfl (.cons (t := 4) rfl (.cons (t := 5) rfl .nil)))) rfl ?_
        refine tr_cond rfl (fun h44 => ?_) (fun h44 => ?_)
        · (try simp only [Bool.and_eq_true, Bool.or_eq_true, Bool.and_eq_false_iff, Bool.or_eq_false_iff, decide_eq_true_eq, decide_eq_false_iff_not, Bool.not_eq_true', Bool.not_eq_false', List.length_map, ne_eq, Decidable.not_not, Int.not_lt, Int.not_le] at h44)
          refine tr_region (fun N11 hN => ?_)
          refine lx (op_move rfl) rfl ?_
          refine lx (op_fieldAddr rfl fl29_0 sz22) rfl ?_
          refine lx (op_bload_one (m := 5) rfl rfl ag22 rfl) rfl ?_
          refine lx (op_move rfl) rfl ?_
          refine lx (op_index rfl rfl el22 sz33 rfl (List.getElem?_eq_getElem (by omega : k < m.objects.length))) rfl ?_
          first | refine lx (op_load_all rfl ag33 sz33) rfl ?_ | refine lx (op_load_agg rfl ag33 sz33 rfl) rfl ?_ | refine lx (op_bload (m := 600) rfl rfl ag33 sz33) rfl ?_ | refine lx (op_bload (m := 3) rfl rfl ag33 sz33) rfl ?_ | refine lx (op_bload (m := 4) rfl rfl ag33 sz33) rfl ?_ | refine lx (op_bload (m := 5) rfl rfl ag33 sz33) rfl ?_ | refine lx (op_bload_part (m := 600) (qs := [_, _, _, _, _, _, _, _, _, _]) rfl rfl ag33 sz33 rfl rfl) rfl ?_ | refine lx (op_bload_part (m := 3) (qs := [_, _, _, _, _, _, _, _, _, _]) rfl rfl ag33 sz33 rfl rfl) rfl ?_ | refine lx (op_bload_part (m := 4) (qs := [_, _, _, _, _, _, _, _, _, _]) rfl rfl ag33 sz33 rfl rfl) rfl ?_ | refine lx (op_bload_part (m := 5) (qs := [_, _, _, _, _, _, _, _, _, _]) rfl rfl ag33 sz33 rfl rfl) rfl ?_
          refine lx (op_buildSlice (f := Ob.ps) (xs := [m.objects[k]]) (l := [(0, (Go.Operand.tmp 50))]) ze33 rfl rfl (by decide) el22 sz33 Ob.len (.cons rfl (.agg rfl) .nil) rfl (by decide)) rfl ?_
          refine lxr (op_append (m := 600) (m' := 600) (kk := 52) rfl rfl rfl (.inl rfl) el22 ze33 sz33 by33 rfl Ob.len (by simp; omega) (by simp; omega)) rfl ?_
          refine lx (op_assign rfl) rfl ?_
          refine lx_end ⟨by kernel_rfl, ?_⟩
          refine pe_block_normal ?_
          refine pe_then_normal ?_
          refine tr_sub hC (.cons (t := 3) rfl (.cons (t := 4) rfl (.cons (t := 5) rfl (.cons (t := 6) rfl (.cons (t := 7) rfl (.cons (t := 8) rfl .nil)))))) (.cons (t := 3) rfl (.cons (t := 4) rfl (.cons (t := 5) rfl (.cons (t := 600) rfl .nil)))) rfl ?_
          refine tr_region (fun N6 hN => ?_)
          refine lx (op_move rfl) rfl ?_
          refine lx (op_add rfl rfl (by omega)) rfl ?_
          refine lx (op_assign rfl) rfl ?_
          refine lx_end ⟨by kernel_rfl, ?_⟩
          refine pe_round (⟨(k + 1, out ++ [m.objects[k]], dn, (N11, 52)), by dsimp only; omega, rput_C (by omega) hk2 g30 h44, by dsimp only; first | omega | (simp; omega)⟩) (by dsimp only; omega) (pe_st hC ?_ ?_ rfl)
          · try dsimp only [List.cons_append, List.nil_append]
            first | refine SubF.cons rfl ?_ | (refine SubF.ent rfl ?_ ?_; · repeat (first | exact Ents.nil | refine Ents.cons ?_ ?_ | refine Ent.tup ?_ | refine Ent.agg ?_ | exact Ent.row _ _ _ _ | exact Ent.nil _ _ | exact Ent.func _ | exact Ent.refl _ | exact Ent.of_eq rfl | refine Ent.cells ?_))
            first | refine SubF.cons rfl ?_ | (refine SubF.ent rfl ?_ ?_; · repeat (first | exact Ents.nil | refine Ents.cons ?_ ?_ | refine Ent.tup ?_ | refine Ent.agg ?_ | exact Ent.row _ _ _ _ | exact Ent.nil _ _ | exact Ent.func _ | exact Ent.refl _ | exact Ent.of_eq rfl | refine Ent.cells ?_))
            first | refine SubF.cons rfl ?_ | (refine SubF.ent rfl ?_ ?_; · repeat (first | exact Ents.nil | refine Ents.cons ?_ ?_ | refine Ent.tup ?_ | refine Ent.agg ?_ | exact Ent.row _ _ _ _ | exact Ent.nil _ _ | exact Ent.func _ | exact Ent.refl _ | exact Ent.of_eq rfl | refine Ent.cells ?_))
            first | refine SubF.cons rfl ?_ | (refine SubF.ent rfl ?_ ?_; · repeat (first | exact Ents.nil | refine Ents.cons ?_ ?_ | refine Ent.tup ?_ | refine Ent.agg ?_ | exact Ent.row _ _ _ _ | exact Ent.nil _ _ | exact Ent.func _ | exact Ent.refl _ | exact Ent.of_eq rfl | refine Ent.cells ?_))
            first | refine SubF.cons rfl ?_ | (refine SubF.ent rfl ?_ ?_; · repeat (first | exact Ents.nil | refine Ents.cons ?_ ?_ | refine Ent.tup ?_ | refine Ent.agg ?_ | exact Ent.row _ _ _ _ | exact Ent.nil _ _ | exact Ent.func _ | exact Ent.refl _ | exact Ent.of_eq rfl | refine Ent.cells ?_))
            first | refine SubF.cons rfl ?_ | (refine SubF.ent rfl ?_ ?_; · repeat (first | exact Ents.nil | refine Ents.cons ?_ ?_ | refine Ent.tup ?_ | refine Ent.agg ?_ | exact Ent.row _ _ _ _ | exact Ent.nil _ _ | exact Ent.func _ | exact Ent.refl _ | exact Ent.of_eq rfl | refine Ent.cells ?_))
            exact SubF.nil
          · try dsimp only [List.cons_append, List.nil_append]
            repeat (first | exact SubL.nil | refine SubL.cons rfl ?_)
        · (try simp only [Bool.and_eq_true, Bool.or_eq_true, Bool.and_eq_false_iff, Bool.or_eq_false_iff, decide_eq_true_eq, decide_eq_false_iff_not, Bool.not_eq_true', Bool.not_eq_false', List.length_map, ne_eq, Decidable.not_not, Int.not_lt, Int.not_le] at h44)
          refine tr_skip ?_
          refine pe_block_normal ?_
          refine pe_then_normal ?_
          refine tr_sub hC (.cons (t := 3) rfl (.cons (t := 4) rfl (.cons (t := 5) rfl (.cons (t := 6) rfl (.cons (t := 7) rfl (.cons (t := 8) rfl .nil)))))) (.cons (t := 600) rfl (.cons (t := 3) rfl (.cons (t := 4) rfl (.cons (t := 5) rfl .nil)))) rfl ?_
          refine tr_region (fun N6 hN => ?_)
          refine lx (op_move rfl) rfl ?_
          refine lx (op_add rfl rfl (by omega)) rfl ?_
          refine lx (op_assign rfl) rfl ?_
          refine lx_end ⟨by kernel_rfl, ?_⟩
          refine pe_round (⟨(k + 1, out, dn, i), by dsimp only; omega, rput_D (by omega) hk2 g30 h44, by dsimp only; first | omega | (simp; omega)⟩) (by dsimp only; omega) (pe_st hC ?_ ?_ rfl)
          · try dsimp only [List.cons_append, List.nil_append]
            first | refine SubF.cons rfl ?_ | (refine SubF.ent rfl ?_ ?_; · repeat (first | exact Ents.nil | refine Ents.cons ?_ ?_ | refine Ent.tup ?_ | refine Ent.agg ?_ | exact Ent.row _ _ _ _ | exact Ent.nil _ _ | exact Ent.func _ | exact Ent.refl _ | exact Ent.of_eq rfl | refine Ent.cells ?_))
            first | refine SubF.cons rfl ?_ | (refine SubF.ent rfl ?_ ?_; · repeat (first | exact Ents.nil | refine Ents.cons ?_ ?_ | refine Ent.tup ?_ | refine Ent.agg ?_ | exact Ent.row _ _ _ _ | exact Ent.nil _ _ | exact Ent.func _ | exact Ent.refl _ | exact Ent.of_eq rfl | refine Ent.cells ?_))
            first | refine SubF.cons rfl ?_ | (refine SubF.ent rfl ?_ ?_; · repeat (first | exact Ents.nil | refine Ents.cons ?_ ?_ | refine Ent.tup ?_ | refine Ent.agg ?_ | exact Ent.row _ _ _ _ | exact Ent.nil _ _ | exact Ent.func _ | exact Ent.refl _ | exact Ent.of_eq rfl | refine Ent.cells ?_))
            first | refine SubF.cons rfl ?_ | (refine SubF.ent rfl ?_ ?_; · repeat (first | exact Ents.nil | refine Ents.cons ?_ ?_ | refine Ent.tup ?_ | refine Ent.agg ?_ | exact Ent.row _ _ _ _ | exact Ent.nil _ _ | exact Ent.func _ | exact Ent.refl _ | exact Ent.of_eq rfl | refine Ent.cells ?_))
            first | refine SubF.cons rfl ?_ | (refine SubF.ent rfl ?_ ?_; · repeat (first | exact Ents.nil | refine Ents.cons ?_ ?_ | refine Ent.tup ?_ | refine Ent.agg ?_ | exact Ent.row _ _ _ _ | exact Ent.nil _ _ | exact Ent.func _ | exact Ent.refl _ | exact Ent.of_eq rfl | refine Ent.cells ?_))
            first | refine SubF.cons rfl ?_ | (refine SubF.ent rfl ?_ ?_; · repeat (first | exact Ents.nil | refine Ents.cons ?_ ?_ | refine Ent.tup ?_ | refine Ent.agg ?_ | exact Ent.row _ _ _ _ | exact Ent.nil _ _ | exact Ent.func _ | exact Ent.refl _ | exact Ent.of_eq rfl | refine Ent.cells ?_))
            exact SubF.nil
          · try dsimp only [List.cons_append, List.nil_append]
            repeat (first | exact SubL.nil | refine SubL.cons rfl ?_)
    · (try simp only [Bool.and_eq_true, Bool.or_eq_true, Bool.and_eq_false_iff, Bool.or_eq_false_iff, decide_eq_true_eq, decide_eq_false_iff_not, Bool.not_eq_true', Bool.not_eq_false', List.length_map, ne_eq, Decidable.not_not, Int.not_lt, Int.not_le] at h15)
      have hend := rput_end (by omega) hk2
      refine tr_exit ?_
      refine pe_then_exit ?_
      refine pe_then_exit ?_
      refine pe_block_eq ?_
      refine pe_then_normal ?_
      refine tr_sub hC (.cons (t := 3) rfl (.cons (t := 4) rfl (.cons (t := 5) rfl (.cons (t := 6) rfl (.cons (t := 7) rfl .nil))))) (.cons (t := 600) rfl (.cons (t := 3) rfl (.cons (t := 4) rfl (.cons (t := 5) rfl .nil)))) rfl ?_
      refine tr_seq ?_
      refine tr_seq ?_
      refine tr_region (fun N12 hN => ?_)
      refine lx (op_move rfl) rfl ?_
      first | refine lx (op_not rfl) rfl ?_ | refine lx (op_not_b rfl) rfl ?_
      refine lx_end ⟨by kernel_rfl, ?_⟩
      refine pe_then_normal ?_
      refine tr_sub hC (.cons (t := 3) rfl (.cons (t := 4) rfl (.cons (t := 5) rfl (.cons (t := 6) rfl (.cons (t := 54) rfl .nil))))) (.cons (t := 600) rfl (.cons (t := 3) rfl (.cons (t := 4) rfl (.cons (t := 5) rfl .nil)))) rfl ?_
      refine tr_cond rfl (fun h54 => ?_) (fun h54 => ?_)
      · (try simp only [Bool.and_eq_true, Bool.or_eq_true, Bool.and_eq_false_iff, Bool.or_eq_false_iff, decide_eq_true_eq, decide_eq_false_iff_not, Bool.not_eq_true', Bool.not_eq_false', List.length_map, ne_eq, Decidable.not_not, Int.not_lt, Int.not_le] at h54)
        have hfin : out ++ [o] = rputF o false m.objects := by rw [← hend, h54]; rfl
        refine tr_region (fun N13 hN => ?_)
        refine lx (op_move rfl) rfl ?_
        refine lx (op_bload (m := 3) rfl rfl ag33 sz33) rfl ?_
        first | refine lx (op_call (l := [(Go.Operand.tmp 56)]) (copyO_ok o hoo) (.cons rfl .nil) fn28) rfl ?_ | refine lx (op_call (l := [(Go.Operand.tmp 56)]) (copyO_ok o hoo) (.ent rfl (by repeat (first | exact Ents.nil | refine Ents.cons ?_ ?_ | refine Ent.tup ?_ | refine Ent.agg ?_ | exact Ent.row _ _ _ _ | exact Ent.nil _ _ | exact Ent.func _ | exact Ent.refl _ | exact Ent.of_eq rfl | refine Ent.cells ?_)) .nil) fn28) rfl ?_
        refine lx (op_buildSlice (f := Ob.ps) (xs := [o]) (l := [(0, (Go.Operand.tmp 57))]) ze33 rfl rfl (by decide) el22 sz33 Ob.len (.cons rfl (.agg rfl) .nil) rfl (by decide)) rfl ?_
        refine lxr (op_append (m := 600) (m' := 600) (kk := 59) rfl rfl rfl (.inl rfl) el22 ze33 sz33 by33 rfl Ob.len (by simp; omega) (by simp; omega)) rfl ?_
        refine lx (op_assign rfl) rfl ?_
        refine lx_end ⟨by kernel_rfl, ?_⟩
        refine pe_then_normal ?_
        refine tr_sub hC (.cons (t := 4) rfl (.cons (t := 5) rfl (.cons (t := 6) rfl .nil))) (.cons (t := 4) rfl (.cons (t := 5) rfl (.cons (t := 600) rfl .nil))) rfl ?_
        refine tr_sub hC (.cons (t := 4) rfl (.cons (t := 5) rfl (.ent (t := 6) rfl ((show Ent _ (slP Ob.ps 10 (rputF o false m.objects)) from Ent.trans (Ent.row _ _ _ _) (Ent.of_eq (by rw [hfin])))) .nil))) (.cons (t := 4) rfl (.cons (t := 5) rfl (.cons (t := 600) rfl .nil))) rfl ?_
        refine tr_seq ?_
        refine tr_region (fun N14 hN => ?_)
        refine lx (op_move rfl) rfl ?_
        refine lx (op_fieldAddr rfl fl29_0 sz22) rfl ?_
        refine lxr (op_store (m := 5) (rs := [_, _, _, _]) rfl rfl rfl (.one (by (first | exact One.eq rfl | exact One.mv _ _ _ _ _ | exact One.cl _ _ _ | exact One.map _ | exact One.sl _ _ _ | exact One.row _ _ _ _ | exact One.msl _ _ _ _ | exact One.ptr _ _ | exact One.b _ | exact One.cells _))) sz22 rfl rfl rfl) rfl ?_
        refine lx_end ⟨by kernel_rfl, ?_⟩
        refine pe_then_normal ?_
        refine tr_sub hC (.cons (t := 4) rfl (.cons (t := 5) rfl .nil)) (.cons (t := 4) rfl (.cons (t := 5) rfl (.cons (t := 600) rfl .nil))) rfl ?_
        refine tr_seq ?_
        refine tr_region (fun N15 hN => ?_)
        refine lx (op_bload (m := 5) rfl rfl ag29 sz29) rfl ?_
        refine lxr (op_store_all (m := 4) rfl rfl rfl (.agg rfl) sz29 rfl) rfl ?_
        refine lx_end ⟨by kernel_rfl, ?_⟩
        refine pe_then_normal ?_
        refine tr_sub hC (.cons (t := 4) rfl .nil) (.cons (t := 4) rfl (.cons (t := 600) rfl .nil)) rfl ?_
        refine tr_ret ?_
        refine pe_ret1 rfl hO rfl (.cell (m := 4) rfl rfl ag29 sz29 .nil) ?_
        repeat (first | exact Ents.nil | refine Ents.cons ?_ ?_ | refine Ent.tup ?_ | refine Ent.agg ?_ | exact Ent.row _ _ _ _ | exact Ent.nil _ _ | exact Ent.func _ | exact Ent.refl _ | exact Ent.of_eq rfl | refine Ent.cells ?_)
      · (try simp only [Bool.and_eq_true, Bool.or_eq_true, Bool.and_eq_false_iff, Bool.or_eq_false_iff, decide_eq_true_eq, decide_eq_false_iff_not, Bool.not_eq_true', Bool.not_eq_false', List.length_map, ne_eq, Decidable.not_not, Int.not_lt, Int.not_le] at h54)
        have hfin : out = rputF o false m.objects := by rw [← hend, h54]; simp
        refine tr_skip ?_
        refine pe_then_normal ?_
        refine tr_sub hC (.cons (t := 4) rfl (.cons (t := 5) rfl (.cons (t := 6) rfl .nil))) (.cons (t := 600) rfl (.cons (t := 4) rfl (.cons (t := 5) rfl .nil))) rfl ?_
        refine tr_sub hC (.cons (t := 4) rfl (.cons (t := 5) rfl (.ent (t := 6) rfl ((show Ent _ (slP Ob.ps 10 (rputF o false m.objects)) from Ent.trans (Ent.row _ _ _ _) (Ent.of_eq (by rw [hfin])))) .nil))) (.cons (t := 600) rfl (.cons (t := 4) rfl (.cons (t := 5) rfl .nil))) rfl ?_
        refine tr_seq ?_
        refine tr_region (fun N14 hN => ?_)
        refine lx (op_move rfl) rfl ?_
        refine lx (op_fieldAddr rfl fl29_0 sz22) rfl ?_
        refine lxr (op_store (m := 5) (rs := [_, _, _, _]) rfl rfl rfl (.one (by (first | exact One.eq rfl | exact One.mv _ _ _ _ _ | exact One.cl _ _ _ | exact One.map _ | exact One.sl _ _ _ | exact One.row _ _ _ _ | exact One.msl _ _ _ _ | exact One.ptr _ _ | exact One.b _ | exact One.cells _))) sz22 rfl rfl rfl) rfl ?_
        refine lx_end ⟨by kernel_rfl, ?_⟩
        refine pe_then_normal ?_
        refine tr_sub hC (.cons (t := 4) rfl (.cons (t := 5) rfl .nil)) (.cons (t := 600) rfl (.cons (t := 4) rfl (.cons (t := 5) rfl .nil))) rfl ?_
        refine tr_seq ?_
        refine tr_region (fun N15 hN => ?_)
        refine lx (op_bload (m := 5) rfl rfl ag29 sz29) rfl ?_
        refine lxr (op_store_all (m := 4) rfl rfl rfl (.agg rfl) sz29 rfl) rfl ?_
        refine lx_end ⟨by kernel_rfl, ?_⟩
        refine pe_then_normal ?_
        refine tr_sub hC (.cons (t := 4) rfl .nil) (.cons (t := 600) rfl (.cons (t := 4) rfl .nil)) rfl ?_
        refine tr_ret ?_
        refine pe_ret1 rfl hO rfl (.cell (m := 4) rfl rfl ag29 sz29 .nil) ?_
        repeat (first | exact Ents.nil | refine Ents.cons ?_ ?_ | refine Ent.tup ?_ | refine Ent.agg ?_ | exact Ent.row _ _ _ _ | exact Ent.nil _ _ | exact Ent.func _ | exact Ent.refl _ | exact Ent.of_eq rfl | refine Ent.cells ?_)
theorem rStore_n (m : Mc) (r v : V) (hb : Bd 2000000 m) (hc : ¬ (checkF m.objects r).2 = 0) : FnP Try.prog 22 [aggP m.ps, aggP (vp r), aggP (vp v)] (tupP [aggP (rstoreF m r v).1.ps, eqP (.int .i64 (rstoreF m r v).2)]) := by
  refine fn_pure' Try.func22 rfl Try.ntmps22 rfl ?_
  intro σ0 M ex Rf R hC hO
  simp only [frameOf, tokOf]
  refine tr_seq ?_
  refine tr_region (fun N0 hN => ?_)
  refine lxn (op_box (m := 3) (k := 3) rfl (.agg rfl) (by first | exact hC.low _ (by decide) | rfl)) rfl ?_
  refine lxn (op_box (m := 4) (k := 4) rfl (.agg rfl) (by first | exact hC.low _ (by decide) | rfl)) rfl ?_
  refine lxn (op_box (m := 5) (k := 5) rfl (.agg rfl) (by first | exact hC.low _ (by decide) | rfl)) rfl ?_
  refine lxn (op_alloc (m := 6) (k := 6) (ps := [eqP (.slice none 0 0), eqP (.slice none 0 0), eqP (.slice none 0 0), eqP (.slice none 0 0)]) ze29 rfl rfl (by first | exact hC.low _ (by decide) | rfl)) rfl ?_
  refine lx (op_assign rfl) rfl ?_
  refine lx_end ⟨by kernel_rfl, ?_⟩
  refine pe_then_normal ?_
  refine tr_sub hC (.cons (t := 3) rfl (.cons (t := 4) rfl (.cons (t := 5) rfl (.cons (t := 6) rfl .nil)))) (.cons (t := 3) rfl (.cons (t := 4) rfl (.cons (t := 5) rfl (.cons (t := 6) rfl .nil)))) rfl ?_
  refine tr_seq ?_
  refine tr_region (fun N1 hN => ?_)
  refine lx (op_bload (m := 3) rfl rfl ag29 sz29) rfl ?_
  refine lx (op_bload (m := 4) rfl rfl ag41 sz41) rfl ?_
  first | refine lx (op_call (l := [(Go.Operand.tmp 11), (Go.Operand.tmp 12)]) (Check_ok m (hb.mono (by decide)) r) (.cons rfl (.cons rfl .nil)) fn39) rfl ?_ | refine lx (op_call (l := [(Go.Operand.tmp 11), (Go.Operand.tmp 12)]) (Check_ok m (hb.mono (by decide)) r) (.ent rfl (by repeat (first | exact Ents.nil | refine Ents.cons ?_ ?_ | refine Ent.tup ?_ | refine Ent.agg ?_ | exact Ent.row _ _ _ _ | exact Ent.nil _ _ | exact Ent.func _ | exact Ent.refl _ | exact Ent.of_eq rfl | refine Ent.cells ?_)) (.ent rfl (by repeat (first | exact Ents.nil | refine Ents.cons ?_ ?_ | refine Ent.tup ?_ | refine Ent.agg ?_ | exact Ent.row _ _ _ _ | exact Ent.nil _ _ | exact Ent.func _ | exact Ent.refl _ | exact Ent.of_eq rfl | refine Ent.cells ?_)) .nil)) fn39) rfl ?_
  refine lx (op_move rfl) rfl ?_
  refine lx (op_extract rfl rfl) rfl ?_
  refine lx (op_extract rfl rfl) rfl ?_
  refine lxn (op_alloc (m := 8) (k := 8) (ps := [eqP (.int .i64 0), eqP (.slice none 0 0), eqP (.bool false), eqP (.int .i64 0), eqP (.slice none 0 0), eqP (.bool false), eqP (.int .i64 0), eqP (.int .i64 0), eqP (.slice none 0 0), eqP (.slice none 0 0)]) ze33 rfl rfl (by first | exact hC.low _ (by decide) | rfl)) rfl ?_
  refine lxr (op_store_all (m := 8) rfl rfl rfl (.agg rfl) sz33 rfl) rfl ?_
  refine lx (op_assign rfl) rfl ?_
  refine lx_end ⟨by kernel_rfl, ?_⟩
  refine pe_then_normal ?_
  refine tr_sub hC (.cons (t := 3) rfl (.cons (t := 4) rfl (.cons (t := 5) rfl (.cons (t := 6) rfl (.cons (t := 8) rfl (.cons (t := 9) rfl .nil)))))) (.cons (t := 3) rfl (.cons (t := 4) rfl (.cons (t := 5) rfl (.cons (t := 6) rfl (.cons (t := 8) rfl .nil))))) rfl ?_
  refine tr_seq ?_
  refine tr_seq ?_
  refine tr_region (fun N2 hN => ?_)
  refine lx (op_move rfl) rfl ?_
  refine lx (op_neq rfl rfl) rfl ?_
  refine lx_end ⟨by kernel_rfl, ?_⟩
  refine pe_then_normal ?_
  refine tr_sub hC (.cons (t := 3) rfl (.cons (t := 4) rfl (.cons (t := 5) rfl (.cons (t := 6) rfl (.cons (t := 8) rfl (.cons (t := 9) rfl (.cons (t := 17) rfl .nil))))))) (.cons (t := 3) rfl (.cons (t := 4) rfl (.cons (t := 5) rfl (.cons (t := 6) rfl (.cons (t := 8) rfl .nil))))) rfl ?_
  refine tr_cond rfl (fun h17 => ?_) (fun h17 => ?_)
  · (try simp only [Bool.and_eq_true, Bool.or_eq_true, Bool.and_eq_false_iff, Bool.or_eq_false_iff, decide_eq_true_eq, decide_eq_false_iff_not, Bool.not_eq_true', Bool.not_eq_false', List.length_map, ne_eq, Decidable.not_not, Int.not_lt, Int.not_le] at h17)
    refine tr_seq ?_
    refine tr_region (fun N3 hN => ?_)
    refine lx (op_build (qs := [_, _, _, _]) (parts := []) ze29 rfl rfl fs29 .nil rfl rfl) rfl ?_
    refine lx (op_move rfl) rfl ?_
    refine lxr (op_store_all (m := 6) rfl rfl rfl (.agg rfl) sz29 rfl) rfl ?_
    refine lx (op_assign rfl) rfl ?_
    refine lx_end ⟨by kernel_rfl, ?_⟩
    refine pe_then_normal ?_
    refine tr_sub hC (.cons (t := 6) rfl (.cons (t := 7) rfl .nil)) (.cons (t := 6) rfl .nil) rfl ?_
    refine tr_ret ?_
    refine pe_then_ret ?_
    refine pe_retN (rs := [.cell 6 29, .tmp 7]) rfl rfl hO rfl (.cell (m := 6) rfl rfl ag29 sz29 (.tmp rfl .nil)) ?_
    rw [rstore_n hc]
    repeat (first | exact Ents.nil | refine Ents.cons ?_ ?_ | refine Ent.tup ?_ | refine Ent.agg ?_ | exact Ent.row _ _ _ _ | exact Ent.nil _ _ | exact Ent.func _ | exact Ent.refl _ | exact Ent.of_eq rfl | refine Ent.cells ?_)
  · (try simp only [Bool.and_eq_true, Bool.or_eq_true, Bool.and_eq_false_iff, Bool.or_eq_false_iff, decide_eq_true_eq, decide_eq_false_iff_not, Bool.not_eq_true', Bool.not_eq_false', List.length_map, ne_eq, Decidable.not_not, Int.not_lt, Int.not_le] at h17)
    exact absurd h17 hc
theorem rStore_y (m : Mc) (r v : V) (hb : Bd 2000000 m) (hc : (checkF m.objects r).2 = 0) : FnP Try.prog 22 [aggP m.ps, aggP (vp r), aggP (vp v)] (tupP [aggP (rstoreF m r v).1.ps, eqP (.int .i64 (rstoreF m r v).2)]) := by
  obtain ⟨hk, hf, hof, hck⟩ := check_inv hc
  have hbf := rfind_bd hb hf.1
  refine fn_pure' Try.func22 rfl Try.ntmps22 rfl ?_
  intro σ0 M ex Rf R hC hO
  simp only [frameOf, tokOf]
  refine tr_seq ?_
  refine tr_region (fun N0 hN => ?_)
  refine lxn (op_box (m := 3) (k := 3) rfl (.agg rfl) (by first | exact hC.low _ (by decide) | rfl)) rfl ?_
  refine lxn (op_box (m := 4) (k := 4) rfl (.agg rfl) (by first | exact hC.low _ (by decide) | rfl)) rfl ?_
  refine lxn (op_box (m := 5) (k := 5) rfl (.agg rfl) (by first | exact hC.low _ (by decide) | rfl)) rfl ?_
  refine lxn (op_alloc (m := 6) (k := 6) (ps := [eqP (.slice none 0 0), eqP (.slice none 0 0), eqP (.slice none 0 0), eqP (.slice none 0 0)]) ze29 rfl rfl (by first | exact hC.low _ (by decide) | rfl)) rfl ?_
  refine lx (op_assign rfl) rfl ?_
  refine lx_end ⟨by kernel_rfl, ?_⟩
  refine pe_then_normal ?_
  refine tr_sub hC (.cons (t := 3) rfl (.cons (t := 4) rfl (.cons (t := 5) rfl (.cons (t := 6) rfl .nil)))) (.cons (t := 3) rfl (.cons (t := 4) rfl (.cons (t := 5) rfl (.cons (t := 6) rfl .nil)))) rfl ?_
  refine tr_seq ?_
  refine tr_region (fun N1 hN => ?_)
  refine lx (op_bload (m := 3) rfl rfl ag29 sz29) rfl ?_
  refine lx (op_bload (m := 4) rfl rfl ag41 sz41) rfl ?_
  first | refine lx_any rfl (op_callG2 (l := [(Go.Operand.tmp 11), (Go.Operand.tmp 12)]) (add := [(601, ((N1, 100130), blkX 3 41 ((rfindF m.objects r.n).1.cells.flatMap vp)))]) (ks := [100130]) (φ := tupP [aggP (obCs (rfindF m.objects r.n).1 (N1, 100130)), eqP (.int .i64 0)]) .nil (Check_own m (hb.mono (by decide)) r hc) (.cons rfl (.cons rfl .nil)) fn39 rfl rfl rfl (.new (by first | exact hC.low _ (by decide) | rfl) .nil) rfl) (dOK_spec rfl) ?_ | refine lx_any rfl (op_callG2 (l := [(Go.Operand.tmp 11), (Go.Operand.tmp 12)]) (add := [(601, ((N1, 100130), blkX 3 41 ((rfindF m.objects r.n).1.cells.flatMap vp)))]) (ks := [100130]) (φ := tupP [aggP (obCs (rfindF m.objects r.n).1 (N1, 100130)), eqP (.int .i64 0)]) .nil (Check_own m (hb.mono (by decide)) r hc) (.ent rfl (by repeat (first | exact Ents.nil | refine Ents.cons ?_ ?_ | refine Ent.tup ?_ | refine Ent.agg ?_ | exact Ent.row _ _ _ _ | exact Ent.nil _ _ | exact Ent.func _ | exact Ent.refl _ | exact Ent.of_eq rfl | refine Ent.cells ?_)) (.ent rfl (by repeat (first | exact Ents.nil | refine Ents.cons ?_ ?_ | refine Ent.tup ?_ | refine Ent.agg ?_ | exact Ent.row _ _ _ _ | exact Ent.nil _ _ | exact Ent.func _ | exact Ent.refl _ | exact Ent.of_eq rfl | refine Ent.cells ?_)) .nil)) fn39 rfl rfl rfl (.new (by first | exact hC.low _ (by decide) | rfl) .nil) rfl) (dOK_spec rfl) ?_
  refine lx (op_move rfl) rfl ?_
  refine lx (op_extract rfl rfl) rfl ?_
  refine lx (op_extract rfl rfl) rfl ?_
  refine lxn (op_alloc (m := 8) (k := 8) (ps := [eqP (.int .i64 0), eqP (.slice none 0 0), eqP (.bool false), eqP (.int .i64 0), eqP (.slice none 0 0), eqP (.bool false), eqP (.int .i64 0), eqP (.int .i64 0), eqP (.slice none 0 0), eqP (.slice none 0 0)]) ze33 rfl rfl (by first | exact hC.low _ (by decide) | rfl)) rfl ?_
  refine lxr (op_store_all (m := 8) rfl rfl rfl (.agg rfl) sz33 rfl) rfl ?_
  refine lx (op_assign rfl) rfl ?_
  refine lx_end ⟨by kernel_rfl, ?_⟩
  refine pe_then_normal ?_
  refine tr_sub hC (.cons (t := 3) rfl (.cons (t := 4) rfl (.cons (t := 5) rfl (.cons (t := 6) rfl (.cons (t := 8) rfl (.cons (t := 9) rfl .nil)))))) (.cons (t := 3) rfl (.cons (t := 4) rfl (.cons (t := 5) rfl (.cons (t := 6) rfl (.cons (t := 601) rfl (.cons (t := 8) rfl .nil)))))) rfl ?_
  refine tr_seq ?_
  refine tr_seq ?_
  refine tr_region (fun N2 hN => ?_)
  refine lx (op_move rfl) rfl ?_
  refine lx (op_neq rfl rfl) rfl ?_
  refine lx_end ⟨by kernel_rfl, ?_⟩
  refine pe_then_normal ?_
  refine tr_sub hC (.cons (t := 3) rfl (.cons (t := 4) rfl (.cons (t := 5) rfl (.cons (t := 6) rfl (.cons (t := 8) rfl (.cons (t := 9) rfl (.cons (t := 17) rfl .nil))))))) (.cons (t := 3) rfl (.cons (t := 4) rfl (.cons (t := 5) rfl (.cons (t := 6) rfl (.cons (t := 601) rfl (.cons (t := 8) rfl .nil)))))) rfl ?_
  refine tr_cond rfl (fun h17 => ?_) (fun h17 => ?_)
  · (try simp only [Bool.and_eq_true, Bool.or_eq_true, Bool.and_eq_false_iff, Bool.or_eq_false_iff, decide_eq_true_eq, decide_eq_false_iff_not, Bool.not_eq_true', Bool.not_eq_false', List.length_map, ne_eq, Decidable.not_not, Int.not_lt, Int.not_le] at h17)
    simp at h17
  · (try simp only [Bool.and_eq_true, Bool.or_eq_true, Bool.and_eq_false_iff, Bool.or_eq_false_iff, decide_eq_true_eq, decide_eq_false_iff_not, Bool.not_eq_true', Bool.not_eq_false', List.length_map, ne_eq, Decidable.not_not, Int.not_lt, Int.not_le] at h17)
    refine tr_skip ?_
    refine pe_then_normal ?_
    refine tr_sub hC (.cons (t := 3) rfl (.cons (t := 4) rfl (.cons (t := 5) rfl (.cons (t := 6) rfl (.cons (t := 8) rfl (.cons (t := 9) rfl .nil)))))) (.cons (t := 3) rfl (.cons (t := 4) rfl (.cons (t := 5) rfl (.cons (t := 6) rfl (.cons (t := 601) rfl (.cons (t := 8) rfl .nil)))))) rfl ?_
    refine tr_seq ?_
    refine tr_region (fun N4 hN => ?_)
    refine lx (op_fieldAddr rfl fl33_1 sz30) rfl ?_
    refine lx (op_bload_one (m := 8) rfl rfl ag30 rfl) rfl ?_
    refine lx (op_fieldAddr rfl fl41_2 sz3) rfl ?_
    refine lx (op_bload_one (m := 4) rfl rfl ag3 rfl) rfl ?_
    refine lx (op_bload (m := 5) rfl rfl ag41 sz41) rfl ?_
    refine lx (op_index_mv rfl rfl el30 sz41 (by omega : r.off = ((r.off.toNat : Nat) : Int)) (show r.off.toNat < (rfindF m.objects r.n).1.cells.length by omega)) rfl ?_
    refine lxr (op_tstore (m := 601) (j := r.off.toNat) (fo := 0) (z' := v) rfl rfl rfl (.agg rfl) sz41 rfl vp_len (by omega) (List.getElem?_eq_getElem (by omega : r.off.toNat < (rfindF m.objects r.n).1.cells.length)) rfl rfl) rfl ?_
    refine lx_end ⟨by kernel_rfl, ?_⟩
    refine pe_then_normal ?_
    refine tr_sub hC (.cons (t := 3) rfl (.cons (t := 6) rfl (.cons (t := 8) rfl (.cons (t := 9) rfl .nil)))) (.cons (t := 3) rfl (.cons (t := 6) rfl (.cons (t := 601) rfl (.cons (t := 8) rfl .nil)))) rfl ?_
    refine tr_bound 0 (m := 601) rfl ?_
    refine tr_freeze (m := 601) rfl (.ent (t := 0) rfl FEnt.frz_bound (.cons (t := 3) rfl (.cons (t := 6) rfl (.cons (t := 8) rfl (.cons (t := 9) rfl .nil))))) ?_
    refine tr_thaw (t := 0) (n := 8) (qs' := Ob.ps (setC (rfindF m.objects r.n).1 r v)) rfl (.cons (t := 3) rfl (.cons (t := 6) rfl (.cons (t := 8) rfl (.cons (t := 9) rfl .nil)))) rfl (.cons (.of (Ent.refl _)) (.cons (FEnt.mv (by simp [setC]) ⟨[], by simp [setC]⟩ vp_len) (FEnts.refl _ _ _))) ?_
    refine tr_seq ?_
    refine tr_region (fun N5 hN => ?_)
    refine lx (op_bload (m := 3) rfl rfl ag29 sz29) rfl ?_
    refine lx (op_bload (m := 8) rfl rfl ag33 sz33) rfl ?_
    first | refine lx (op_call (l := [(Go.Operand.tmp 26), (Go.Operand.tmp 27)]) (rPut_ok m (setC (rfindF m.objects r.n).1 r v) hb (setC_bd hbf)) (.cons rfl (.cons rfl .nil)) fn29) rfl ?_ | refine lx (op_call (l := [(Go.Operand.tmp 26), (Go.Operand.tmp 27)]) (rPut_ok m (setC (rfindF m.objects r.n).1 r v) hb (setC_bd hbf)) (.ent rfl (by repeat (first | exact Ents.nil | refine Ents.cons ?_ ?_ | refine Ent.tup ?_ | refine Ent.agg ?_ | exact Ent.row _ _ _ _ | exact Ent.nil _ _ | exact Ent.func _ | exact Ent.refl _ | exact Ent.of_eq rfl | refine Ent.cells ?_)) (.ent rfl (by repeat (first | exact Ents.nil | refine Ents.cons ?_ ?_ | refine Ent.tup ?_ | refine Ent.agg ?_ | exact Ent.row _ _ _ _ | exact Ent.nil _ _ | exact Ent.func _ | exact Ent.refl _ | exact Ent.of_eq rfl | refine Ent.cells ?_)) .nil)) fn29) rfl ?_
    refine lx (op_move rfl) rfl ?_
    refine lxr (op_store_all (m := 6) rfl rfl rfl (.agg rfl) sz29 rfl) rfl ?_
    refine lx (op_assign rfl) rfl ?_
    refine lx_end ⟨by kernel_rfl, ?_⟩
    refine pe_then_normal ?_
    refine tr_sub hC (.cons (t := 6) rfl (.cons (t := 7) rfl .nil)) (.cons (t := 6) rfl .nil) rfl ?_
    refine tr_ret ?_
    refine pe_retN (rs := [.cell 6 29, .tmp 7]) rfl rfl hO rfl (.cell (m := 6) rfl rfl ag29 sz29 (.tmp rfl .nil)) ?_
    rw [rstore_y hc]
    repeat (first | exact Ents.nil | refine Ents.cons ?_ ?_ | refine Ent.tup ?_ | refine Ent.agg ?_ | exact Ent.row _ _ _ _ | exact Ent.nil _ _ | exact Ent.func _ | exact Ent.refl _ | exact Ent.of_eq rfl | refine Ent.cells ?_)
end Go.Proofs.Ytibcbiamdjmckaa


set_option linter.unusedVariables false
set_option linter.unusedSimpArgs false
namespace Go.Proofs.Ytibcbiamdjmckaa
open Go.AL Go.Ch Go.Hp Go.RowKit
theorem fcl (xs : List Fm) (hx : xs.length ≤ 4000000) : FnOK Try.prog 52 [slP Fm.ps 9 xs] [] 1 (fun ι => mvP (ι 0) 9 0 xs.length xs.length) (fun ι => [(ι 0, blkX 9 92 (xs.flatMap Fm.ps))]) := by
  refine fn_ownN Try.func52 rfl Try.ntmps52 rfl ?_
  intro σ0 M Rf R hC hO
  simp only [frameOf, tokOf]
  refine tr_seq ?_
  refine tr_region (fun N0 hN => ?_)
  refine lx (op_assign rfl) rfl ?_
  refine lx_end ⟨by kernel_rfl, ?_⟩
  refine pe_then_normal ?_
  refine tr_sub hC (.cons (t := 0) rfl .nil) .nil rfl ?_
  refine tr_seq ?_
  refine tr_seq ?_
  refine tr_region (fun N1 hN => ?_)
  refine lx (op_move rfl) rfl ?_
  refine lx (op_eqnil rfl el68) rfl ?_
  refine lx_end ⟨by kernel_rfl, ?_⟩
  refine pe_then_normal ?_
  refine tr_sub hC (.cons (t := 0) rfl (.cons (t := 4) rfl .nil)) .nil rfl ?_
  refine tr_cond_b rfl (fun h4 => ?_) (fun h4 => ?_)
  · (try simp only [Bool.and_eq_true, Bool.or_eq_true, Bool.and_eq_false_iff, Bool.or_eq_false_iff, decide_eq_true_eq, decide_eq_false_iff_not, Bool.not_eq_true', Bool.not_eq_false', List.length_map, ne_eq, Decidable.not_not, Int.not_lt, Int.not_le] at h4)
    have hxs : xs = [] := by first | exact h4 rfl | exact h4 trivial
    subst hxs
    refine tr_seq ?_
    refine tr_region (fun N2 hN => ?_)
    refine lx (op_assign rfl) rfl ?_
    refine lx_end ⟨by kernel_rfl, ?_⟩
    refine pe_then_normal ?_
    refine tr_sub hC (.cons (t := 2) rfl .nil) .nil rfl ?_
    refine tr_nilmv 9 92 2 600 rfl (by first | exact hC.low _ (by decide) | rfl) (fun idN => ?_)
    refine tr_ret ?_
    refine pe_then_ret ?_
    refine pe_ownS' [600] rfl hO rfl (.tmp rfl .nil) (.cons (m := 600) rfl (RenR.blk _ _ _) .nil) rfl rfl rfl ?_
    intro τ ι hs'
    refine ⟨?_, ?_⟩
    · exact mv_ren (hs' 0 _ rfl).1 (hs' 0 _ rfl).2
    · exact (.moved rfl (fun b o h => h) .nil)
  · (try simp only [Bool.and_eq_true, Bool.or_eq_true, Bool.and_eq_false_iff, Bool.or_eq_false_iff, decide_eq_true_eq, decide_eq_false_iff_not, Bool.not_eq_true', Bool.not_eq_false', List.length_map, ne_eq, Decidable.not_not, Int.not_lt, Int.not_le] at h4)
    refine tr_skip ?_
    refine pe_then_normal ?_
    refine tr_sub hC (.cons (t := 0) rfl .nil) .nil rfl ?_
    refine tr_seq ?_
    refine tr_region (fun N3 hN => ?_)
    refine lxn (op_buildEmptyM (m' := 5) (kk := 5) el68 sz92 (by first | exact hC.low _ (by decide) | rfl)) rfl ?_
    refine lx (op_move rfl) rfl ?_
    refine lxr (op_append_t (m := 5) (m' := 5) (kk := 7) (f := Fm.ps) (xs := []) rfl rfl rfl (.inl rfl) el68 ze92 sz92 by92 rfl (by decide) Fm.len (by simp; omega) (by simp; omega)) rfl ?_
    refine lx (op_assign rfl) rfl ?_
    refine lx_end ⟨by kernel_rfl, ?_⟩
    refine pe_then_normal ?_
    refine tr_sub hC (.cons (t := 2) rfl .nil) (.cons (t := 5) rfl .nil) rfl ?_
    refine tr_ret ?_
    refine pe_ownS' [5] rfl hO rfl (.tmp rfl .nil) (.cons (m := 5) rfl (RenR.blk _ _ _) .nil) rfl rfl rfl ?_
    intro τ ι hs'
    refine ⟨?_, ?_⟩
    · exact mv_ren (hs' 0 _ rfl).1 (hs' 0 _ rfl).2
    · exact (.moved rfl (fun b o h => h) .nil)
theorem dcl (xs : List Df) (hx : xs.length ≤ 4000000) : FnOK Try.prog 54 [slP Df.ps 2 xs] [] 1 (fun ι => mvP (ι 0) 2 0 xs.length xs.length) (fun ι => [(ι 0, blkX 2 94 (xs.flatMap Df.ps))]) := by
  refine fn_ownN Try.func54 rfl Try.ntmps54 rfl ?_
  intro σ0 M Rf R hC hO
  simp only [frameOf, tokOf]
  refine tr_seq ?_
  refine tr_region (fun N0 hN => ?_)
  refine lx (op_assign rfl) rfl ?_
  refine lx_end ⟨by kernel_rfl, ?_⟩
  refine pe_then_normal ?_
  refine tr_sub hC (.cons (t := 0) rfl .nil) .nil rfl ?_
  refine tr_seq ?_
  refine tr_seq ?_
  refine tr_region (fun N1 hN => ?_)
  refine lx (op_move rfl) rfl ?_
  refine lx (op_eqnil rfl el90) rfl ?_
  refine lx_end ⟨by kernel_rfl, ?_⟩
  refine pe_then_normal ?_
  refine tr_sub hC (.cons (t := 0) rfl (.cons (t := 4) rfl .nil)) .nil rfl ?_
  refine tr_cond_b rfl (fun h4 => ?_) (fun h4 => ?_)
  · (try simp only [Bool.and_eq_true, Bool.or_eq_true, Bool.and_eq_false_iff, Bool.or_eq_false_iff, decide_eq_true_eq, decide_eq_false_iff_not, Bool.not_eq_true', Bool.not_eq_false', List.length_map, ne_eq, Decidable.not_not, Int.not_lt, Int.not_le] at h4)
    have hxs : xs = [] := by first | exact h4 rfl | exact h4 trivial
    subst hxs
    refine tr_seq ?_
    refine tr_region (fun N2 hN => ?_)
    refine lx (op_assign rfl) rfl ?_
    refine lx_end ⟨by kernel_rfl, ?_⟩
    refine pe_then_normal ?_
    refine tr_sub hC (.cons (t := 2) rfl .nil) .nil rfl ?_
    refine tr_nilmv 2 94 2 600 rfl (by first | exact hC.low _ (by decide) | rfl) (fun idN => ?_)
    refine tr_ret ?_
    refine pe_then_ret ?_
    refine pe_ownS' [600] rfl hO rfl (.tmp rfl .nil) (.cons (m := 600) rfl (RenR.blk _ _ _) .nil) rfl rfl rfl ?_
    intro τ ι hs'
    refine ⟨?_, ?_⟩
    · exact mv_ren (hs' 0 _ rfl).1 (hs' 0 _ rfl).2
    · exact (.moved rfl (fun b o h => h) .nil)
  · (try simp only [Bool.and_eq_true, Bool.or_eq_true, Bool.and_eq_false_iff, Bool.or_eq_false_iff, decide_eq_true_eq, decide_eq_false_iff_not, Bool.not_eq_true', Bool.not_eq_false', List.length_map, ne_eq, Decidable.not_not, Int.not_lt, Int.not_le] at h4)
    refine tr_skip ?_
    refine pe_then_normal ?_
    refine tr_sub hC (.cons (t := 0) rfl .nil) .nil rfl ?_
    refine tr_seq ?_
    refine tr_region (fun N3 hN => ?_)
    refine lxn (op_buildEmptyM (m' := 5) (kk := 5) el90 sz94 (by first | exact hC.low _ (by decide) | rfl)) rfl ?_
    refine lx (op_move rfl) rfl ?_
    refine lxr (op_append_t (m := 5) (m' := 5) (kk := 7) (f := Df.ps) (xs := []) rfl rfl rfl (.inl rfl) el90 ze94 sz94 by94 rfl (by decide) Df.len (by simp; omega) (by simp; omega)) rfl ?_
    refine lx (op_assign rfl) rfl ?_
    refine lx_end ⟨by kernel_rfl, ?_⟩
    refine pe_then_normal ?_
    refine tr_sub hC (.cons (t := 2) rfl .nil) (.cons (t := 5) rfl .nil) rfl ?_
    refine tr_ret ?_
    refine pe_ownS' [5] rfl hO rfl (.tmp rfl .nil) (.cons (m := 5) rfl (RenR.blk _ _ _) .nil) rfl rfl rfl ?_
    intro τ ι hs'
    refine ⟨?_, ?_⟩
    · exact mv_ren (hs' 0 _ rfl).1 (hs' 0 _ rfl).2
    · exact (.moved rfl (fun b o h => h) .nil)
theorem vcl_own (xs : List V) (hx : xs.length ≤ 4000000) : FnOK Try.prog 53 [slP vp 3 xs] [] 1 (fun ι => mvP (ι 0) 3 0 xs.length xs.length) (fun ι => [(ι 0, blkX 3 41 (xs.flatMap vp))]) := by
  refine fn_ownN Try.func53 rfl Try.ntmps53 rfl ?_
  intro σ0 M Rf R hC hO
  simp only [frameOf, tokOf]
  refine tr_seq ?_
  refine tr_region (fun N0 hN => ?_)
  refine lx (op_assign rfl) rfl ?_
  refine lx_end ⟨by kernel_rfl, ?_⟩
  refine pe_then_normal ?_
  refine tr_sub hC (.cons (t := 0) rfl .nil) .nil rfl ?_
  refine tr_seq ?_
  refine tr_seq ?_
  refine tr_region (fun N1 hN => ?_)
  refine lx (op_move rfl) rfl ?_
  refine lx (op_eqnil rfl el30) rfl ?_
  refine lx_end ⟨by kernel_rfl, ?_⟩
  refine pe_then_normal ?_
  refine tr_sub hC (.cons (t := 0) rfl (.cons (t := 4) rfl .nil)) .nil rfl ?_
  refine tr_cond_b rfl (fun h4 => ?_) (fun h4 => ?_)
  · (try simp only [Bool.and_eq_true, Bool.or_eq_true, Bool.and_eq_false_iff, Bool.or_eq_false_iff, decide_eq_true_eq, decide_eq_false_iff_not, Bool.not_eq_true', Bool.not_eq_false', List.length_map, ne_eq, Decidable.not_not, Int.not_lt, Int.not_le] at h4)
    have hxs : xs = [] := by first | exact h4 rfl | exact h4 trivial
    subst hxs
    refine tr_seq ?_
    refine tr_region (fun N2 hN => ?_)
    refine lx (op_assign rfl) rfl ?_
    refine lx_end ⟨by kernel_rfl, ?_⟩
    refine pe_then_normal ?_
    refine tr_sub hC (.cons (t := 2) rfl .nil) .nil rfl ?_
    refine tr_nilmv 3 41 2 600 rfl (by first | exact hC.low _ (by decide) | rfl) (fun idN => ?_)
    refine tr_ret ?_
    refine pe_then_ret ?_
    refine pe_ownS' [600] rfl hO rfl (.tmp rfl .nil) (.cons (m := 600) rfl (RenR.blk _ _ _) .nil) rfl rfl rfl ?_
    intro τ ι hs'
    refine ⟨?_, ?_⟩
    · exact mv_ren (hs' 0 _ rfl).1 (hs' 0 _ rfl).2
    · exact (.moved rfl (fun b o h => h) .nil)
  · (try simp only [Bool.and_eq_true, Bool.or_eq_true, Bool.and_eq_false_iff, Bool.or_eq_false_iff, decide_eq_true_eq, decide_eq_false_iff_not, Bool.not_eq_true', Bool.not_eq_false', List.length_map, ne_eq, Decidable.not_not, Int.not_lt, Int.not_le] at h4)
    refine tr_skip ?_
    refine pe_then_normal ?_
    refine tr_sub hC (.cons (t := 0) rfl .nil) .nil rfl ?_
    refine tr_seq ?_
    refine tr_region (fun N3 hN => ?_)
    refine lxn (op_buildEmptyM (m' := 5) (kk := 5) el30 sz41 (by first | exact hC.low _ (by decide) | rfl)) rfl ?_
    refine lx (op_move rfl) rfl ?_
    refine lxr (op_append_t (m := 5) (m' := 5) (kk := 7) (f := vp) (xs := []) rfl rfl rfl (.inl rfl) el30 ze41 sz41 by41 rfl (by decide) vp_len (by simp; omega) (by simp; omega)) rfl ?_
    refine lx (op_assign rfl) rfl ?_
    refine lx_end ⟨by kernel_rfl, ?_⟩
    refine pe_then_normal ?_
    refine tr_sub hC (.cons (t := 2) rfl .nil) (.cons (t := 5) rfl .nil) rfl ?_
    refine tr_ret ?_
    refine pe_ownS' [5] rfl hO rfl (.tmp rfl .nil) (.cons (m := 5) rfl (RenR.blk _ _ _) .nil) rfl rfl rfl ?_
    intro τ ι hs'
    refine ⟨?_, ?_⟩
    · exact mv_ren (hs' 0 _ rfl).1 (hs' 0 _ rfl).2
    · exact (.moved rfl (fun b o h => h) .nil)
theorem own_own (o : Ob) (hs : BdO 4000000 o) : FnOK Try.prog 42 [aggP o.ps] [] 1 (fun ι => aggP (obCs o (ι 0))) (fun ι => [(ι 0, blkX 3 41 (o.cells.flatMap vp))]) := by
  refine fn_ownN Try.func42 rfl Try.ntmps42 rfl ?_
  intro σ0 M Rf R hC hO
  simp only [frameOf, tokOf]
  refine tr_seq ?_
  refine tr_region (fun N0 hN => ?_)
  refine lxn (op_box (m := 1) (k := 1) rfl (.agg rfl) (by first | exact hC.low _ (by decide) | rfl)) rfl ?_
  refine lxn (op_alloc (m := 2) (k := 2) (ps := [eqP (.int .i64 0), eqP (.slice none 0 0), eqP (.bool false), eqP (.int .i64 0), eqP (.slice none 0 0), eqP (.bool false), eqP (.int .i64 0), eqP (.int .i64 0), eqP (.slice none 0 0), eqP (.slice none 0 0)]) ze33 rfl rfl (by first | exact hC.low _ (by decide) | rfl)) rfl ?_
  refine lx_end ⟨by kernel_rfl, ?_⟩
  refine pe_then_normal ?_
  refine tr_sub hC (.cons (t := 1) rfl (.cons (t := 2) rfl .nil)) (.cons (t := 1) rfl (.cons (t := 2) rfl .nil)) rfl ?_
  refine tr_seq ?_
  refine tr_region (fun N1 hN => ?_)
  refine lx (op_fieldAddr rfl fl33_1 sz30) rfl ?_
  refine lx (op_bload_one (m := 1) rfl rfl ag30 rfl) rfl ?_
  first | refine lx_any rfl (op_callG2 (l := [(Go.Operand.tmp 4)]) (add := [(601, ((N1, 100050), blkX 3 41 (o.cells.flatMap vp)))]) (ks := [100050]) (φ := mvP (N1, 100050) 3 0 o.cells.length o.cells.length) .nil (vcl_own o.cells hs.cells) (.cons rfl .nil) fn53 rfl rfl rfl (.new (by first | exact hC.low _ (by decide) | rfl) .nil) rfl) (dOK_spec rfl) ?_ | refine lx_any rfl (op_callG2 (l := [(Go.Operand.tmp 4)]) (add := [(601, ((N1, 100050), blkX 3 41 (o.cells.flatMap vp)))]) (ks := [100050]) (φ := mvP (N1, 100050) 3 0 o.cells.length o.cells.length) .nil (vcl_own o.cells hs.cells) (.ent rfl (by repeat (first | exact Ents.nil | refine Ents.cons ?_ ?_ | refine Ent.tup ?_ | refine Ent.agg ?_ | exact Ent.row _ _ _ _ | exact Ent.nil _ _ | exact Ent.func _ | exact Ent.refl _ | exact Ent.of_eq rfl | refine Ent.cells ?_)) .nil) fn53 rfl rfl rfl (.new (by first | exact hC.low _ (by decide) | rfl) .nil) rfl) (dOK_spec rfl) ?_
  refine lx (op_fieldAddr rfl fl33_1 sz30) rfl ?_
  refine lxr (op_store (m := 1) (rs := [_, _, _, _, _, _, _, _, _, _]) rfl rfl rfl (.one (by (first | exact One.eq rfl | exact One.mv _ _ _ _ _ | exact One.cl _ _ _ | exact One.map _ | exact One.sl _ _ _ | exact One.row _ _ _ _ | exact One.msl _ _ _ _ | exact One.ptr _ _ | exact One.b _ | exact One.cells _))) sz30 rfl rfl rfl) rfl ?_
  refine lx_end ⟨by kernel_rfl, ?_⟩
  refine pe_then_normal ?_
  refine tr_sub hC (.cons (t := 1) rfl (.cons (t := 2) rfl .nil)) (.cons (t := 1) rfl (.cons (t := 2) rfl (.cons (t := 601) rfl .nil))) rfl ?_
  refine tr_seq ?_
  refine tr_region (fun N2 hN => ?_)
  refine lx (op_fieldAddr rfl fl33_4 sz30) rfl ?_
  refine lx (op_bload_one (m := 1) rfl rfl ag30 rfl) rfl ?_
  first | refine lx (op_call (l := [(Go.Operand.tmp 8)]) (vcl o.queue hs.queue) (.cons rfl .nil) fn53) rfl ?_ | refine lx (op_call (l := [(Go.Operand.tmp 8)]) (vcl o.queue hs.queue) (.ent rfl (by repeat (first | exact Ents.nil | refine Ents.cons ?_ ?_ | refine Ent.tup ?_ | refine Ent.agg ?_ | exact Ent.row _ _ _ _ | exact Ent.nil _ _ | exact Ent.func _ | exact Ent.refl _ | exact Ent.of_eq rfl | refine Ent.cells ?_)) .nil) fn53) rfl ?_
  refine lx (op_fieldAddr rfl fl33_4 sz30) rfl ?_
  refine lxr (op_store (m := 1) (rs := [_, _, _, _, _, _, _, _, _, _]) rfl rfl rfl (.one (by (first | exact One.eq rfl | exact One.mv _ _ _ _ _ | exact One.cl _ _ _ | exact One.map _ | exact One.sl _ _ _ | exact One.row _ _ _ _ | exact One.msl _ _ _ _ | exact One.ptr _ _ | exact One.b _ | exact One.cells _))) sz30 rfl rfl rfl) rfl ?_
  refine lx_end ⟨by kernel_rfl, ?_⟩
  refine pe_then_normal ?_
  refine tr_sub hC (.cons (t := 1) rfl (.cons (t := 2) rfl .nil)) (.cons (t := 1) rfl (.cons (t := 2) rfl (.cons (t := 601) rfl .nil))) rfl ?_
  refine tr_seq ?_
  refine tr_region (fun N3 hN => ?_)
  refine lx (op_fieldAddr rfl fl33_8 sz31) rfl ?_
  refine lx (op_bload_one (m := 1) rfl rfl ag31 rfl) rfl ?_
  first | refine lx (op_call (l := [(Go.Operand.tmp 12)]) (wcl o.senders hs.senders) (.cons rfl .nil) fn58) rfl ?_ | refine lx (op_call (l := [(Go.Operand.tmp 12)]) (wcl o.senders hs.senders) (.ent rfl (by repeat (first | exact Ents.nil | refine Ents.cons ?_ ?_ | refine Ent.tup ?_ | refine Ent.agg ?_ | exact Ent.row _ _ _ _ | exact Ent.nil _ _ | exact Ent.func _ | exact Ent.refl _ | exact Ent.of_eq rfl | refine Ent.cells ?_)) .nil) fn58) rfl ?_
  refine lx (op_fieldAddr rfl fl33_8 sz31) rfl ?_
  refine lxr (op_store (m := 1) (rs := [_, _, _, _, _, _, _, _, _, _]) rfl rfl rfl (.one (by (first | exact One.eq rfl | exact One.mv _ _ _ _ _ | exact One.cl _ _ _ | exact One.map _ | exact One.sl _ _ _ | exact One.row _ _ _ _ | exact One.msl _ _ _ _ | exact One.ptr _ _ | exact One.b _ | exact One.cells _))) sz31 rfl rfl rfl) rfl ?_
  refine lx_end ⟨by kernel_rfl, ?_⟩
  refine pe_then_normal ?_
  refine tr_sub hC (.cons (t := 1) rfl (.cons (t := 2) rfl .nil)) (.cons (t := 1) rfl (.cons (t := 2) rfl (.cons (t := 601) rfl .nil))) rfl ?_
  refine tr_seq ?_
  refine tr_region (fun N4 hN => ?_)
  refine lx (op_fieldAddr rfl fl33_9 sz31) rfl ?_
  refine lx (op_bload_one (m := 1) rfl rfl ag31 rfl) rfl ?_
  first | refine lx (op_call (l := [(Go.Operand.tmp 16)]) (wcl o.receivers hs.receivers) (.cons rfl .nil) fn58) rfl ?_ | refine lx (op_call (l := [(Go.Operand.tmp 16)]) (wcl o.receivers hs.receivers) (.ent rfl (by repeat (first | exact Ents.nil | refine Ents.cons ?_ ?_ | refine Ent.tup ?_ | refine Ent.agg ?_ | exact Ent.row _ _ _ _ | exact Ent.nil _ _ | exact Ent.func _ | exact Ent.refl _ | exact Ent.of_eq rfl | refine Ent.cells ?_)) .nil) fn58) rfl ?_
  refine lx (op_fieldAddr rfl fl33_9 sz31) rfl ?_
  refine lxr (op_store (m := 1) (rs := [_, _, _, _, _, _, _, _, _, _]) rfl rfl rfl (.one (by (first | exact One.eq rfl | exact One.mv _ _ _ _ _ | exact One.cl _ _ _ | exact One.map _ | exact One.sl _ _ _ | exact One.row _ _ _ _ | exact One.msl _ _ _ _ | exact One.ptr _ _ | exact One.b _ | exact One.cells _))) sz31 rfl rfl rfl) rfl ?_
  refine lx_end ⟨by kernel_rfl, ?_⟩
  refine pe_then_normal ?_
  refine tr_sub hC (.cons (t := 1) rfl (.cons (t := 2) rfl .nil)) (.cons (t := 1) rfl (.cons (t := 2) rfl (.cons (t := 601) rfl .nil))) rfl ?_
  refine tr_seq ?_
  refine tr_region (fun N5 hN => ?_)
  refine lx (op_bload (m := 1) rfl rfl ag33 sz33) rfl ?_
  refine lxr (op_store_all (m := 2) rfl rfl rfl (.agg rfl) sz33 rfl) rfl ?_
  refine lx_end ⟨by kernel_rfl, ?_⟩
  refine pe_then_normal ?_
  refine tr_sub hC (.cons (t := 2) rfl .nil) (.cons (t := 2) rfl (.cons (t := 601) rfl .nil)) rfl ?_
  refine tr_ret ?_
  refine pe_ownS' [601] rfl hO rfl (.cell (m := 2) rfl rfl ag33 sz33 .nil) (.cons (m := 601) rfl (RenR.blk _ _ _) .nil) rfl rfl rfl ?_
  intro τ ι hs'
  refine ⟨?_, ?_⟩
  · exact aggP_at (.cons (ent_at (Ent.refl _)) (.cons (mv_ren (hs' 0 _ rfl).1 (hs' 0 _ rfl).2) (.cons (ent_at (Ent.refl _)) (.cons (ent_at (Ent.refl _)) (.cons (ent_at (Ent.refl _)) (.cons (ent_at (Ent.refl _)) (.cons (ent_at (Ent.refl _)) (.cons (ent_at (Ent.refl _)) (.cons (ent_at (Ent.refl _)) (.cons (ent_at (Ent.refl _)) .nil))))))))))
  · exact (.moved rfl (fun b o h => h) .nil)
end Go.Proofs.Ytibcbiamdjmckaa


set_option linter.unusedVariables false
set_option linter.unusedSimpArgs false
namespace Go.Proofs.Ytibcbiamdjmckaa
open Go.AL Go.Ch Go.Hp Go.RowKit
theorem fn51 : fnB Try.prog 51 = true := by kernel_rfl
theorem fn52 : fnB Try.prog 52 = true := by kernel_rfl
theorem fn54 : fnB Try.prog 54 = true := by kernel_rfl
theorem set_same {α : Type} {xs : List α} {j : Nat} {z : α} (h : xs[j]? = some z) : xs.set j z = xs := by
  obtain ⟨hj, rfl⟩ := List.getElem?_eq_some_iff.1 h
  exact List.set_getElem_self hj
section
variable {P : Program} {n N : Nat} {F : Fr} {R : Toks} {T Ty B : TypeId} {pos : String} {after : Array Edge} {m κ k : Nat} {id : AL.Id} {α : Type} {xs : List α} {f : α → List Pred}
/-- a store of what was there -/
theorem op_tstore_id {x y : Operand} {off j fo w : Nat} {z : α} {p : Pred} {qs : List Pred} (hx : opd F x = some (ptrP id off)) (hy : opd F y = some p) (hR : R m = some (id, blkX κ B (xs.flatMap f))) (hv : Val p qs) (hs : sizeB P Ty = some w) (hl : Nat.beq qs.length w = true)
    (hk : ∀ z, (f z).length = k) (hoff : off = j * k + fo) (hz : xs[j]? = some z) (hw : Nat.ble (fo + w) k = true) (hq : splice (f z) fo qs = f z) :
    OpJ P n N F R ⟨none, .store Ty x y, T, pos, after, none⟩ ⟨rdo x (ptrP id off) ++ rdo y p, [], [(m, id, blkX κ B (xs.flatMap f))], [(m, id, blkX κ B (xs.flatMap f))], [], eqP undef⟩ := by
  have h := op_tstore (P := P) (n := n) (N := N) (T := T) (pos := pos) (after := after) (z' := z) hx hy hR hv hs hl hk hoff hz hw hq
  rwa [set_same hz] at h
end
end Go.Proofs.Ytibcbiamdjmckaa


set_option linter.unusedVariables false
set_option linter.unusedSimpArgs false
namespace Go.Proofs.Ytibcbiamdjmckaa
open Go.AL Go.Ch Go.Hp Go.RowKit
set_option maxHeartbeats 4000000 in
theorem copied_own (m : Mc) (hb : Bd 4000000 m) : FnOK Try.prog 40 [aggP m.ps] [] 2 (fun ι => aggP ([mvP (ι 0) 10 0 m.objects.length m.objects.length, slP Sy.ps 6 m.syncs, mvP (ι 1) 4 0 m.gors.length m.gors.length, slP ip 1 m.output])) (fun ι => [(ι 0, blkX 10 33 (m.objects.flatMap Ob.ps)), (ι 1, blkX 4 70 (m.gors.flatMap Gr.ps))]) := by
  have hbo := hb.objects
  have hbs := hb.syncs
  have hbg := hb.gors
  have hbt := hb.output
  refine fn_ownN Try.func40 rfl Try.ntmps40 rfl ?_
  intro σ0 M Rf R hC hO
  simp only [frameOf, tokOf]
  refine tr_seq ?_
  refine tr_region (fun N0 hN => ?_)
  refine lxn (op_box (m := 1) (k := 1) rfl (.agg rfl) (by first | exact hC.low _ (by decide) | rfl)) rfl ?_
  refine lxn (op_alloc (m := 2) (k := 2) (ps := [eqP (.slice none 0 0), eqP (.slice none 0 0), eqP (.slice none 0 0), eqP (.slice none 0 0)]) ze29 rfl rfl (by first | exact hC.low _ (by decide) | rfl)) rfl ?_
  refine lx_end ⟨by kernel_rfl, ?_⟩
  refine pe_then_normal ?_
  refine tr_sub hC (.cons (t := 1) rfl (.cons (t := 2) rfl .nil)) (.cons (t := 1) rfl (.cons (t := 2) rfl .nil)) rfl ?_
  refine tr_seq ?_
  refine tr_region (fun N1 hN => ?_)
  refine lx (op_fieldAddr rfl fl29_3 sz27) rfl ?_
  refine lx (op_bload_one (m := 1) rfl rfl ag27 rfl) rfl ?_
  first | refine lx (op_call (l := [(Go.Operand.tmp 15)]) (icl m.output hbt) (.cons rfl .nil) fn51) rfl ?_ | refine lx (op_call (l := [(Go.Operand.tmp 15)]) (icl m.output hbt) (.ent rfl (by repeat (first | exact Ents.nil | refine Ents.cons ?_ ?_ | refine Ent.tup ?_ | refine Ent.agg ?_ | exact Ent.row _ _ _ _ | exact Ent.nil _ _ | exact Ent.func _ | exact Ent.refl _ | exact Ent.of_eq rfl | refine Ent.cells ?_)) .nil) fn51) rfl ?_
  refine lx (op_build (qs := [_, _, _, _]) (parts := [(3, (Go.Operand.tmp 16))]) ze29 rfl rfl fs29 (.cons rfl (.one (by (first | exact One.eq rfl | exact One.mv _ _ _ _ _ | exact One.cl _ _ _ | exact One.map _ | exact One.sl _ _ _ | exact One.row _ _ _ _ | exact One.msl _ _ _ _ | exact One.ptr _ _ | exact One.b _ | exact One.cells _))) fl29_3 sz27 rfl .nil) rfl rfl) rfl ?_
  refine lxn (op_alloc (m := 3) (k := 3) (ps := [eqP (.slice none 0 0), eqP (.slice none 0 0), eqP (.slice none 0 0), eqP (.slice none 0 0)]) ze29 rfl rfl (by first | exact hC.low _ (by decide) | rfl)) rfl ?_
  refine lxr (op_store_all (m := 3) rfl rfl rfl (.agg rfl) sz29 rfl) rfl ?_
  refine lx_end ⟨by kernel_rfl, ?_⟩
  refine pe_then_normal ?_
  refine tr_sub hC (.cons (t := 1) rfl (.cons (t := 2) rfl (.cons (t := 3) rfl .nil))) (.cons (t := 1) rfl (.cons (t := 2) rfl (.cons (t := 3) rfl .nil))) rfl ?_
  refine tr_seq ?_
  refine tr_seq ?_
  refine tr_region (fun N2 hN => ?_)
  refine lx (op_fieldAddr rfl fl29_0 sz22) rfl ?_
  refine lx (op_bload_one (m := 1) rfl rfl ag22 rfl) rfl ?_
  first | refine lx (op_len rfl el22) rfl ?_ | refine lx (op_len_row rfl el22) rfl ?_ | refine lx (op_len_mv rfl el22) rfl ?_ | refine lx (op_len_nil rfl el22) rfl ?_
  refine lx (op_move rfl) rfl ?_
  refine lx_end ⟨by kernel_rfl, ?_⟩
  refine pe_then_normal ?_
  refine tr_sub hC (.cons (t := 1) rfl (.cons (t := 2) rfl (.cons (t := 3) rfl (.cons (t := 19) rfl (.cons (t := 20) rfl (.cons (t := 21) rfl .nil)))))) (.cons (t := 1) rfl (.cons (t := 2) rfl (.cons (t := 3) rfl .nil))) rfl ?_
  refine tr_block ?_
  refine tr_nilboxM 10 33 3 0 600 rfl rfl (by first | exact hC.low _ (by decide) | rfl) (fun idN => ?_)
  try dsimp only [List.set]
  refine tr_loopK (α := {zz : Nat × (List Ob) × AL.Id // zz.1 ≤ m.objects.length ∧ zz.2.1 = m.objects.take zz.1}) (⟨(0, [], idN), Nat.zero_le _, rfl⟩) (fun zz => [(21, eqP (.int .i64 (zz.1.1 : Int)))]) (fun zz => [(3, some ((N1, 3), blk 29 [mvP zz.1.2.2 10 0 zz.1.2.1.length zz.1.2.1.length, eqP (.slice none 0 0), eqP (.slice none 0 0), slP ip 1 m.output])), (600, some (zz.1.2.2, blkX 10 33 (zz.1.2.1.flatMap Ob.ps)))]) (fun zz => m.objects.length - zz.1.1) hC (.cons (t := 1) rfl (.cons (t := 2) rfl (.cons (t := 3) rfl (.cons (t := 19) rfl (.cons (t := 20) rfl .nil))))) (.cons (t := 1) rfl (.cons (t := 2) rfl .nil)) rfl ?_ ?_ (fun zz => ?_)
  · try dsimp only [List.cons_append, List.nil_append]
    first | refine SubF.cons rfl ?_ | (refine SubF.ent rfl ?_ ?_; · repeat (first | exact Ents.nil | refine Ents.cons ?_ ?_ | refine Ent.tup ?_ | refine Ent.agg ?_ | exact Ent.row _ _ _ _ | exact Ent.nil _ _ | exact Ent.func _ | exact Ent.refl _ | exact Ent.of_eq rfl | refine Ent.cells ?_))
    exact SubF.nil
  · try dsimp only [List.cons_append, List.nil_append]
    repeat (first | exact SubL.nil | refine SubL.cons rfl ?_)
  · obtain ⟨⟨k, xs, io⟩, hk1, hxs⟩ := zz
    try dsimp only at hk1
    try dsimp only at hxs
    dsimp only [List.cons_append, List.nil_append]
    refine tr_seq ?_
    refine tr_region (fun N3 hN => ?_)
    refine lx (op_lss rfl rfl) rfl ?_
    refine lx_end ⟨by kernel_rfl, ?_⟩
    refine pe_then_normal ?_
    refine tr_sub hC (.cons (t := 1) rfl (.cons (t := 2) rfl (.cons (t := 3) rfl (.cons (t := 19) rfl (.cons (t := 20) rfl (.cons (t := 21) rfl (.cons (t := 22) rfl .nil))))))) (.cons (t := 3) rfl (.cons (t := 600) rfl (.cons (t := 1) rfl (.cons (t := 2) rfl .nil)))) rfl ?_
    refine tr_seq ?_
    refine tr_cond rfl (fun h22 => ?_) (fun h22 => ?_)
    · (try simp only [Bool.and_eq_true, Bool.or_eq_true, Bool.and_eq_false_iff, Bool.or_eq_false_iff, decide_eq_true_eq, decide_eq_false_iff_not, Bool.not_eq_true', Bool.not_eq_false', List.length_map, ne_eq, Decidable.not_not, Int.not_lt, Int.not_le] at h22)
      have hbk := hb.object _ (List.getElem_mem (by omega : k < m.objects.length))
      have hxl : xs.length ≤ k := by rw [hxs, List.length_take]; omega
      refine tr_skip ?_
      refine pe_then_normal ?_
      refine tr_sub hC (.cons (t := 1) rfl (.cons (t := 2) rfl (.cons (t := 3) rfl (.cons (t := 19) rfl (.cons (t := 20) rfl (.cons (t := 21) rfl .nil)))))) (.cons (t := 3) rfl (.cons (t := 600) rfl (.cons (t := 1) rfl (.cons (t := 2) rfl .nil)))) rfl ?_
      refine tr_seq ?_
      refine tr_block ?_
      refine tr_seq ?_
      refine tr_region (fun N4 hN => ?_)
      refine lx (op_index rfl rfl el22 sz33 rfl (List.getElem?_eq_getElem (by omega : k < m.objects.length))) rfl ?_
      first | refine lx (op_load_all rfl ag33 sz33) rfl ?_ | refine lx (op_load_agg rfl ag33 sz33 rfl) rfl ?_ | refine lx (op_bload (m := 3) rfl rfl ag33 sz33) rfl ?_ | refine lx (op_bload (m := 600) rfl rfl ag33 sz33) rfl ?_ | refine lx (op_bload (m := 1) rfl rfl ag33 sz33) rfl ?_ | refine lx (op_bload (m := 2) rfl rfl ag33 sz33) rfl ?_ | refine lx (op_bload_part (m := 3) (qs := [_, _, _, _, _, _, _, _, _, _]) rfl rfl ag33 sz33 rfl rfl) rfl ?_ | refine lx (op_bload_part (m := 600) (qs := [_, _, _, _, _, _, _, _, _, _]) rfl rfl ag33 sz33 rfl rfl) rfl ?_ | refine lx (op_bload_part (m := 1) (qs := [_, _, _, _, _, _, _, _, _, _]) rfl rfl ag33 sz33 rfl rfl) rfl ?_ | refine lx (op_bload_part (m := 2) (qs := [_, _, _, _, _, _, _, _, _, _]) rfl rfl ag33 sz33 rfl rfl) rfl ?_
      refine lxn (op_alloc (m := 5) (k := 5) (ps := [eqP (.int .i64 0), eqP (.slice none 0 0), eqP (.bool false), eqP (.int .i64 0), eqP (.slice none 0 0), eqP (.bool false), eqP (.int .i64 0), eqP (.int .i64 0), eqP (.slice none 0 0), eqP (.slice none 0 0)]) ze33 rfl rfl (by first | exact hC.low _ (by decide) | rfl)) rfl ?_
      refine lxr (op_store_all (m := 5) rfl rfl rfl (.agg rfl) sz33 rfl) rfl ?_
      refine lx_end ⟨by kernel_rfl, ?_⟩
      refine pe_then_normal ?_
      refine tr_sub hC (.cons (t := 1) rfl (.cons (t := 2) rfl (.cons (t := 3) rfl (.cons (t := 5) rfl (.cons (t := 19) rfl (.cons (t := 20) rfl (.cons (t := 21) rfl .nil))))))) (.cons (t := 3) rfl (.cons (t := 600) rfl (.cons (t := 1) rfl (.cons (t := 2) rfl (.cons (t := 5) rfl .nil))))) rfl ?_
      refine tr_drawn mixed (fun N5 hN => ?_)
      refine lx (op_fieldAddr rfl fl29_0 sz22) rfl ?_
      refine lx (op_bload_one (m := 3) rfl rfl ag22 rfl) rfl ?_
      refine lx (op_bload (m := 5) rfl rfl ag33 sz33) rfl ?_
      first | refine lx (op_call (l := [(Go.Operand.tmp 27)]) (own_ok m.objects[k] hbk) (.cons rfl .nil) fn42) rfl ?_ | refine lx (op_call (l := [(Go.Operand.tmp 27)]) (own_ok m.objects[k] hbk) (.ent rfl (by repeat (first | exact Ents.nil | refine Ents.cons ?_ ?_ | refine Ent.tup ?_ | refine Ent.agg ?_ | exact Ent.row _ _ _ _ | exact Ent.nil _ _ | exact Ent.func _ | exact Ent.refl _ | exact Ent.of_eq rfl | refine Ent.cells ?_)) .nil) fn42) rfl ?_
      refine lx (op_buildSlice (f := Ob.ps) (xs := [m.objects[k]]) (l := [(0, (Go.Operand.tmp 28))]) ze33 rfl rfl (by decide) el22 sz33 Ob.len (.cons rfl (.agg rfl) .nil) rfl (by decide)) rfl ?_
      refine lxr (op_append_t (m := 600) (m' := 600) (kk := 30) (f := Ob.ps) rfl rfl rfl (.inl rfl) el22 ze33 sz33 by33 rfl (by decide) Ob.len (by rw [List.length_singleton]; omega) (by rw [List.length_singleton]; omega)) rfl ?_
      refine lx (op_fieldAddr rfl fl29_0 sz22) rfl ?_
      refine lxr (op_store (m := 3) (rs := [_, _, _, _]) rfl rfl rfl (.one (by (first | exact One.eq rfl | exact One.mv _ _ _ _ _ | exact One.cl _ _ _ | exact One.map _ | exact One.sl _ _ _ | exact One.row _ _ _ _ | exact One.msl _ _ _ _ | exact One.ptr _ _ | exact One.b _ | exact One.cells _))) sz22 rfl rfl rfl) rfl ?_
      refine lx_end ⟨by kernel_rfl, ?_⟩
      refine pe_block_normal ?_
      refine pe_then_normal ?_
      refine tr_sub hC (.cons (t := 1) rfl (.cons (t := 2) rfl (.cons (t := 3) rfl (.cons (t := 19) rfl (.cons (t := 20) rfl (.cons (t := 21) rfl .nil)))))) (.cons (t := 3) rfl (.cons (t := 1) rfl (.cons (t := 2) rfl (.cons (t := 600) rfl .nil)))) rfl ?_
      refine tr_region (fun N6 hN => ?_)
      refine lx (op_add rfl rfl (by omega)) rfl ?_
      refine lx (op_move rfl) rfl ?_
      refine lx_end ⟨by kernel_rfl, ?_⟩
      refine pe_round (⟨(k + 1, xs ++ [m.objects[k]], (N5, 30)), by dsimp only; omega, by dsimp only; rw [hxs, take_at (by omega : k < m.objects.length)]⟩) (by dsimp only; omega) (pe_st hC ?_ ?_ rfl)
      · try dsimp only [List.cons_append, List.nil_append]
        first | refine SubF.cons rfl ?_ | (refine SubF.ent rfl ?_ ?_; · repeat (first | exact Ents.nil | refine Ents.cons ?_ ?_ | refine Ent.tup ?_ | refine Ent.agg ?_ | exact Ent.row _ _ _ _ | exact Ent.nil _ _ | exact Ent.func _ | exact Ent.refl _ | exact Ent.of_eq rfl | refine Ent.cells ?_))
        first | refine SubF.cons rfl ?_ | (refine SubF.ent rfl ?_ ?_; · repeat (first | exact Ents.nil | refine Ents.cons ?_ ?_ | refine Ent.tup ?_ | refine Ent.agg ?_ | exact Ent.row _ _ _ _ | exact Ent.nil _ _ | exact Ent.func _ | exact Ent.refl _ | exact Ent.of_eq rfl | refine Ent.cells ?_))
        first | refine SubF.cons rfl ?_ | (refine SubF.ent rfl ?_ ?_; · repeat (first | exact Ents.nil | refine Ents.cons ?_ ?_ | refine Ent.tup ?_ | refine Ent.agg ?_ | exact Ent.row _ _ _ _ | exact Ent.nil _ _ | exact Ent.func _ | exact Ent.refl _ | exact Ent.of_eq rfl | refine Ent.cells ?_))
        first | refine SubF.cons rfl ?_ | (refine SubF.ent rfl ?_ ?_; · repeat (first | exact Ents.nil | refine Ents.cons ?_ ?_ | refine Ent.tup ?_ | refine Ent.agg ?_ | exact Ent.row _ _ _ _ | exact Ent.nil _ _ | exact Ent.func _ | exact Ent.refl _ | exact Ent.of_eq rfl | refine Ent.cells ?_))
        first | refine SubF.cons rfl ?_ | (refine SubF.ent rfl ?_ ?_; · repeat (first | exact Ents.nil | refine Ents.cons ?_ ?_ | refine Ent.tup ?_ | refine Ent.agg ?_ | exact Ent.row _ _ _ _ | exact Ent.nil _ _ | exact Ent.func _ | exact Ent.refl _ | exact Ent.of_eq rfl | refine Ent.cells ?_))
        first | refine SubF.cons rfl ?_ | (refine SubF.ent rfl ?_ ?_; · repeat (first | exact Ents.nil | refine Ents.cons ?_ ?_ | refine Ent.tup ?_ | refine Ent.agg ?_ | exact Ent.row _ _ _ _ | exact Ent.nil _ _ | exact Ent.func _ | exact Ent.refl _ | exact Ent.of_eq rfl | refine Ent.cells ?_))
        exact SubF.nil
      · try dsimp only [List.cons_append, List.nil_append]
        repeat (first | exact SubL.nil | refine SubL.cons rfl ?_)
    · (try simp only [Bool.and_eq_true, Bool.or_eq_true, Bool.and_eq_false_iff, Bool.or_eq_false_iff, decide_eq_true_eq, decide_eq_false_iff_not, Bool.not_eq_true', Bool.not_eq_false', List.length_map, ne_eq, Decidable.not_not, Int.not_lt, Int.not_le] at h22)
      have hfin : xs = m.objects := by rw [hxs, List.take_of_length_le (by omega)]
      subst hfin
      refine tr_exit ?_
      refine pe_then_exit ?_
      refine pe_then_exit ?_
      refine pe_block_eq ?_
      refine pe_then_normal ?_
      refine tr_sub hC (.cons (t := 1) rfl (.cons (t := 2) rfl (.cons (t := 3) rfl .nil))) (.cons (t := 3) rfl (.cons (t := 600) rfl (.cons (t := 1) rfl (.cons (t := 2) rfl .nil)))) rfl ?_
      refine tr_seq ?_
      refine tr_seq ?_
      refine tr_region (fun N7 hN => ?_)
      refine lx (op_fieldAddr rfl fl29_1 sz25) rfl ?_
      refine lx (op_bload_one (m := 1) rfl rfl ag25 rfl) rfl ?_
      first | refine lx (op_len rfl el25) rfl ?_ | refine lx (op_len_row rfl el25) rfl ?_ | refine lx (op_len_mv rfl el25) rfl ?_ | refine lx (op_len_nil rfl el25) rfl ?_
      refine lx (op_move rfl) rfl ?_
      refine lx_end ⟨by kernel_rfl, ?_⟩
      refine pe_then_normal ?_
      refine tr_sub hC (.cons (t := 1) rfl (.cons (t := 2) rfl (.cons (t := 3) rfl (.cons (t := 34) rfl (.cons (t := 35) rfl (.cons (t := 36) rfl .nil)))))) (.cons (t := 3) rfl (.cons (t := 600) rfl (.cons (t := 1) rfl (.cons (t := 2) rfl .nil)))) rfl ?_
      refine tr_block ?_
      refine tr_nilbox Sy.ps 6 67 3 1 601 rfl rfl (by first | exact hC.low _ (by decide) | rfl) (fun idN => ?_)
      try dsimp only [List.set]
      refine tr_loopK (α := {zz : Nat × (List Sy) × AL.Id // zz.1 ≤ m.syncs.length ∧ zz.2.1 = m.syncs.take zz.1}) (⟨(0, [], idN), Nat.zero_le _, rfl⟩) (fun zz => [(36, eqP (.int .i64 (zz.1.1 : Int)))]) (fun zz => [(3, some ((N1, 3), blk 29 [mvP io 10 0 m.objects.length m.objects.length, rowP zz.1.2.2 Sy.ps 6 zz.1.2.1, eqP (.slice none 0 0), slP ip 1 m.output])), (601, some (zz.1.2.2, tail 67 6 (zz.1.2.1.length * 6)))]) (fun zz => m.syncs.length - zz.1.1) hC (.cons (t := 1) rfl (.cons (t := 2) rfl (.cons (t := 3) rfl (.cons (t := 34) rfl (.cons (t := 35) rfl .nil))))) (.cons (t := 600) rfl (.cons (t := 1) rfl (.cons (t := 2) rfl .nil))) rfl ?_ ?_ (fun zz => ?_)
      · try dsimp only [List.cons_append, List.nil_append]
        first | refine SubF.cons rfl ?_ | (refine SubF.ent rfl ?_ ?_; · repeat (first | exact Ents.nil | refine Ents.cons ?_ ?_ | refine Ent.tup ?_ | refine Ent.agg ?_ | exact Ent.row _ _ _ _ | exact Ent.nil _ _ | exact Ent.func _ | exact Ent.refl _ | exact Ent.of_eq rfl | refine Ent.cells ?_))
        exact SubF.nil
      · try dsimp only [List.cons_append, List.nil_append]
        repeat (first | exact SubL.nil | refine SubL.cons rfl ?_)
      · obtain ⟨⟨k, xs, i⟩, hk1, hxs⟩ := zz
        try dsimp only at hk1
        try dsimp only at hxs
        dsimp only [List.cons_append, List.nil_append]
        refine tr_seq ?_
        refine tr_region (fun N8 hN => ?_)
        refine lx (op_lss rfl rfl) rfl ?_
        refine lx_end ⟨by kernel_rfl, ?_⟩
        refine pe_then_normal ?_
        refine tr_sub hC (.cons (t := 1) rfl (.cons (t := 2) rfl (.cons (t := 3) rfl (.cons (t := 34) rfl (.cons (t := 35) rfl (.cons (t := 36) rfl (.cons (t := 37) rfl .nil))))))) (.cons (t := 3) rfl (.cons (t := 601) rfl (.cons (t := 600) rfl (.cons (t := 1) rfl (.cons (t := 2) rfl .nil))))) rfl ?_
        refine tr_seq ?_
        refine tr_cond rfl (fun h37 => ?_) (fun h37 => ?_)
        · (try simp only [Bool.and_eq_true, Bool.or_eq_true, Bool.and_eq_false_iff, Bool.or_eq_false_iff, decide_eq_true_eq, decide_eq_false_iff_not, Bool.not_eq_true', Bool.not_eq_false', List.length_map, ne_eq, Decidable.not_not, Int.not_lt, Int.not_le] at h37)
          have hbk := hb.readers _ (List.getElem_mem (by omega : k < m.syncs.length))
          have hxl : xs.length ≤ k := by rw [hxs, List.length_take]; omega
          refine tr_skip ?_
          refine pe_then_normal ?_
          refine tr_sub hC (.cons (t := 1) rfl (.cons (t := 2) rfl (.cons (t := 3) rfl (.cons (t := 34) rfl (.cons (t := 35) rfl (.cons (t := 36) rfl .nil)))))) (.cons (t := 3) rfl (.cons (t := 601) rfl (.cons (t := 600) rfl (.cons (t := 1) rfl (.cons (t := 2) rfl .nil))))) rfl ?_
          refine tr_seq ?_
          refine tr_block ?_
          refine tr_seq ?_
          refine tr_region (fun N9 hN => ?_)
          refine lx (op_index rfl rfl el25 sz67 rfl (List.getElem?_eq_getElem (by omega : k < m.syncs.length))) rfl ?_
          first | refine lx (op_load_all rfl ag67 sz67) rfl ?_ | refine lx (op_load_agg rfl ag67 sz67 rfl) rfl ?_ | refine lx (op_bload (m := 3) rfl rfl ag67 sz67) rfl ?_ | refine lx (op_bload (m := 601) rfl rfl ag67 sz67) rfl ?_ | refine lx (op_bload (m := 600) rfl rfl ag67 sz67) rfl ?_ | refine lx (op_bload (m := 1) rfl rfl ag67 sz67) rfl ?_ | refine lx (op_bload (m := 2) rfl rfl ag67 sz67) rfl ?_ | refine lx (op_bload_part (m := 3) (qs := [_, _, _, _, _, _]) rfl rfl ag67 sz67 rfl rfl) rfl ?_ | refine lx (op_bload_part (m := 601) (qs := [_, _, _, _, _, _]) rfl rfl ag67 sz67 rfl rfl) rfl ?_ | refine lx (op_bload_part (m := 600) (qs := [_, _, _, _, _, _]) rfl rfl ag67 sz67 rfl rfl) rfl ?_ | refine lx (op_bload_part (m := 1) (qs := [_, _, _, _, _, _]) rfl rfl ag67 sz67 rfl rfl) rfl ?_ | refine lx (op_bload_part (m := 2) (qs := [_, _, _, _, _, _]) rfl rfl ag67 sz67 rfl rfl) rfl ?_
          refine lxn (op_alloc (m := 7) (k := 7) (ps := [eqP (.int .i64 0), eqP (.int .i64 0), eqP (.int .i64 0), eqP (.int .i64 0), eqP (.slice none 0 0), eqP (.int .i64 0)]) ze67 rfl rfl (by first | exact hC.low _ (by decide) | rfl)) rfl ?_
          refine lxr (op_store_all (m := 7) rfl rfl rfl (.agg rfl) sz67 rfl) rfl ?_
          refine lx_end ⟨by kernel_rfl, ?_⟩
          refine pe_then_normal ?_
          refine tr_sub hC (.cons (t := 1) rfl (.cons (t := 2) rfl (.cons (t := 3) rfl (.cons (t := 7) rfl (.cons (t := 34) rfl (.cons (t := 35) rfl (.cons (t := 36) rfl .nil))))))) (.cons (t := 3) rfl (.cons (t := 601) rfl (.cons (t := 600) rfl (.cons (t := 1) rfl (.cons (t := 2) rfl (.cons (t := 7) rfl .nil)))))) rfl ?_
          refine tr_seq ?_
          refine tr_region (fun N10 hN => ?_)
          refine lx (op_fieldAddr rfl fl67_4 sz27) rfl ?_
          refine lx (op_bload_one (m := 7) rfl rfl ag27 rfl) rfl ?_
          first | refine lx (op_call (l := [(Go.Operand.tmp 41)]) (icl m.syncs[k].readers hbk) (.cons rfl .nil) fn51) rfl ?_ | refine lx (op_call (l := [(Go.Operand.tmp 41)]) (icl m.syncs[k].readers hbk) (.ent rfl (by repeat (first | exact Ents.nil | refine Ents.cons ?_ ?_ | refine Ent.tup ?_ | refine Ent.agg ?_ | exact Ent.row _ _ _ _ | exact Ent.nil _ _ | exact Ent.func _ | exact Ent.refl _ | exact Ent.of_eq rfl | refine Ent.cells ?_)) .nil) fn51) rfl ?_
          refine lx (op_fieldAddr rfl fl67_4 sz27) rfl ?_
          refine lxr (op_store (m := 7) (rs := [_, _, _, _, _, _]) rfl rfl rfl (.one (by (first | exact One.eq rfl | exact One.mv _ _ _ _ _ | exact One.cl _ _ _ | exact One.map _ | exact One.sl _ _ _ | exact One.row _ _ _ _ | exact One.msl _ _ _ _ | exact One.ptr _ _ | exact One.b _ | exact One.cells _))) sz27 rfl rfl rfl) rfl ?_
          refine lx_end ⟨by kernel_rfl, ?_⟩
          refine pe_then_normal ?_
          refine tr_sub hC (.cons (t := 1) rfl (.cons (t := 2) rfl (.cons (t := 3) rfl (.cons (t := 7) rfl (.cons (t := 34) rfl (.cons (t := 35) rfl (.cons (t := 36) rfl .nil))))))) (.cons (t := 3) rfl (.cons (t := 601) rfl (.cons (t := 600) rfl (.cons (t := 1) rfl (.cons (t := 2) rfl (.cons (t := 7) rfl .nil)))))) rfl ?_
          refine tr_region (fun N11 hN => ?_)
          refine lx (op_fieldAddr rfl fl29_1 sz25) rfl ?_
          refine lx (op_bload_one (m := 3) rfl rfl ag25 rfl) rfl ?_
          refine lx (op_bload (m := 7) rfl rfl ag67 sz67) rfl ?_
          refine lx (op_buildSlice (f := Sy.ps) (xs := [m.syncs[k]]) (l := [(0, (Go.Operand.tmp 46))]) ze67 rfl rfl (by decide) el25 sz67 Sy.len (.cons rfl (.agg rfl) .nil) rfl (by decide)) rfl ?_
          refine lxr (op_append (m := 601) (m' := 601) (kk := 48) rfl rfl rfl (.inl rfl) el25 ze67 sz67 by67 rfl Sy.len (by rw [List.length_singleton]; omega) (by rw [List.length_singleton]; omega)) rfl ?_
          refine lx (op_fieldAddr rfl fl29_1 sz25) rfl ?_
          refine lxr (op_store (m := 3) (rs := [_, _, _, _]) rfl rfl rfl (.one (by (first | exact One.eq rfl | exact One.mv _ _ _ _ _ | exact One.cl _ _ _ | exact One.map _ | exact One.sl _ _ _ | exact One.row _ _ _ _ | exact One.msl _ _ _ _ | exact One.ptr _ _ | exact One.b _ | exact One.cells _))) sz25 rfl rfl rfl) rfl ?_
          refine lx_end ⟨by kernel_rfl, ?_⟩
          refine pe_block_normal ?_
          refine pe_then_normal ?_
          refine tr_sub hC (.cons (t := 1) rfl (.cons (t := 2) rfl (.cons (t := 3) rfl (.cons (t := 34) rfl (.cons (t := 35) rfl (.cons (t := 36) rfl .nil)))))) (.cons (t := 3) rfl (.cons (t := 600) rfl (.cons (t := 1) rfl (.cons (t := 2) rfl (.cons (t := 601) rfl .nil))))) rfl ?_
          refine tr_region (fun N12 hN => ?_)
          refine lx (op_add rfl rfl (by omega)) rfl ?_
          refine lx (op_move rfl) rfl ?_
          refine lx_end ⟨by kernel_rfl, ?_⟩
          refine pe_round (⟨(k + 1, xs ++ [m.syncs[k]], (N11, 48)), by dsimp only; omega, by dsimp only; rw [hxs, take_at (by omega : k < m.syncs.length)]⟩) (by dsimp only; omega) (pe_st hC ?_ ?_ rfl)
          · try dsimp only [List.cons_append, List.nil_append]
            first | refine SubF.cons rfl ?_ | (refine SubF.ent rfl ?_ ?_; · repeat (first | exact Ents.nil | refine Ents.cons ?_ ?_ | refine Ent.tup ?_ | refine Ent.agg ?_ | exact Ent.row _ _ _ _ | exact Ent.nil _ _ | exact Ent.func _ | exact Ent.refl _ | exact Ent.of_eq rfl | refine Ent.cells ?_))
            first | refine SubF.cons rfl ?_ | (refine SubF.ent rfl ?_ ?_; · repeat (first | exact Ents.nil | refine Ents.cons ?_ ?_ | refine Ent.tup ?_ | refine Ent.agg ?_ | exact Ent.row _ _ _ _ | exact Ent.nil _ _ | exact Ent.func _ | exact Ent.refl _ | exact Ent.of_eq rfl | refine Ent.cells ?_))
            first | refine SubF.cons rfl ?_ | (refine SubF.ent rfl ?_ ?_; · repeat (first | exact Ents.nil | refine Ents.cons ?_ ?_ | refine Ent.tup ?_ | refine Ent.agg ?_ | exact Ent.row _ _ _ _ | exact Ent.nil _ _ | exact Ent.func _ | exact Ent.refl _ | exact Ent.of_eq rfl | refine Ent.cells ?_))
            first | refine SubF.cons rfl ?_ | (refine SubF.ent rfl ?_ ?_; · repeat (first | exact Ents.nil | refine Ents.cons ?_ ?_ | refine Ent.tup ?_ | refine Ent.agg ?_ | exact Ent.row _ _ _ _ | exact Ent.nil _ _ | exact Ent.func _ | exact Ent.refl _ | exact Ent.of_eq rfl | refine Ent.cells ?_))
            first | refine SubF.cons rfl ?_ | (refine SubF.ent rfl ?_ ?_; · repeat (first | exact Ents.nil | refine Ents.cons ?_ ?_ | refine Ent.tup ?_ | refine Ent.agg ?_ | exact Ent.row _ _ _ _ | exact Ent.nil _ _ | exact Ent.func _ | exact Ent.refl _ | exact Ent.of_eq rfl | refine Ent.cells ?_))
            first | refine SubF.cons rfl ?_ | (refine SubF.ent rfl ?_ ?_; · repeat (first | exact Ents.nil | refine Ents.cons ?_ ?_ | refine Ent.tup ?_ | refine Ent.agg ?_ | exact Ent.row _ _ _ _ | exact Ent.nil _ _ | exact Ent.func _ | exact Ent.refl _ | exact Ent.of_eq rfl | refine Ent.cells ?_))
            exact SubF.nil
          · try dsimp only [List.cons_append, List.nil_append]
            repeat (first | exact SubL.nil | refine SubL.cons rfl ?_)
        · (try simp only [Bool.and_eq_true, Bool.or_eq_true, Bool.and_eq_false_iff, Bool.or_eq_false_iff, decide_eq_true_eq, decide_eq_false_iff_not, Bool.not_eq_true', Bool.not_eq_false', List.length_map, ne_eq, Decidable.not_not, Int.not_lt, Int.not_le] at h37)
          have hfin : xs = m.syncs := by rw [hxs, List.take_of_length_le (by omega)]
          refine tr_exit ?_
          refine pe_then_exit ?_
          refine pe_then_exit ?_
          refine pe_block_eq ?_
          refine pe_then_normal ?_
          refine tr_sub hC (.cons (t := 1) rfl (.cons (t := 2) rfl (.cons (t := 3) rfl .nil))) (.cons (t := 3) rfl (.cons (t := 601) rfl (.cons (t := 600) rfl (.cons (t := 1) rfl (.cons (t := 2) rfl .nil))))) rfl ?_
          refine tr_weakTok (m := 3) (qs := [mvP io 10 0 m.objects.length m.objects.length, slP Sy.ps 6 m.syncs, eqP (.slice none 0 0), slP ip 1 m.output]) rfl ?_ ?_
          · repeat (first | exact Ents.nil | refine Ents.cons ?_ ?_ | exact Ent.refl _ | exact Ent.row _ _ _ _ | exact Ent.nil _ _ | exact Ent.trans (Ent.row _ _ _ _) (Ent.of_eq (by rw [hfin])))
          refine tr_seq ?_
          refine tr_seq ?_
          refine tr_region (fun N13 hN => ?_)
          refine lx (op_fieldAddr rfl fl29_2 sz26) rfl ?_
          refine lx (op_bload_one (m := 1) rfl rfl ag26 rfl) rfl ?_
          first | refine lx (op_len rfl el26) rfl ?_ | refine lx (op_len_row rfl el26) rfl ?_ | refine lx (op_len_mv rfl el26) rfl ?_ | refine lx (op_len_nil rfl el26) rfl ?_
          refine lx (op_move rfl) rfl ?_
          refine lx_end ⟨by kernel_rfl, ?_⟩
          refine pe_then_normal ?_
          refine tr_sub hC (.cons (t := 2) rfl (.cons (t := 3) rfl (.cons (t := 52) rfl (.cons (t := 53) rfl (.cons (t := 54) rfl .nil))))) (.cons (t := 3) rfl (.cons (t := 601) rfl (.cons (t := 600) rfl (.cons (t := 2) rfl .nil)))) rfl ?_
          refine tr_block ?_
          refine tr_nilboxM 4 70 3 2 604 rfl rfl (by first | exact hC.low _ (by decide) | rfl) (fun idN => ?_)
          try dsimp only [List.set]
          refine tr_loopK (α := {zz : Nat × (List Gr) × AL.Id // zz.1 ≤ m.gors.length ∧ zz.2.1 = m.gors.take zz.1}) (⟨(0, [], idN), Nat.zero_le _, rfl⟩) (fun zz => [(54, eqP (.int .i64 (zz.1.1 : Int)))]) (fun zz => [(3, some ((N1, 3), blk 29 [mvP io 10 0 m.objects.length m.objects.length, slP Sy.ps 6 m.syncs, mvP zz.1.2.2 4 0 zz.1.2.1.length zz.1.2.1.length, slP ip 1 m.output])), (604, some (zz.1.2.2, blkX 4 70 (zz.1.2.1.flatMap Gr.ps)))]) (fun zz => m.gors.length - zz.1.1) hC (.cons (t := 2) rfl (.cons (t := 3) rfl (.cons (t := 52) rfl (.cons (t := 53) rfl .nil)))) (.cons (t := 601) rfl (.cons (t := 600) rfl (.cons (t := 2) rfl .nil))) rfl ?_ ?_ (fun zz => ?_)
          · try dsimp only [List.cons_append, List.nil_append]
            first | refine SubF.cons rfl ?_ | (refine SubF.ent rfl ?_ ?_; · repeat (first | exact Ents.nil | refine Ents.cons ?_ ?_ | refine Ent.tup ?_ | refine Ent.agg ?_ | exact Ent.row _ _ _ _ | exact Ent.nil _ _ | exact Ent.func _ | exact Ent.refl _ | exact Ent.of_eq rfl | refine Ent.cells ?_))
            exact SubF.nil
          · try dsimp only [List.cons_append, List.nil_append]
            repeat (first | exact SubL.nil | refine SubL.cons rfl ?_)
          · obtain ⟨⟨k, xs, i⟩, hk1, hxs⟩ := zz
            try dsimp only at hk1
            try dsimp only at hxs
            dsimp only [List.cons_append, List.nil_append]
            refine tr_seq ?_
            refine tr_region (fun N14 hN => ?_)
            refine lx (op_lss rfl rfl) rfl ?_
            refine lx_end ⟨by kernel_rfl, ?_⟩
            refine pe_then_normal ?_
            refine tr_sub hC (.cons (t := 2) rfl (.cons (t := 3) rfl (.cons (t := 52) rfl (.cons (t := 53) rfl (.cons (t := 54) rfl (.cons (t := 55) rfl .nil)))))) (.cons (t := 3) rfl (.cons (t := 604) rfl (.cons (t := 601) rfl (.cons (t := 600) rfl (.cons (t := 2) rfl .nil))))) rfl ?_
            refine tr_seq ?_
            refine tr_cond rfl (fun h55 => ?_) (fun h55 => ?_)
            · (try simp only [Bool.and_eq_true, Bool.or_eq_true, Bool.and_eq_false_iff, Bool.or_eq_false_iff, decide_eq_true_eq, decide_eq_false_iff_not, Bool.not_eq_true', Bool.not_eq_false', List.length_map, ne_eq, Decidable.not_not, Int.not_lt, Int.not_le] at h55)
              have hbk := hb.gor _ (List.getElem_mem (by omega : k < m.gors.length))
              have hxl : xs.length ≤ k := by rw [hxs, List.length_take]; omega
              have hbfr := hbk.frames
              refine tr_skip ?_
              refine pe_then_normal ?_
              refine tr_sub hC (.cons (t := 2) rfl (.cons (t := 3) rfl (.cons (t := 52) rfl (.cons (t := 53) rfl (.cons (t := 54) rfl .nil))))) (.cons (t := 3) rfl (.cons (t := 604) rfl (.cons (t := 601) rfl (.cons (t := 600) rfl (.cons (t := 2) rfl .nil))))) rfl ?_
              refine tr_seq ?_
              refine tr_block ?_
              refine tr_seq ?_
              refine tr_region (fun N15 hN => ?_)
              refine lx (op_index rfl rfl el26 sz70 rfl (List.getElem?_eq_getElem (by omega : k < m.gors.length))) rfl ?_
              first | refine lx (op_load_all rfl ag70 sz70) rfl ?_ | refine lx (op_load_agg rfl ag70 sz70 rfl) rfl ?_ | refine lx (op_bload (m := 3) rfl rfl ag70 sz70) rfl ?_ | refine lx (op_bload (m := 604) rfl rfl ag70 sz70) rfl ?_ | refine lx (op_bload (m := 601) rfl rfl ag70 sz70) rfl ?_ | refine lx (op_bload (m := 600) rfl rfl ag70 sz70) rfl ?_ | refine lx (op_bload (m := 2) rfl rfl ag70 sz70) rfl ?_ | refine lx (op_bload_part (m := 3) (qs := [_, _, _, _]) rfl rfl ag70 sz70 rfl rfl) rfl ?_ | refine lx (op_bload_part (m := 604) (qs := [_, _, _, _]) rfl rfl ag70 sz70 rfl rfl) rfl ?_ | refine lx (op_bload_part (m := 601) (qs := [_, _, _, _]) rfl rfl ag70 sz70 rfl rfl) rfl ?_ | refine lx (op_bload_part (m := 600) (qs := [_, _, _, _]) rfl rfl ag70 sz70 rfl rfl) rfl ?_ | refine lx (op_bload_part (m := 2) (qs := [_, _, _, _]) rfl rfl ag70 sz70 rfl rfl) rfl ?_
              refine lxn (op_alloc (m := 9) (k := 9) (ps := [eqP (.int .i64 0), eqP (.int .i64 0), eqP (.int .i64 0), eqP (.slice none 0 0)]) ze70 rfl rfl (by first | exact hC.low _ (by decide) | rfl)) rfl ?_
              refine lxr (op_store_all (m := 9) rfl rfl rfl (.agg rfl) sz70 rfl) rfl ?_
              refine lx_end ⟨by kernel_rfl, ?_⟩
              refine pe_then_normal ?_
              refine tr_sub hC (.cons (t := 2) rfl (.cons (t := 3) rfl (.cons (t := 9) rfl (.cons (t := 52) rfl (.cons (t := 53) rfl (.cons (t := 54) rfl .nil)))))) (.cons (t := 3) rfl (.cons (t := 604) rfl (.cons (t := 601) rfl (.cons (t := 600) rfl (.cons (t := 2) rfl (.cons (t := 9) rfl .nil)))))) rfl ?_
              refine tr_seq ?_
              refine tr_region (fun N16 hN => ?_)
              refine lx (op_fieldAddr rfl fl70_3 sz68) rfl ?_
              refine lx (op_bload_one (m := 9) rfl rfl ag68 rfl) rfl ?_
              first | refine lx_any rfl (op_callG2 (l := [(Go.Operand.tmp 59)]) (add := [(602, ((N16, 100600), blkX 9 92 (m.gors[k].frames.flatMap Fm.ps)))]) (ks := [100600]) (φ := mvP (N16, 100600) 9 0 m.gors[k].frames.length m.gors[k].frames.length) .nil (fcl m.gors[k].frames hbk.frames) (.cons rfl .nil) fn52 rfl rfl rfl (.new (by first | exact hC.low _ (by decide) | rfl) .nil) rfl) (dOK_spec rfl) ?_ | refine lx_any rfl (op_callG2 (l := [(Go.Operand.tmp 59)]) (add := [(602, ((N16, 100600), blkX 9 92 (m.gors[k].frames.flatMap Fm.ps)))]) (ks := [100600]) (φ := mvP (N16, 100600) 9 0 m.gors[k].frames.length m.gors[k].frames.length) .nil (fcl m.gors[k].frames hbk.frames) (.ent rfl (by repeat (first | exact Ents.nil | refine Ents.cons ?_ ?_ | refine Ent.tup ?_ | refine Ent.agg ?_ | exact Ent.row _ _ _ _ | exact Ent.nil _ _ | exact Ent.func _ | exact Ent.refl _ | exact Ent.of_eq rfl | refine Ent.cells ?_)) .nil) fn52 rfl rfl rfl (.new (by first | exact hC.low _ (by decide) | rfl) .nil) rfl) (dOK_spec rfl) ?_
              refine lx (op_assign rfl) rfl ?_
              refine lx_end ⟨by kernel_rfl, ?_⟩
              refine pe_then_normal ?_
              refine tr_sub hC (.cons (t := 2) rfl (.cons (t := 3) rfl (.cons (t := 9) rfl (.cons (t := 10) rfl (.cons (t := 52) rfl (.cons (t := 53) rfl (.cons (t := 54) rfl .nil))))))) (.cons (t := 3) rfl (.cons (t := 604) rfl (.cons (t := 601) rfl (.cons (t := 600) rfl (.cons (t := 2) rfl (.cons (t := 9) rfl (.cons (t := 602) rfl .nil))))))) rfl ?_
              refine tr_seq ?_
              refine tr_seq ?_
              refine tr_region (fun N17 hN => ?_)
              refine lx (op_move rfl) rfl ?_
              first | refine lx (op_len rfl el68) rfl ?_ | refine lx (op_len_row rfl el68) rfl ?_ | refine lx (op_len_mv rfl el68) rfl ?_ | refine lx (op_len_nil rfl el68) rfl ?_
              refine lx (op_move rfl) rfl ?_
              refine lx_end ⟨by kernel_rfl, ?_⟩
              refine pe_then_normal ?_
              refine tr_sub hC (.cons (t := 2) rfl (.cons (t := 3) rfl (.cons (t := 9) rfl (.cons (t := 10) rfl (.cons (t := 52) rfl (.cons (t := 53) rfl (.cons (t := 54) rfl (.cons (t := 62) rfl (.cons (t := 63) rfl .nil))))))))) (.cons (t := 3) rfl (.cons (t := 604) rfl (.cons (t := 601) rfl (.cons (t := 600) rfl (.cons (t := 2) rfl (.cons (t := 9) rfl (.cons (t := 602) rfl .nil))))))) rfl ?_
              refine tr_block ?_
              refine tr_loopK (α := {zz : Nat // zz ≤ m.gors[k].frames.length}) (⟨(0), Nat.zero_le _⟩) (fun zz => [(63, eqP (.int .i64 (zz.1 : Int)))]) (fun zz => []) (fun zz => m.gors[k].frames.length - zz.1) hC (.cons (t := 2) rfl (.cons (t := 3) rfl (.cons (t := 9) rfl (.cons (t := 10) rfl (.cons (t := 52) rfl (.cons (t := 53) rfl (.cons (t := 54) rfl (.cons (t := 62) rfl .nil)))))))) (.cons (t := 3) rfl (.cons (t := 604) rfl (.cons (t := 601) rfl (.cons (t := 600) rfl (.cons (t := 2) rfl (.cons (t := 9) rfl (.cons (t := 602) rfl .nil))))))) rfl ?_ ?_ (fun zz => ?_)
              · try dsimp only [List.cons_append, List.nil_append]
                first | refine SubF.cons rfl ?_ | (refine SubF.ent rfl ?_ ?_; · repeat (first | exact Ents.nil | refine Ents.cons ?_ ?_ | refine Ent.tup ?_ | refine Ent.agg ?_ | exact Ent.row _ _ _ _ | exact Ent.nil _ _ | exact Ent.func _ | exact Ent.refl _ | exact Ent.of_eq rfl | refine Ent.cells ?_))
                exact SubF.nil
              · try dsimp only [List.cons_append, List.nil_append]
                repeat (first | exact SubL.nil | refine SubL.cons rfl ?_)
              · obtain ⟨j, hj1⟩ := zz
                dsimp only [List.cons_append, List.nil_append]
                refine tr_seq ?_
                refine tr_region (fun N18 hN => ?_)
                refine lx (op_lss rfl rfl) rfl ?_
                refine lx_end ⟨by kernel_rfl, ?_⟩
                refine pe_then_normal ?_
                refine tr_sub hC (.cons (t := 2) rfl (.cons (t := 3) rfl (.cons (t := 9) rfl (.cons (t := 10) rfl (.cons (t := 52) rfl (.cons (t := 53) rfl (.cons (t := 54) rfl (.cons (t := 62) rfl (.cons (t := 63) rfl (.cons (t := 64) rfl .nil)))))))))) (.cons (t := 3) rfl (.cons (t := 604) rfl (.cons (t := 601) rfl (.cons (t := 600) rfl (.cons (t := 2) rfl (.cons (t := 9) rfl (.cons (t := 602) rfl .nil))))))) rfl ?_
                refine tr_seq ?_
                refine tr_cond rfl (fun h64 => ?_) (fun h64 => ?_)
                · (try simp only [Bool.and_eq_true, Bool.or_eq_true, Bool.and_eq_false_iff, Bool.or_eq_false_iff, decide_eq_true_eq, decide_eq_false_iff_not, Bool.not_eq_true', Bool.not_eq_false', List.length_map, ne_eq, Decidable.not_not, Int.not_lt, Int.not_le] at h64)
                  have hbf := hbk.each _ (List.getElem_mem (by omega : j < m.gors[k].frames.length))
                  have hbd := hbf.defers
                  refine tr_skip ?_
                  refine pe_then_normal ?_
                  refine tr_sub hC (.cons (t := 2) rfl (.cons (t := 3) rfl (.cons (t := 9) rfl (.cons (t := 10) rfl (.cons (t := 52) rfl (.cons (t := 53) rfl (.cons (t := 54) rfl (.cons (t := 62) rfl (.cons (t := 63) rfl .nil))))))))) (.cons (t := 3) rfl (.cons (t := 604) rfl (.cons (t := 601) rfl (.cons (t := 600) rfl (.cons (t := 2) rfl (.cons (t := 9) rfl (.cons (t := 602) rfl .nil))))))) rfl ?_
                  refine tr_seq ?_
                  refine tr_block ?_
                  refine tr_seq ?_
                  refine tr_region (fun N19 hN => ?_)
                  refine lx (op_move rfl) rfl ?_
                  refine lx (op_assign rfl) rfl ?_
                  refine lx_end ⟨by kernel_rfl, ?_⟩
                  refine pe_then_normal ?_
                  refine tr_sub hC (.cons (t := 2) rfl (.cons (t := 3) rfl (.cons (t := 9) rfl (.cons (t := 10) rfl (.cons (t := 11) rfl (.cons (t := 52) rfl (.cons (t := 53) rfl (.cons (t := 54) rfl (.cons (t := 62) rfl (.cons (t := 63) rfl .nil)))))))))) (.cons (t := 3) rfl (.cons (t := 604) rfl (.cons (t := 601) rfl (.cons (t := 600) rfl (.cons (t := 2) rfl (.cons (t := 9) rfl (.cons (t := 602) rfl .nil))))))) rfl ?_
                  refine tr_seq ?_
                  refine tr_region (fun N20 hN => ?_)
                  refine lx (op_move rfl) rfl ?_
                  refine lx (op_move rfl) rfl ?_
                  refine lx (op_move rfl) rfl ?_
                  refine lx (op_move rfl) rfl ?_
                  refine lx (op_index_mv rfl rfl el68 sz92 rfl (by omega)) rfl ?_
                  refine lx (op_fieldAddr rfl fl92_2 sz30) rfl ?_
                  refine lx (op_tload_one (m := 602) (j := j) (fo := 2) rfl rfl ag30 Fm.len (by omega) (List.getElem?_eq_getElem (by omega : j < m.gors[k].frames.length)) rfl) rfl ?_
                  first | refine lx (op_call (l := [(Go.Operand.tmp 72)]) (vcl m.gors[k].frames[j].regs hbf.regs) (.cons rfl .nil) fn53) rfl ?_ | refine lx (op_call (l := [(Go.Operand.tmp 72)]) (vcl m.gors[k].frames[j].regs hbf.regs) (.ent rfl (by repeat (first | exact Ents.nil | refine Ents.cons ?_ ?_ | refine Ent.tup ?_ | refine Ent.agg ?_ | exact Ent.row _ _ _ _ | exact Ent.nil _ _ | exact Ent.func _ | exact Ent.refl _ | exact Ent.of_eq rfl | refine Ent.cells ?_)) .nil) fn53) rfl ?_
                  refine lx (op_index_mv rfl rfl el68 sz92 rfl (by omega)) rfl ?_
                  refine lx (op_fieldAddr rfl fl92_2 sz30) rfl ?_
                  refine lxr (op_tstore_id (m := 602) (j := j) (fo := 2) (z := m.gors[k].frames[j]) rfl rfl rfl (.one (by (first | exact One.eq rfl | exact One.mv _ _ _ _ _ | exact One.cl _ _ _ | exact One.map _ | exact One.sl _ _ _ | exact One.row _ _ _ _ | exact One.msl _ _ _ _ | exact One.ptr _ _ | exact One.b _ | exact One.cells _))) sz30 rfl Fm.len (by omega) (List.getElem?_eq_getElem (by omega : j < m.gors[k].frames.length)) rfl rfl) rfl ?_
                  refine lx_end ⟨by kernel_rfl, ?_⟩
                  refine pe_then_normal ?_
                  refine tr_sub hC (.cons (t := 2) rfl (.cons (t := 3) rfl (.cons (t := 9) rfl (.cons (t := 10) rfl (.cons (t := 11) rfl (.cons (t := 52) rfl (.cons (t := 53) rfl (.cons (t := 54) rfl (.cons (t := 62) rfl (.cons (t := 63) rfl .nil)))))))))) (.cons (t := 3) rfl (.cons (t := 604) rfl (.cons (t := 601) rfl (.cons (t := 600) rfl (.cons (t := 2) rfl (.cons (t := 9) rfl (.cons (t := 602) rfl .nil))))))) rfl ?_
                  refine tr_seq ?_
                  refine tr_region (fun N21 hN => ?_)
                  refine lx (op_move rfl) rfl ?_
                  refine lx (op_move rfl) rfl ?_
                  refine lx (op_index_mv rfl rfl el68 sz92 rfl (by omega)) rfl ?_
                  refine lx (op_fieldAddr rfl fl92_4 sz90) rfl ?_
                  refine lx (op_tload_one (m := 602) (j := j) (fo := 4) rfl rfl ag90 Fm.len (by omega) (List.getElem?_eq_getElem (by omega : j < m.gors[k].frames.length)) rfl) rfl ?_
                  first | refine lx_any rfl (op_callG2 (l := [(Go.Operand.tmp 80)]) (add := [(603, ((N21, 100810), blkX 2 94 (m.gors[k].frames[j].defers.flatMap Df.ps)))]) (ks := [100810]) (φ := mvP (N21, 100810) 2 0 m.gors[k].frames[j].defers.length m.gors[k].frames[j].defers.length) .nil (dcl m.gors[k].frames[j].defers hbf.defers) (.cons rfl .nil) fn54 rfl rfl rfl (.new (by first | exact hC.low _ (by decide) | rfl) .nil) rfl) (dOK_spec rfl) ?_ | refine lx_any rfl (op_callG2 (l := [(Go.Operand.tmp 80)]) (add := [(603, ((N21, 100810), blkX 2 94 (m.gors[k].frames[j].defers.flatMap Df.ps)))]) (ks := [100810]) (φ := mvP (N21, 100810) 2 0 m.gors[k].frames[j].defers.length m.gors[k].frames[j].defers.length) .nil (dcl m.gors[k].frames[j].defers hbf.defers) (.ent rfl (by repeat (first | exact Ents.nil | refine Ents.cons ?_ ?_ | refine Ent.tup ?_ | refine Ent.agg ?_ | exact Ent.row _ _ _ _ | exact Ent.nil _ _ | exact Ent.func _ | exact Ent.refl _ | exact Ent.of_eq rfl | refine Ent.cells ?_)) .nil) fn54 rfl rfl rfl (.new (by first | exact hC.low _ (by decide) | rfl) .nil) rfl) (dOK_spec rfl) ?_
                  refine lx (op_assign rfl) rfl ?_
                  refine lx_end ⟨by kernel_rfl, ?_⟩
                  refine pe_then_normal ?_
                  refine tr_sub hC (.cons (t := 2) rfl (.cons (t := 3) rfl (.cons (t := 9) rfl (.cons (t := 10) rfl (.cons (t := 11) rfl (.cons (t := 12) rfl (.cons (t := 52) rfl (.cons (t := 53) rfl (.cons (t := 54) rfl (.cons (t := 62) rfl (.cons (t := 63) rfl .nil))))))))))) (.cons (t := 3) rfl (.cons (t := 604) rfl (.cons (t := 601) rfl (.cons (t := 600) rfl (.cons (t := 2) rfl (.cons (t := 9) rfl (.cons (t := 602) rfl (.cons (t := 603) rfl .nil)))))))) rfl ?_
                  refine tr_seq ?_
                  refine tr_seq ?_
                  refine tr_region (fun N22 hN => ?_)
                  refine lx (op_move rfl) rfl ?_
                  first | refine lx (op_len rfl el90) rfl ?_ | refine lx (op_len_row rfl el90) rfl ?_ | refine lx (op_len_mv rfl el90) rfl ?_ | refine lx (op_len_nil rfl el90) rfl ?_
                  refine lx (op_move rfl) rfl ?_
                  refine lx_end ⟨by kernel_rfl, ?_⟩
                  refine pe_then_normal ?_
                  refine tr_sub hC (.cons (t := 2) rfl (.cons (t := 3) rfl (.cons (t := 9) rfl (.cons (t := 10) rfl (.cons (t := 11) rfl (.cons (t := 12) rfl (.cons (t := 52) rfl (.cons (t := 53) rfl (.cons (t := 54) rfl (.cons (t := 62) rfl (.cons (t := 63) rfl (.cons (t := 83) rfl (.cons (t := 84) rfl .nil))))))))))))) (.cons (t := 3) rfl (.cons (t := 604) rfl (.cons (t := 601) rfl (.cons (t := 600) rfl (.cons (t := 2) rfl (.cons (t := 9) rfl (.cons (t := 602) rfl (.cons (t := 603) rfl .nil)))))))) rfl ?_
                  refine tr_block ?_
                  refine tr_loopK (α := {zz : Nat // zz ≤ m.gors[k].frames[j].defers.length}) (⟨(0), Nat.zero_le _⟩) (fun zz => [(84, eqP (.int .i64 (zz.1 : Int)))]) (fun zz => []) (fun zz => m.gors[k].frames[j].defers.length - zz.1) hC (.cons (t := 2) rfl (.cons (t := 3) rfl (.cons (t := 9) rfl (.cons (t := 10) rfl (.cons (t := 11) rfl (.cons (t := 12) rfl (.cons (t := 52) rfl (.cons (t := 53) rfl (.cons (t := 54) rfl (.cons (t := 62) rfl (.cons (t := 63) rfl (.cons (t := 83) rfl .nil)))))))))))) (.cons (t := 3) rfl (.cons (t := 604) rfl (.cons (t := 601) rfl (.cons (t := 600) rfl (.cons (t := 2) rfl (.cons (t := 9) rfl (.cons (t := 602) rfl (.cons (t := 603) rfl .nil)))))))) rfl ?_ ?_ (fun zz => ?_)
                  · try dsimp only [List.cons_append, List.nil_append]
                    first | refine SubF.cons rfl ?_ | (refine SubF.ent rfl ?_ ?_; · repeat (first | exact Ents.nil | refine Ents.cons ?_ ?_ | refine Ent.tup ?_ | refine Ent.agg ?_ | exact Ent.row _ _ _ _ | exact Ent.nil _ _ | exact Ent.func _ | exact Ent.refl _ | exact Ent.of_eq rfl | refine Ent.cells ?_))
                    exact SubF.nil
                  · try dsimp only [List.cons_append, List.nil_append]
                    repeat (first | exact SubL.nil | refine SubL.cons rfl ?_)
                  · obtain ⟨q, hq1⟩ := zz
                    dsimp only [List.cons_append, List.nil_append]
                    refine tr_seq ?_
                    refine tr_region (fun N23 hN => ?_)
                    refine lx (op_lss rfl rfl) rfl ?_
                    refine lx_end ⟨by kernel_rfl, ?_⟩
                    refine pe_then_normal ?_
                    refine tr_sub hC (.cons (t := 2) rfl (.cons (t := 3) rfl (.cons (t := 9) rfl (.cons (t := 10) rfl (.cons (t := 11) rfl (.cons (t := 12) rfl (.cons (t := 52) rfl (.cons (t := 53) rfl (.cons (t := 54) rfl (.cons (t := 62) rfl (.cons (t := 63) rfl (.cons (t := 83) rfl (.cons (t := 84) rfl (.cons (t := 85) rfl .nil)))))))))))))) (.cons (t := 3) rfl (.cons (t := 604) rfl (.cons (t := 601) rfl (.cons (t := 600) rfl (.cons (t := 2) rfl (.cons (t := 9) rfl (.cons (t := 602) rfl (.cons (t := 603) rfl .nil)))))))) rfl ?_
                    refine tr_seq ?_
                    refine tr_cond rfl (fun h85 => ?_) (fun h85 => ?_)
                    · (try simp only [Bool.and_eq_true, Bool.or_eq_true, Bool.and_eq_false_iff, Bool.or_eq_false_iff, decide_eq_true_eq, decide_eq_false_iff_not, Bool.not_eq_true', Bool.not_eq_false', List.length_map, ne_eq, Decidable.not_not, Int.not_lt, Int.not_le] at h85)
                      refine tr_skip ?_
                      refine pe_then_normal ?_
                      refine tr_sub hC (.cons (t := 2) rfl (.cons (t := 3) rfl (.cons (t := 9) rfl (.cons (t := 10) rfl (.cons (t := 11) rfl (.cons (t := 12) rfl (.cons (t := 52) rfl (.cons (t := 53) rfl (.cons (t := 54) rfl (.cons (t := 62) rfl (.cons (t := 63) rfl (.cons (t := 83) rfl (.cons (t := 84) rfl .nil))))))))))))) (.cons (t := 3) rfl (.cons (t := 604) rfl (.cons (t := 601) rfl (.cons (t := 600) rfl (.cons (t := 2) rfl (.cons (t := 9) rfl (.cons (t := 602) rfl (.cons (t := 603) rfl .nil)))))))) rfl ?_
                      refine tr_seq ?_
                      refine tr_block ?_
                      refine tr_seq ?_
                      refine tr_region (fun N24 hN => ?_)
                      refine lx (op_move rfl) rfl ?_
                      refine lx (op_assign rfl) rfl ?_
                      refine lx_end ⟨by kernel_rfl, ?_⟩
                      refine pe_then_normal ?_
                      refine tr_sub hC (.cons (t := 2) rfl (.cons (t := 3) rfl (.cons (t := 9) rfl (.cons (t := 10) rfl (.cons (t := 11) rfl (.cons (t := 12) rfl (.cons (t := 13) rfl (.cons (t := 52) rfl (.cons (t := 53) rfl (.cons (t := 54) rfl (.cons (t := 62) rfl (.cons (t := 63) rfl (.cons (t := 83) rfl (.cons (t := 84) rfl .nil)))))))))))))) (.cons (t := 3) rfl (.cons (t := 604) rfl (.cons (t := 601) rfl (.cons (t := 600) rfl (.cons (t := 2) rfl (.cons (t := 9) rfl (.cons (t := 602) rfl (.cons (t := 603) rfl .nil)))))))) rfl ?_
                      refine tr_region (fun N25 hN => ?_)
                      refine lx (op_move rfl) rfl ?_
                      refine lx (op_move rfl) rfl ?_
                      refine lx (op_move rfl) rfl ?_
                      refine lx (op_move rfl) rfl ?_
                      refine lx (op_index_mv rfl rfl el90 sz94 rfl (by omega)) rfl ?_
                      refine lx (op_fieldAddr rfl fl94_1 sz30) rfl ?_
                      refine lx (op_tload_one (m := 603) (j := q) (fo := 1) rfl rfl ag30 Df.len (by omega) (List.getElem?_eq_getElem (by omega : q < m.gors[k].frames[j].defers.length)) rfl) rfl ?_
                      first | refine lx (op_call (l := [(Go.Operand.tmp 93)]) (vcl m.gors[k].frames[j].defers[q].args (hbf.args _ (List.getElem_mem ..))) (.cons rfl .nil) fn53) rfl ?_ | refine lx (op_call (l := [(Go.Operand.tmp 93)]) (vcl m.gors[k].frames[j].defers[q].args (hbf.args _ (List.getElem_mem ..))) (.ent rfl (by repeat (first | exact Ents.nil | refine Ents.cons ?_ ?_ | refine Ent.tup ?_ | refine Ent.agg ?_ | exact Ent.row _ _ _ _ | exact Ent.nil _ _ | exact Ent.func _ | exact Ent.refl _ | exact Ent.of_eq rfl | refine Ent.cells ?_)) .nil) fn53) rfl ?_
                      refine lx (op_index_mv rfl rfl el90 sz94 rfl (by omega)) rfl ?_
                      refine lx (op_fieldAddr rfl fl94_1 sz30) rfl ?_
                      refine lxr (op_tstore_id (m := 603) (j := q) (fo := 1) (z := m.gors[k].frames[j].defers[q]) rfl rfl rfl (.one (by (first | exact One.eq rfl | exact One.mv _ _ _ _ _ | exact One.cl _ _ _ | exact One.map _ | exact One.sl _ _ _ | exact One.row _ _ _ _ | exact One.msl _ _ _ _ | exact One.ptr _ _ | exact One.b _ | exact One.cells _))) sz30 rfl Df.len (by omega) (List.getElem?_eq_getElem (by omega : q < m.gors[k].frames[j].defers.length)) rfl rfl) rfl ?_
                      refine lx_end ⟨by kernel_rfl, ?_⟩
                      refine pe_block_normal ?_
                      refine pe_then_normal ?_
                      refine tr_sub hC (.cons (t := 2) rfl (.cons (t := 3) rfl (.cons (t := 9) rfl (.cons (t := 10) rfl (.cons (t := 11) rfl (.cons (t := 12) rfl (.cons (t := 52) rfl (.cons (t := 53) rfl (.cons (t := 54) rfl (.cons (t := 62) rfl (.cons (t := 63) rfl (.cons (t := 83) rfl (.cons (t := 84) rfl .nil))))))))))))) (.cons (t := 3) rfl (.cons (t := 604) rfl (.cons (t := 601) rfl (.cons (t := 600) rfl (.cons (t := 2) rfl (.cons (t := 9) rfl (.cons (t := 602) rfl (.cons (t := 603) rfl .nil)))))))) rfl ?_
                      refine tr_region (fun N26 hN => ?_)
                      refine lx (op_add rfl rfl (by omega)) rfl ?_
                      refine lx (op_move rfl) rfl ?_
                      refine lx_end ⟨by kernel_rfl, ?_⟩
                      refine pe_round (⟨(q + 1), by omega⟩) (by dsimp only; omega) (pe_st hC ?_ ?_ rfl)
                      · try dsimp only [List.cons_append, List.nil_append]
                        first | refine SubF.cons rfl ?_ | (refine SubF.ent rfl ?_ ?_; · repeat (first | exact Ents.nil | refine Ents.cons ?_ ?_ | refine Ent.tup ?_ | refine Ent.agg ?_ | exact Ent.row _ _ _ _ | exact Ent.nil _ _ | exact Ent.func _ | exact Ent.refl _ | exact Ent.of_eq rfl | refine Ent.cells ?_))
                        first | refine SubF.cons rfl ?_ | (refine SubF.ent rfl ?_ ?_; · repeat (first | exact Ents.nil | refine Ents.cons ?_ ?_ | refine Ent.tup ?_ | refine Ent.agg ?_ | exact Ent.row _ _ _ _ | exact Ent.nil _ _ | exact Ent.func _ | exact Ent.refl _ | exact Ent.of_eq rfl | refine Ent.cells ?_))
                        first | refine SubF.cons rfl ?_ | (refine SubF.ent rfl ?_ ?_; · repeat (first | exact Ents.nil | refine Ents.cons ?_ ?_ | refine Ent.tup ?_ | refine Ent.agg ?_ | exact Ent.row _ _ _ _ | exact Ent.nil _ _ | exact Ent.func _ | exact Ent.refl _ | exact Ent.of_eq rfl | refine Ent.cells ?_))
                        first | refine SubF.cons rfl ?_ | (refine SubF.ent rfl ?_ ?_; · repeat (first | exact Ents.nil | refine Ents.cons ?_ ?_ | refine Ent.tup ?_ | refine Ent.agg ?_ | exact Ent.row _ _ _ _ | exact Ent.nil _ _ | exact Ent.func _ | exact Ent.refl _ | exact Ent.of_eq rfl | refine Ent.cells ?_))
                        first | refine SubF.cons rfl ?_ | (refine SubF.ent rfl ?_ ?_; · repeat (first | exact Ents.nil | refine Ents.cons ?_ ?_ | refine Ent.tup ?_ | refine Ent.agg ?_ | exact Ent.row _ _ _ _ | exact Ent.nil _ _ | exact Ent.func _ | exact Ent.refl _ | exact Ent.of_eq rfl | refine Ent.cells ?_))
                        first | refine SubF.cons rfl ?_ | (refine SubF.ent rfl ?_ ?_; · repeat (first | exact Ents.nil | refine Ents.cons ?_ ?_ | refine Ent.tup ?_ | refine Ent.agg ?_ | exact Ent.row _ _ _ _ | exact Ent.nil _ _ | exact Ent.func _ | exact Ent.refl _ | exact Ent.of_eq rfl | refine Ent.cells ?_))
                        first | refine SubF.cons rfl ?_ | (refine SubF.ent rfl ?_ ?_; · repeat (first | exact Ents.nil | refine Ents.cons ?_ ?_ | refine Ent.tup ?_ | refine Ent.agg ?_ | exact Ent.row _ _ _ _ | exact Ent.nil _ _ | exact Ent.func _ | exact Ent.refl _ | exact Ent.of_eq rfl | refine Ent.cells ?_))
                        first | refine SubF.cons rfl ?_ | (refine SubF.ent rfl ?_ ?_; · repeat (first | exact Ents.nil | refine Ents.cons ?_ ?_ | refine Ent.tup ?_ | refine Ent.agg ?_ | exact Ent.row _ _ _ _ | exact Ent.nil _ _ | exact Ent.func _ | exact Ent.refl _ | exact Ent.of_eq rfl | refine Ent.cells ?_))
                        first | refine SubF.cons rfl ?_ | (refine SubF.ent rfl ?_ ?_; · repeat (first | exact Ents.nil | refine Ents.cons ?_ ?_ | refine Ent.tup ?_ | refine Ent.agg ?_ | exact Ent.row _ _ _ _ | exact Ent.nil _ _ | exact Ent.func _ | exact Ent.refl _ | exact Ent.of_eq rfl | refine Ent.cells ?_))
                        first | refine SubF.cons rfl ?_ | (refine SubF.ent rfl ?_ ?_; · repeat (first | exact Ents.nil | refine Ents.cons ?_ ?_ | refine Ent.tup ?_ | refine Ent.agg ?_ | exact Ent.row _ _ _ _ | exact Ent.nil _ _ | exact Ent.func _ | exact Ent.refl _ | exact Ent.of_eq rfl | refine Ent.cells ?_))
                        first | refine SubF.cons rfl ?_ | (refine SubF.ent rfl ?_ ?_; · repeat (first | exact Ents.nil | refine Ents.cons ?_ ?_ | refine Ent.tup ?_ | refine Ent.agg ?_ | exact Ent.row _ _ _ _ | exact Ent.nil _ _ | exact Ent.func _ | exact Ent.refl _ | exact Ent.of_eq rfl | refine Ent.cells ?_))
                        first | refine SubF.cons rfl ?_ | (refine SubF.ent rfl ?_ ?_; · repeat (first | exact Ents.nil | refine Ents.cons ?_ ?_ | refine Ent.tup ?_ | refine Ent.agg ?_ | exact Ent.row _ _ _ _ | exact Ent.nil _ _ | exact Ent.func _ | exact Ent.refl _ | exact Ent.of_eq rfl | refine Ent.cells ?_))
                        first | refine SubF.cons rfl ?_ | (refine SubF.ent rfl ?_ ?_; · repeat (first | exact Ents.nil | refine Ents.cons ?_ ?_ | refine Ent.tup ?_ | refine Ent.agg ?_ | exact Ent.row _ _ _ _ | exact Ent.nil _ _ | exact Ent.func _ | exact Ent.refl _ | exact Ent.of_eq rfl | refine Ent.cells ?_))
                        exact SubF.nil
                      · try dsimp only [List.cons_append, List.nil_append]
                        repeat (first | exact SubL.nil | refine SubL.cons rfl ?_)
                    · (try simp only [Bool.and_eq_true, Bool.or_eq_true, Bool.and_eq_false_iff, Bool.or_eq_false_iff, decide_eq_true_eq, decide_eq_false_iff_not, Bool.not_eq_true', Bool.not_eq_false', List.length_map, ne_eq, Decidable.not_not, Int.not_lt, Int.not_le] at h85)
                      refine tr_exit ?_
                      refine pe_then_exit ?_
                      refine pe_then_exit ?_
                      refine pe_block_eq ?_
                      refine pe_then_normal ?_
                      refine tr_sub hC (.cons (t := 2) rfl (.cons (t := 3) rfl (.cons (t := 9) rfl (.cons (t := 10) rfl (.cons (t := 11) rfl (.cons (t := 12) rfl (.cons (t := 52) rfl (.cons (t := 53) rfl (.cons (t := 54) rfl (.cons (t := 62) rfl (.cons (t := 63) rfl .nil))))))))))) (.cons (t := 3) rfl (.cons (t := 604) rfl (.cons (t := 601) rfl (.cons (t := 600) rfl (.cons (t := 2) rfl (.cons (t := 9) rfl (.cons (t := 602) rfl (.cons (t := 603) rfl .nil)))))))) rfl ?_
                      refine tr_freeze (m := 603) rfl (.cons (t := 2) rfl (.cons (t := 3) rfl (.cons (t := 9) rfl (.cons (t := 10) rfl (.cons (t := 11) rfl (.ent (t := 12) rfl (FEnt.mv (xs := m.gors[k].frames[j].defers) (f := Df.ps) rfl ⟨[], by simp⟩ Df.len) (.cons (t := 52) rfl (.cons (t := 53) rfl (.cons (t := 54) rfl (.cons (t := 62) rfl (.cons (t := 63) rfl .nil))))))))))) ?_
                      try dsimp only
                      refine tr_region (fun N27 hN => ?_)
                      refine lx (op_move rfl) rfl ?_
                      refine lx (op_move rfl) rfl ?_
                      refine lx (op_move rfl) rfl ?_
                      refine lx (op_index_mv rfl rfl el68 sz92 rfl (by omega)) rfl ?_
                      refine lx (op_fieldAddr rfl fl92_4 sz90) rfl ?_
                      refine lxr (op_tstore_id (m := 602) (j := j) (fo := 4) (z := m.gors[k].frames[j]) rfl rfl rfl (.one (by (first | exact One.eq rfl | exact One.mv _ _ _ _ _ | exact One.cl _ _ _ | exact One.map _ | exact One.sl _ _ _ | exact One.row _ _ _ _ | exact One.msl _ _ _ _ | exact One.ptr _ _ | exact One.b _ | exact One.cells _))) sz90 rfl Fm.len (by omega) (List.getElem?_eq_getElem (by omega : j < m.gors[k].frames.length)) rfl rfl) rfl ?_
                      refine lx_end ⟨by kernel_rfl, ?_⟩
                      refine pe_block_normal ?_
                      refine pe_then_normal ?_
                      refine tr_sub hC (.cons (t := 2) rfl (.cons (t := 3) rfl (.cons (t := 9) rfl (.cons (t := 10) rfl (.cons (t := 52) rfl (.cons (t := 53) rfl (.cons (t := 54) rfl (.cons (t := 62) rfl (.cons (t := 63) rfl .nil))))))))) (.cons (t := 3) rfl (.cons (t := 604) rfl (.cons (t := 601) rfl (.cons (t := 600) rfl (.cons (t := 2) rfl (.cons (t := 9) rfl (.cons (t := 602) rfl .nil))))))) rfl ?_
                      refine tr_region (fun N28 hN => ?_)
                      refine lx (op_add rfl rfl (by omega)) rfl ?_
                      refine lx (op_move rfl) rfl ?_
                      refine lx_end ⟨by kernel_rfl, ?_⟩
                      refine pe_round (⟨(j + 1), by omega⟩) (by dsimp only; omega) (pe_st hC ?_ ?_ rfl)
                      · try dsimp only [List.cons_append, List.nil_append]
                        first | refine SubF.cons rfl ?_ | (refine SubF.ent rfl ?_ ?_; · repeat (first | exact Ents.nil | refine Ents.cons ?_ ?_ | refine Ent.tup ?_ | refine Ent.agg ?_ | exact Ent.row _ _ _ _ | exact Ent.nil _ _ | exact Ent.func _ | exact Ent.refl _ | exact Ent.of_eq rfl | refine Ent.cells ?_))
                        first | refine SubF.cons rfl ?_ | (refine SubF.ent rfl ?_ ?_; · repeat (first | exact Ents.nil | refine Ents.cons ?_ ?_ | refine Ent.tup ?_ | refine Ent.agg ?_ | exact Ent.row _ _ _ _ | exact Ent.nil _ _ | exact Ent.func _ | exact Ent.refl _ | exact Ent.of_eq rfl | refine Ent.cells ?_))
                        first | refine SubF.cons rfl ?_ | (refine SubF.ent rfl ?_ ?_; · repeat (first | exact Ents.nil | refine Ents.cons ?_ ?_ | refine Ent.tup ?_ | refine Ent.agg ?_ | exact Ent.row _ _ _ _ | exact Ent.nil _ _ | exact Ent.func _ | exact Ent.refl _ | exact Ent.of_eq rfl | refine Ent.cells ?_))
                        first | refine SubF.cons rfl ?_ | (refine SubF.ent rfl ?_ ?_; · repeat (first | exact Ents.nil | refine Ents.cons ?_ ?_ | refine Ent.tup ?_ | refine Ent.agg ?_ | exact Ent.row _ _ _ _ | exact Ent.nil _ _ | exact Ent.func _ | exact Ent.refl _ | exact Ent.of_eq rfl | refine Ent.cells ?_))
                        first | refine SubF.cons rfl ?_ | (refine SubF.ent rfl ?_ ?_; · repeat (first | exact Ents.nil | refine Ents.cons ?_ ?_ | refine Ent.tup ?_ | refine Ent.agg ?_ | exact Ent.row _ _ _ _ | exact Ent.nil _ _ | exact Ent.func _ | exact Ent.refl _ | exact Ent.of_eq rfl | refine Ent.cells ?_))
                        first | refine SubF.cons rfl ?_ | (refine SubF.ent rfl ?_ ?_; · repeat (first | exact Ents.nil | refine Ents.cons ?_ ?_ | refine Ent.tup ?_ | refine Ent.agg ?_ | exact Ent.row _ _ _ _ | exact Ent.nil _ _ | exact Ent.func _ | exact Ent.refl _ | exact Ent.of_eq rfl | refine Ent.cells ?_))
                        first | refine SubF.cons rfl ?_ | (refine SubF.ent rfl ?_ ?_; · repeat (first | exact Ents.nil | refine Ents.cons ?_ ?_ | refine Ent.tup ?_ | refine Ent.agg ?_ | exact Ent.row _ _ _ _ | exact Ent.nil _ _ | exact Ent.func _ | exact Ent.refl _ | exact Ent.of_eq rfl | refine Ent.cells ?_))
                        first | refine SubF.cons rfl ?_ | (refine SubF.ent rfl ?_ ?_; · repeat (first | exact Ents.nil | refine Ents.cons ?_ ?_ | refine Ent.tup ?_ | refine Ent.agg ?_ | exact Ent.row _ _ _ _ | exact Ent.nil _ _ | exact Ent.func _ | exact Ent.refl _ | exact Ent.of_eq rfl | refine Ent.cells ?_))
                        first | refine SubF.cons rfl ?_ | (refine SubF.ent rfl ?_ ?_; · repeat (first | exact Ents.nil | refine Ents.cons ?_ ?_ | refine Ent.tup ?_ | refine Ent.agg ?_ | exact Ent.row _ _ _ _ | exact Ent.nil _ _ | exact Ent.func _ | exact Ent.refl _ | exact Ent.of_eq rfl | refine Ent.cells ?_))
                        exact SubF.nil
                      · try dsimp only [List.cons_append, List.nil_append]
                        repeat (first | exact SubL.nil | refine SubL.cons rfl ?_)
                · (try simp only [Bool.and_eq_true, Bool.or_eq_true, Bool.and_eq_false_iff, Bool.or_eq_false_iff, decide_eq_true_eq, decide_eq_false_iff_not, Bool.not_eq_true', Bool.not_eq_false', List.length_map, ne_eq, Decidable.not_not, Int.not_lt, Int.not_le] at h64)
                  refine tr_exit ?_
                  refine pe_then_exit ?_
                  refine pe_then_exit ?_
                  refine pe_block_eq ?_
                  refine pe_then_normal ?_
                  refine tr_sub hC (.cons (t := 2) rfl (.cons (t := 3) rfl (.cons (t := 9) rfl (.cons (t := 10) rfl (.cons (t := 52) rfl (.cons (t := 53) rfl (.cons (t := 54) rfl .nil))))))) (.cons (t := 3) rfl (.cons (t := 604) rfl (.cons (t := 601) rfl (.cons (t := 600) rfl (.cons (t := 2) rfl (.cons (t := 9) rfl (.cons (t := 602) rfl .nil))))))) rfl ?_
                  refine tr_freeze (m := 602) rfl (.cons (t := 2) rfl (.cons (t := 3) rfl (.cons (t := 9) rfl (.ent (t := 10) rfl (FEnt.mv (xs := m.gors[k].frames) (f := Fm.ps) rfl ⟨[], by simp⟩ Fm.len) (.cons (t := 52) rfl (.cons (t := 53) rfl (.cons (t := 54) rfl .nil))))))) ?_
                  try dsimp only
                  refine tr_seq ?_
                  refine tr_region (fun N29 hN => ?_)
                  refine lx (op_move rfl) rfl ?_
                  refine lx (op_fieldAddr rfl fl70_3 sz68) rfl ?_
                  refine lxr (op_store (m := 9) (rs := [_, _, _, _]) rfl rfl rfl (.one (by (first | exact One.eq rfl | exact One.mv _ _ _ _ _ | exact One.cl _ _ _ | exact One.map _ | exact One.sl _ _ _ | exact One.row _ _ _ _ | exact One.msl _ _ _ _ | exact One.ptr _ _ | exact One.b _ | exact One.cells _))) sz68 rfl rfl rfl) rfl ?_
                  refine lx_end ⟨by kernel_rfl, ?_⟩
                  refine pe_then_normal ?_
                  refine tr_sub hC (.cons (t := 2) rfl (.cons (t := 3) rfl (.cons (t := 9) rfl (.cons (t := 52) rfl (.cons (t := 53) rfl (.cons (t := 54) rfl .nil)))))) (.cons (t := 3) rfl (.cons (t := 604) rfl (.cons (t := 601) rfl (.cons (t := 600) rfl (.cons (t := 2) rfl (.cons (t := 9) rfl .nil)))))) rfl ?_
                  refine tr_region (fun N30 hN => ?_)
                  refine lx (op_fieldAddr rfl fl29_2 sz26) rfl ?_
                  refine lx (op_bload_one (m := 3) rfl rfl ag26 rfl) rfl ?_
                  refine lx (op_bload (m := 9) rfl rfl ag70 sz70) rfl ?_
                  refine lx (op_buildSlice (f := Gr.ps) (xs := [m.gors[k]]) (l := [(0, (Go.Operand.tmp 108))]) ze70 rfl rfl (by decide) el26 sz70 Gr.len (.cons rfl (.agg rfl) .nil) rfl (by decide)) rfl ?_
                  refine lxr (op_append_t (m := 604) (m' := 604) (kk := 110) (f := Gr.ps) rfl rfl rfl (.inl rfl) el26 ze70 sz70 by70 rfl (by decide) Gr.len (by rw [List.length_singleton]; omega) (by rw [List.length_singleton]; omega)) rfl ?_
                  refine lx (op_fieldAddr rfl fl29_2 sz26) rfl ?_
                  refine lxr (op_store (m := 3) (rs := [_, _, _, _]) rfl rfl rfl (.one (by (first | exact One.eq rfl | exact One.mv _ _ _ _ _ | exact One.cl _ _ _ | exact One.map _ | exact One.sl _ _ _ | exact One.row _ _ _ _ | exact One.msl _ _ _ _ | exact One.ptr _ _ | exact One.b _ | exact One.cells _))) sz26 rfl rfl rfl) rfl ?_
                  refine lx_end ⟨by kernel_rfl, ?_⟩
                  refine pe_block_normal ?_
                  refine pe_then_normal ?_
                  refine tr_sub hC (.cons (t := 2) rfl (.cons (t := 3) rfl (.cons (t := 52) rfl (.cons (t := 53) rfl (.cons (t := 54) rfl .nil))))) (.cons (t := 3) rfl (.cons (t := 601) rfl (.cons (t := 600) rfl (.cons (t := 2) rfl (.cons (t := 604) rfl .nil))))) rfl ?_
                  refine tr_region (fun N31 hN => ?_)
                  refine lx (op_add rfl rfl (by omega)) rfl ?_
                  refine lx (op_move rfl) rfl ?_
                  refine lx_end ⟨by kernel_rfl, ?_⟩
                  refine pe_round (⟨(k + 1, xs ++ [m.gors[k]], (N30, 110)), by dsimp only; omega, by dsimp only; rw [hxs, take_at (by omega : k < m.gors.length)]⟩) (by dsimp only; omega) (pe_st hC ?_ ?_ rfl)
                  · try dsimp only [List.cons_append, List.nil_append]
                    first | refine SubF.cons rfl ?_ | (refine SubF.ent rfl ?_ ?_; · repeat (first | exact Ents.nil | refine Ents.cons ?_ ?_ | refine Ent.tup ?_ | refine Ent.agg ?_ | exact Ent.row _ _ _ _ | exact Ent.nil _ _ | exact Ent.func _ | exact Ent.refl _ | exact Ent.of_eq rfl | refine Ent.cells ?_))
                    first | refine SubF.cons rfl ?_ | (refine SubF.ent rfl ?_ ?_; · repeat (first | exact Ents.nil | refine Ents.cons ?_ ?_ | refine Ent.tup ?_ | refine Ent.agg ?_ | exact Ent.row _ _ _ _ | exact Ent.nil _ _ | exact Ent.func _ | exact Ent.refl _ | exact Ent.of_eq rfl | refine Ent.cells ?_))
                    first | refine SubF.cons rfl ?_ | (refine SubF.ent rfl ?_ ?_; · repeat (first | exact Ents.nil | refine Ents.cons ?_ ?_ | refine Ent.tup ?_ | refine Ent.agg ?_ | exact Ent.row _ _ _ _ | exact Ent.nil _ _ | exact Ent.func _ | exact Ent.refl _ | exact Ent.of_eq rfl | refine Ent.cells ?_))
                    first | refine SubF.cons rfl ?_ | (refine SubF.ent rfl ?_ ?_; · repeat (first | exact Ents.nil | refine Ents.cons ?_ ?_ | refine Ent.tup ?_ | refine Ent.agg ?_ | exact Ent.row _ _ _ _ | exact Ent.nil _ _ | exact Ent.func _ | exact Ent.refl _ | exact Ent.of_eq rfl | refine Ent.cells ?_))
                    first | refine SubF.cons rfl ?_ | (refine SubF.ent rfl ?_ ?_; · repeat (first | exact Ents.nil | refine Ents.cons ?_ ?_ | refine Ent.tup ?_ | refine Ent.agg ?_ | exact Ent.row _ _ _ _ | exact Ent.nil _ _ | exact Ent.func _ | exact Ent.refl _ | exact Ent.of_eq rfl | refine Ent.cells ?_))
                    exact SubF.nil
                  · try dsimp only [List.cons_append, List.nil_append]
                    repeat (first | exact SubL.nil | refine SubL.cons rfl ?_)
            · (try simp only [Bool.and_eq_true, Bool.or_eq_true, Bool.and_eq_false_iff, Bool.or_eq_false_iff, decide_eq_true_eq, decide_eq_false_iff_not, Bool.not_eq_true', Bool.not_eq_false', List.length_map, ne_eq, Decidable.not_not, Int.not_lt, Int.not_le] at h55)
              have hfin : xs = m.gors := by rw [hxs, List.take_of_length_le (by omega)]
              subst hfin
              refine tr_exit ?_
              refine pe_then_exit ?_
              refine pe_then_exit ?_
              refine pe_block_eq ?_
              refine pe_then_normal ?_
              refine tr_sub hC (.cons (t := 2) rfl (.cons (t := 3) rfl .nil)) (.cons (t := 3) rfl (.cons (t := 604) rfl (.cons (t := 601) rfl (.cons (t := 600) rfl (.cons (t := 2) rfl .nil))))) rfl ?_
              refine tr_seq ?_
              refine tr_region (fun N32 hN => ?_)
              refine lx (op_bload (m := 3) rfl rfl ag29 sz29) rfl ?_
              refine lxr (op_store_all (m := 2) rfl rfl rfl (.agg rfl) sz29 rfl) rfl ?_
              refine lx_end ⟨by kernel_rfl, ?_⟩
              refine pe_then_normal ?_
              refine tr_sub hC (.cons (t := 2) rfl .nil) (.cons (t := 604) rfl (.cons (t := 601) rfl (.cons (t := 600) rfl (.cons (t := 2) rfl .nil)))) rfl ?_
              refine tr_ret ?_
              refine pe_ownS' [600, 604] rfl hO rfl (.cell (m := 2) rfl rfl ag29 sz29 .nil) (.cons (m := 600) rfl (RenR.blk _ _ _) (.cons (m := 604) rfl (RenR.blk _ _ _) .nil)) rfl rfl rfl ?_
              intro τ ι hs'
              refine ⟨?_, ?_⟩
              · exact aggP_at (.cons (mv_ren (hs' 0 _ rfl).1 (hs' 0 _ rfl).2) (.cons (ent_at (Ent.refl _)) (.cons (mv_ren (hs' 1 _ rfl).1 (hs' 1 _ rfl).2) (.cons (ent_at (Ent.refl _)) .nil))))
              · exact (.moved rfl (fun b o h => h) (.moved rfl (fun b o h => h) .nil))
end Go.Proofs.Ytibcbiamdjmckaa


set_option linter.unusedVariables false
set_option linter.unusedSimpArgs false
namespace Go.Proofs.Ytibcbiamdjmckaa
open Go.AL Go.Ch Go.Hp Go.RowKit
theorem bsearch_own (id : AL.Id) (xs : List Ob) (x : Int) (hs : Srt xs) (hx : xs.length ≤ 4000000) : FnOK Try.prog 55 [mvP id 10 0 xs.length xs.length, eqP (.int .i64 x), clP 56 [] []] [(id, blkX 10 33 (xs.flatMap Ob.ps))] 0 (fun ι => tupP [eqP (.int .i64 (pos xs x : Int)), eqP (.bool (fnd xs x))]) (fun ι => [(id, blkX 10 33 (xs.flatMap Ob.ps))]) := by
  refine fn_ownN Try.func55 rfl Try.ntmps55 rfl ?_
  intro σ0 M Rf R hC hO
  simp only [frameOf, tokOf]
  refine tr_seq ?_
  refine tr_region (fun N0 hN => ?_)
  refine lx (op_assign rfl) rfl ?_
  refine lx (op_assign rfl) rfl ?_
  refine lx_end ⟨by kernel_rfl, ?_⟩
  refine pe_then_normal ?_
  refine tr_sub hC (.cons (t := 0) rfl (.cons (t := 1) rfl (.cons (t := 2) rfl .nil))) (.cons (t := 0) rfl .nil) rfl ?_
  refine tr_seq ?_
  refine tr_region (fun N1 hN => ?_)
  refine lx (op_move rfl) rfl ?_
  first | refine lx (op_len rfl el22) rfl ?_ | refine lx (op_len_row rfl el22) rfl ?_ | refine lx (op_len_mv rfl el22) rfl ?_ | refine lx (op_len_nil rfl el22) rfl ?_
  refine lx (op_assign rfl) rfl ?_
  refine lx_end ⟨by kernel_rfl, ?_⟩
  refine pe_then_normal ?_
  refine tr_sub hC (.cons (t := 0) rfl (.cons (t := 1) rfl (.cons (t := 2) rfl (.cons (t := 8) rfl .nil)))) (.cons (t := 0) rfl .nil) rfl ?_
  refine tr_seq ?_
  refine tr_region (fun N2 hN => ?_)
  refine lx (op_move rfl) rfl ?_
  refine lx (op_assign rfl) rfl ?_
  refine lx (op_assign rfl) rfl ?_
  refine lx_end ⟨by kernel_rfl, ?_⟩
  refine pe_then_normal ?_
  refine tr_sub hC (.cons (t := 0) rfl (.cons (t := 1) rfl (.cons (t := 2) rfl (.cons (t := 8) rfl (.cons (t := 9) rfl (.cons (t := 10) rfl .nil)))))) (.cons (t := 0) rfl .nil) rfl ?_
  refine tr_seq ?_
  refine tr_block ?_
  refine tr_loopK (α := {zz : Nat × Nat // zz.1 ≤ zz.2 ∧ zz.2 ≤ xs.length ∧ (∀ o ∈ xs.take zz.1, o.id < x) ∧ (∀ o ∈ xs.drop zz.2, x ≤ o.id)}) (⟨(0, xs.length), Nat.zero_le _, Nat.le_refl _, by simp, by simp⟩) (fun zz => [(9, eqP (.int .i64 (zz.1.1 : Int))), (10, eqP (.int .i64 (zz.1.2 : Int)))]) (fun zz => []) (fun zz => zz.1.2 - zz.1.1) hC (.cons (t := 0) rfl (.cons (t := 1) rfl (.cons (t := 2) rfl (.cons (t := 8) rfl .nil)))) (.cons (t := 0) rfl .nil) rfl ?_ ?_ (fun zz => ?_)
  · try dsimp only [List.cons_append, List.nil_append]
    first | refine SubF.cons rfl ?_ | (refine SubF.ent rfl ?_ ?_; · repeat (first | exact Ents.nil | refine Ents.cons ?_ ?_ | refine Ent.tup ?_ | refine Ent.agg ?_ | exact Ent.row _ _ _ _ | exact Ent.nil _ _ | exact Ent.func _ | exact Ent.refl _ | exact Ent.of_eq rfl | refine Ent.cells ?_))
    first | refine SubF.cons rfl ?_ | (refine SubF.ent rfl ?_ ?_; · repeat (first | exact Ents.nil | refine Ents.cons ?_ ?_ | refine Ent.tup ?_ | refine Ent.agg ?_ | exact Ent.row _ _ _ _ | exact Ent.nil _ _ | exact Ent.func _ | exact Ent.refl _ | exact Ent.of_eq rfl | refine Ent.cells ?_))
    exact SubF.nil
  · try dsimp only [List.cons_append, List.nil_append]
    repeat (first | exact SubL.nil | refine SubL.cons rfl ?_)
  · obtain ⟨⟨i, j⟩, hij, hj, hi1, hi2⟩ := zz
    try dsimp only at hij
    try dsimp only at hj
    try dsimp only at hi1
    try dsimp only at hi2
    dsimp only [List.cons_append, List.nil_append]
    refine tr_seq ?_
    refine tr_seq ?_
    refine tr_region (fun N3 hN => ?_)
    refine lx (op_move rfl) rfl ?_
    refine lx (op_move rfl) rfl ?_
    refine lx (op_lss rfl rfl) rfl ?_
    refine lx_end ⟨by kernel_rfl, ?_⟩
    refine pe_then_normal ?_
    refine tr_sub hC (.cons (t := 0) rfl (.cons (t := 1) rfl (.cons (t := 2) rfl (.cons (t := 8) rfl (.cons (t := 9) rfl (.cons (t := 10) rfl (.cons (t := 17) rfl .nil))))))) (.cons (t := 0) rfl .nil) rfl ?_
    refine tr_cond rfl (fun h17 => ?_) (fun h17 => ?_)
    · (try simp only [Bool.and_eq_true, Bool.or_eq_true, Bool.and_eq_false_iff, Bool.or_eq_false_iff, decide_eq_true_eq, decide_eq_false_iff_not, Bool.not_eq_true', Bool.not_eq_false', List.length_map, ne_eq, Decidable.not_not, Int.not_lt, Int.not_le] at h17)
      refine tr_skip ?_
      refine pe_then_normal ?_
      refine tr_sub hC (.cons (t := 0) rfl (.cons (t := 1) rfl (.cons (t := 2) rfl (.cons (t := 8) rfl (.cons (t := 9) rfl (.cons (t := 10) rfl .nil)))))) (.cons (t := 0) rfl .nil) rfl ?_
      refine tr_block ?_
      refine tr_seq ?_
      refine tr_region (fun N4 hN => ?_)
      refine lx (op_move rfl) rfl ?_
      refine lx (op_move rfl) rfl ?_
      refine lx (op_add rfl rfl (by omega)) rfl ?_
      refine lx (op_convert rfl us3 ik105) rfl ?_
      refine lx (op_shr rfl rfl rfl) rfl ?_
      refine lx (op_convert rfl us105 ik3) rfl ?_
      refine lx (op_assign rfl) rfl ?_
      refine lx_end ⟨by kernel_rfl, ?_⟩
      refine pe_then_normal ?_
      refine tr_sub hC (.cons (t := 0) rfl (.cons (t := 1) rfl (.cons (t := 2) rfl (.cons (t := 8) rfl (.cons (t := 9) rfl (.cons (t := 10) rfl (.cons (t := 11) rfl .nil))))))) (.cons (t := 0) rfl .nil) rfl ?_
      refine tr_sub hC (.cons (t := 0) rfl (.cons (t := 1) rfl (.cons (t := 2) rfl (.cons (t := 8) rfl (.cons (t := 9) rfl (.cons (t := 10) rfl (.ent (t := 11) rfl ((show Ent _ (eqP (.int .i64 (((i + j) / 2 : Nat) : Int))) from entI (half (by omega)))) .nil))))))) (.cons (t := 0) rfl .nil) rfl ?_
      refine tr_seq ?_
      refine tr_region (fun N5 hN => ?_)
      refine lx (op_move rfl) rfl ?_
      refine lx (op_move rfl) rfl ?_
      refine lx (op_move rfl) rfl ?_
      refine lx (op_index_mv rfl rfl el22 sz33 rfl (by omega)) rfl ?_
      refine lx (op_tload (m := 0) (j := (i + j) / 2) (fo := 0) rfl rfl ag33 sz33 Ob.len (by omega) (List.getElem?_eq_getElem (by omega : (i + j) / 2 < xs.length)) rfl rfl) rfl ?_
      refine lx (op_move rfl) rfl ?_
      first | refine lx (op_callV (l := [(Go.Operand.tmp 28), (Go.Operand.tmp 29)]) rfl (scmp_ok (xs[(i + j) / 2]'(by omega)) x) (.cons rfl (.cons rfl .nil)) fn56) rfl ?_ | refine lx (op_callV (l := [(Go.Operand.tmp 28), (Go.Operand.tmp 29)]) rfl (scmp_ok (xs[(i + j) / 2]'(by omega)) x) (.ent rfl (by repeat (first | exact Ents.nil | refine Ents.cons ?_ ?_ | refine Ent.tup ?_ | refine Ent.agg ?_ | exact Ent.row _ _ _ _ | exact Ent.nil _ _ | exact Ent.func _ | exact Ent.refl _ | exact Ent.of_eq rfl | refine Ent.cells ?_)) (.ent rfl (by repeat (first | exact Ents.nil | refine Ents.cons ?_ ?_ | refine Ent.tup ?_ | refine Ent.agg ?_ | exact Ent.row _ _ _ _ | exact Ent.nil _ _ | exact Ent.func _ | exact Ent.refl _ | exact Ent.of_eq rfl | refine Ent.cells ?_)) .nil)) fn56) rfl ?_
      refine lx (op_lss rfl rfl) rfl ?_
      refine lx_end ⟨by kernel_rfl, ?_⟩
      refine pe_then_normal ?_
      refine tr_sub hC (.cons (t := 0) rfl (.cons (t := 1) rfl (.cons (t := 2) rfl (.cons (t := 8) rfl (.cons (t := 9) rfl (.cons (t := 10) rfl (.cons (t := 11) rfl (.cons (t := 31) rfl .nil)))))))) (.cons (t := 0) rfl .nil) rfl ?_
      refine tr_cond rfl (fun h31 => ?_) (fun h31 => ?_)
      · (try simp only [Bool.and_eq_true, Bool.or_eq_true, Bool.and_eq_false_iff, Bool.or_eq_false_iff, decide_eq_true_eq, decide_eq_false_iff_not, Bool.not_eq_true', Bool.not_eq_false', List.length_map, ne_eq, Decidable.not_not, Int.not_lt, Int.not_le] at h31)
        have hst := lo_step hs (by omega : (i + j) / 2 < xs.length) (cmp_lt h31)
        refine tr_region (fun N6 hN => ?_)
        refine lx (op_move rfl) rfl ?_
        refine lx (op_add rfl rfl (by omega)) rfl ?_
        refine lx (op_assign rfl) rfl ?_
        refine lx_end ⟨by kernel_rfl, ?_⟩
        refine pe_block_normal ?_
        refine pe_round (⟨((i + j) / 2 + 1, j), by dsimp only; omega, by dsimp only; omega, hst, hi2⟩) (by dsimp only; omega) (pe_st hC ?_ ?_ rfl)
        · try dsimp only [List.cons_append, List.nil_append]
          first | refine SubF.cons rfl ?_ | (refine SubF.ent rfl ?_ ?_; · repeat (first | exact Ents.nil | refine Ents.cons ?_ ?_ | refine Ent.tup ?_ | refine Ent.agg ?_ | exact Ent.row _ _ _ _ | exact Ent.nil _ _ | exact Ent.func _ | exact Ent.refl _ | exact Ent.of_eq rfl | refine Ent.cells ?_))
          first | refine SubF.cons rfl ?_ | (refine SubF.ent rfl ?_ ?_; · repeat (first | exact Ents.nil | refine Ents.cons ?_ ?_ | refine Ent.tup ?_ | refine Ent.agg ?_ | exact Ent.row _ _ _ _ | exact Ent.nil _ _ | exact Ent.func _ | exact Ent.refl _ | exact Ent.of_eq rfl | refine Ent.cells ?_))
          first | refine SubF.cons rfl ?_ | (refine SubF.ent rfl ?_ ?_; · repeat (first | exact Ents.nil | refine Ents.cons ?_ ?_ | refine Ent.tup ?_ | refine Ent.agg ?_ | exact Ent.row _ _ _ _ | exact Ent.nil _ _ | exact Ent.func _ | exact Ent.refl _ | exact Ent.of_eq rfl | refine Ent.cells ?_))
          first | refine SubF.cons rfl ?_ | (refine SubF.ent rfl ?_ ?_; · repeat (first | exact Ents.nil | refine Ents.cons ?_ ?_ | refine Ent.tup ?_ | refine Ent.agg ?_ | exact Ent.row _ _ _ _ | exact Ent.nil _ _ | exact Ent.func _ | exact Ent.refl _ | exact Ent.of_eq rfl | refine Ent.cells ?_))
          first | refine SubF.cons rfl ?_ | (refine SubF.ent rfl ?_ ?_; · repeat (first | exact Ents.nil | refine Ents.cons ?_ ?_ | refine Ent.tup ?_ | refine Ent.agg ?_ | exact Ent.row _ _ _ _ | exact Ent.nil _ _ | exact Ent.func _ | exact Ent.refl _ | exact Ent.of_eq rfl | refine Ent.cells ?_))
          first | refine SubF.cons rfl ?_ | (refine SubF.ent rfl ?_ ?_; · repeat (first | exact Ents.nil | refine Ents.cons ?_ ?_ | refine Ent.tup ?_ | refine Ent.agg ?_ | exact Ent.row _ _ _ _ | exact Ent.nil _ _ | exact Ent.func _ | exact Ent.refl _ | exact Ent.of_eq rfl | refine Ent.cells ?_))
          exact SubF.nil
        · try dsimp only [List.cons_append, List.nil_append]
          repeat (first | exact SubL.nil | refine SubL.cons rfl ?_)
      · (try simp only [Bool.and_eq_true, Bool.or_eq_true, Bool.and_eq_false_iff, Bool.or_eq_false_iff, decide_eq_true_eq, decide_eq_false_iff_not, Bool.not_eq_true', Bool.not_eq_false', List.length_map, ne_eq, Decidable.not_not, Int.not_lt, Int.not_le] at h31)
        have hst := hi_step hs (by omega : (i + j) / 2 < xs.length) (cmp_ge h31)
        refine tr_region (fun N7 hN => ?_)
        refine lx (op_move rfl) rfl ?_
        refine lx (op_assign rfl) rfl ?_
        refine lx_end ⟨by kernel_rfl, ?_⟩
        refine pe_block_normal ?_
        refine pe_round (⟨(i, (i + j) / 2), by dsimp only; omega, by dsimp only; omega, hi1, hst⟩) (by dsimp only; omega) (pe_st hC ?_ ?_ rfl)
        · try dsimp only [List.cons_append, List.nil_append]
          first | refine SubF.cons rfl ?_ | (refine SubF.ent rfl ?_ ?_; · repeat (first | exact Ents.nil | refine Ents.cons ?_ ?_ | refine Ent.tup ?_ | refine Ent.agg ?_ | exact Ent.row _ _ _ _ | exact Ent.nil _ _ | exact Ent.func _ | exact Ent.refl _ | exact Ent.of_eq rfl | refine Ent.cells ?_))
          first | refine SubF.cons rfl ?_ | (refine SubF.ent rfl ?_ ?_; · repeat (first | exact Ents.nil | refine Ents.cons ?_ ?_ | refine Ent.tup ?_ | refine Ent.agg ?_ | exact Ent.row _ _ _ _ | exact Ent.nil _ _ | exact Ent.func _ | exact Ent.refl _ | exact Ent.of_eq rfl | refine Ent.cells ?_))
          first | refine SubF.cons rfl ?_ | (refine SubF.ent rfl ?_ ?_; · repeat (first | exact Ents.nil | refine Ents.cons ?_ ?_ | refine Ent.tup ?_ | refine Ent.agg ?_ | exact Ent.row _ _ _ _ | exact Ent.nil _ _ | exact Ent.func _ | exact Ent.refl _ | exact Ent.of_eq rfl | refine Ent.cells ?_))
          first | refine SubF.cons rfl ?_ | (refine SubF.ent rfl ?_ ?_; · repeat (first | exact Ents.nil | refine Ents.cons ?_ ?_ | refine Ent.tup ?_ | refine Ent.agg ?_ | exact Ent.row _ _ _ _ | exact Ent.nil _ _ | exact Ent.func _ | exact Ent.refl _ | exact Ent.of_eq rfl | refine Ent.cells ?_))
          first | refine SubF.cons rfl ?_ | (refine SubF.ent rfl ?_ ?_; · repeat (first | exact Ents.nil | refine Ents.cons ?_ ?_ | refine Ent.tup ?_ | refine Ent.agg ?_ | exact Ent.row _ _ _ _ | exact Ent.nil _ _ | exact Ent.func _ | exact Ent.refl _ | exact Ent.of_eq rfl | refine Ent.cells ?_))
          first | refine SubF.cons rfl ?_ | (refine SubF.ent rfl ?_ ?_; · repeat (first | exact Ents.nil | refine Ents.cons ?_ ?_ | refine Ent.tup ?_ | refine Ent.agg ?_ | exact Ent.row _ _ _ _ | exact Ent.nil _ _ | exact Ent.func _ | exact Ent.refl _ | exact Ent.of_eq rfl | refine Ent.cells ?_))
          exact SubF.nil
        · try dsimp only [List.cons_append, List.nil_append]
          repeat (first | exact SubL.nil | refine SubL.cons rfl ?_)
    · (try simp only [Bool.and_eq_true, Bool.or_eq_true, Bool.and_eq_false_iff, Bool.or_eq_false_iff, decide_eq_true_eq, decide_eq_false_iff_not, Bool.not_eq_true', Bool.not_eq_false', List.length_map, ne_eq, Decidable.not_not, Int.not_lt, Int.not_le] at h17)
      obtain rfl : i = j := by omega
      have hps := pos_at hj hi1 hi2
      refine tr_exit ?_
      refine pe_then_exit ?_
      refine pe_then_exit ?_
      refine pe_block_eq ?_
      refine pe_then_normal ?_
      refine tr_sub hC (.cons (t := 0) rfl (.cons (t := 1) rfl (.cons (t := 2) rfl (.cons (t := 8) rfl (.cons (t := 9) rfl .nil))))) (.cons (t := 0) rfl .nil) rfl ?_
      refine tr_seq ?_
      refine tr_region (fun N8 hN => ?_)
      refine lx (op_move rfl) rfl ?_
      refine lx (op_move rfl) rfl ?_
      refine lx (op_move rfl) rfl ?_
      refine lx (op_lss rfl rfl) rfl ?_
      refine lxc (op_move rfl) rfl (fun h39 => ?_) (fun h39 => ?_)
      · (try simp only [Bool.and_eq_true, Bool.or_eq_true, Bool.and_eq_false_iff, Bool.or_eq_false_iff, decide_eq_true_eq, decide_eq_false_iff_not, Bool.not_eq_true', Bool.not_eq_false', List.length_map, ne_eq, Decidable.not_not, Int.not_lt, Int.not_le] at h39)
        have hil : i < xs.length := by omega
        have hfd := fnd_at hs hil hi1 hi2
        refine lxg rfl rfl rfl (op_move rfl) rfl ?_
        refine lxg rfl rfl rfl (op_move rfl) rfl ?_
        refine lxg rfl rfl rfl (op_move rfl) rfl ?_
        refine lxg rfl rfl rfl (op_index_mv rfl rfl el22 sz33 rfl (by omega)) rfl ?_
        refine lxg rfl rfl rfl (op_tload (m := 0) (j := i) (fo := 0) rfl rfl ag33 sz33 Ob.len (by omega) (List.getElem?_eq_getElem (by omega : i < xs.length)) rfl rfl) rfl ?_
        refine lxg rfl rfl rfl (op_move rfl) rfl ?_
        first | refine lxg rfl rfl rfl (op_callV (l := [(Go.Operand.tmp 44), (Go.Operand.tmp 45)]) rfl (scmp_ok (xs[i]'(by omega)) x) (.cons rfl (.cons rfl .nil)) fn56) rfl ?_ | refine lxg rfl rfl rfl (op_callV (l := [(Go.Operand.tmp 44), (Go.Operand.tmp 45)]) rfl (scmp_ok (xs[i]'(by omega)) x) (.ent rfl (by repeat (first | exact Ents.nil | refine Ents.cons ?_ ?_ | refine Ent.tup ?_ | refine Ent.agg ?_ | exact Ent.row _ _ _ _ | exact Ent.nil _ _ | exact Ent.func _ | exact Ent.refl _ | exact Ent.of_eq rfl | refine Ent.cells ?_)) (.ent rfl (by repeat (first | exact Ents.nil | refine Ents.cons ?_ ?_ | refine Ent.tup ?_ | refine Ent.agg ?_ | exact Ent.row _ _ _ _ | exact Ent.nil _ _ | exact Ent.func _ | exact Ent.refl _ | exact Ent.of_eq rfl | refine Ent.cells ?_)) .nil)) fn56) rfl ?_
        refine lxg rfl rfl rfl (op_eql rfl rfl) rfl ?_
        refine lx (op_pick_t rfl rfl) rfl ?_
        refine lx (op_assign rfl) rfl ?_
        refine lx (op_assign rfl) rfl ?_
        refine lx_end ⟨by kernel_rfl, ?_⟩
        refine pe_then_normal ?_
        refine tr_sub hC (.cons (t := 6) rfl (.cons (t := 7) rfl .nil)) (.cons (t := 0) rfl .nil) rfl ?_
        refine tr_ret ?_
        refine pe_ownT' (rs := [.tmp 6, .tmp 7]) [0] rfl rfl hO rfl (.tmp rfl (.tmp rfl .nil)) .nil rfl rfl rfl ?_
        intro τ ι hs
        refine ⟨?_, ?_⟩
        · rw [hps, hfd]
          exact fun v h => h
        · exact (.kept rfl rfl (fun b o h => h) .nil)
      · (try simp only [Bool.and_eq_true, Bool.or_eq_true, Bool.and_eq_false_iff, Bool.or_eq_false_iff, decide_eq_true_eq, decide_eq_false_iff_not, Bool.not_eq_true', Bool.not_eq_false', List.length_map, ne_eq, Decidable.not_not, Int.not_lt, Int.not_le] at h39)
        have hfd := fnd_no (by omega) hi1
        refine lx_skip rfl rfl rfl (by first | exact notThe_bool rfl | exact notThe_undef) rfl ?_
        refine lx_skip rfl rfl rfl (by first | exact notThe_bool rfl | exact notThe_undef) rfl ?_
        refine lx_skip rfl rfl rfl (by first | exact notThe_bool rfl | exact notThe_undef) rfl ?_
        refine lx_skip rfl rfl rfl (by first | exact notThe_bool rfl | exact notThe_undef) rfl ?_
        refine lx_skip rfl rfl rfl (by first | exact notThe_bool rfl | exact notThe_undef) rfl ?_
        refine lx_skip rfl rfl rfl (by first | exact notThe_bool rfl | exact notThe_undef) rfl ?_
        refine lx_skip rfl rfl rfl (by first | exact notThe_bool rfl | exact notThe_undef) rfl ?_
        refine lx_skip rfl rfl rfl (by first | exact notThe_bool rfl | exact notThe_undef) rfl ?_
        refine lx (op_pick_f rfl rfl) rfl ?_
        refine lx (op_assign rfl) rfl ?_
        refine lx (op_assign rfl) rfl ?_
        refine lx_end ⟨by kernel_rfl, ?_⟩
        refine pe_then_normal ?_
        refine tr_sub hC (.cons (t := 6) rfl (.cons (t := 7) rfl .nil)) (.cons (t := 0) rfl .nil) rfl ?_
        refine tr_ret ?_
        refine pe_ownT' (rs := [.tmp 6, .tmp 7]) [0] rfl rfl hO rfl (.tmp rfl (.tmp rfl .nil)) .nil rfl rfl rfl ?_
        intro τ ι hs
        refine ⟨?_, ?_⟩
        · rw [hps, hfd]
          exact fun v h => h
        · exact (.kept rfl rfl (fun b o h => h) .nil)
theorem search_own (id : AL.Id) (xs : List Ob) (x : Int) (hs : Srt xs) (hx : xs.length ≤ 4000000) : FnOK Try.prog 41 [mvP id 10 0 xs.length xs.length, eqP (.int .i64 x)] [(id, blkX 10 33 (xs.flatMap Ob.ps))] 0 (fun ι => tupP [eqP (.int .i64 (pos xs x : Int)), eqP (.bool (fnd xs x))]) (fun ι => [(id, blkX 10 33 (xs.flatMap Ob.ps))]) := by
  refine fn_ownN Try.func41 rfl Try.ntmps41 rfl ?_
  intro σ0 M Rf R hC hO
  simp only [frameOf, tokOf]
  refine tr_seq ?_
  refine tr_region (fun N0 hN => ?_)
  refine lx (op_assign rfl) rfl ?_
  refine lx (op_assign rfl) rfl ?_
  refine lx_end ⟨by kernel_rfl, ?_⟩
  refine pe_then_normal ?_
  refine tr_sub hC (.cons (t := 0) rfl (.cons (t := 1) rfl .nil)) (.cons (t := 0) rfl .nil) rfl ?_
  refine tr_seq ?_
  refine tr_region (fun N1 hN => ?_)
  refine lx (op_move rfl) rfl ?_
  refine lx (op_move rfl) rfl ?_
  first | refine lx_any rfl (op_callG2 (l := [(Go.Operand.tmp 6), (Go.Operand.tmp 7), (Go.Operand.func 56)]) (add := [(0, (id, blkX 10 33 (xs.flatMap Ob.ps)))]) (ks := []) (φ := tupP [eqP (.int .i64 (pos xs x : Int)), eqP (.bool (fnd xs x))]) (.cons (m := 0) rfl .nil) (bsearch_own id xs x hs hx) (.cons rfl (.cons rfl (.cons rfl .nil))) fn55 rfl rfl rfl (.old rfl .nil) rfl) (dOK_spec rfl) ?_ | refine lx_any rfl (op_callG2 (l := [(Go.Operand.tmp 6), (Go.Operand.tmp 7), (Go.Operand.func 56)]) (add := [(0, (id, blkX 10 33 (xs.flatMap Ob.ps)))]) (ks := []) (φ := tupP [eqP (.int .i64 (pos xs x : Int)), eqP (.bool (fnd xs x))]) (.cons (m := 0) rfl .nil) (bsearch_own id xs x hs hx) (.ent rfl (by repeat (first | exact Ents.nil | refine Ents.cons ?_ ?_ | refine Ent.tup ?_ | refine Ent.agg ?_ | exact Ent.row _ _ _ _ | exact Ent.nil _ _ | exact Ent.func _ | exact Ent.refl _ | exact Ent.of_eq rfl | refine Ent.cells ?_)) (.ent rfl (by repeat (first | exact Ents.nil | refine Ents.cons ?_ ?_ | refine Ent.tup ?_ | refine Ent.agg ?_ | exact Ent.row _ _ _ _ | exact Ent.nil _ _ | exact Ent.func _ | exact Ent.refl _ | exact Ent.of_eq rfl | refine Ent.cells ?_)) (.ent rfl (by repeat (first | exact Ents.nil | refine Ents.cons ?_ ?_ | refine Ent.tup ?_ | refine Ent.agg ?_ | exact Ent.row _ _ _ _ | exact Ent.nil _ _ | exact Ent.func _ | exact Ent.refl _ | exact Ent.of_eq rfl | refine Ent.cells ?_)) .nil))) fn55 rfl rfl rfl (.old rfl .nil) rfl) (dOK_spec rfl) ?_
  refine lx (op_extract rfl rfl) rfl ?_
  refine lx (op_extract rfl rfl) rfl ?_
  refine lx (op_assign rfl) rfl ?_
  refine lx (op_assign rfl) rfl ?_
  refine lx_end ⟨by kernel_rfl, ?_⟩
  refine pe_then_normal ?_
  refine tr_sub hC (.cons (t := 4) rfl (.cons (t := 5) rfl .nil)) (.cons (t := 0) rfl .nil) rfl ?_
  refine tr_ret ?_
  refine pe_ownT' (rs := [.tmp 4, .tmp 5]) [0] rfl rfl hO rfl (.tmp rfl (.tmp rfl .nil)) .nil rfl rfl rfl ?_
  intro τ ι hs
  refine ⟨?_, ?_⟩
  · exact fun v h => h
  · exact (.kept rfl rfl (fun b o h => h) .nil)
end Go.Proofs.Ytibcbiamdjmckaa


namespace Go.AL
open Go.RowKit
theorem run_copy_rowk {P : Program} (w : World) (dT sT ty elem : TypeId) (g o dLen dCap : Nat) (a : Addr) (sLen sCap k : Nat) (cur : Array Value) (t : TypeId) (cs : List Value)
    (hu : P.underlying dT = some (.slice elem)) (hs : (P.info? elem).map (·.size) = some k)
    (hg : w.heap[g]? = some (.cells cur t (0, 0))) (hn : cs.length = Nat.min sLen dLen * k)
    (hsrc : ∀ j v, cs[j]? = some v → w.cell? (a.add j) = some v) (hfit : o + cs.length ≤ cur.size) (h1 : ∀ v ∈ cs, v.oneCell' = true) :
    (Builtin.copy_ #[dT, sT] ty #[.slice (some ⟨g, o, none⟩) dLen dCap, .slice (some a) sLen sCap]).run P w =
      .ok (goInt (Nat.min sLen dLen)) (w.setRow g (cur.toList.take o ++ cs ++ cur.toList.drop (o + cs.length)).toArray) := by
  have hl := run_loadCells_list (P := P) w a cs hsrc
  have hst := run_storeCells_at P g o t cs 0 cur w hg (by simpa using hfit) h1
  cases hq : P.info? elem with
  | none => simp [hq] at hs
  | some i =>
    have hi : i.size = k := by simpa [hq] using hs
    simp [Builtin.copy_, run_underlying hu, Builtin.lenOf, Builtin.firstCells, sizeOf, typeInfo, hq, hi, ← hn, hl, hst]
/-- the block has room for z elements (said of whatever value) -/
def zP (id : Id) (z : Nat) : Pred :=
  ⟨fun σ _ => σ.z id = z ∧ σ.ρ id ≠ none, fun σ τ v hle ⟨h1, h2⟩ => by
     obtain ⟨ob, hob⟩ := Option.ne_none_iff_exists'.1 h2
     exact ⟨by rw [hle.z _ _ hob]; exact h1, by rw [hle.ρ _ _ hob]; simp⟩⟩
/-- a slice's room -/
def capP (id : Id) (off : Nat) : Pred :=
  ⟨fun σ v => v = .int .i64 ((σ.z id - off : Nat) : Int) ∧ σ.ρ id ≠ none, fun σ τ v hle ⟨h1, h2⟩ => by
     obtain ⟨ob, hob⟩ := Option.ne_none_iff_exists'.1 h2
     exact ⟨by rw [hle.z _ _ hob]; exact h1, by rw [hle.ρ _ _ hob]; simp⟩⟩
section
variable {P : Program} {C : Cx} {F : Fr} {L : Tk} {Q : Exit → Act → World → Prop} {cd : Code}
end
section
variable {P : Program} {n N : Nat} {F : Fr} {R : Toks} {d : Option Nat} {T : TypeId} {pos : String} {after : Array Edge} {k : Nat} {t e : TypeId} {ik : IntKind} {id : Id} {off len c : Nat}
/-- s[:hi] beyond its length, within the block -/
theorem op_mslice_xh {x y : Operand} {i : Int} {hi : Nat} (hx : opd F x = some (mvP id k off len c)) (hy : opd F y = some (eqP (.int ik i))) (ht : elemB P t = some e) (hs : sizeB P e = some k) (hii : i = (hi : Int)) (hhi : off + hi ≤ c) :
    OpJ P n N F R ⟨d, .slice t x none (some y) none, T, pos, after, none⟩ ⟨rdo x (mvP id k off len c) ++ rdo y (eqP (.int ik i)), [], [], [], [], mvP id k off hi c⟩ :=
  opj2 hx hy fun σ W a ⟨ad, hv, h1, h2, h3, h5⟩ h4 => by
    have e2 : a.eval y = .int ik i := h4
    have hc := mv_cut (c := c) (lo := 0) (hi := hi) (len := hi) (by omega) h2 h3 h5 (Nat.zero_le _) (Nat.le_refl _)
    simp only [Nat.add_zero, Nat.sub_zero, Nat.zero_mul] at hc
    have hcap : hi ≤ σ.z id - off := by omega
    refine ⟨_, ?_, hc⟩
    subst hii
    simp only [execOp, Instr.sliceAt, Sem.run_bind, run_underlying (elem_of ht), Result.andThen_ok, hv, Option.map_some, Option.map_none, e2]
    simp only [Instr.slice, Sem.run_bind, run_underlying (elem_of ht), Result.andThen_ok, Instr.sliceBounds, Sem.run_pure, Option.isSome_none, Instr.sliceBound, asIntOf]
    simp [hcap, run_sizeOf' hs]
end
theorem drop_rest {α : Type} {cs rest us : List α} {o : Nat} (h : o ≤ cs.length) :
    (cs ++ rest).take o ++ us ++ (cs ++ rest).drop (o + us.length) = (cs.take o ++ us ++ cs.drop (o + us.length)) ++ rest.drop (o + us.length - cs.length) := by
  rw [List.take_append_of_le_length h, List.drop_append]
  simp
/-- a stretch of a block written, past what is known of it -/
theorem Models.wrX {σ : Sg} {R : Toks} {W : World} (h : Models σ R W) {m b κ : Nat} {id : Id} {B : TypeId} {ps qs : List Pred} {us : List Value} (hRm : R m = some (id, blkX κ B ps)) (hb : σ.ρ id = some (some b)) (hκ : κ ≠ 0) {o : Nat} (hu : Vs σ qs us) (ho : o ≤ ps.length) (hl : o + qs.length ≤ σ.z id * κ) :
    ∃ cur : List Value, W.heap[b]? = some (.cells cur.toArray B (0, 0)) ∧ cur.length = σ.z id * κ ∧
      Models σ (fun q => if q = m then some (id, blkX κ B (splice ps o qs)) else R q) (W.setRow b (cur.take o ++ us ++ cur.drop (o + us.length)).toArray) := by
  obtain ⟨cs, rest, hcs, hvs, hz, _⟩ := blk_read h hRm hb
  have l1 := hvs.1
  have l2 := hu.1
  have l3 := hz hκ
  refine ⟨cs ++ rest, hcs, l3, ?_⟩
  have hdr := drop_rest (us := us) (rest := rest) (show o ≤ cs.length by omega)
  have hlen : ((cs ++ rest).take o ++ us ++ (cs ++ rest).drop (o + us.length)).length = σ.z id * κ := by
    simp only [List.length_append, List.length_take, List.length_drop] at l3 ⊢
    omega
  rw [hdr] at hlen ⊢
  exact h.write hRm hb (setRow_heap W b _ _ B (0, 0) hcs) (fun _ => hlen) (fun k hk => setRow_other W b k _ hk) (by simp) rfl rfl rfl (hvs.splice hu o)
section
variable {P : Program} {n N : Nat} {F : Fr} {R : Toks} {d : Option Nat} {T : TypeId} {pos : String} {after : Array Edge} {k : Nat} {t ts e : TypeId} {id : Id}
theorem op_copy_src {x y : Operand} {p : Pred} {m o1 n1 cnt c : Nat} {ps qs : List Pred} {us : List (Nat × Id × Res)} (hx : opd F x = some (mvP id k o1 n1 c)) (hy : opd F y = some p) (hR : R m = some (id, blkX k e ps)) (hus : ∀ z ∈ us, R z.1 = some z.2)
    (ht : elemB P t = some e) (hs : sizeB P e = some k) (hk0 : k ≠ 0) (hpos : 0 < cnt) (hcnt : cnt ≤ n1) (ho : o1 * k ≤ ps.length) (hql : qs.length = cnt * k)
    (hsrc : ∀ (σ : Sg) (W : World) (R : Toks) (v : Value), Models σ R W → R m = some (id, blkX k e ps) → (∀ z ∈ us, R z.1 = some z.2) → p.h σ v → ∃ ad sl sc vs, v = .slice (some ad) sl sc ∧ Nat.min sl n1 = cnt ∧ Vs σ qs vs ∧ ∀ (j : Nat) (u : Value), vs[j]? = some u → W.cell? (ad.add j) = some u) :
    OpJ P n N F R ⟨d, .call { callee := .builtin .copy, args := #[x, y], argTypes := #[t, ts] }, T, pos, after, none⟩
      ⟨rdo x (mvP id k o1 n1 c) ++ rdo y p, us, [(m, (id, blkX k e ps))], [(m, (id, blkX k e (splice ps (o1 * k) qs)))], [], eqP (.int .i64 cnt)⟩ where
  loc := by
    intro σ W R a K hm h2' h3 h4 h5 h6 h7 h8 h9 Q
    have hRm := h6 _ (List.mem_cons_self ..)
    obtain ⟨a1, hv1, x1, x2, x3, x4⟩ := holds_of hx fun w hw => h4 w (List.mem_append_left _ hw)
    have hyp := holds_of hy fun w hw => h4 w (List.mem_append_right _ hw)
    obtain ⟨ad, sl, sc, vs, hv2, hmin, hvs, hcell⟩ := hsrc σ W R _ hm hRm h5 hyp
    obtain ⟨b, hb, rfl⟩ := x4 (by omega)
    have hfit : o1 * k + qs.length ≤ σ.z id * k := by
      rw [hql, ← Nat.add_mul]
      exact Nat.mul_le_mul_right _ (by omega)
    obtain ⟨cur, hcur, hcl, hmod⟩ := hm.wrX hRm hb hk0 hvs ho hfit
    obtain ⟨i, hi, his⟩ : ∃ i, P.info? e = some i ∧ i.size = k := by
      unfold sizeB at hs
      cases hi : P.info? e with
      | none => rw [hi] at hs; cases hs
      | some i => rw [hi] at hs; simp at hs; exact ⟨i, rfl, hs⟩
    have hr := run_copy_rowk (P := P) W t ts T e b (o1 * k) n1 (σ.z id - o1) ad sl sc k cur.toArray e vs (elem_of ht) (by rw [hi]; simp [his]) hcur (by rw [hmin, hvs.1, hql]) hcell (by rw [hvs.1, List.size_toArray, hcl]; exact hfit) hvs.ones
    rw [hmin] at hr
    refine wp_value (v := .int .i64 cnt) ?_ (h9 σ _ _ (Le.refl σ) (fun _ _ _ => rfl) (hmod.congr (updR_turn ..)) rfl)
    simp only [execOp, resolve, invoke, builtin, Sem.run_bind, Sem.run_pure, Result.andThen_ok, List.map_toArray, List.map_cons, List.map_nil, hv1, hv2, hr]
    rfl
  rd := rd_app (rd_of hx) (rd_of hy)
  use := hus
  del := by simpa using hR
  add := by simp
def spl {α : Type} (xs : List α) (o : Nat) (ys : List α) : List α := xs.take o ++ ys ++ xs.drop (o + ys.length)
theorem fm_take {α : Type} {f : α → List Pred} {k : Nat} (hk : ∀ z, (f z).length = k) : ∀ (xs : List α) (o : Nat), (xs.flatMap f).take (o * k) = (xs.take o).flatMap f
  | [], o => by simp
  | x :: xs, 0 => by simp
  | x :: xs, o + 1 => by
    rw [List.flatMap_cons, List.take_succ_cons, List.flatMap_cons, List.take_append, hk, ← fm_take hk xs o, List.take_of_length_le (by rw [hk, Nat.succ_mul]; omega), Nat.succ_mul, Nat.add_sub_cancel]
theorem fm_drop {α : Type} {f : α → List Pred} {k : Nat} (hk : ∀ z, (f z).length = k) : ∀ (xs : List α) (o : Nat), (xs.flatMap f).drop (o * k) = (xs.drop o).flatMap f
  | [], o => by simp
  | x :: xs, 0 => by simp
  | x :: xs, o + 1 => by
    rw [List.flatMap_cons, List.drop_succ_cons, List.drop_append, hk, ← fm_drop hk xs o, List.drop_eq_nil_of_le (by rw [hk, Nat.succ_mul]; omega), Nat.succ_mul, Nat.add_sub_cancel, List.nil_append]
theorem fm_spl {α : Type} {f : α → List Pred} {k : Nat} (hk : ∀ z, (f z).length = k) (xs ys : List α) (o : Nat) : splice (xs.flatMap f) (o * k) (ys.flatMap f) = (spl xs o ys).flatMap f := by
  unfold splice spl
  rw [flatMap_len hk, ← Nat.add_mul, fm_take hk, fm_drop hk, List.flatMap_append, List.flatMap_append]
variable {α : Type} {f : α → List Pred}
/-- copy within one block of the call's own -/
theorem op_copy_in {x y : Operand} {m o1 n1 o2 n2 cnt c c2 : Nat} {xs : List α} (hx : opd F x = some (mvP id k o1 n1 c)) (hy : opd F y = some (mvP id k o2 n2 c2)) (hR : R m = some (id, blkX k e (xs.flatMap f)))
    (ht : elemB P t = some e) (hs : sizeB P e = some k) (hk0 : k ≠ 0) (hk : ∀ z, (f z).length = k) (hpos : 0 < cnt) (hmin : Nat.min n2 n1 = cnt) (ho : o1 ≤ xs.length) (hsx : o2 + cnt ≤ xs.length) :
    OpJ P n N F R ⟨d, .call { callee := .builtin .copy, args := #[x, y], argTypes := #[t, ts] }, T, pos, after, none⟩
      ⟨rdo x (mvP id k o1 n1 c) ++ rdo y (mvP id k o2 n2 c2), [], [(m, (id, blkX k e (xs.flatMap f)))], [(m, (id, blkX k e ((spl xs o1 ((xs.drop o2).take cnt)).flatMap f)))], [], eqP (.int .i64 cnt)⟩ := by
  have hcl : ((xs.drop o2).take cnt).length = cnt := by rw [List.length_take, List.length_drop]; omega
  have hm2 : cnt ≤ n1 ∧ cnt ≤ n2 := by rw [← hmin]; exact ⟨Nat.min_le_right .., Nat.min_le_left ..⟩
  have h := op_copy_src (P := P) (n := n) (N := N) (F := F) (R := R) (d := d) (T := T) (pos := pos) (after := after) (ts := ts) (m := m) (cnt := cnt) (us := []) (qs := ((xs.drop o2).take cnt).flatMap f) hx hy hR (by simp) ht hs hk0 hpos hm2.1
    (by rw [flatMap_len hk]; exact Nat.mul_le_mul_right _ ho) (by rw [flatMap_len hk, hcl]) (by
      intro σ W R v hm hRm _ ⟨a2, hv, y1, y2, y3, y4⟩
      obtain ⟨b, hb, rfl⟩ := y4 (by omega)
      obtain ⟨cs, rest, hcs, hvs, _, _⟩ := blk_read hm hRm hb
      refine ⟨_, _, _, (cs.drop (o2 * k)).take (cnt * k), hv, hmin, ?_, fun j u hu => ?_⟩
      · rw [← fm_take hk, ← fm_drop hk]; exact hvs.drop _ _
      · rw [addr_add]
        rw [List.getElem?_take] at hu
        split at hu
        · rw [List.getElem?_drop] at hu
          exact cell_blk hcs hu
        · cases hu)
  rwa [fm_spl hk] at h
/-- copy from one block of the call's own into another -/
theorem op_copy_two {x y : Operand} {m m2 o1 n1 o2 n2 cnt c c2 κ2 : Nat} {id2 : Id} {B2 : TypeId} {xs ys : List α} (hx : opd F x = some (mvP id k o1 n1 c)) (hy : opd F y = some (mvP id2 k o2 n2 c2)) (hR : R m = some (id, blkX k e (xs.flatMap f))) (hR2 : R m2 = some (id2, blkX κ2 B2 (ys.flatMap f)))
    (ht : elemB P t = some e) (hs : sizeB P e = some k) (hk0 : k ≠ 0) (hk : ∀ z, (f z).length = k) (hpos : 0 < cnt) (hmin : Nat.min n2 n1 = cnt) (ho : o1 ≤ xs.length) (hsx : o2 + cnt ≤ ys.length) :
    OpJ P n N F R ⟨d, .call { callee := .builtin .copy, args := #[x, y], argTypes := #[t, ts] }, T, pos, after, none⟩
      ⟨rdo x (mvP id k o1 n1 c) ++ rdo y (mvP id2 k o2 n2 c2), [(m2, (id2, blkX κ2 B2 (ys.flatMap f)))], [(m, (id, blkX k e (xs.flatMap f)))], [(m, (id, blkX k e ((spl xs o1 ((ys.drop o2).take cnt)).flatMap f)))], [], eqP (.int .i64 cnt)⟩ := by
  have hcl : ((ys.drop o2).take cnt).length = cnt := by rw [List.length_take, List.length_drop]; omega
  have hm2 : cnt ≤ n1 ∧ cnt ≤ n2 := by rw [← hmin]; exact ⟨Nat.min_le_right .., Nat.min_le_left ..⟩
  have h := op_copy_src (P := P) (n := n) (N := N) (F := F) (R := R) (d := d) (T := T) (pos := pos) (after := after) (ts := ts) (m := m) (cnt := cnt) (us := [(m2, (id2, blkX κ2 B2 (ys.flatMap f)))]) (qs := ((ys.drop o2).take cnt).flatMap f) hx hy hR (by simpa using hR2) ht hs hk0 hpos hm2.1
    (by rw [flatMap_len hk]; exact Nat.mul_le_mul_right _ ho) (by rw [flatMap_len hk, hcl]) (by
      intro σ W R v hm _ hus ⟨a2, hv, y1, y2, y3, y4⟩
      obtain ⟨b, hb, rfl⟩ := y4 (by omega)
      obtain ⟨cs, rest, hcs, hvs, _, _⟩ := blk_read hm (hus _ (List.mem_cons_self ..)) hb
      refine ⟨_, _, _, (cs.drop (o2 * k)).take (cnt * k), hv, hmin, ?_, fun j u hu => ?_⟩
      · rw [← fm_take hk, ← fm_drop hk]; exact hvs.drop _ _
      · rw [addr_add]
        rw [List.getElem?_take] at hu
        split at hu
        · rw [List.getElem?_drop] at hu
          exact cell_blk hcs hu
        · cases hu)
  rwa [fm_spl hk] at h
/-- copy from a list into a block of the call's own -/
theorem op_copy_sl {x y : Operand} {m o1 n1 c : Nat} {xs ys : List α} (hx : opd F x = some (mvP id k o1 n1 c)) (hy : opd F y = some (slP f k ys)) (hR : R m = some (id, blkX k e (xs.flatMap f)))
    (ht : elemB P t = some e) (hs : sizeB P e = some k) (hk0 : k ≠ 0) (hk : ∀ z, (f z).length = k) (hpos : 0 < ys.length) (hn : ys.length ≤ n1) (ho : o1 ≤ xs.length) :
    OpJ P n N F R ⟨d, .call { callee := .builtin .copy, args := #[x, y], argTypes := #[t, ts] }, T, pos, after, none⟩
      ⟨rdo x (mvP id k o1 n1 c) ++ rdo y (slP f k ys), [], [(m, (id, blkX k e (xs.flatMap f)))], [(m, (id, blkX k e ((spl xs o1 ys).flatMap f)))], [], eqP (.int .i64 ys.length)⟩ := by
  have h := op_copy_src (P := P) (n := n) (N := N) (F := F) (R := R) (d := d) (T := T) (pos := pos) (after := after) (ts := ts) (m := m) (cnt := ys.length) (us := []) (qs := ys.flatMap f) hx hy hR (by simp) ht hs hk0 hpos hn
    (by rw [flatMap_len hk]; exact Nat.mul_le_mul_right _ ho) (by rw [flatMap_len hk]) (by
      intro σ W R v hm _ _ ⟨ad, cap, hv, h1, h2, h3⟩
      obtain ⟨yb, yo, rfl, hyc⟩ := h3 (by omega)
      obtain ⟨news, hnv, hncell⟩ := slP_cells hm hk hyc
      exact ⟨_, _, _, news, hv, Nat.min_eq_left hn, hnv, fun j u hu => by rw [addr_add]; exact hncell j u hu⟩)
  rwa [fm_spl hk] at h
end
end Go.AL


namespace Go.AL
open Go.RowKit
section
variable {P : Program} {n N : Nat} {F : Fr} {R : Toks} {d : Option Nat} {T : TypeId} {pos : String} {after : Array Edge} {k bytes : Nat} {t tn e : TypeId} {id : Id} {ik kn : IntKind}
theorem firstCells_of {w : World} {k len cap : Nat} {a : Option Addr} {olds : List Value} (hl : olds.length = len * k) (h : ∀ ad, a = some ad → ∀ (j : Nat) (v : Value), olds[j]? = some v → w.cell? (ad.add j) = some v) (h0 : a = none → len = 0) :
    (Builtin.firstCells k len (.slice a len cap)).run P w = .ok olds.toArray w := by
  cases a with
  | none =>
    have := h0 rfl
    subst this
    have : olds = [] := List.eq_nil_of_length_eq_zero (by simpa using hl)
    subst this
    simp [Builtin.firstCells]
  | some ad =>
    have hr := run_loadCells_list (P := P) w ad olds (h ad rfl)
    simp [Builtin.firstCells, ← hl, hr]
/-- 'append(s[:i], make([]T, c)...)' where there is no room: a new block -/
theorem op_append_zeros {x y : Operand} {m m' kk u o1 c z0 : Nat} {z : Value} {i : Int} {c1 : Nat} {ps : List Pred} (hx : opd F x = some (mvP id k 0 o1 c1)) (hy : opd F y = some (eqP (.int ik i))) (hi : i = (c : Int)) (hc : 0 < c) (hu : lk F u = some (zP id z0)) (hgrow : z0 < o1 + c)
    (hR : R m = some (id, blkX k e ps)) (hm' : R m' = none) (hop : o1 * k ≤ ps.length)
    (ht : elemB P t = some e) (htn : P.underlying tn = some (.int kn)) (hz : zeroB P e = some (some z)) (hs : sizeB P e = some k) (hby : bytesB P e = some bytes) (hzs : z.cells.size = k) (hk0 : 0 < k) (h1 : z.cells.toList.all Value.oneCell' = true) (hb1 : (o1 + c) * bytes ≤ 140737488355328) (hb2 : o1 + c ≤ 1152921504606846976) :
    OpJ P n N F R ⟨d, .call { callee := .builtin .append, args := #[x, y], argTypes := #[t, tn] }, T, pos, after, none⟩
      ⟨rdo x (mvP id k 0 o1 c1) ++ (rdo y (eqP (.int ik i)) ++ [(u, zP id z0)]), [(m, (id, blkX k e ps))], [], [(m', ((N, kk), blkX k e (ps.take (o1 * k) ++ (List.replicate c (z.cells.toList.map eqP)).flatten)))], [kk], mvP (N, kk) k 0 (o1 + c) (o1 + c)⟩ where
  loc := by
    intro σ W R a K hm h2 h3 h4 h5 h6 h7 h8 h9 Q
    have hid := h8 kk (by simp)
    have hRm := h5 _ (List.mem_cons_self ..)
    have hRm' : R m' = none := by have h := h7 (m', ((N, kk), blkX k e (ps.take (o1 * k) ++ (List.replicate c (z.cells.toList.map eqP)).flatten))) (by simp); simpa using h
    obtain ⟨a1, hv, x1, x2, x3, x4⟩ := holds_of hx fun w hw => h4 w (List.mem_append_left _ hw)
    have hyv : a.eval y = .int ik i := holds_of hy fun w hw => h4 w (List.mem_append_right _ (List.mem_append_left _ hw))
    have hzz : σ.z id = z0 := (h4 (u, zP id z0) (List.mem_append_right _ (List.mem_append_right _ (by simp)))).1
    simp only [Nat.sub_zero, Nat.zero_add, Nat.zero_mul] at hv x1 x4
    rw [hzz] at hv x1 x2 x4
    obtain ⟨ti, hti, htz, hts, htb⟩ := info_of hz hs hby
    obtain ⟨olds, hov, hol, hfc⟩ : ∃ olds : List Value, Vs σ (ps.take (o1 * k)) olds ∧ olds.length = o1 * k ∧ (Builtin.firstCells ti.size o1 (.slice a1 o1 z0)).run P W.drew = .ok olds.toArray W.drew := by
      by_cases hz0 : z0 = 0
      · have : o1 = 0 := by omega
        subst this
        refine ⟨[], by simp [Vs], by simp, firstCells_of (by simp) (by simp) (fun _ => rfl)⟩
      · obtain ⟨b, hb, rfl⟩ := x4 (by omega)
        obtain ⟨cs, rest, hcs, hvs, hz', _⟩ := blk_read hm hRm hb
        refine ⟨cs.take (o1 * k), by simpa using hvs.drop 0 (o1 * k), by rw [List.length_take, hvs.1]; omega, firstCells_of (by rw [List.length_take, hvs.1, hts]; omega) (fun ad had j v hj => ?_) (by simp)⟩
        simp only [Option.some.injEq] at had
        subst had
        rw [addr_add, Nat.zero_add]
        rw [List.getElem?_take] at hj
        split at hj
        · have := cell_blk hcs hj
          exact this
        · cases hj
    have hr := Lib.run_append_grow_zeros (P := P) W t tn T e ti z ik kn (elem_of ht) htn hti htz a1 o1 z0 olds hfc c hc (by omega) (by omega) (by omega) (by rw [htb]; have : c * bytes ≤ (o1 + c) * bytes := Nat.mul_le_mul_right _ (by omega); omega) (by rw [htb]; exact growslice_fits (by omega) hb1)
    have g1 := grownCap_ge W (o1 + c) z0 e
    have g2 := grownCap_le_maxLen W (o1 + c) z0 e (by unfold maxLen; omega)
    have hzc : Vs σ ((List.replicate c (z.cells.toList.map eqP)).flatten) (Builtin.zeroCells z.cells c).toList := by
      have e1 : (Builtin.zeroCells z.cells c).toList = (List.replicate c z.cells.toList).flatten := by
        simp only [Builtin.zeroCells, Array.toList_map, Array.toList_range]
        rw [hzs, ← flatten_replicate_range hzs hk0, hzs]
      rw [e1]
      have : (List.replicate c (z.cells.toList.map eqP)).flatten = ((List.replicate c z.cells.toList).flatten).map eqP := by simp [List.map_flatten]
      rw [this]
      refine Vs.eqs ?_
      rw [List.all_eq_true]
      intro u hu
      obtain ⟨l, hl, hul⟩ := List.mem_flatten.1 hu
      rw [List.mem_replicate] at hl
      rw [List.all_eq_true] at h1
      exact h1 u (by rw [← hl.2]; exact hul)
    have hmod := hm.drew.alloc (id := (N, kk)) (z := grownCap W (o1 + c) z0 e) (n := m') (r := blkX k e (ps.take (o1 * k) ++ (List.replicate c (z.cells.toList.map eqP)).flatten))
      (o := .cells (olds.toArray ++ Builtin.zeroCells z.cells c ++ Builtin.zeroCells z.cells (grownCap W (o1 + c) z0 e - (o1 + c))) e) hid hRm'
      ⟨olds ++ (Builtin.zeroCells z.cells c).toList, (Builtin.zeroCells z.cells (grownCap W (o1 + c) z0 e - (o1 + c))).toList, by congr 1; apply Array.ext'; simp, (hov.append hzc).mono (le_bind hid), fun _ => by
        rw [bind_z, List.length_append, List.length_append, hol, zc_len, zc_len, hzs, ← Nat.add_mul, ← Nat.add_mul]; congr 1; omega, fun i => no_imm_new hm.drew i⟩
    refine wp_value (v := .slice (some ⟨W.heap.size, 0, none⟩) (o1 + c) (grownCap W (o1 + c) z0 e)) ?_ (h9 _ _ _ (le_bind hid) keep_bind (hmod.congr (updR_new ..)) ?_)
    · subst hi
      simp only [execOp, resolve, invoke, builtin, Sem.run_bind, Sem.run_pure, Result.andThen_ok, List.map_toArray, List.map_cons, List.map_nil, hv, hyv, hr]
    · exact ⟨_, by rw [bind_z]; rfl, by rw [bind_z]; omega, by rw [bind_z]; exact g2, by rw [bind_at]; simp, fun _ => ⟨_, bind_at .., by simp⟩⟩
  rd := rd_app (rd_of hx) (rd_app (rd_of hy) (by intro y hy; simp at hy; subst hy; exact hu))
  use := by simpa using hR
  del := by simp
  add := by simpa using hm'
theorem run_overlaps_nil (W : World) (tS tR e : TypeId) (ht : P.underlying tS = some (.slice e)) (size : Nat) (hz : (Go.sizeOf e).run P W = .ok size W) (la ca : Nat) (b : Option Addr) (lb cb : Nat) :
    (Extern.SlicesOverlaps.overlaps #[tS, tS] #[tR] #[.slice none la ca, .slice b lb cb]).run P W = .ok (.bool false) W := by
  change Sem.run P (α := Value) (do
    let some t := (#[tS, tS] : Array TypeId)[0]? | stuck "slices.overlaps: no parameter types"
    let .slice elem ← underlying t | stuck "slices.overlaps: slice type expected"
    let size ← sizeOf elem
    match (none : Option Addr), (b : Option Addr) with
    | some a, some b =>
      if la = 0 ∨ lb = 0 ∨ size = 0 then pure (Value.bool false)
      else if a.block != b.block && (← frozen a) && (← frozen b) then unsupported .addressObserved
      else do
        if a.block != b.block then do
          noView a; noView b
          if ← mayBeOne a b then return Value.bool ((← choose (.extern "sameAddr.stringBytes" 2)) == 1)
        pure (Value.bool (a.block == b.block && a.off < b.off + lb * size && b.off < a.off + la * size))
    | _, _ => pure (Value.bool false)) W = _
  simp [run_underlying ht, hz]
/-- slices.overlaps of a row of the call's own and a view of another block of its own -/
theorem op_overlaps {f : FuncId} {fn : Func} {tS tR : TypeId} {ts : Array TypeId} {x y : Operand} {α : Type} {g : α → List Pred} {ys : List α} {ida : Id} {ma mb na κ off len c : Nat} {ea eb : TypeId} {ps : List Pred}
    (hf : P.funcs[f]? = some fn) (hb : ((fn.name == "runtime.NumGoroutine") = false ∧ fn.body.isNone = true) ∧ Extern.findNext fn = none) (he : Extern.find fn = some (Extern.SlicesOverlaps.overlaps #[tS, tS] #[tR]))
    (hx : opd F x = some (rowP ida g k ys)) (hy : opd F y = some (mvP id k off len c)) (hRa : R ma = some (ida, tail ea k na)) (hRb : R mb = some (id, blkX κ eb ps)) (hne : Nat.beq ma mb = false) (hn : 0 < len) (hk : κ ≠ 0)
    (ht : elemB P tS = some e) (hs : sizeB P e = some k) :
    OpJ P n N F R ⟨d, .call { callee := .value (.func f), args := #[x, y], argTypes := ts }, T, pos, after, none⟩
      ⟨rdo x (rowP ida g k ys) ++ rdo y (mvP id k off len c), [(ma, (ida, tail ea k na)), (mb, (id, blkX κ eb ps))], [], [], [], eqP (.bool false)⟩ where
  loc := by
    intro σ W R a K hm h2 h3 h4 h5 h6 h7 h8 h9 Q
    have hA := h5 _ (List.mem_cons_self ..)
    have hB := h5 _ (List.mem_cons_of_mem _ (List.mem_cons_self ..))
    have hxv := holds_of hx fun w hw => h4 w (List.mem_append_left _ hw)
    obtain ⟨a2, hyv, y1, y2, y3, y4⟩ := holds_of hy fun w hw => h4 w (List.mem_append_right _ hw)
    obtain ⟨b, hb', rfl⟩ := y4 (by omega)
    have hrun : ∀ (v : Value), a.eval x = v → (Extern.SlicesOverlaps.overlaps #[tS, tS] #[tR] #[v, .slice (some ⟨b, off * k, none⟩) len (σ.z id - off)]).run P W = .ok (.bool false) W → (execOp a.eval ⟨d, .call { callee := .value (.func f), args := #[x, y], argTypes := ts }, T, pos, after, none⟩).run P W = .ok (.value (.bool false)) W := by
      intro v hv hr
      have hcf := run_callFunc_extern (P := P) hf hb.1.1 hb.1.2 hb.2 he #[v, .slice (some ⟨b, off * k, none⟩) len (σ.z id - off)] W
      rw [hr] at hcf
      have e0 : (a.eval (.func f)) = .func (.func f) #[] #[] := rfl
      simp only [execOp, resolve, e0, Deferred.ofValue, Sem.run_bind, Sem.run_pure, Result.andThen_ok, invoke, List.map_toArray, List.map_cons, List.map_nil, hv, hyv]
      rw [show ∀ x : Array Value, (#[] ++ x) ++ #[] = x by intro x; simp]
      rw [hcf]
      rfl
    refine wp_value (hrun _ rfl ?_) (h9 σ W _ (Le.refl σ) (fun _ _ _ => rfl) (by rw [updR_same]; exact hm) rfl)
    obtain ⟨hge, o, ho, cs, rest, rfl, hvs, hz', _⟩ := hm.res mb id _ hB b hb'
    rcases hxv with ⟨hxn, _⟩ | ⟨b1, hxs, hb1, z1, z2, z3⟩
    · rw [hxn]
      exact run_overlaps_nil W tS tR e (elem_of ht) k (run_sizeOf' hs W) _ _ _ _ _
    · rw [hxs]
      obtain ⟨_, o1, ho1, cs1, rfl, hl1, hn1⟩ := hm.res ma ida _ hA b1 hb1
      have hmab : ma ≠ mb := fun e => by subst e; simp at hne
      have hbb : b1 ≠ b := fun e => by
        subst e
        exact hm.sep ma mb _ _ b1 hmab hA hB hb1 hb'
      have hlen := hz' hk
      refine Lib.run_overlaps_apart W tS tR e (elem_of ht) k (fun w => run_sizeOf' hs w) ⟨b1, 0, none⟩ ⟨b, off * k, none⟩ _ _ _ _ hbb ea eb cs1.length ((cs ++ rest).length) ?_ ?_ ?_ ?_ ?_
      · simp [World.shape?, ho1]
      · simp [World.shape?, ho]
      · rw [hlen]
        exact Nat.mul_ne_zero (by omega) hk
      · simp [World.frozen?, ho1]
      · simp [World.frozen?, ho1]
  rd := rd_app (rd_of hx) (rd_of hy)
  use := by
    intro z hz
    simp at hz
    rcases hz with rfl | rfl
    · exact hRa
    · exact hRb
  del := by simp
  add := by simp
end
section
variable {P : Program} {C : Cx} {F : Fr} {L : Tk} {Q : Exit → Act → World → Prop} {cd : Code}
/-- the room of a block gets a number -/
theorem tr_room2 (s u : Nat) {id : Id} {k off n c : Nat} (hs : lk F s = some (mvP id k off n c)) (h : ∀ z, off + n ≤ z → c ≤ z → z ≤ maxLen → Tr P C cd ((s, mvP id k off n z) :: (u, zP id z) :: F) L Q) : Tr P C cd F L Q := by
  rintro a W ⟨σ, h1, h2, h3⟩
  obtain ⟨ad, hv, ⟨x1, x1'⟩, x2, x3, x4⟩ := h3.fr s _ hs
  refine h (σ.z id) x1 x1' x2 a W ⟨σ, h1, h2, h3.size, h3.defers, h3.mod, fun t' p hp => ?_⟩
  rw [lk_cons] at hp
  split at hp
  · rename_i e; subst e; simp at hp; subst hp; exact ⟨ad, hv, ⟨x1, Nat.le_refl _⟩, x2, x3, x4⟩
  · rw [lk_cons] at hp
    split at hp
    · simp at hp; subst hp; exact ⟨rfl, x3⟩
    · exact h3.fr t' p hp
end
theorem Ent.mvc {id : Id} {k off n c c' : Nat} (h : c' ≤ off + n) : Ent (mvP id k off n c) (mvP id k off n c') := fun σ v ⟨a, hv, ⟨h1, h2⟩, h3, h4, h5⟩ => ⟨a, hv, ⟨h1, by omega⟩, h3, h4, h5⟩
theorem mv_ren' {τ : Sg} {old new : Id} {k off n c c' n' : Nat} (h1 : τ.ρ new = τ.ρ old) (h2 : τ.z new = τ.z old) (hn : n' = n) (hc : c' ≤ off + n) : ∀ v, (mvP old k off n c).h τ v → (mvP new k off n' c').h τ v := fun v h => by
  subst hn
  exact Ent.mvc hc τ v ((Ren.mv k off n' c 0 0 []).p τ old new v h1 h2 h)
section
variable {P : Program} {n N : Nat} {F : Fr} {R : Toks} {d : Option Nat} {T : TypeId} {pos : String} {after : Array Edge} {k : Nat} {t e : TypeId} {id : Id} {off len c z : Nat}
theorem op_cap_z {x : Operand} (u : Nat) (hx : opd F x = some (mvP id k off len c)) (hu : lk F u = some (zP id z)) (ht : elemB P t = some e) :
    OpJ P n N F R ⟨d, .call { callee := .builtin .cap, args := #[x], argTypes := #[t] }, T, pos, after, none⟩ ⟨rdo x (mvP id k off len c) ++ [(u, zP id z)], [], [], [], [], eqP (.int .i64 ((z - off : Nat) : Int))⟩ :=
  opj_pure (rd_app (rd_of hx) (by intro y hy; simp at hy; subst hy; exact hu)) fun σ W a hr => by
    obtain ⟨b, hv, _, _, h3, _⟩ := holds_of hx fun w hw => hr w (List.mem_append_left _ hw)
    have hz : σ.z id = z := (hr (u, zP id z) (List.mem_append_right _ (by simp))).1
    subst hz
    refine ⟨.int .i64 ((σ.z id - off : Nat) : Int), ?_, rfl⟩
    simp [execOp, resolve, invoke, builtin, Builtin.cap_, hv, run_underlying (elem_of ht), goInt]
theorem OpJ.entTok {o : Oper} {rd : List (Nat × Pred)} {use del : List (Nat × Id × Res)} {m : Nat} {i : Id} {r r' : Res} {new : List Nat} {φ : Pred} (h : OpJ P n N F R o ⟨rd, use, del, [(m, (i, r))], new, φ⟩) (he : ∀ (σ : Sg) (b : Nat) (o : Obj), r.h σ i b o → r'.h σ i b o) :
    OpJ P n N F R o ⟨rd, use, del, [(m, (i, r'))], new, φ⟩ where
  loc := fun σ W R a K h1 h2 h3 h4 h5 h6 h7 h8 h9 => h.loc σ W R a K h1 h2 h3 h4 h5 h6 (fun x hx => by simp at hx; subst hx; exact h7 (m, (i, r')) (by simp)) h8 fun σ' W' v g1 g2 g3 g4 => h9 σ' W' v g1 g2 (g3.resMono (fun n => n) (fun n m h _ _ => h) (fun q y hy => by
      unfold updR at hy ⊢
      simp only [List.find?_cons, List.find?_nil] at hy ⊢
      by_cases hq : (m == q) = true
      · simp only [hq] at hy ⊢
        cases hy
        exact ⟨r, rfl, fun b o => he σ' b o⟩
      · simp only [hq] at hy ⊢
        exact ⟨y.2, hy, fun b o h => h⟩)) g4
  rd := h.rd
  use := h.use
  del := h.del
  add := by
    intro x hx
    simp at hx
    subst hx
    exact h.add (m, (i, r)) (by simp)
theorem Ents.app : ∀ {a b c d : List Pred}, Ents a b → Ents c d → Ents (a ++ c) (b ++ d)
  | _, _, _, _, .nil, h => h
  | _, _, _, _, .cons h t, k => .cons h (Ents.app t k)
theorem Ents.rep {zs qs : List Pred} (h : Ents zs qs) : ∀ c, Ents (List.replicate c zs).flatten (List.replicate c qs).flatten
  | 0 => .nil
  | c + 1 => by simpa [List.replicate_succ] using Ents.app h (Ents.rep h c)
/-- 'append(s[:i], make([]T, c)...)' where there is no room, typed -/
theorem op_append_zeros_t {α : Type} {f : α → List Pred} {bytes : Nat} {tn : TypeId} {ik kn : IntKind} {x y : Operand} {m m' kk u o1 cz z0 : Nat} {z : Value} {i : Int} {c1 : Nat} {xs : List α} (d0 : α) (hx : opd F x = some (mvP id k 0 o1 c1)) (hy : opd F y = some (eqP (.int ik i))) (hi : i = (cz : Int)) (hc : 0 < cz) (hu : lk F u = some (zP id z0)) (hgrow : z0 < o1 + cz)
    (hR : R m = some (id, blkX k e (xs.flatMap f))) (hm' : R m' = none) (hop : o1 ≤ xs.length) (hk : ∀ z, (f z).length = k) (hd0 : Ents (z.cells.toList.map eqP) (f d0))
    (ht : elemB P t = some e) (htn : P.underlying tn = some (.int kn)) (hz : zeroB P e = some (some z)) (hs : sizeB P e = some k) (hby : bytesB P e = some bytes) (hzs : z.cells.size = k) (hk0 : Nat.blt 0 k = true) (h1 : z.cells.toList.all Value.oneCell' = true) (hb1 : (o1 + cz) * bytes ≤ 140737488355328) (hb2 : o1 + cz ≤ 1152921504606846976) :
    OpJ P n N F R ⟨d, .call { callee := .builtin .append, args := #[x, y], argTypes := #[t, tn] }, T, pos, after, none⟩
      ⟨rdo x (mvP id k 0 o1 c1) ++ (rdo y (eqP (.int ik i)) ++ [(u, zP id z0)]), [(m, (id, blkX k e (xs.flatMap f)))], [], [(m', ((N, kk), blkX k e ((xs.take o1 ++ List.replicate cz d0).flatMap f)))], [kk], mvP (N, kk) k 0 (o1 + cz) (o1 + cz)⟩ := by
  have h := op_append_zeros (P := P) (n := n) (N := N) (F := F) (R := R) (d := d) (T := T) (pos := pos) (after := after) (m := m) (m' := m') (kk := kk) (u := u) hx hy hi hc hu hgrow hR hm' (by rw [flatMap_len hk]; exact Nat.mul_le_mul_right _ hop) ht htn hz hs hby hzs (Nat.le_of_ble_eq_true hk0) h1 hb1 hb2
  refine h.entTok fun σ b o hr => blk_ents' ?_ σ _ b o hr
  rw [List.flatMap_append, fm_take hk]
  refine Ents.app (Ents.refl _) ?_
  rw [← flatten_rep]
  exact Ents.rep hd0 cz
end
def insL {α : Type} (xs : List α) (i : Nat) (v : α) : List α := xs.take i ++ v :: xs.drop i
theorem insL_len {α : Type} {xs : List α} {i : Nat} {v : α} (h : i ≤ xs.length) : (insL xs i v).length = xs.length + 1 := by
  unfold insL; simp; omega
theorem insL_end {α : Type} {xs : List α} {v : α} : xs ++ [v] = insL xs xs.length v := by
  unfold insL; simp
theorem insL_grow {α : Type} {xs : List α} {i c : Nat} {v d : α} (h : i < xs.length) (hc : c = xs.length + 1 - i) : spl (spl (xs.take i ++ List.replicate c d) i [v]) (i + 1) (xs.drop i) = insL xs i v := by
  have hl : (xs.take i).length = i := by rw [List.length_take]; omega
  unfold spl insL
  rw [List.take_left' hl]
  have e1 : (xs.take i ++ [v] ++ (xs.take i ++ List.replicate c d).drop (i + [v].length)).take (i + 1) = xs.take i ++ [v] := by
    rw [List.take_left' (by simp [hl])]
  have e2 : (xs.take i ++ [v] ++ (xs.take i ++ List.replicate c d).drop (i + [v].length)).drop (i + 1 + (xs.drop i).length) = [] := List.drop_eq_nil_of_le (by simp; omega)
  rw [e1, e2]
  simp
theorem insL_in {α : Type} {xs : List α} {i : Nat} {v : α} (h : i < xs.length) : spl (spl xs (i + 1) ((xs.drop i).take (xs.length - i))) i [v] = insL xs i v := by
  have hl : (xs.take i).length = i := by rw [List.length_take]; omega
  rw [List.take_of_length_le (by rw [List.length_drop]; omega)]
  unfold spl insL
  have e1 : (xs.take (i + 1) ++ xs.drop i ++ xs.drop (i + 1 + (xs.drop i).length)).take i = xs.take i := by
    rw [List.append_assoc, List.take_append_of_le_length (by rw [List.length_take]; omega), List.take_take, Nat.min_eq_left (by omega)]
  have e2 : (xs.take (i + 1) ++ xs.drop i ++ xs.drop (i + 1 + (xs.drop i).length)).drop (i + [v].length) = xs.drop i := by
    have e3 : xs.drop (i + 1 + (xs.drop i).length) = [] := List.drop_eq_nil_of_le (by rw [List.length_drop]; omega)
    rw [e3, List.append_nil, List.length_singleton, List.drop_left' (by rw [List.length_take]; omega)]
  rw [e1, e2]
  simp
theorem insL_grow2 {α : Type} {xs : List α} {i c : Nat} {v d : α} (h : i < xs.length) (hc : c = xs.length + 1 - i) : spl (spl (xs.take i ++ List.replicate c d) (0 + i) [v]) (0 + (i + 1)) ((xs.drop (0 + i)).take (xs.length - i)) = insL xs i v := by
  have e : (xs.drop i).take (xs.length - i) = xs.drop i := List.take_of_length_le (by rw [List.length_drop]; omega)
  rw [Nat.zero_add, Nat.zero_add, e]
  exact insL_grow h hc
theorem insL_in2 {α : Type} {xs : List α} {i : Nat} {v : α} (h : i < xs.length) : spl (spl xs (0 + (i + 1)) ((xs.drop (0 + i)).take (xs.length - i))) (0 + i) [v] = insL xs i v := by
  rw [Nat.zero_add, Nat.zero_add]
  exact insL_in h
end Go.AL


set_option linter.unusedVariables false
set_option linter.unusedSimpArgs false
namespace Go.Proofs.Ytibcbiamdjmckaa
open Go.AL Go.Ch Go.Hp Go.RowKit
theorem insert_ok (id idv : AL.Id) (xs : List Ob) (i : Nat) (v : Ob) (hi : i ≤ xs.length) (hx : xs.length ≤ 4000000) : FnOK Try.prog 43 [mvP id 10 0 xs.length xs.length, eqP (.int .i64 (i : Int)), rowP idv Ob.ps 10 [v]] [(id, blkX 10 33 (xs.flatMap Ob.ps)), (idv, tail 33 10 (([v] : List Ob).length * 10))] 1 (fun ι => mvP (ι 0) 10 0 (xs.length + 1) (xs.length + 1)) (fun ι => [(ι 0, blkX 10 33 ((insL xs i v).flatMap Ob.ps))]) := by
  have hv1 : ([v] : List Ob).length = 1 := rfl
  refine fn_ownN Try.func43 rfl Try.ntmps43 rfl ?_
  intro σ0 M Rf R hC hO
  simp only [frameOf, tokOf]
  refine tr_seq ?_
  refine tr_region (fun N0 hN => ?_)
  refine lx (op_assign rfl) rfl ?_
  refine lx_end ⟨by kernel_rfl, ?_⟩
  refine pe_then_normal ?_
  refine tr_sub hC (.cons (t := 0) rfl (.cons (t := 1) rfl (.cons (t := 2) rfl .nil))) (.cons (t := 0) rfl (.cons (t := 1) rfl .nil)) rfl ?_
  refine tr_seq ?_
  refine tr_region (fun N1 hN => ?_)
  refine lx (op_move rfl) rfl ?_
  refine lx (op_move rfl) rfl ?_
  refine lx (op_mslice_l rfl rfl el22 sz33 rfl (by omega)) rfl ?_
  refine lx_end ⟨by kernel_rfl, ?_⟩
  refine pe_then_normal ?_
  refine tr_sub hC (.cons (t := 0) rfl (.cons (t := 1) rfl (.cons (t := 2) rfl .nil))) (.cons (t := 0) rfl (.cons (t := 1) rfl .nil)) rfl ?_
  refine tr_seq ?_
  refine tr_region (fun N2 hN => ?_)
  refine lx (op_move rfl) rfl ?_
  first | refine lx (op_len rfl el22) rfl ?_ | refine lx (op_len_row rfl el22) rfl ?_ | refine lx (op_len_mv rfl el22) rfl ?_ | refine lx (op_len_nil rfl el22) rfl ?_
  refine lx (op_assign rfl) rfl ?_
  refine lx_end ⟨by kernel_rfl, ?_⟩
  refine pe_then_normal ?_
  refine tr_sub hC (.cons (t := 0) rfl (.cons (t := 1) rfl (.cons (t := 2) rfl (.cons (t := 7) rfl .nil)))) (.cons (t := 0) rfl (.cons (t := 1) rfl .nil)) rfl ?_
  refine tr_seq ?_
  refine tr_seq ?_
  refine tr_region (fun N3 hN => ?_)
  refine lx (op_move rfl) rfl ?_
  refine lx (op_eql rfl rfl) rfl ?_
  refine lx_end ⟨by kernel_rfl, ?_⟩
  refine pe_then_normal ?_
  refine tr_sub hC (.cons (t := 0) rfl (.cons (t := 1) rfl (.cons (t := 2) rfl (.cons (t := 7) rfl (.cons (t := 16) rfl .nil))))) (.cons (t := 0) rfl (.cons (t := 1) rfl .nil)) rfl ?_
  refine tr_cond rfl (fun h16 => ?_) (fun h16 => ?_)
  · (try simp only [Bool.and_eq_true, Bool.or_eq_true, Bool.and_eq_false_iff, Bool.or_eq_false_iff, decide_eq_true_eq, decide_eq_false_iff_not, Bool.not_eq_true', Bool.not_eq_false', List.length_map, ne_eq, Decidable.not_not, Int.not_lt, Int.not_le] at h16)
    exact absurd h16 (by simp)
  · (try simp only [Bool.and_eq_true, Bool.or_eq_true, Bool.and_eq_false_iff, Bool.or_eq_false_iff, decide_eq_true_eq, decide_eq_false_iff_not, Bool.not_eq_true', Bool.not_eq_false', List.length_map, ne_eq, Decidable.not_not, Int.not_lt, Int.not_le] at h16)
    refine tr_skip ?_
    refine pe_then_normal ?_
    refine tr_sub hC (.cons (t := 0) rfl (.cons (t := 1) rfl (.cons (t := 2) rfl (.cons (t := 7) rfl .nil)))) (.cons (t := 0) rfl (.cons (t := 1) rfl .nil)) rfl ?_
    refine tr_seq ?_
    refine tr_region (fun N5 hN => ?_)
    refine lx (op_move rfl) rfl ?_
    first | refine lx (op_len rfl el22) rfl ?_ | refine lx (op_len_row rfl el22) rfl ?_ | refine lx (op_len_mv rfl el22) rfl ?_ | refine lx (op_len_nil rfl el22) rfl ?_
    refine lx (op_assign rfl) rfl ?_
    refine lx_end ⟨by kernel_rfl, ?_⟩
    refine pe_then_normal ?_
    refine tr_sub hC (.cons (t := 0) rfl (.cons (t := 1) rfl (.cons (t := 2) rfl (.cons (t := 7) rfl (.cons (t := 8) rfl .nil))))) (.cons (t := 0) rfl (.cons (t := 1) rfl .nil)) rfl ?_
    refine tr_seq ?_
    refine tr_seq ?_
    refine tr_region (fun N6 hN => ?_)
    refine lx (op_move rfl) rfl ?_
    refine lx (op_move rfl) rfl ?_
    refine lx (op_eql rfl rfl) rfl ?_
    refine lx_end ⟨by kernel_rfl, ?_⟩
    refine pe_then_normal ?_
    refine tr_sub hC (.cons (t := 0) rfl (.cons (t := 1) rfl (.cons (t := 2) rfl (.cons (t := 7) rfl (.cons (t := 8) rfl (.cons (t := 22) rfl .nil)))))) (.cons (t := 0) rfl (.cons (t := 1) rfl .nil)) rfl ?_
    refine tr_cond rfl (fun h22 => ?_) (fun h22 => ?_)
    · (try simp only [Bool.and_eq_true, Bool.or_eq_true, Bool.and_eq_false_iff, Bool.or_eq_false_iff, decide_eq_true_eq, decide_eq_false_iff_not, Bool.not_eq_true', Bool.not_eq_false', List.length_map, ne_eq, Decidable.not_not, Int.not_lt, Int.not_le] at h22)
      obtain rfl : i = xs.length := by omega
      refine tr_sub hC (.cons (t := 0) rfl (.cons (t := 1) rfl (.ent (t := 2) rfl (Ent.row _ _ _ _) (.cons (t := 7) rfl (.cons (t := 8) rfl (.cons (t := 22) rfl .nil)))))) (.cons (t := 0) rfl (.cons (t := 1) rfl .nil)) rfl ?_
      refine tr_seq ?_
      refine tr_region (fun N7 hN => ?_)
      refine lx (op_move rfl) rfl ?_
      refine lx (op_move rfl) rfl ?_
      refine lxr (op_append_t (m := 0) (m' := 0) (kk := 25) (f := Ob.ps) rfl rfl rfl (.inl rfl) el22 ze33 sz33 by33 rfl (by decide) Ob.len (by simp; omega) (by simp; omega)) rfl ?_
      refine lx (op_assign rfl) rfl ?_
      refine lx_end ⟨by kernel_rfl, ?_⟩
      refine pe_then_normal ?_
      refine tr_sub hC (.cons (t := 6) rfl .nil) (.cons (t := 1) rfl (.cons (t := 0) rfl .nil)) rfl ?_
      refine tr_ret ?_
      refine pe_then_ret ?_
      refine pe_ownS' [0] rfl hO rfl (.tmp rfl .nil) (.cons (m := 0) rfl (RenR.blk _ _ _) .nil) rfl rfl rfl ?_
      intro τ ι hs'
      refine ⟨?_, ?_⟩
      · exact mv_ren' (hs' 0 _ rfl).1 (hs' 0 _ rfl).2 (by first | omega | (simp; done) | (simp; omega)) (by first | omega | (simp; done) | (simp; omega))
      · exact (.moved rfl (by rw [← insL_end]; exact fun b o h => h) .nil)
    · (try simp only [Bool.and_eq_true, Bool.or_eq_true, Bool.and_eq_false_iff, Bool.or_eq_false_iff, decide_eq_true_eq, decide_eq_false_iff_not, Bool.not_eq_true', Bool.not_eq_false', List.length_map, ne_eq, Decidable.not_not, Int.not_lt, Int.not_le] at h22)
      have hlt : i < xs.length := by omega
      refine tr_skip ?_
      refine pe_then_normal ?_
      refine tr_sub hC (.cons (t := 0) rfl (.cons (t := 1) rfl (.cons (t := 2) rfl (.cons (t := 7) rfl (.cons (t := 8) rfl .nil))))) (.cons (t := 0) rfl (.cons (t := 1) rfl .nil)) rfl ?_
      refine tr_room2 0 700 rfl (fun z hz1 hz2 hz3 => ?_)
      refine tr_seq ?_
      refine tr_seq ?_
      refine tr_region (fun N8 hN => ?_)
      refine lx (op_move rfl) rfl ?_
      refine lx (op_move rfl) rfl ?_
      refine lx (op_add rfl rfl (by omega)) rfl ?_
      refine lx (op_move rfl) rfl ?_
      refine lx (op_cap_z 700 rfl rfl el22) rfl ?_
      refine lx (op_gtr rfl rfl) rfl ?_
      refine lx_end ⟨by kernel_rfl, ?_⟩
      refine pe_then_normal ?_
      refine tr_sub hC (.cons (t := 0) rfl (.cons (t := 1) rfl (.cons (t := 2) rfl (.cons (t := 7) rfl (.cons (t := 8) rfl (.cons (t := 31) rfl (.cons (t := 700) rfl .nil))))))) (.cons (t := 0) rfl (.cons (t := 1) rfl .nil)) rfl ?_
      refine tr_cond rfl (fun h31 => ?_) (fun h31 => ?_)
      · (try simp only [Bool.and_eq_true, Bool.or_eq_true, Bool.and_eq_false_iff, Bool.or_eq_false_iff, decide_eq_true_eq, decide_eq_false_iff_not, Bool.not_eq_true', Bool.not_eq_false', List.length_map, ne_eq, Decidable.not_not, Int.not_lt, Int.not_le] at h31)
        have hgr : z < xs.length + 1 := by omega
        refine tr_seq ?_
        refine tr_region (fun N9 hN => ?_)
        refine lx (op_move rfl) rfl ?_
        refine lx (op_move rfl) rfl ?_
        refine lx (op_mslice_h rfl rfl el22 sz33 rfl (by omega)) rfl ?_
        refine lx (op_move rfl) rfl ?_
        refine lx (op_move rfl) rfl ?_
        refine lx (op_add rfl rfl (by omega)) rfl ?_
        refine lx (op_move rfl) rfl ?_
        refine lx (op_sub rfl rfl (by omega)) rfl ?_
        refine lxn (op_append_zeros_t (m := 0) (m' := 40) (kk := 40) (u := 700) (f := Ob.ps) (cz := xs.length + 1 - i) ob0 rfl rfl (by omega) (by omega) rfl (by omega) rfl (by first | exact hC.low _ (by decide) | rfl) (by omega) Ob.len (by repeat (first | exact Ents.nil | refine Ents.cons ?_ ?_ | refine Ent.tup ?_ | refine Ent.agg ?_ | exact Ent.row _ _ _ _ | exact Ent.nil _ _ | exact Ent.func _ | exact Ent.refl _ | exact Ent.of_eq rfl | refine Ent.cells ?_)) el22 ik3 ze33 sz33 by33 rfl rfl rfl (by omega) (by omega)) rfl ?_
        refine lx (op_assign rfl) rfl ?_
        refine lx_end ⟨by kernel_rfl, ?_⟩
        refine pe_then_normal ?_
        refine tr_sub hC (.cons (t := 0) rfl (.cons (t := 1) rfl (.cons (t := 2) rfl (.cons (t := 7) rfl (.cons (t := 9) rfl (.cons (t := 700) rfl .nil)))))) (.cons (t := 0) rfl (.cons (t := 1) rfl (.cons (t := 40) rfl .nil))) rfl ?_
        refine tr_sub hC (.cons (t := 0) rfl (.cons (t := 1) rfl (.ent (t := 2) rfl (Ent.row _ _ _ _) (.cons (t := 7) rfl (.cons (t := 9) rfl (.cons (t := 700) rfl .nil)))))) (.cons (t := 0) rfl (.cons (t := 1) rfl (.cons (t := 40) rfl .nil))) rfl ?_
        refine tr_seq ?_
        refine tr_region (fun N10 hN => ?_)
        refine lx (op_move rfl) rfl ?_
        refine lx (op_move rfl) rfl ?_
        refine lx (op_mslice_l rfl rfl el22 sz33 rfl (by omega)) rfl ?_
        refine lx (op_move rfl) rfl ?_
        refine lxr (op_copy_sl (m := 40) (f := Ob.ps) rfl rfl rfl el22 sz33 (by decide) Ob.len (by simp) (by simp; omega) (by first | omega | (simp [spl]; omega))) rfl ?_
        refine lx_end ⟨by kernel_rfl, ?_⟩
        refine pe_then_normal ?_
        refine tr_sub hC (.cons (t := 0) rfl (.cons (t := 1) rfl (.cons (t := 7) rfl (.cons (t := 9) rfl (.cons (t := 700) rfl .nil))))) (.cons (t := 0) rfl (.cons (t := 1) rfl (.cons (t := 40) rfl .nil))) rfl ?_
        refine tr_seq ?_
        refine tr_drawn mixed (fun N11 hN => ?_)
        refine lx (op_move rfl) rfl ?_
        refine lx (op_move rfl) rfl ?_
        refine lx (op_move rfl) rfl ?_
        refine lx (op_add rfl rfl (by omega)) rfl ?_
        refine lx (op_mslice_l rfl rfl el22 sz33 (lo := i + 1) (by omega) (by omega)) rfl ?_
        refine lx (op_move rfl) rfl ?_
        refine lx (op_move rfl) rfl ?_
        refine lx (op_mslice_l rfl rfl el22 sz33 rfl (by omega)) rfl ?_
        refine lxr (op_copy_two (m := 40) (m2 := 0) (f := Ob.ps) (cnt := xs.length - i) rfl rfl rfl rfl el22 sz33 (by decide) Ob.len (by omega) (by show min _ _ = _; omega) (by simp [spl]; omega) (by omega)) rfl ?_
        refine lx_end ⟨by kernel_rfl, ?_⟩
        refine pe_then_normal ?_
        refine tr_sub hC (.cons (t := 9) rfl (.cons (t := 700) rfl .nil)) (.cons (t := 0) rfl (.cons (t := 1) rfl (.cons (t := 40) rfl .nil))) rfl ?_
        refine tr_seq ?_
        refine tr_region (fun N12 hN => ?_)
        refine lx (op_move rfl) rfl ?_
        refine lx (op_assign rfl) rfl ?_
        refine lx_end ⟨by kernel_rfl, ?_⟩
        refine pe_then_normal ?_
        refine tr_sub hC (.cons (t := 6) rfl (.cons (t := 700) rfl .nil)) (.cons (t := 0) rfl (.cons (t := 1) rfl (.cons (t := 40) rfl .nil))) rfl ?_
        refine tr_ret ?_
        refine pe_then_ret ?_
        refine pe_ownS' [40] rfl hO rfl (.tmp rfl .nil) (.cons (m := 40) rfl (RenR.blk _ _ _) .nil) rfl rfl rfl ?_
        intro τ ι hs'
        refine ⟨?_, ?_⟩
        · exact mv_ren' (hs' 0 _ rfl).1 (hs' 0 _ rfl).2 (by first | omega | (simp; done) | (simp; omega)) (by first | omega | (simp; done) | (simp; omega))
        · exact (.moved rfl (by rw [← insL_grow2 (d := ob0) hlt rfl]; exact fun b o h => h) .nil)
      · (try simp only [Bool.and_eq_true, Bool.or_eq_true, Bool.and_eq_false_iff, Bool.or_eq_false_iff, decide_eq_true_eq, decide_eq_false_iff_not, Bool.not_eq_true', Bool.not_eq_false', List.length_map, ne_eq, Decidable.not_not, Int.not_lt, Int.not_le] at h31)
        have hro : xs.length + 1 ≤ z := by omega
        refine tr_skip ?_
        refine pe_then_normal ?_
        refine tr_sub hC (.cons (t := 0) rfl (.cons (t := 1) rfl (.cons (t := 2) rfl (.cons (t := 7) rfl (.cons (t := 8) rfl (.cons (t := 700) rfl .nil)))))) (.cons (t := 0) rfl (.cons (t := 1) rfl .nil)) rfl ?_
        refine tr_seq ?_
        refine tr_region (fun N13 hN => ?_)
        refine lx (op_move rfl) rfl ?_
        refine lx (op_move rfl) rfl ?_
        refine lx (op_move rfl) rfl ?_
        refine lx (op_add rfl rfl (by omega)) rfl ?_
        refine lx (op_mslice_xh (hi := xs.length + 1) rfl rfl el22 sz33 (by omega) (by omega)) rfl ?_
        refine lx (op_assign rfl) rfl ?_
        refine lx_end ⟨by kernel_rfl, ?_⟩
        refine pe_then_normal ?_
        refine tr_sub hC (.cons (t := 0) rfl (.cons (t := 1) rfl (.cons (t := 2) rfl (.cons (t := 7) rfl (.cons (t := 8) rfl (.cons (t := 700) rfl .nil)))))) (.cons (t := 0) rfl (.cons (t := 1) rfl .nil)) rfl ?_
        refine tr_seq ?_
        refine tr_seq ?_
        refine tr_region (fun N14 hN => ?_)
        refine lx (op_move rfl) rfl ?_
        refine lx (op_move rfl) rfl ?_
        refine lx (op_move rfl) rfl ?_
        refine lx (op_move rfl) rfl ?_
        refine lx (op_add rfl rfl (by omega)) rfl ?_
        refine lx (op_mslice_l rfl rfl el22 sz33 (lo := i + 1) (by omega) (by omega)) rfl ?_
        refine lx (op_overlaps (tS := 22) (tR := 4) (ma := 1) (mb := 0) Try.func59 ⟨⟨rfl, rfl⟩, by kernel_rfl⟩ (by kernel_rfl) rfl rfl rfl rfl rfl (by omega) (by decide) el22 sz33) rfl ?_
        first | refine lx (op_not rfl) rfl ?_ | refine lx (op_not_b rfl) rfl ?_
        refine lx_end ⟨by kernel_rfl, ?_⟩
        refine pe_then_normal ?_
        refine tr_sub hC (.cons (t := 0) rfl (.cons (t := 1) rfl (.cons (t := 2) rfl (.cons (t := 7) rfl (.cons (t := 8) rfl (.cons (t := 68) rfl (.cons (t := 700) rfl .nil))))))) (.cons (t := 0) rfl (.cons (t := 1) rfl .nil)) rfl ?_
        refine tr_cond rfl (fun h68 => ?_) (fun h68 => ?_)
        · (try simp only [Bool.and_eq_true, Bool.or_eq_true, Bool.and_eq_false_iff, Bool.or_eq_false_iff, decide_eq_true_eq, decide_eq_false_iff_not, Bool.not_eq_true', Bool.not_eq_false', List.length_map, ne_eq, Decidable.not_not, Int.not_lt, Int.not_le] at h68)
          refine tr_seq ?_
          refine tr_drawn mixed (fun N15 hN => ?_)
          refine lx (op_move rfl) rfl ?_
          refine lx (op_move rfl) rfl ?_
          refine lx (op_move rfl) rfl ?_
          refine lx (op_add rfl rfl (by omega)) rfl ?_
          refine lx (op_mslice_l rfl rfl el22 sz33 (lo := i + 1) (by omega) (by omega)) rfl ?_
          refine lx (op_move rfl) rfl ?_
          refine lx (op_move rfl) rfl ?_
          refine lx (op_mslice_l rfl rfl el22 sz33 rfl (by omega)) rfl ?_
          refine lxr (op_copy_in (m := 0) (f := Ob.ps) (cnt := xs.length - i) rfl rfl rfl el22 sz33 (by decide) Ob.len (by omega) (by show min _ _ = _; omega) (by omega) (by omega)) rfl ?_
          refine lx_end ⟨by kernel_rfl, ?_⟩
          refine pe_then_normal ?_
          refine tr_sub hC (.cons (t := 0) rfl (.cons (t := 1) rfl (.cons (t := 2) rfl (.cons (t := 700) rfl .nil)))) (.cons (t := 0) rfl (.cons (t := 1) rfl .nil)) rfl ?_
          refine tr_sub hC (.cons (t := 0) rfl (.cons (t := 1) rfl (.ent (t := 2) rfl (Ent.row _ _ _ _) (.cons (t := 700) rfl .nil)))) (.cons (t := 0) rfl (.cons (t := 1) rfl .nil)) rfl ?_
          refine tr_seq ?_
          refine tr_region (fun N16 hN => ?_)
          refine lx (op_move rfl) rfl ?_
          refine lx (op_move rfl) rfl ?_
          refine lx (op_mslice_l rfl rfl el22 sz33 rfl (by omega)) rfl ?_
          refine lx (op_move rfl) rfl ?_
          refine lxr (op_copy_sl (m := 0) (f := Ob.ps) rfl rfl rfl el22 sz33 (by decide) Ob.len (by simp) (by simp; omega) (by first | omega | (simp [spl]; omega))) rfl ?_
          refine lx_end ⟨by kernel_rfl, ?_⟩
          refine pe_then_normal ?_
          refine tr_sub hC (.cons (t := 0) rfl (.cons (t := 700) rfl .nil)) (.cons (t := 0) rfl (.cons (t := 1) rfl .nil)) rfl ?_
          refine tr_seq ?_
          refine tr_region (fun N17 hN => ?_)
          refine lx (op_move rfl) rfl ?_
          refine lx (op_assign rfl) rfl ?_
          refine lx_end ⟨by kernel_rfl, ?_⟩
          refine pe_then_normal ?_
          refine tr_sub hC (.cons (t := 6) rfl (.cons (t := 700) rfl .nil)) (.cons (t := 0) rfl (.cons (t := 1) rfl .nil)) rfl ?_
          refine tr_ret ?_
          refine pe_then_ret ?_
          refine pe_ownS' [0] rfl hO rfl (.tmp rfl .nil) (.cons (m := 0) rfl (RenR.blk _ _ _) .nil) rfl rfl rfl ?_
          intro τ ι hs'
          refine ⟨?_, ?_⟩
          · exact mv_ren' (hs' 0 _ rfl).1 (hs' 0 _ rfl).2 (by first | omega | (simp; done) | (simp; omega)) (by first | omega | (simp; done) | (simp; omega))
          · exact (.moved rfl (by rw [← insL_in2 hlt]; exact fun b o h => h) .nil)
        · exact absurd h68 (by decide)
end Go.Proofs.Ytibcbiamdjmckaa


namespace Go.Hp
open Go.AL Go.Ch
theorem pos_le {l : List Ob} {x : Int} : pos l x ≤ l.length := List.countP_le_length
theorem put_set {o : Ob} {l : List Ob} (h : fnd l o.id = true) : putF o l = l.set (pos l o.id) o := by unfold putF; rw [if_pos h]
theorem put_ins {o : Ob} {l : List Ob} (h : fnd l o.id = false) : putF o l = insL l (pos l o.id) o := by unfold putF; rw [if_neg (by rw [h]; simp)]; rfl
/-- the program's Store -/
def storeF (m : Mc) (r v : V) : Mc × Int :=
  if (cellF m.objects r).2 = 0 then ({ m with objects := m.objects.set (pos m.objects r.n) (setC (m.objects[pos m.objects r.n]?.getD ob0) r v) }, 0) else (mc0, (cellF m.objects r).2)
theorem store_n {m : Mc} {r v : V} (h : ¬ (cellF m.objects r).2 = 0) : storeF m r v = (mc0, (cellF m.objects r).2) := by unfold storeF; rw [if_neg h]
theorem store_y {m : Mc} {r v : V} (h : (cellF m.objects r).2 = 0) : storeF m r v = ({ m with objects := m.objects.set (pos m.objects r.n) (setC (m.objects[pos m.objects r.n]?.getD ob0) r v) }, 0) := by unfold storeF; rw [if_pos h]
end Go.Hp
