/- Parts of a proof that share one text: HpWalk17, HpWalk18, HpPlain10, HpWalk19, HpWalk20, HpPlain11, AlMkRow. -/
import Derived.Test.YtibcbiamdjmckaaPf

set_option linter.unusedVariables false
set_option linter.unusedSimpArgs false
namespace Go.Proofs.Ytibcbiamdjmckaa
open Go.AL Go.Ch Go.Hp Go.RowKit
theorem fn40 : fnB Try.prog 40 = true := by kernel_rfl
theorem fn43 : fnB Try.prog 43 = true := by kernel_rfl
theorem Put_own (m : Mc) (o : Ob) (hb : Bd 4000000 m) (ho : BdO 4000000 o) (hs : Srt m.objects) : FnOK Try.prog 24 [aggP m.ps, aggP o.ps] [] 1 (fun ι => aggP (mcG { m with objects := putF o m.objects } (ι 0))) (fun ι => [(ι 0, blkX 4 70 (m.gors.flatMap Gr.ps))]) := by
  refine fn_ownN Try.func24 rfl Try.ntmps24 rfl ?_
  intro σ0 M Rf R hC hO
  simp only [frameOf, tokOf]
  refine tr_seq ?_
  refine tr_region (fun N0 hN => ?_)
  refine lxn (op_box (m := 2) (k := 2) rfl (.agg rfl) (by first | exact hC.low _ (by decide) | rfl)) rfl ?_
  refine lxn (op_box (m := 3) (k := 3) rfl (.agg rfl) (by first | exact hC.low _ (by decide) | rfl)) rfl ?_
  refine lxn (op_alloc (m := 4) (k := 4) (ps := [eqP (.slice none 0 0), eqP (.slice none 0 0), eqP (.slice none 0 0), eqP (.slice none 0 0)]) ze29 rfl rfl (by first | exact hC.low _ (by decide) | rfl)) rfl ?_
  refine lx_end ⟨by kernel_rfl, ?_⟩
  refine pe_then_normal ?_
  refine tr_sub hC (.cons (t := 2) rfl (.cons (t := 3) rfl (.cons (t := 4) rfl .nil))) (.cons (t := 2) rfl (.cons (t := 3) rfl (.cons (t := 4) rfl .nil))) rfl ?_
  refine tr_seq ?_
  refine tr_region (fun N1 hN => ?_)
  refine lx (op_bload (m := 2) rfl rfl ag29 sz29) rfl ?_
  first | refine lx_any rfl (op_callG2 (l := [(Go.Operand.tmp 8)]) (add := [(601, ((N1, 100090), blkX 10 33 (m.objects.flatMap Ob.ps))), (602, ((N1, 100091), blkX 4 70 (m.gors.flatMap Gr.ps)))]) (ks := [100090, 100091]) (φ := aggP ([mvP (N1, 100090) 10 0 m.objects.length m.objects.length, slP Sy.ps 6 m.syncs, mvP (N1, 100091) 4 0 m.gors.length m.gors.length, slP ip 1 m.output])) .nil (copied_own m hb) (.cons rfl .nil) fn40 rfl rfl rfl (.new (by first | exact hC.low _ (by decide) | rfl) (.new (by first | exact hC.low _ (by decide) | rfl) .nil)) rfl) (dOK_spec rfl) ?_ | refine lx_any rfl (op_callG2 (l := [(Go.Operand.tmp 8)]) (add := [(601, ((N1, 100090), blkX 10 33 (m.objects.flatMap Ob.ps))), (602, ((N1, 100091), blkX 4 70 (m.gors.flatMap Gr.ps)))]) (ks := [100090, 100091]) (φ := aggP ([mvP (N1, 100090) 10 0 m.objects.length m.objects.length, slP Sy.ps 6 m.syncs, mvP (N1, 100091) 4 0 m.gors.length m.gors.length, slP ip 1 m.output])) .nil (copied_own m hb) (.ent rfl (by repeat (first | exact Ents.nil | refine Ents.cons ?_ ?_ | refine Ent.tup ?_ | refine Ent.agg ?_ | exact Ent.row _ _ _ _ | exact Ent.nil _ _ | exact Ent.func _ | exact Ent.refl _ | exact Ent.of_eq rfl | refine Ent.cells ?_)) .nil) fn40 rfl rfl rfl (.new (by first | exact hC.low _ (by decide) | rfl) (.new (by first | exact hC.low _ (by decide) | rfl) .nil)) rfl) (dOK_spec rfl) ?_
  refine lxn (op_alloc (m := 5) (k := 5) (ps := [eqP (.slice none 0 0), eqP (.slice none 0 0), eqP (.slice none 0 0), eqP (.slice none 0 0)]) ze29 rfl rfl (by first | exact hC.low _ (by decide) | rfl)) rfl ?_
  refine lxr (op_store_all (m := 5) rfl rfl rfl (.agg rfl) sz29 rfl) rfl ?_
  refine lx_end ⟨by kernel_rfl, ?_⟩
  refine pe_then_normal ?_
  refine tr_sub hC (.cons (t := 3) rfl (.cons (t := 4) rfl (.cons (t := 5) rfl .nil))) (.cons (t := 3) rfl (.cons (t := 4) rfl (.cons (t := 601) rfl (.cons (t := 602) rfl (.cons (t := 5) rfl .nil))))) rfl ?_
  refine tr_seq ?_
  refine tr_region (fun N2 hN => ?_)
  refine lx (op_fieldAddr rfl fl29_0 sz22) rfl ?_
  refine lx (op_bload_one (m := 5) rfl rfl ag22 rfl) rfl ?_
  refine lx (op_fieldAddr rfl fl33_0 sz3) rfl ?_
  refine lx (op_bload_one (m := 3) rfl rfl ag3 rfl) rfl ?_
  first | refine lx_any rfl (op_callG2 (l := [(Go.Operand.tmp 12), (Go.Operand.tmp 14)]) (add := [(601, ((N1, 100090), blkX 10 33 (m.objects.flatMap Ob.ps)))]) (ks := []) (φ := tupP [eqP (.int .i64 (pos m.objects o.id : Int)), eqP (.bool (fnd m.objects o.id))]) (.cons (m := 601) rfl .nil) (search_own (N1, 100090) m.objects o.id hs hb.objects) (.cons rfl (.cons rfl .nil)) fn41 rfl rfl rfl (.old rfl .nil) rfl) (dOK_spec rfl) ?_ | refine lx_any rfl (op_callG2 (l := [(Go.Operand.tmp 12), (Go.Operand.tmp 14)]) (add := [(601, ((N1, 100090), blkX 10 33 (m.objects.flatMap Ob.ps)))]) (ks := []) (φ := tupP [eqP (.int .i64 (pos m.objects o.id : Int)), eqP (.bool (fnd m.objects o.id))]) (.cons (m := 601) rfl .nil) (search_own (N1, 100090) m.objects o.id hs hb.objects) (.ent rfl (by repeat (first | exact Ents.nil | refine Ents.cons ?_ ?_ | refine Ent.tup ?_ | refine Ent.agg ?_ | exact Ent.row _ _ _ _ | exact Ent.nil _ _ | exact Ent.func _ | exact Ent.refl _ | exact Ent.of_eq rfl | refine Ent.cells ?_)) (.ent rfl (by repeat (first | exact Ents.nil | refine Ents.cons ?_ ?_ | refine Ent.tup ?_ | refine Ent.agg ?_ | exact Ent.row _ _ _ _ | exact Ent.nil _ _ | exact Ent.func _ | exact Ent.refl _ | exact Ent.of_eq rfl | refine Ent.cells ?_)) .nil)) fn41 rfl rfl rfl (.old rfl .nil) rfl) (dOK_spec rfl) ?_
  refine lx (op_move rfl) rfl ?_
  refine lx (op_extract rfl rfl) rfl ?_
  refine lx (op_extract rfl rfl) rfl ?_
  refine lx (op_assign rfl) rfl ?_
  refine lx (op_assign rfl) rfl ?_
  refine lx_end ⟨by kernel_rfl, ?_⟩
  refine pe_then_normal ?_
  refine tr_sub hC (.cons (t := 3) rfl (.cons (t := 4) rfl (.cons (t := 5) rfl (.cons (t := 6) rfl (.cons (t := 7) rfl .nil))))) (.cons (t := 3) rfl (.cons (t := 4) rfl (.cons (t := 602) rfl (.cons (t := 5) rfl (.cons (t := 601) rfl .nil))))) rfl ?_
  refine tr_seq ?_
  refine tr_seq ?_
  refine tr_region (fun N3 hN => ?_)
  refine lx (op_move rfl) rfl ?_
  refine lx_end ⟨by kernel_rfl, ?_⟩
  refine pe_then_normal ?_
  refine tr_sub hC (.cons (t := 3) rfl (.cons (t := 4) rfl (.cons (t := 5) rfl (.cons (t := 6) rfl (.cons (t := 18) rfl .nil))))) (.cons (t := 3) rfl (.cons (t := 4) rfl (.cons (t := 602) rfl (.cons (t := 5) rfl (.cons (t := 601) rfl .nil))))) rfl ?_
  refine tr_cond rfl (fun h18 => ?_) (fun h18 => ?_)
  · (try simp only [Bool.and_eq_true, Bool.or_eq_true, Bool.and_eq_false_iff, Bool.or_eq_false_iff, decide_eq_true_eq, decide_eq_false_iff_not, Bool.not_eq_true', Bool.not_eq_false', List.length_map, ne_eq, Decidable.not_not, Int.not_lt, Int.not_le] at h18)
    have hp := put_set h18
    obtain ⟨hpl, o1, ho1, hoid⟩ := fnd_pos h18 hs
    refine tr_drawn mixed (fun N4 hN => ?_)
    refine lx (op_fieldAddr rfl fl29_0 sz22) rfl ?_
    refine lx (op_bload_one (m := 5) rfl rfl ag22 rfl) rfl ?_
    refine lx (op_move rfl) rfl ?_
    refine lx (op_bload (m := 3) rfl rfl ag33 sz33) rfl ?_
    first | refine lx (op_call (l := [(Go.Operand.tmp 22)]) (own_ok o ho) (.cons rfl .nil) fn42) rfl ?_ | refine lx (op_call (l := [(Go.Operand.tmp 22)]) (own_ok o ho) (.ent rfl (by repeat (first | exact Ents.nil | refine Ents.cons ?_ ?_ | refine Ent.tup ?_ | refine Ent.agg ?_ | exact Ent.row _ _ _ _ | exact Ent.nil _ _ | exact Ent.func _ | exact Ent.refl _ | exact Ent.of_eq rfl | refine Ent.cells ?_)) .nil) fn42) rfl ?_
    refine lx (op_index_mv rfl rfl el22 sz33 rfl hpl) rfl ?_
    refine lxr (op_tstore (m := 601) (j := (pos m.objects o.id)) (fo := 0) (z' := o) rfl rfl rfl (.agg rfl) sz33 rfl Ob.len (by omega) ho1 rfl rfl) rfl ?_
    refine lx_end ⟨by kernel_rfl, ?_⟩
    refine pe_then_normal ?_
    refine tr_sub hC (.cons (t := 4) rfl (.cons (t := 5) rfl .nil)) (.cons (t := 4) rfl (.cons (t := 602) rfl (.cons (t := 5) rfl (.cons (t := 601) rfl .nil)))) rfl ?_
    refine tr_bound 0 (m := 601) rfl ?_
    refine tr_freeze (m := 601) rfl (.ent (t := 0) rfl FEnt.frz_bound (.cons (t := 4) rfl (.cons (t := 5) rfl .nil))) ?_
    refine tr_thaw (t := 0) (n := 5) (qs' := [slP Ob.ps 10 (putF o m.objects), slP Sy.ps 6 m.syncs, mvP (N1, 100091) 4 0 m.gors.length m.gors.length, slP ip 1 m.output]) rfl (.cons (t := 4) rfl (.cons (t := 5) rfl .nil)) rfl (.cons (FEnt.mv (by rw [hp]; first | (rw [List.length_set]; done) | rw [insL_len pos_le]) ⟨[], by rw [hp]; simp⟩ Ob.len) (.cons (.of (Ent.refl _)) (.cons (.of (Ent.refl _)) (.cons (.of (Ent.refl _)) .nil)))) ?_
    refine tr_seq ?_
    refine tr_region (fun N6 hN => ?_)
    refine lx (op_bload (m := 5) rfl rfl ag29 sz29) rfl ?_
    refine lxr (op_store_all (m := 4) rfl rfl rfl (.agg rfl) sz29 rfl) rfl ?_
    refine lx_end ⟨by kernel_rfl, ?_⟩
    refine pe_then_normal ?_
    refine tr_sub hC (.cons (t := 4) rfl .nil) (.cons (t := 4) rfl (.cons (t := 602) rfl .nil)) rfl ?_
    refine tr_ret ?_
    refine pe_ownS' [602] rfl hO rfl (.cell (m := 4) rfl rfl ag29 sz29 .nil) (.cons (m := 602) rfl (RenR.blk _ _ _) .nil) rfl rfl rfl ?_
    intro τ ι hs'
    refine ⟨?_, ?_⟩
    · exact aggP_at (.cons (ent_at (Ent.refl _)) (.cons (ent_at (Ent.refl _)) (.cons (mv_ren (hs' 0 _ rfl).1 (hs' 0 _ rfl).2) (.cons (ent_at (Ent.refl _)) .nil))))
    · exact (.moved rfl (fun b o h => h) .nil)
  · (try simp only [Bool.and_eq_true, Bool.or_eq_true, Bool.and_eq_false_iff, Bool.or_eq_false_iff, decide_eq_true_eq, decide_eq_false_iff_not, Bool.not_eq_true', Bool.not_eq_false', List.length_map, ne_eq, Decidable.not_not, Int.not_lt, Int.not_le] at h18)
    have hp := put_ins h18
    refine tr_drawn mixed (fun N5 hN => ?_)
    refine lx (op_fieldAddr rfl fl29_0 sz22) rfl ?_
    refine lx (op_bload_one (m := 5) rfl rfl ag22 rfl) rfl ?_
    refine lx (op_move rfl) rfl ?_
    refine lx (op_bload (m := 3) rfl rfl ag33 sz33) rfl ?_
    first | refine lx (op_call (l := [(Go.Operand.tmp 28)]) (own_ok o ho) (.cons rfl .nil) fn42) rfl ?_ | refine lx (op_call (l := [(Go.Operand.tmp 28)]) (own_ok o ho) (.ent rfl (by repeat (first | exact Ents.nil | refine Ents.cons ?_ ?_ | refine Ent.tup ?_ | refine Ent.agg ?_ | exact Ent.row _ _ _ _ | exact Ent.nil _ _ | exact Ent.func _ | exact Ent.refl _ | exact Ent.of_eq rfl | refine Ent.cells ?_)) .nil) fn42) rfl ?_
    refine lxn (op_buildRow (m' := 30) (kk := 30) (f := Ob.ps) (xs := [o]) (l := [(0, (Go.Operand.tmp 29))]) ze33 rfl rfl (by decide) el22 sz33 Ob.len (.cons rfl (.agg rfl) .nil) rfl (by decide) (by first | exact hC.low _ (by decide) | rfl)) rfl ?_
    first | refine lx_any rfl (op_callG2 (l := [(Go.Operand.tmp 26), (Go.Operand.tmp 27), (Go.Operand.tmp 30)]) (add := [(601, ((N5, 100310), blkX 10 33 ((insL m.objects (pos m.objects o.id) o).flatMap Ob.ps)))]) (ks := [100310]) (φ := mvP (N5, 100310) 10 0 (m.objects.length + 1) (m.objects.length + 1)) (.cons (m := 601) rfl (.cons (m := 30) rfl .nil)) (insert_ok (N1, 100090) (N5, 30) m.objects (pos m.objects o.id) o pos_le hb.objects) (.cons rfl (.cons rfl (.cons rfl .nil))) fn43 rfl rfl rfl (.old rfl .nil) rfl) (dOK_spec rfl) ?_ | refine lx_any rfl (op_callG2 (l := [(Go.Operand.tmp 26), (Go.Operand.tmp 27), (Go.Operand.tmp 30)]) (add := [(601, ((N5, 100310), blkX 10 33 ((insL m.objects (pos m.objects o.id) o).flatMap Ob.ps)))]) (ks := [100310]) (φ := mvP (N5, 100310) 10 0 (m.objects.length + 1) (m.objects.length + 1)) (.cons (m := 601) rfl (.cons (m := 30) rfl .nil)) (insert_ok (N1, 100090) (N5, 30) m.objects (pos m.objects o.id) o pos_le hb.objects) (.ent rfl (by repeat (first | exact Ents.nil | refine Ents.cons ?_ ?_ | refine Ent.tup ?_ | refine Ent.agg ?_ | exact Ent.row _ _ _ _ | exact Ent.nil _ _ | exact Ent.func _ | exact Ent.refl _ | exact Ent.of_eq rfl | refine Ent.cells ?_)) (.ent rfl (by repeat (first | exact Ents.nil | refine Ents.cons ?_ ?_ | refine Ent.tup ?_ | refine Ent.agg ?_ | exact Ent.row _ _ _ _ | exact Ent.nil _ _ | exact Ent.func _ | exact Ent.refl _ | exact Ent.of_eq rfl | refine Ent.cells ?_)) (.ent rfl (by repeat (first | exact Ents.nil | refine Ents.cons ?_ ?_ | refine Ent.tup ?_ | refine Ent.agg ?_ | exact Ent.row _ _ _ _ | exact Ent.nil _ _ | exact Ent.func _ | exact Ent.refl _ | exact Ent.of_eq rfl | refine Ent.cells ?_)) .nil))) fn43 rfl rfl rfl (.old rfl .nil) rfl) (dOK_spec rfl) ?_
    refine lx (op_fieldAddr rfl fl29_0 sz22) rfl ?_
    refine lxr (op_store (m := 5) (rs := [_, _, _, _]) rfl rfl rfl (.one (by (first | exact One.eq rfl | exact One.mv _ _ _ _ _ | exact One.cl _ _ _ | exact One.map _ | exact One.sl _ _ _ | exact One.row _ _ _ _ | exact One.msl _ _ _ _ | exact One.ptr _ _ | exact One.b _ | exact One.cells _))) sz22 rfl rfl rfl) rfl ?_
    refine lx_end ⟨by kernel_rfl, ?_⟩
    refine pe_then_normal ?_
    refine tr_sub hC (.cons (t := 4) rfl (.cons (t := 5) rfl .nil)) (.cons (t := 4) rfl (.cons (t := 602) rfl (.cons (t := 5) rfl (.cons (t := 601) rfl .nil)))) rfl ?_
    refine tr_bound 0 (m := 601) rfl ?_
    refine tr_freeze (m := 601) rfl (.ent (t := 0) rfl FEnt.frz_bound (.cons (t := 4) rfl (.cons (t := 5) rfl .nil))) ?_
    refine tr_thaw (t := 0) (n := 5) (qs' := [slP Ob.ps 10 (putF o m.objects), slP Sy.ps 6 m.syncs, mvP (N1, 100091) 4 0 m.gors.length m.gors.length, slP ip 1 m.output]) rfl (.cons (t := 4) rfl (.cons (t := 5) rfl .nil)) rfl (.cons (FEnt.mv (by rw [hp]; first | (rw [List.length_set]; done) | rw [insL_len pos_le]) ⟨[], by rw [hp]; simp⟩ Ob.len) (.cons (.of (Ent.refl _)) (.cons (.of (Ent.refl _)) (.cons (.of (Ent.refl _)) .nil)))) ?_
    refine tr_seq ?_
    refine tr_region (fun N6 hN => ?_)
    refine lx (op_bload (m := 5) rfl rfl ag29 sz29) rfl ?_
    refine lxr (op_store_all (m := 4) rfl rfl rfl (.agg rfl) sz29 rfl) rfl ?_
    refine lx_end ⟨by kernel_rfl, ?_⟩
    refine pe_then_normal ?_
    refine tr_sub hC (.cons (t := 4) rfl .nil) (.cons (t := 4) rfl (.cons (t := 602) rfl .nil)) rfl ?_
    refine tr_ret ?_
    refine pe_ownS' [602] rfl hO rfl (.cell (m := 4) rfl rfl ag29 sz29 .nil) (.cons (m := 602) rfl (RenR.blk _ _ _) .nil) rfl rfl rfl ?_
    intro τ ι hs'
    refine ⟨?_, ?_⟩
    · exact aggP_at (.cons (ent_at (Ent.refl _)) (.cons (ent_at (Ent.refl _)) (.cons (mv_ren (hs' 0 _ rfl).1 (hs' 0 _ rfl).2) (.cons (ent_at (Ent.refl _)) .nil))))
    · exact (.moved rfl (fun b o h => h) .nil)
theorem Put_ok (m : Mc) (o : Ob) (hb : Bd 4000000 m) (ho : BdO 4000000 o) (hs : Srt m.objects) : FnP Try.prog 24 [aggP m.ps, aggP o.ps] (aggP (Mc.ps { m with objects := putF o m.objects })) := by
  refine fn_pure' Try.func24 rfl Try.ntmps24 rfl ?_
  intro σ0 M ex Rf R hC hO
  simp only [frameOf, tokOf]
  refine tr_seq ?_
  refine tr_region (fun N0 hN => ?_)
  refine lxn (op_box (m := 2) (k := 2) rfl (.agg rfl) (by first | exact hC.low _ (by decide) | rfl)) rfl ?_
  refine lxn (op_box (m := 3) (k := 3) rfl (.agg rfl) (by first | exact hC.low _ (by decide) | rfl)) rfl ?_
  refine lxn (op_alloc (m := 4) (k := 4) (ps := [eqP (.slice none 0 0), eqP (.slice none 0 0), eqP (.slice none 0 0), eqP (.slice none 0 0)]) ze29 rfl rfl (by first | exact hC.low _ (by decide) | rfl)) rfl ?_
  refine lx_end ⟨by kernel_rfl, ?_⟩
  refine pe_then_normal ?_
  refine tr_sub hC (.cons (t := 2) rfl (.cons (t := 3) rfl (.cons (t := 4) rfl .nil))) (.cons (t := 2) rfl (.cons (t := 3) rfl (.cons (t := 4) rfl .nil))) rfl ?_
  refine tr_seq ?_
  refine tr_region (fun N1 hN => ?_)
  refine lx (op_bload (m := 2) rfl rfl ag29 sz29) rfl ?_
  first | refine lx_any rfl (op_callG2 (l := [(Go.Operand.tmp 8)]) (add := [(601, ((N1, 100090), blkX 10 33 (m.objects.flatMap Ob.ps))), (602, ((N1, 100091), blkX 4 70 (m.gors.flatMap Gr.ps)))]) (ks := [100090, 100091]) (φ := aggP ([mvP (N1, 100090) 10 0 m.objects.length m.objects.length, slP Sy.ps 6 m.syncs, mvP (N1, 100091) 4 0 m.gors.length m.gors.length, slP ip 1 m.output])) .nil (copied_own m hb) (.cons rfl .nil) fn40 rfl rfl rfl (.new (by first | exact hC.low _ (by decide) | rfl) (.new (by first | exact hC.low _ (by decide) | rfl) .nil)) rfl) (dOK_spec rfl) ?_ | refine lx_any rfl (op_callG2 (l := [(Go.Operand.tmp 8)]) (add := [(601, ((N1, 100090), blkX 10 33 (m.objects.flatMap Ob.ps))), (602, ((N1, 100091), blkX 4 70 (m.gors.flatMap Gr.ps)))]) (ks := [100090, 100091]) (φ := aggP ([mvP (N1, 100090) 10 0 m.objects.length m.objects.length, slP Sy.ps 6 m.syncs, mvP (N1, 100091) 4 0 m.gors.length m.gors.length, slP ip 1 m.output])) .nil (copied_own m hb) (.ent rfl (by repeat (first | exact Ents.nil | refine Ents.cons ?_ ?_ | refine Ent.tup ?_ | refine Ent.agg ?_ | exact Ent.row _ _ _ _ | exact Ent.nil _ _ | exact Ent.func _ | exact Ent.refl _ | exact Ent.of_eq rfl | refine Ent.cells ?_)) .nil) fn40 rfl rfl rfl (.new (by first | exact hC.low _ (by decide) | rfl) (.new (by first | exact hC.low _ (by decide) | rfl) .nil)) rfl) (dOK_spec rfl) ?_
  refine lxn (op_alloc (m := 5) (k := 5) (ps := [eqP (.slice none 0 0), eqP (.slice none 0 0), eqP (.slice none 0 0), eqP (.slice none 0 0)]) ze29 rfl rfl (by first | exact hC.low _ (by decide) | rfl)) rfl ?_
  refine lxr (op_store_all (m := 5) rfl rfl rfl (.agg rfl) sz29 rfl) rfl ?_
  refine lx_end ⟨by kernel_rfl, ?_⟩
  refine pe_then_normal ?_
  refine tr_sub hC (.cons (t := 3) rfl (.cons (t := 4) rfl (.cons (t := 5) rfl .nil))) (.cons (t := 3) rfl (.cons (t := 4) rfl (.cons (t := 601) rfl (.cons (t := 602) rfl (.cons (t := 5) rfl .nil))))) rfl ?_
  refine tr_seq ?_
  refine tr_region (fun N2 hN => ?_)
  refine lx (op_fieldAddr rfl fl29_0 sz22) rfl ?_
  refine lx (op_bload_one (m := 5) rfl rfl ag22 rfl) rfl ?_
  refine lx (op_fieldAddr rfl fl33_0 sz3) rfl ?_
  refine lx (op_bload_one (m := 3) rfl rfl ag3 rfl) rfl ?_
  first | refine lx_any rfl (op_callG2 (l := [(Go.Operand.tmp 12), (Go.Operand.tmp 14)]) (add := [(601, ((N1, 100090), blkX 10 33 (m.objects.flatMap Ob.ps)))]) (ks := []) (φ := tupP [eqP (.int .i64 (pos m.objects o.id : Int)), eqP (.bool (fnd m.objects o.id))]) (.cons (m := 601) rfl .nil) (search_own (N1, 100090) m.objects o.id hs hb.objects) (.cons rfl (.cons rfl .nil)) fn41 rfl rfl rfl (.old rfl .nil) rfl) (dOK_spec rfl) ?_ | refine lx_any rfl (op_callG2 (l := [(Go.Operand.tmp 12), (Go.Operand.tmp 14)]) (add := [(601, ((N1, 100090), blkX 10 33 (m.objects.flatMap Ob.ps)))]) (ks := []) (φ := tupP [eqP (.int .i64 (pos m.objects o.id : Int)), eqP (.bool (fnd m.objects o.id))]) (.cons (m := 601) rfl .nil) (search_own (N1, 100090) m.objects o.id hs hb.objects) (.ent rfl (by repeat (first | exact Ents.nil | refine Ents.cons ?_ ?_ | refine Ent.tup ?_ | refine Ent.agg ?_ | exact Ent.row _ _ _ _ | exact Ent.nil _ _ | exact Ent.func _ | exact Ent.refl _ | exact Ent.of_eq rfl | refine Ent.cells ?_)) (.ent rfl (by repeat (first | exact Ents.nil | refine Ents.cons ?_ ?_ | refine Ent.tup ?_ | refine Ent.agg ?_ | exact Ent.row _ _ _ _ | exact Ent.nil _ _ | exact Ent.func _ | exact Ent.refl _ | exact Ent.of_eq rfl | refine Ent.cells ?_)) .nil)) fn41 rfl rfl rfl (.old rfl .nil) rfl) (dOK_spec rfl) ?_
  refine lx (op_move rfl) rfl ?_
  refine lx (op_extract rfl rfl) rfl ?_
  refine lx (op_extract rfl rfl) rfl ?_
  refine lx (op_assign rfl) rfl ?_
  refine lx (op_assign rfl) rfl ?_
  refine lx_end ⟨by kernel_rfl, ?_⟩
  refine pe_then_normal ?_
  refine tr_sub hC (.cons (t := 3) rfl (.cons (t := 4) rfl (.cons (t := 5) rfl (.cons (t := 6) rfl (.cons (t := 7) rfl .nil))))) (.cons (t := 3) rfl (.cons (t := 4) rfl (.cons (t := 602) rfl (.cons (t := 5) rfl (.cons (t := 601) rfl .nil))))) rfl ?_
  refine tr_seq ?_
  refine tr_seq ?_
  refine tr_region (fun N3 hN => ?_)
  refine lx (op_move rfl) rfl ?_
  refine lx_end ⟨by kernel_rfl, ?_⟩
  refine pe_then_normal ?_
  refine tr_sub hC (.cons (t := 3) rfl (.cons (t := 4) rfl (.cons (t := 5) rfl (.cons (t := 6) rfl (.cons (t := 18) rfl .nil))))) (.cons (t := 3) rfl (.cons (t := 4) rfl (.cons (t := 602) rfl (.cons (t := 5) rfl (.cons (t := 601) rfl .nil))))) rfl ?_
  refine tr_cond rfl (fun h18 => ?_) (fun h18 => ?_)
  · (try simp only [Bool.and_eq_true, Bool.or_eq_true, Bool.and_eq_false_iff, Bool.or_eq_false_iff, decide_eq_true_eq, decide_eq_false_iff_not, Bool.not_eq_true', Bool.not_eq_false', List.length_map, ne_eq, Decidable.not_not, Int.not_lt, Int.not_le] at h18)
    have hp := put_set h18
    obtain ⟨hpl, o1, ho1, hoid⟩ := fnd_pos h18 hs
    refine tr_drawn mixed (fun N4 hN => ?_)
    refine lx (op_fieldAddr rfl fl29_0 sz22) rfl ?_
    refine lx (op_bload_one (m := 5) rfl rfl ag22 rfl) rfl ?_
    refine lx (op_move rfl) rfl ?_
    refine lx (op_bload (m := 3) rfl rfl ag33 sz33) rfl ?_
    first | refine lx (op_call (l := [(Go.Operand.tmp 22)]) (own_ok o ho) (.cons rfl .nil) fn42) rfl ?_ | refine lx (op_call (l := [(Go.Operand.tmp 22)]) (own_ok o ho) (.ent rfl (by repeat (first | exact Ents.nil | refine Ents.cons ?_ ?_ | refine Ent.tup ?_ | refine Ent.agg ?_ | exact Ent.row _ _ _ _ | exact Ent.nil _ _ | exact Ent.func _ | exact Ent.refl _ | exact Ent.of_eq rfl | refine Ent.cells ?_)) .nil) fn42) rfl ?_
    refine lx (op_index_mv rfl rfl el22 sz33 rfl hpl) rfl ?_
    refine lxr (op_tstore (m := 601) (j := (pos m.objects o.id)) (fo := 0) (z' := o) rfl rfl rfl (.agg rfl) sz33 rfl Ob.len (by omega) ho1 rfl rfl) rfl ?_
    refine lx_end ⟨by kernel_rfl, ?_⟩
    refine pe_then_normal ?_
    refine tr_sub hC (.cons (t := 4) rfl (.cons (t := 5) rfl .nil)) (.cons (t := 4) rfl (.cons (t := 602) rfl (.cons (t := 5) rfl (.cons (t := 601) rfl .nil)))) rfl ?_
    refine tr_bound 0 (m := 601) rfl ?_
    refine tr_freeze (m := 601) rfl (.ent (t := 0) rfl FEnt.frz_bound (.cons (t := 4) rfl (.cons (t := 5) rfl .nil))) ?_
    refine tr_thaw (t := 0) (n := 5) (qs' := [slP Ob.ps 10 (putF o m.objects), slP Sy.ps 6 m.syncs, mvP (N1, 100091) 4 0 m.gors.length m.gors.length, slP ip 1 m.output]) rfl (.cons (t := 4) rfl (.cons (t := 5) rfl .nil)) rfl (.cons (FEnt.mv (by rw [hp]; first | (rw [List.length_set]; done) | rw [insL_len pos_le]) ⟨[], by rw [hp]; simp⟩ Ob.len) (.cons (.of (Ent.refl _)) (.cons (.of (Ent.refl _)) (.cons (.of (Ent.refl _)) .nil)))) ?_
    refine tr_bound 1 (m := 602) rfl ?_
    refine tr_freeze (m := 602) rfl (.ent (t := 1) rfl FEnt.frz_bound (.cons (t := 4) rfl (.cons (t := 5) rfl .nil))) ?_
    refine tr_thaw (t := 1) (n := 5) (qs' := [slP Ob.ps 10 (putF o m.objects), slP Sy.ps 6 m.syncs, slP Gr.ps 4 m.gors, slP ip 1 m.output]) rfl (.cons (t := 4) rfl (.cons (t := 5) rfl .nil)) rfl (.cons (.of (Ent.refl _)) (.cons (.of (Ent.refl _)) (.cons (FEnt.mv rfl ⟨[], by simp⟩ Gr.len) (.cons (.of (Ent.refl _)) .nil)))) ?_
    refine tr_seq ?_
    refine tr_region (fun N6 hN => ?_)
    refine lx (op_bload (m := 5) rfl rfl ag29 sz29) rfl ?_
    refine lxr (op_store_all (m := 4) rfl rfl rfl (.agg rfl) sz29 rfl) rfl ?_
    refine lx_end ⟨by kernel_rfl, ?_⟩
    refine pe_then_normal ?_
    refine tr_sub hC (.cons (t := 4) rfl .nil) (.cons (t := 4) rfl .nil) rfl ?_
    refine tr_ret ?_
    refine pe_ret1 rfl hO rfl (.cell (m := 4) rfl rfl ag29 sz29 .nil) ?_
    repeat (first | exact Ents.nil | refine Ents.cons ?_ ?_ | refine Ent.tup ?_ | refine Ent.agg ?_ | exact Ent.row _ _ _ _ | exact Ent.nil _ _ | exact Ent.func _ | exact Ent.refl _ | exact Ent.of_eq rfl | refine Ent.cells ?_)
  · (try simp only [Bool.and_eq_true, Bool.or_eq_true, Bool.and_eq_false_iff, Bool.or_eq_false_iff, decide_eq_true_eq, decide_eq_false_iff_not, Bool.not_eq_true', Bool.not_eq_false', List.length_map, ne_eq, Decidable.not_not, Int.not_lt, Int.not_le] at h18)
    have hp := put_ins h18
    refine tr_drawn mixed (fun N5 hN => ?_)
    refine lx (op_fieldAddr rfl fl29_0 sz22) rfl ?_
    refine lx (op_bload_one (m := 5) rfl rfl ag22 rfl) rfl ?_
    refine lx (op_move rfl) rfl ?_
    refine lx (op_bload (m := 3) rfl rfl ag33 sz33) rfl ?_
    first | refine lx (op_call (l := [(Go.Operand.tmp 28)]) (own_ok o ho) (.cons rfl .nil) fn42) rfl ?_ | refine lx (op_call (l := [(Go.Operand.tmp 28)]) (own_ok o ho) (.ent rfl (by repeat (first | exact Ents.nil | refine Ents.cons ?_ ?_ | refine Ent.tup ?_ | refine Ent.agg ?_ | exact Ent.row _ _ _ _ | exact Ent.nil _ _ | exact Ent.func _ | exact Ent.refl _ | exact Ent.of_eq rfl | refine Ent.cells ?_)) .nil) fn42) rfl ?_
    refine lxn (op_buildRow (m' := 30) (kk := 30) (f := Ob.ps) (xs := [o]) (l := [(0, (Go.Operand.tmp 29))]) ze33 rfl rfl (by decide) el22 sz33 Ob.len (.cons rfl (.agg rfl) .nil) rfl (by decide) (by first | exact hC.low _ (by decide) | rfl)) rfl ?_
    first | refine lx_any rfl (op_callG2 (l := [(Go.Operand.tmp 26), (Go.Operand.tmp 27), (Go.Operand.tmp 30)]) (add := [(601, ((N5, 100310), blkX 10 33 ((insL m.objects (pos m.objects o.id) o).flatMap Ob.ps)))]) (ks := [100310]) (φ := mvP (N5, 100310) 10 0 (m.objects.length + 1) (m.objects.length + 1)) (.cons (m := 601) rfl (.cons (m := 30) rfl .nil)) (insert_ok (N1, 100090) (N5, 30) m.objects (pos m.objects o.id) o pos_le hb.objects) (.cons rfl (.cons rfl (.cons rfl .nil))) fn43 rfl rfl rfl (.old rfl .nil) rfl) (dOK_spec rfl) ?_ | refine lx_any rfl (op_callG2 (l := [(Go.Operand.tmp 26), (Go.Operand.tmp 27), (Go.Operand.tmp 30)]) (add := [(601, ((N5, 100310), blkX 10 33 ((insL m.objects (pos m.objects o.id) o).flatMap Ob.ps)))]) (ks := [100310]) (φ := mvP (N5, 100310) 10 0 (m.objects.length + 1) (m.objects.length + 1)) (.cons (m := 601) rfl (.cons (m := 30) rfl .nil)) (insert_ok (N1, 100090) (N5, 30) m.objects (pos m.objects o.id) o pos_le hb.objects) (.ent rfl (by repeat (first | exact Ents.nil | refine Ents.cons ?_ ?_ | refine Ent.tup ?_ | refine Ent.agg ?_ | exact Ent.row _ _ _ _ | exact Ent.nil _ _ | exact Ent.func _ | exact Ent.refl _ | exact Ent.of_eq rfl | refine Ent.cells ?_)) (.ent rfl (by repeat (first | exact Ents.nil | refine Ents.cons ?_ ?_ | refine Ent.tup ?_ | refine Ent.agg ?_ | exact Ent.row _ _ _ _ | exact Ent.nil _ _ | exact Ent.func _ | exact Ent.refl _ | exact Ent.of_eq rfl | refine Ent.cells ?_)) (.ent rfl (by repeat (first | exact Ents.nil | refine Ents.cons ?_ ?_ | refine Ent.tup ?_ | refine Ent.agg ?_ | exact Ent.row _ _ _ _ | exact Ent.nil _ _ | exact Ent.func _ | exact Ent.refl _ | exact Ent.of_eq rfl | refine Ent.cells ?_)) .nil))) fn43 rfl rfl rfl (.old rfl .nil) rfl) (dOK_spec rfl) ?_
    refine lx (op_fieldAddr rfl fl29_0 sz22) rfl ?_
    refine lxr (op_store (m := 5) (rs := [_, _, _, _]) rfl rfl rfl (.one (by (first | exact One.eq rfl | exact One.mv _ _ _ _ _ | exact One.cl _ _ _ | exact One.map _ | exact One.sl _ _ _ | exact One.row _ _ _ _ | exact One.msl _ _ _ _ | exact One.ptr _ _ | exact One.b _ | exact One.cells _))) sz22 rfl rfl rfl) rfl ?_
    refine lx_end ⟨by kernel_rfl, ?_⟩
    refine pe_then_normal ?_
    refine tr_sub hC (.cons (t := 4) rfl (.cons (t := 5) rfl .nil)) (.cons (t := 4) rfl (.cons (t := 602) rfl (.cons (t := 5) rfl (.cons (t := 601) rfl .nil)))) rfl ?_
    refine tr_bound 0 (m := 601) rfl ?_
    refine tr_freeze (m := 601) rfl (.ent (t := 0) rfl FEnt.frz_bound (.cons (t := 4) rfl (.cons (t := 5) rfl .nil))) ?_
    refine tr_thaw (t := 0) (n := 5) (qs' := [slP Ob.ps 10 (putF o m.objects), slP Sy.ps 6 m.syncs, mvP (N1, 100091) 4 0 m.gors.length m.gors.length, slP ip 1 m.output]) rfl (.cons (t := 4) rfl (.cons (t := 5) rfl .nil)) rfl (.cons (FEnt.mv (by rw [hp]; first | (rw [List.length_set]; done) | rw [insL_len pos_le]) ⟨[], by rw [hp]; simp⟩ Ob.len) (.cons (.of (Ent.refl _)) (.cons (.of (Ent.refl _)) (.cons (.of (Ent.refl _)) .nil)))) ?_
    refine tr_bound 1 (m := 602) rfl ?_
    refine tr_freeze (m := 602) rfl (.ent (t := 1) rfl FEnt.frz_bound (.cons (t := 4) rfl (.cons (t := 5) rfl .nil))) ?_
    refine tr_thaw (t := 1) (n := 5) (qs' := [slP Ob.ps 10 (putF o m.objects), slP Sy.ps 6 m.syncs, slP Gr.ps 4 m.gors, slP ip 1 m.output]) rfl (.cons (t := 4) rfl (.cons (t := 5) rfl .nil)) rfl (.cons (.of (Ent.refl _)) (.cons (.of (Ent.refl _)) (.cons (FEnt.mv rfl ⟨[], by simp⟩ Gr.len) (.cons (.of (Ent.refl _)) .nil)))) ?_
    refine tr_seq ?_
    refine tr_region (fun N6 hN => ?_)
    refine lx (op_bload (m := 5) rfl rfl ag29 sz29) rfl ?_
    refine lxr (op_store_all (m := 4) rfl rfl rfl (.agg rfl) sz29 rfl) rfl ?_
    refine lx_end ⟨by kernel_rfl, ?_⟩
    refine pe_then_normal ?_
    refine tr_sub hC (.cons (t := 4) rfl .nil) (.cons (t := 4) rfl .nil) rfl ?_
    refine tr_ret ?_
    refine pe_ret1 rfl hO rfl (.cell (m := 4) rfl rfl ag29 sz29 .nil) ?_
    repeat (first | exact Ents.nil | refine Ents.cons ?_ ?_ | refine Ent.tup ?_ | refine Ent.agg ?_ | exact Ent.row _ _ _ _ | exact Ent.nil _ _ | exact Ent.func _ | exact Ent.refl _ | exact Ent.of_eq rfl | refine Ent.cells ?_)
end Go.Proofs.Ytibcbiamdjmckaa


set_option linter.unusedVariables false
set_option linter.unusedSimpArgs false
namespace Go.Proofs.Ytibcbiamdjmckaa
open Go.AL Go.Ch Go.Hp Go.RowKit
theorem fn24 : fnB Try.prog 24 = true := by kernel_rfl
theorem Alloc_ok (m : Mc) (x : Int) (o : Ob) (hb : Bd 4000000 m) (ho : BdO 4000000 o) (hs : Srt m.objects) : FnP Try.prog 16 [aggP m.ps, eqP (.int .i64 x), aggP o.ps] (tupP [aggP (allocF putF m x o).1.ps, eqP (.int .i64 (allocF putF m x o).2.1), eqP (.int .i64 (allocF putF m x o).2.2)]) := by
  refine fn_pure' Try.func16 rfl Try.ntmps16 rfl ?_
  intro σ0 M ex Rf R hC hO
  simp only [frameOf, tokOf]
  refine tr_seq ?_
  refine tr_region (fun N0 hN => ?_)
  refine lxn (op_box (m := 3) (k := 3) rfl (.agg rfl) (by first | exact hC.low _ (by decide) | rfl)) rfl ?_
  refine lxn (op_box (m := 5) (k := 5) rfl (.agg rfl) (by first | exact hC.low _ (by decide) | rfl)) rfl ?_
  refine lxn (op_alloc (m := 6) (k := 6) (ps := [eqP (.slice none 0 0), eqP (.slice none 0 0), eqP (.slice none 0 0), eqP (.slice none 0 0)]) ze29 rfl rfl (by first | exact hC.low _ (by decide) | rfl)) rfl ?_
  refine lx (op_assign rfl) rfl ?_
  refine lx (op_assign rfl) rfl ?_
  refine lx_end ⟨by kernel_rfl, ?_⟩
  refine pe_then_normal ?_
  refine tr_sub hC (.cons (t := 1) rfl (.cons (t := 3) rfl (.cons (t := 5) rfl (.cons (t := 6) rfl .nil)))) (.cons (t := 3) rfl (.cons (t := 5) rfl (.cons (t := 6) rfl .nil))) rfl ?_
  refine tr_seq ?_
  refine tr_seq ?_
  refine tr_region (fun N1 hN => ?_)
  refine lx (op_move rfl) rfl ?_
  refine lx (op_lss rfl rfl) rfl ?_
  refine lx (op_move rfl) rfl ?_
  refine lxs rfl rfl rfl guard_eq (.cons (t := 1) rfl (fun _ => Ent.refl _) .nil) (op_move rfl) rfl ?_
  refine lxs rfl rfl rfl guard_eq (.cons (t := 14) rfl (fun h => entW h) .nil) (op_geq rfl rfl) rfl ?_
  refine lx (op_pick_or rfl rfl) rfl ?_
  refine lx (op_move rfl) rfl ?_
  refine lxs rfl rfl rfl guard_eq (.cons (t := 1) rfl (fun _ => Ent.refl _) .nil) (op_move rfl) rfl ?_
  refine lxs rfl rfl rfl guard_eq (.cons (t := 3) rfl (fun _ => Ent.refl _) .nil) (op_fieldAddr rfl fl29_2 sz26) rfl ?_
  refine lxs rfl rfl rfl guard_eq (.cons (t := 19) rfl (fun h => entW h) .nil) (op_bload_one (m := 3) rfl rfl ag26 rfl) rfl ?_
  first | refine lxs rfl rfl rfl guard_eq (.cons (t := 20) rfl (fun h => entW h) .nil) (op_len rfl el26) rfl ?_ | refine lxs rfl rfl rfl guard_eq (.cons (t := 20) rfl (fun h => entW h) .nil) (op_len_row rfl el26) rfl ?_ | refine lxs rfl rfl rfl guard_eq (.cons (t := 20) rfl (fun h => entW h) .nil) (op_len_mv rfl el26) rfl ?_ | refine lxs rfl rfl rfl guard_eq (.cons (t := 20) rfl (fun h => entW h) .nil) (op_len_nil rfl el26) rfl ?_
  refine lxs rfl rfl rfl guard_eq (.cons (t := 18) rfl (fun h => entW h) (.cons (t := 21) rfl (fun h => entW h) .nil)) (op_geq rfl rfl) rfl ?_
  refine lx (op_pick_or rfl rfl) rfl ?_
  refine lx_end ⟨by kernel_rfl, ?_⟩
  refine pe_then_normal ?_
  refine tr_sub hC (.cons (t := 1) rfl (.cons (t := 3) rfl (.cons (t := 5) rfl (.cons (t := 6) rfl (.cons (t := 23) rfl .nil))))) (.cons (t := 3) rfl (.cons (t := 5) rfl (.cons (t := 6) rfl .nil))) rfl ?_
  refine tr_cond rfl (fun h23 => ?_) (fun h23 => ?_)
  · (try simp only [Bool.and_eq_true, Bool.or_eq_true, Bool.and_eq_false_iff, Bool.or_eq_false_iff, decide_eq_true_eq, decide_eq_false_iff_not, Bool.not_eq_true', Bool.not_eq_false', List.length_map, ne_eq, Decidable.not_not, Int.not_lt, Int.not_le] at h23)
    have h := alloc_1 (put := putF) (m := m) (g := x) (o := o) (by omega)
    refine tr_seq ?_
    refine tr_region (fun N2 hN => ?_)
    refine lx (op_build (qs := [_, _, _, _]) (parts := []) ze29 rfl rfl fs29 .nil rfl rfl) rfl ?_
    refine lxr (op_store_all (m := 6) rfl rfl rfl (.agg rfl) sz29 rfl) rfl ?_
    refine lx (op_assign rfl) rfl ?_
    refine lx (op_assign rfl) rfl ?_
    refine lx_end ⟨by kernel_rfl, ?_⟩
    refine pe_then_normal ?_
    refine tr_sub hC (.cons (t := 6) rfl (.cons (t := 7) rfl (.cons (t := 8) rfl .nil))) (.cons (t := 6) rfl .nil) rfl ?_
    refine tr_ret ?_
    refine pe_then_ret ?_
    refine pe_retN (rs := [.cell 6 29, .tmp 7, .tmp 8]) rfl rfl hO rfl (.cell (m := 6) rfl rfl ag29 sz29 (.tmp rfl (.tmp rfl .nil))) ?_
    rw [h]
    repeat (first | exact Ents.nil | refine Ents.cons ?_ ?_ | refine Ent.tup ?_ | refine Ent.agg ?_ | exact Ent.row _ _ _ _ | exact Ent.nil _ _ | exact Ent.func _ | exact Ent.refl _ | exact Ent.of_eq rfl | refine Ent.cells ?_)
  · (try simp only [Bool.and_eq_true, Bool.or_eq_true, Bool.and_eq_false_iff, Bool.or_eq_false_iff, decide_eq_true_eq, decide_eq_false_iff_not, Bool.not_eq_true', Bool.not_eq_false', List.length_map, ne_eq, Decidable.not_not, Int.not_lt, Int.not_le] at h23)
    have hx : 0 ≤ x ∧ x < (m.gors.length : Int) ∧ x < 8 := by omega
    obtain ⟨gr, hgr⟩ : ∃ gr, m.gors[x.toNat]? = some gr := ⟨_, List.getElem?_eq_getElem (by omega)⟩
    refine tr_skip ?_
    refine pe_then_normal ?_
    refine tr_sub hC (.cons (t := 1) rfl (.cons (t := 3) rfl (.cons (t := 5) rfl (.cons (t := 6) rfl .nil)))) (.cons (t := 3) rfl (.cons (t := 5) rfl (.cons (t := 6) rfl .nil))) rfl ?_
    refine tr_seq ?_
    refine tr_region (fun N3 hN => ?_)
    refine lx (op_fieldAddr rfl fl29_2 sz26) rfl ?_
    refine lx (op_bload_one (m := 3) rfl rfl ag26 rfl) rfl ?_
    refine lx (op_move rfl) rfl ?_
    refine lx (op_index rfl rfl el26 sz70 (by omega : x = ((x.toNat : Nat) : Int)) hgr) rfl ?_
    first | refine lx (op_fieldAddr rfl fl70_2 sz3) rfl ?_ | refine lx (op_fieldCells rfl fl70_2 sz3) rfl ?_
    first | refine lx (op_load_one rfl ag3 rfl) rfl ?_ | refine lx (op_bload_one (m := 3) rfl rfl ag3 rfl) rfl ?_ | refine lx (op_bload_one (m := 5) rfl rfl ag3 rfl) rfl ?_ | refine lx (op_bload_one (m := 6) rfl rfl ag3 rfl) rfl ?_
    refine lx (op_assign rfl) rfl ?_
    refine lx_end ⟨by kernel_rfl, ?_⟩
    refine pe_then_normal ?_
    refine tr_sub hC (.cons (t := 1) rfl (.cons (t := 3) rfl (.cons (t := 5) rfl (.cons (t := 6) rfl (.cons (t := 9) rfl .nil))))) (.cons (t := 3) rfl (.cons (t := 5) rfl (.cons (t := 6) rfl .nil))) rfl ?_
    refine tr_seq ?_
    refine tr_seq ?_
    refine tr_region (fun N4 hN => ?_)
    refine lx (op_move rfl) rfl ?_
    refine lx (op_lss rfl rfl) rfl ?_
    refine lx (op_move rfl) rfl ?_
    refine lxs rfl rfl rfl guard_eq (.cons (t := 9) rfl (fun _ => Ent.refl _) .nil) (op_move rfl) rfl ?_
    refine lxs rfl rfl rfl guard_eq (.cons (t := 34) rfl (fun h => entW h) .nil) (op_geq rfl rfl) rfl ?_
    refine lx (op_pick_or rfl rfl) rfl ?_
    refine lx_end ⟨by kernel_rfl, ?_⟩
    refine pe_then_normal ?_
    refine tr_sub hC (.cons (t := 1) rfl (.cons (t := 3) rfl (.cons (t := 5) rfl (.cons (t := 6) rfl (.cons (t := 9) rfl (.cons (t := 36) rfl .nil)))))) (.cons (t := 3) rfl (.cons (t := 5) rfl (.cons (t := 6) rfl .nil))) rfl ?_
    refine tr_cond rfl (fun h36 => ?_) (fun h36 => ?_)
    · (try simp only [Bool.and_eq_true, Bool.or_eq_true, Bool.and_eq_false_iff, Bool.or_eq_false_iff, decide_eq_true_eq, decide_eq_false_iff_not, Bool.not_eq_true', Bool.not_eq_false', List.length_map, ne_eq, Decidable.not_not, Int.not_lt, Int.not_le] at h36)
      have h := alloc_2 (put := putF) (o := o) (by omega) hgr (by omega)
      refine tr_seq ?_
      refine tr_region (fun N5 hN => ?_)
      refine lx (op_build (qs := [_, _, _, _]) (parts := []) ze29 rfl rfl fs29 .nil rfl rfl) rfl ?_
      refine lxr (op_store_all (m := 6) rfl rfl rfl (.agg rfl) sz29 rfl) rfl ?_
      refine lx (op_assign rfl) rfl ?_
      refine lx (op_assign rfl) rfl ?_
      refine lx_end ⟨by kernel_rfl, ?_⟩
      refine pe_then_normal ?_
      refine tr_sub hC (.cons (t := 6) rfl (.cons (t := 7) rfl (.cons (t := 8) rfl .nil))) (.cons (t := 6) rfl .nil) rfl ?_
      refine tr_ret ?_
      refine pe_then_ret ?_
      refine pe_retN (rs := [.cell 6 29, .tmp 7, .tmp 8]) rfl rfl hO rfl (.cell (m := 6) rfl rfl ag29 sz29 (.tmp rfl (.tmp rfl .nil))) ?_
      rw [h]
      repeat (first | exact Ents.nil | refine Ents.cons ?_ ?_ | refine Ent.tup ?_ | refine Ent.agg ?_ | exact Ent.row _ _ _ _ | exact Ent.nil _ _ | exact Ent.func _ | exact Ent.refl _ | exact Ent.of_eq rfl | refine Ent.cells ?_)
    · (try simp only [Bool.and_eq_true, Bool.or_eq_true, Bool.and_eq_false_iff, Bool.or_eq_false_iff, decide_eq_true_eq, decide_eq_false_iff_not, Bool.not_eq_true', Bool.not_eq_false', List.length_map, ne_eq, Decidable.not_not, Int.not_lt, Int.not_le] at h36)
      have h := alloc_3 (put := putF) (o := o) (by omega) hgr (by omega)
      refine tr_skip ?_
      refine pe_then_normal ?_
      refine tr_sub hC (.cons (t := 1) rfl (.cons (t := 3) rfl (.cons (t := 5) rfl (.cons (t := 6) rfl (.cons (t := 9) rfl .nil))))) (.cons (t := 3) rfl (.cons (t := 5) rfl (.cons (t := 6) rfl .nil))) rfl ?_
      refine tr_seq ?_
      refine tr_region (fun N6 hN => ?_)
      refine lx (op_move rfl) rfl ?_
      refine lx (op_add rfl rfl (by omega)) rfl ?_
      refine lx (op_move rfl) rfl ?_
      refine lx (op_mul rfl rfl (by omega)) rfl ?_
      refine lx (op_add rfl rfl (by omega)) rfl ?_
      refine lx (op_fieldAddr rfl fl33_0 sz3) rfl ?_
      refine lxr (op_store (m := 5) (rs := [_, _, _, _, _, _, _, _, _, _]) rfl rfl rfl (.one (by (first | exact One.eq rfl | exact One.mv _ _ _ _ _ | exact One.cl _ _ _ | exact One.map _ | exact One.sl _ _ _ | exact One.row _ _ _ _ | exact One.msl _ _ _ _ | exact One.ptr _ _ | exact One.b _ | exact One.cells _))) sz3 rfl rfl rfl) rfl ?_
      refine lx_end ⟨by kernel_rfl, ?_⟩
      refine pe_then_normal ?_
      refine tr_sub hC (.cons (t := 1) rfl (.cons (t := 3) rfl (.cons (t := 5) rfl (.cons (t := 6) rfl .nil)))) (.cons (t := 3) rfl (.cons (t := 5) rfl (.cons (t := 6) rfl .nil))) rfl ?_
      refine tr_seq ?_
      refine tr_region (fun N7 hN => ?_)
      refine lx (op_bload (m := 3) rfl rfl ag29 sz29) rfl ?_
      refine lx (op_bload (m := 5) rfl rfl ag33 sz33) rfl ?_
      first | refine lx_any rfl (op_callG2 (l := [(Go.Operand.tmp 44), (Go.Operand.tmp 45)]) (add := [(601, ((N7, 100460), blkX 4 70 (m.gors.flatMap Gr.ps)))]) (ks := [100460]) (φ := aggP (mcG { m with objects := putF { o with id := nid x gr.allocs } m.objects } (N7, 100460))) .nil (Put_own m { o with id := nid x gr.allocs } hb ⟨ho.cells, ho.queue, ho.senders, ho.receivers⟩ hs) (.cons rfl (.cons rfl .nil)) fn24 rfl rfl rfl (.new (by first | exact hC.low _ (by decide) | rfl) .nil) rfl) (dOK_spec rfl) ?_ | refine lx_any rfl (op_callG2 (l := [(Go.Operand.tmp 44), (Go.Operand.tmp 45)]) (add := [(601, ((N7, 100460), blkX 4 70 (m.gors.flatMap Gr.ps)))]) (ks := [100460]) (φ := aggP (mcG { m with objects := putF { o with id := nid x gr.allocs } m.objects } (N7, 100460))) .nil (Put_own m { o with id := nid x gr.allocs } hb ⟨ho.cells, ho.queue, ho.senders, ho.receivers⟩ hs) (.ent rfl (by repeat (first | exact Ents.nil | refine Ents.cons ?_ ?_ | refine Ent.tup ?_ | refine Ent.agg ?_ | exact Ent.row _ _ _ _ | exact Ent.nil _ _ | exact Ent.func _ | exact Ent.refl _ | exact Ent.of_eq rfl | refine Ent.cells ?_)) (.ent rfl (by repeat (first | exact Ents.nil | refine Ents.cons ?_ ?_ | refine Ent.tup ?_ | refine Ent.agg ?_ | exact Ent.row _ _ _ _ | exact Ent.nil _ _ | exact Ent.func _ | exact Ent.refl _ | exact Ent.of_eq rfl | refine Ent.cells ?_)) .nil)) fn24 rfl rfl rfl (.new (by first | exact hC.low _ (by decide) | rfl) .nil) rfl) (dOK_spec rfl) ?_
      refine lxn (op_alloc (m := 10) (k := 10) (ps := [eqP (.slice none 0 0), eqP (.slice none 0 0), eqP (.slice none 0 0), eqP (.slice none 0 0)]) ze29 rfl rfl (by first | exact hC.low _ (by decide) | rfl)) rfl ?_
      refine lxr (op_store_all (m := 10) rfl rfl rfl (.agg rfl) sz29 rfl) rfl ?_
      refine lx_end ⟨by kernel_rfl, ?_⟩
      refine pe_then_normal ?_
      refine tr_sub hC (.cons (t := 1) rfl (.cons (t := 5) rfl (.cons (t := 6) rfl (.cons (t := 10) rfl .nil)))) (.cons (t := 5) rfl (.cons (t := 6) rfl (.cons (t := 601) rfl (.cons (t := 10) rfl .nil)))) rfl ?_
      refine tr_seq ?_
      refine tr_region (fun N8 hN => ?_)
      refine lx (op_fieldAddr rfl fl29_2 sz26) rfl ?_
      refine lx (op_bload_one (m := 10) rfl rfl ag26 rfl) rfl ?_
      refine lx (op_move rfl) rfl ?_
      refine lx (op_index_mv rfl rfl el26 sz70 (by omega : x = ((x.toNat : Nat) : Int)) (show x.toNat < m.gors.length by omega)) rfl ?_
      refine lx (op_fieldAddr rfl fl70_2 sz3) rfl ?_
      refine lx (op_tload_one (m := 601) (j := x.toNat) (fo := 2) rfl rfl ag3 Gr.len (by omega) hgr rfl) rfl ?_
      refine lx (op_add rfl rfl (by omega)) rfl ?_
      refine lx (op_index_mv rfl rfl el26 sz70 (by omega : x = ((x.toNat : Nat) : Int)) (show x.toNat < m.gors.length by omega)) rfl ?_
      refine lx (op_fieldAddr rfl fl70_2 sz3) rfl ?_
      refine lxr (op_tstore (m := 601) (j := x.toNat) (fo := 2) (z' := { gr with allocs := gr.allocs + 1 }) rfl rfl rfl (.one (by (first | exact One.eq rfl | exact One.mv _ _ _ _ _ | exact One.cl _ _ _ | exact One.map _ | exact One.sl _ _ _ | exact One.row _ _ _ _ | exact One.msl _ _ _ _ | exact One.ptr _ _ | exact One.b _ | exact One.cells _))) sz3 rfl Gr.len (by omega) hgr rfl rfl) rfl ?_
      refine lx_end ⟨by kernel_rfl, ?_⟩
      refine pe_then_normal ?_
      refine tr_sub hC (.cons (t := 5) rfl (.cons (t := 6) rfl (.cons (t := 10) rfl .nil))) (.cons (t := 5) rfl (.cons (t := 6) rfl (.cons (t := 601) rfl (.cons (t := 10) rfl .nil)))) rfl ?_
      refine tr_bound 0 (m := 601) rfl ?_
      refine tr_freeze (m := 601) rfl (.ent (t := 0) rfl FEnt.frz_bound (.cons (t := 5) rfl (.cons (t := 6) rfl (.cons (t := 10) rfl .nil)))) ?_
      refine tr_thaw (t := 0) (n := 10) (qs' := Mc.ps ({ m with objects := putF { o with id := nid x gr.allocs } m.objects, gors := m.gors.set x.toNat { gr with allocs := gr.allocs + 1 } })) rfl (.cons (t := 5) rfl (.cons (t := 6) rfl (.cons (t := 10) rfl .nil))) rfl (.cons (.of (Ent.refl _)) (.cons (.of (Ent.refl _)) (.cons (FEnt.mv (by simp) ⟨[], by simp⟩ Gr.len) (.cons (.of (Ent.refl _)) .nil)))) ?_
      refine tr_seq ?_
      refine tr_drawn mixed (fun N9 hN => ?_)
      refine lx (op_bload (m := 10) rfl rfl ag29 sz29) rfl ?_
      refine lx (op_fieldAddr rfl fl33_0 sz3) rfl ?_
      refine lx (op_bload_one (m := 5) rfl rfl ag3 rfl) rfl ?_
      refine lxr (op_store_all (m := 6) rfl rfl rfl (.agg rfl) sz29 rfl) rfl ?_
      refine lx (op_assign rfl) rfl ?_
      refine lx (op_assign rfl) rfl ?_
      refine lx_end ⟨by kernel_rfl, ?_⟩
      refine pe_then_normal ?_
      refine tr_sub hC (.cons (t := 6) rfl (.cons (t := 7) rfl (.cons (t := 8) rfl .nil))) (.cons (t := 6) rfl .nil) rfl ?_
      refine tr_ret ?_
      refine pe_retN (rs := [.cell 6 29, .tmp 7, .tmp 8]) rfl rfl hO rfl (.cell (m := 6) rfl rfl ag29 sz29 (.tmp rfl (.tmp rfl .nil))) ?_
      rw [h]
      repeat (first | exact Ents.nil | refine Ents.cons ?_ ?_ | refine Ent.tup ?_ | refine Ent.agg ?_ | exact Ent.row _ _ _ _ | exact Ent.nil _ _ | exact Ent.func _ | exact Ent.refl _ | exact Ent.of_eq rfl | refine Ent.cells ?_)
end Go.Proofs.Ytibcbiamdjmckaa


namespace Go.Hp
open Go.AL Go.Ch Go.RowKit
def obE (z : Ob × Option AL.Id) : List Pred := match z.2 with | none => z.1.ps | some id => obCs z.1 id
theorem obE_len : ∀ z, (obE z).length = 10 := by
  rintro ⟨o, _ | id⟩ <;> rfl
def selL (l : List Ob) (i : Nat) (id : AL.Id) : List (Ob × Option AL.Id) := l.zipIdx.map fun p => (p.1, if p.2 = i then some id else none)
def selC (l : List Ob) (i k : Nat) : List V := if i < k then (l[i]?.getD ob0).cells else []
section
variable {l : List Ob} {i k : Nat} {id id' : AL.Id}
theorem selL_len : (selL l i id).length = l.length := by unfold selL; simp
theorem selL_get? (j : Nat) : (selL l i id)[j]? = l[j]?.map fun o => (o, if j = i then some id else none) := by
  unfold selL
  rw [List.getElem?_map, List.getElem?_zipIdx]
  cases l[j]? <;> simp
theorem selL_ne (hk : k < l.length) (h : ¬ k = i) : selL (l.take (k + 1)) i id = selL (l.take k) i id ++ [(l[k], none)] := by
  unfold selL
  rw [take_at hk, List.zipIdx_append, List.map_append]
  simp [List.length_take, Nat.min_eq_left (Nat.le_of_lt hk), h]
theorem selL_hit (hk : k < l.length) (h : k = i) : selL (l.take (k + 1)) i id' = selL (l.take k) i id ++ [(l[k], some id')] := by
  subst h
  unfold selL
  rw [take_at hk, List.zipIdx_append, List.map_append]
  simp only [List.zipIdx_cons, List.zipIdx_nil, List.map_cons, List.map_nil, List.length_take, Nat.min_eq_left (Nat.le_of_lt hk), Nat.zero_add, if_true]
  congr 1
  refine List.map_congr_left fun p hp => ?_
  have h2 := List.snd_lt_of_mem_zipIdx hp
  simp [List.length_take] at h2
  rw [if_neg (by omega), if_neg (by omega)]
theorem selC_ne (h : ¬ k = i) : selC l i (k + 1) = selC l i k := by
  unfold selC
  by_cases h1 : i < k
  · rw [if_pos h1, if_pos (by omega)]
  · rw [if_neg h1, if_neg (by omega)]
theorem selC_hit (hk : k < l.length) (h : k = i) : selC l i (k + 1) = l[k].cells := by
  subst h
  unfold selC
  rw [if_pos (by omega), List.getElem?_eq_getElem hk]
  rfl
theorem selC_end (hi : i < l.length) (hk : l.length ≤ k) : selC l i k = l[i].cells := by
  unfold selC
  rw [if_pos (by omega), List.getElem?_eq_getElem hi]
  rfl
theorem selL_at (hi : i < l.length) : (selL l i id)[i]? = some (l[i], some id) := by
  rw [selL_get?, List.getElem?_eq_getElem hi]
  simp
theorem entsAt_flat {α β : Type} {τ : Sg} {f : α → List Pred} {g : β → List Pred} : ∀ {xs : List α} {ys : List β}, xs.length = ys.length → (∀ (i : Nat) (x : α) (y : β), xs[i]? = some x → ys[i]? = some y → EntsAt τ (f x) (g y)) → EntsAt τ (xs.flatMap f) (ys.flatMap g)
  | [], [], _, _ => .nil
  | x :: xs, y :: ys, hl, h => by
    have ih := entsAt_flat (f := f) (g := g) (xs := xs) (ys := ys) (by simpa using hl) fun i a b ha hb => h (i + 1) a b (by simpa using ha) (by simpa using hb)
    have h0 := h 0 x y rfl rfl
    rw [List.flatMap_cons, List.flatMap_cons]
    generalize f x = p at h0 ⊢
    generalize g y = q at h0 ⊢
    induction h0 with
    | nil => exact ih
    | cons hh _ ih2 => exact .cons hh ih2
theorem entsAt_refl {τ : Sg} : ∀ l : List Pred, EntsAt τ l l
  | [] => .nil
  | _ :: l => .cons (fun _ h => h) (entsAt_refl l)
theorem selL_ren {τ : Sg} (h1 : τ.ρ id' = τ.ρ id) (h2 : τ.z id' = τ.z id) : EntsAt τ ((selL l i id).flatMap obE) ((selL l i id').flatMap obE) := by
  refine entsAt_flat (by rw [selL_len, selL_len]) fun j x y hx hy => ?_
  rw [selL_get?] at hx hy
  cases hl : l[j]? with
  | none => rw [hl] at hx; simp at hx
  | some o =>
    rw [hl] at hx hy
    simp only [Option.map_some, Option.some.injEq] at hx hy
    subst hx hy
    by_cases hj : j = i
    · simp only [hj, if_true]
      exact .cons (fun _ h => h) (.cons (mv_ren h1 h2) (entsAt_refl _))
    · simp only [hj, if_false]
      exact entsAt_refl _
/-- the cells are written no more -/
theorem selL_seal {o : Ob} {r v : V} {ps : List Pred} (hi : i < l.length) (ho : l[i]? = some o) (hp : ps = (setC o r v).cells.flatMap vp) : FEnts id ps ((selL l i id).flatMap obE) ((l.set i (setC o r v)).flatMap Ob.ps) := by
  subst hp
  refine FEnts.flat (by rw [selL_len, List.length_set]) fun j x y hx hy => ?_
  rw [selL_get?] at hx
  rw [List.getElem?_set] at hy
  by_cases hj : j = i
  · subst hj
    rw [ho] at hx
    simp only [Option.map_some, Option.some.injEq, if_true] at hx
    simp only [hi, if_true, Option.some.injEq] at hy
    subst hx hy
    exact .cons (.of (Ent.refl _)) (.cons (FEnt.mv (by simp [setC]) ⟨[], by simp [setC]⟩ vp_len) (FEnts.refl _ _ _))
  · rw [if_neg (fun e => hj e.symm)] at hy
    rw [hy] at hx
    simp only [Option.map_some, Option.some.injEq, hj, if_false] at hx
    subst hx
    exact FEnts.refl _ _ _
end
section
variable {P : Program} {C : Cx} {F : Fr} {L : Tk} {Q : Exit → Act → World → Prop} {c : Code}
/-- a block of the call's own that is not there -/
theorem tr_dummy (k : Nat) (e : TypeId) (m : Nat) (hm : tkf L C.Rf m = none) (h : ∀ id, Tr P C c F ((m, some (id, blkX k e [])) :: L) Q) : Tr P C c F L Q := by
  rintro a W ⟨σ, h1, h2, h3⟩
  obtain ⟨N, hN, hfr⟩ := fresh_N h3.mod C.M
  have hle : Le σ (bind σ (N, 0) none 0) := le_bind (hfr 0)
  have hmod : Models (bind σ (N, 0) none 0) (fun n => if n = m then some ((N, 0), blkX k e []) else tkf L C.Rf n) W := by
    refine h3.mod.move (le_bind (hfr 0)) m (N, 0) _ (fun i hi => bind_ne _ _ _ _ _ hi) (by rw [bind_at]; simp) (.inl hm) ?_ (Below.refl _ _) (fun n x b _ hn hb => ⟨rfl, fun _ => rfl⟩) (fun b i v hv => h3.mod.imm b i v hv) ?_ ?_
    · intro n x _ hn e
      exact h3.mod.used n x hn (by rw [e]; exact hfr 0)
    · intro b hb; rw [bind_at] at hb; cases hb
    · intro n x b _ _ hb; rw [bind_at] at hb; cases hb
  refine h (N, 0) a W ⟨bind σ (N, 0) none 0, h1.trans hle, keepB_of hN h2 keep_bind, h3.size, h3.defers, hmod.resMono (fun n => n) (fun n m h _ _ => h) ?_, ?_⟩
  · intro q y hy
    refine ⟨y.2, ?_, fun b o h => h⟩
    rw [tkf_cons] at hy
    exact hy
  · intro t' p hp
    exact p.m _ _ _ hle (h3.fr t' p hp)
end
end Go.Hp


set_option linter.unusedVariables false
set_option linter.unusedSimpArgs false
namespace Go.Proofs.Ytibcbiamdjmckaa
open Go.AL Go.Ch Go.Hp Go.RowKit
set_option maxHeartbeats 4000000 in
theorem copied_cell (m : Mc) (hb : Bd 4000000 m) (i : Nat) (hi : i < m.objects.length) : FnOK Try.prog 40 [aggP m.ps] [] 2 (fun ι => aggP ([mvP (ι 0) 10 0 m.objects.length m.objects.length, slP Sy.ps 6 m.syncs, slP Gr.ps 4 m.gors, slP ip 1 m.output])) (fun ι => [(ι 0, blkX 10 33 ((selL m.objects i (ι 1)).flatMap obE)), (ι 1, blkX 3 41 (m.objects[i].cells.flatMap vp))]) := by
  have hbo := hb.objects
  have hbs := hb.syncs
  have hbg := hb.gors
  have hbt := hb.output
  refine fn_ownN Try.func40 rfl Try.ntmps40 rfl ?_
  intro σ0 M Rf R hC hO
  simp only [frameOf, tokOf]
  refine tr_seq ?_
  refine tr_region (fun N0 hN => ?_)
  refine lxn (op_box (m := 1) (k := 1) rfl (.agg rfl) (by first | exact hC.low _ (by decide) | rfl)) rfl ?_
  refine lxn (op_alloc (m := 2) (k := 2) (ps := [eqP (.slice none 0 0), eqP (.slice none 0 0), eqP (.slice none 0 0), eqP (.slice none 0 0)]) ze29 rfl rfl (by first | exact hC.low _ (by decide) | rfl)) rfl ?_
  refine lx_end ⟨by kernel_rfl, ?_⟩
  refine pe_then_normal ?_
  refine tr_sub hC (.cons (t := 1) rfl (.cons (t := 2) rfl .nil)) (.cons (t := 1) rfl (.cons (t := 2) rfl .nil)) rfl ?_
  refine tr_seq ?_
  refine tr_region (fun N1 hN => ?_)
  refine lx (op_fieldAddr rfl fl29_3 sz27) rfl ?_
  refine lx (op_bload_one (m := 1) rfl rfl ag27 rfl) rfl ?_
  first | refine lx (op_call (l := [(Go.Operand.tmp 15)]) (icl m.output hbt) (.cons rfl .nil) fn51) rfl ?_ | refine lx (op_call (l := [(Go.Operand.tmp 15)]) (icl m.output hbt) (.ent rfl (by repeat (first | exact Ents.nil | refine Ents.cons ?_ ?_ | refine Ent.tup ?_ | refine Ent.agg ?_ | exact Ent.row _ _ _ _ | exact Ent.nil _ _ | exact Ent.func _ | exact Ent.refl _ | exact Ent.of_eq rfl | refine Ent.cells ?_)) .nil) fn51) rfl ?_
  refine lx (op_build (qs := [_, _, _, _]) (parts := [(3, (Go.Operand.tmp 16))]) ze29 rfl rfl fs29 (.cons rfl (.one (by (first | exact One.eq rfl | exact One.mv _ _ _ _ _ | exact One.cl _ _ _ | exact One.map _ | exact One.sl _ _ _ | exact One.row _ _ _ _ | exact One.msl _ _ _ _ | exact One.ptr _ _ | exact One.b _ | exact One.cells _))) fl29_3 sz27 rfl .nil) rfl rfl) rfl ?_
  refine lxn (op_alloc (m := 3) (k := 3) (ps := [eqP (.slice none 0 0), eqP (.slice none 0 0), eqP (.slice none 0 0), eqP (.slice none 0 0)]) ze29 rfl rfl (by first | exact hC.low _ (by decide) | rfl)) rfl ?_
  refine lxr (op_store_all (m := 3) rfl rfl rfl (.agg rfl) sz29 rfl) rfl ?_
  refine lx_end ⟨by kernel_rfl, ?_⟩
  refine pe_then_normal ?_
  refine tr_sub hC (.cons (t := 1) rfl (.cons (t := 2) rfl (.cons (t := 3) rfl .nil))) (.cons (t := 1) rfl (.cons (t := 2) rfl (.cons (t := 3) rfl .nil))) rfl ?_
  refine tr_seq ?_
  refine tr_seq ?_
  refine tr_region (fun N2 hN => ?_)
  refine lx (op_fieldAddr rfl fl29_0 sz22) rfl ?_
  refine lx (op_bload_one (m := 1) rfl rfl ag22 rfl) rfl ?_
  first | refine lx (op_len rfl el22) rfl ?_ | refine lx (op_len_row rfl el22) rfl ?_ | refine lx (op_len_mv rfl el22) rfl ?_ | refine lx (op_len_nil rfl el22) rfl ?_
  refine lx (op_move rfl) rfl ?_
  refine lx_end ⟨by kernel_rfl, ?_⟩
  refine pe_then_normal ?_
  refine tr_sub hC (.cons (t := 1) rfl (.cons (t := 2) rfl (.cons (t := 3) rfl (.cons (t := 19) rfl (.cons (t := 20) rfl (.cons (t := 21) rfl .nil)))))) (.cons (t := 1) rfl (.cons (t := 2) rfl (.cons (t := 3) rfl .nil))) rfl ?_
  refine tr_block ?_
  refine tr_nilboxM 10 33 3 0 600 rfl rfl (by first | exact hC.low _ (by decide) | rfl) (fun idN => ?_)
  try dsimp only [List.set]
  refine tr_dummy 3 41 605 (by first | exact hC.low _ (by decide) | rfl) (fun idC => ?_)
  refine tr_loopK (α := {zz : Nat × (List (Ob × Option AL.Id)) × AL.Id × AL.Id × (List V) // zz.1 ≤ m.objects.length ∧ zz.2.1 = selL (m.objects.take zz.1) i zz.2.2.2.1 ∧ zz.2.2.2.2 = selC m.objects i zz.1}) (⟨(0, [], idN, idC, []), Nat.zero_le _, rfl, by unfold selC; rw [if_neg (by omega)]⟩) (fun zz => [(21, eqP (.int .i64 (zz.1.1 : Int)))]) (fun zz => [(3, some ((N1, 3), blk 29 [mvP zz.1.2.2.1 10 0 zz.1.2.1.length zz.1.2.1.length, eqP (.slice none 0 0), eqP (.slice none 0 0), slP ip 1 m.output])), (600, some (zz.1.2.2.1, blkX 10 33 (zz.1.2.1.flatMap obE))), (605, some (zz.1.2.2.2.1, blkX 3 41 (zz.1.2.2.2.2.flatMap vp)))]) (fun zz => m.objects.length - zz.1.1) hC (.cons (t := 1) rfl (.cons (t := 2) rfl (.cons (t := 3) rfl (.cons (t := 19) rfl (.cons (t := 20) rfl .nil))))) (.cons (t := 1) rfl (.cons (t := 2) rfl .nil)) rfl ?_ ?_ (fun zz => ?_)
  · try dsimp only [List.cons_append, List.nil_append]
    first | refine SubF.cons rfl ?_ | (refine SubF.ent rfl ?_ ?_; · repeat (first | exact Ents.nil | refine Ents.cons ?_ ?_ | refine Ent.tup ?_ | refine Ent.agg ?_ | exact Ent.row _ _ _ _ | exact Ent.nil _ _ | exact Ent.func _ | exact Ent.refl _ | exact Ent.of_eq rfl | refine Ent.cells ?_))
    exact SubF.nil
  · try dsimp only [List.cons_append, List.nil_append]
    repeat (first | exact SubL.nil | refine SubL.cons rfl ?_)
  · obtain ⟨⟨k, xs, io, ic, cs⟩, hk1, hxs, hcs⟩ := zz
    try dsimp only at hk1
    try dsimp only at hxs
    try dsimp only at hcs
    dsimp only [List.cons_append, List.nil_append]
    refine tr_seq ?_
    refine tr_region (fun N3 hN => ?_)
    refine lx (op_lss rfl rfl) rfl ?_
    refine lx_end ⟨by kernel_rfl, ?_⟩
    refine pe_then_normal ?_
    refine tr_sub hC (.cons (t := 1) rfl (.cons (t := 2) rfl (.cons (t := 3) rfl (.cons (t := 19) rfl (.cons (t := 20) rfl (.cons (t := 21) rfl (.cons (t := 22) rfl .nil))))))) (.cons (t := 3) rfl (.cons (t := 600) rfl (.cons (t := 605) rfl (.cons (t := 1) rfl (.cons (t := 2) rfl .nil))))) rfl ?_
    refine tr_seq ?_
    refine tr_cond rfl (fun h22 => ?_) (fun h22 => ?_)
    · (try simp only [Bool.and_eq_true, Bool.or_eq_true, Bool.and_eq_false_iff, Bool.or_eq_false_iff, decide_eq_true_eq, decide_eq_false_iff_not, Bool.not_eq_true', Bool.not_eq_false', List.length_map, ne_eq, Decidable.not_not, Int.not_lt, Int.not_le] at h22)
      have hbk := hb.object _ (List.getElem_mem (by omega : k < m.objects.length))
      have hxl : xs.length ≤ k := by rw [hxs, selL_len, List.length_take]; omega
      refine tr_skip ?_
      refine pe_then_normal ?_
      refine tr_sub hC (.cons (t := 1) rfl (.cons (t := 2) rfl (.cons (t := 3) rfl (.cons (t := 19) rfl (.cons (t := 20) rfl (.cons (t := 21) rfl .nil)))))) (.cons (t := 3) rfl (.cons (t := 600) rfl (.cons (t := 605) rfl (.cons (t := 1) rfl (.cons (t := 2) rfl .nil))))) rfl ?_
      refine tr_seq ?_
      refine tr_block ?_
      refine tr_seq ?_
      refine tr_region (fun N4 hN => ?_)
      refine lx (op_index rfl rfl el22 sz33 rfl (List.getElem?_eq_getElem (by omega : k < m.objects.length))) rfl ?_
      first | refine lx (op_load_all rfl ag33 sz33) rfl ?_ | refine lx (op_load_agg rfl ag33 sz33 rfl) rfl ?_ | refine lx (op_bload (m := 3) rfl rfl ag33 sz33) rfl ?_ | refine lx (op_bload (m := 600) rfl rfl ag33 sz33) rfl ?_ | refine lx (op_bload (m := 605) rfl rfl ag33 sz33) rfl ?_ | refine lx (op_bload (m := 1) rfl rfl ag33 sz33) rfl ?_ | refine lx (op_bload (m := 2) rfl rfl ag33 sz33) rfl ?_ | refine lx (op_bload_part (m := 3) (qs := [_, _, _, _, _, _, _, _, _, _]) rfl rfl ag33 sz33 rfl rfl) rfl ?_ | refine lx (op_bload_part (m := 600) (qs := [_, _, _, _, _, _, _, _, _, _]) rfl rfl ag33 sz33 rfl rfl) rfl ?_ | refine lx (op_bload_part (m := 605) (qs := [_, _, _, _, _, _, _, _, _, _]) rfl rfl ag33 sz33 rfl rfl) rfl ?_ | refine lx (op_bload_part (m := 1) (qs := [_, _, _, _, _, _, _, _, _, _]) rfl rfl ag33 sz33 rfl rfl) rfl ?_ | refine lx (op_bload_part (m := 2) (qs := [_, _, _, _, _, _, _, _, _, _]) rfl rfl ag33 sz33 rfl rfl) rfl ?_
      refine lxn (op_alloc (m := 5) (k := 5) (ps := [eqP (.int .i64 0), eqP (.slice none 0 0), eqP (.bool false), eqP (.int .i64 0), eqP (.slice none 0 0), eqP (.bool false), eqP (.int .i64 0), eqP (.int .i64 0), eqP (.slice none 0 0), eqP (.slice none 0 0)]) ze33 rfl rfl (by first | exact hC.low _ (by decide) | rfl)) rfl ?_
      refine lxr (op_store_all (m := 5) rfl rfl rfl (.agg rfl) sz33 rfl) rfl ?_
      refine lx_end ⟨by kernel_rfl, ?_⟩
      refine pe_then_normal ?_
      refine tr_sub hC (.cons (t := 1) rfl (.cons (t := 2) rfl (.cons (t := 3) rfl (.cons (t := 5) rfl (.cons (t := 19) rfl (.cons (t := 20) rfl (.cons (t := 21) rfl .nil))))))) (.cons (t := 3) rfl (.cons (t := 600) rfl (.cons (t := 605) rfl (.cons (t := 1) rfl (.cons (t := 2) rfl (.cons (t := 5) rfl .nil)))))) rfl ?_
      by_cases hki : k = i
      · refine tr_sub hC (.cons (t := 1) rfl (.cons (t := 2) rfl (.cons (t := 3) rfl (.cons (t := 5) rfl (.cons (t := 19) rfl (.cons (t := 20) rfl (.cons (t := 21) rfl .nil))))))) (.cons (t := 3) rfl (.cons (t := 600) rfl (.cons (t := 1) rfl (.cons (t := 2) rfl (.cons (t := 5) rfl .nil))))) rfl ?_
        refine tr_drawn mixed (fun N5 hN => ?_)
        refine lx (op_fieldAddr rfl fl29_0 sz22) rfl ?_
        refine lx (op_bload_one (m := 3) rfl rfl ag22 rfl) rfl ?_
        refine lx (op_bload (m := 5) rfl rfl ag33 sz33) rfl ?_
        first | refine lx_any rfl (op_callG2 (l := [(Go.Operand.tmp 27)]) (add := [(605, ((N5, 100280), blkX 3 41 (m.objects[k].cells.flatMap vp)))]) (ks := [100280]) (φ := aggP (obCs m.objects[k] (N5, 100280))) .nil (own_own m.objects[k] hbk) (.cons rfl .nil) fn42 rfl rfl rfl (.new (by first | exact hC.low _ (by decide) | rfl) .nil) rfl) (dOK_spec rfl) ?_ | refine lx_any rfl (op_callG2 (l := [(Go.Operand.tmp 27)]) (add := [(605, ((N5, 100280), blkX 3 41 (m.objects[k].cells.flatMap vp)))]) (ks := [100280]) (φ := aggP (obCs m.objects[k] (N5, 100280))) .nil (own_own m.objects[k] hbk) (.ent rfl (by repeat (first | exact Ents.nil | refine Ents.cons ?_ ?_ | refine Ent.tup ?_ | refine Ent.agg ?_ | exact Ent.row _ _ _ _ | exact Ent.nil _ _ | exact Ent.func _ | exact Ent.refl _ | exact Ent.of_eq rfl | refine Ent.cells ?_)) .nil) fn42 rfl rfl rfl (.new (by first | exact hC.low _ (by decide) | rfl) .nil) rfl) (dOK_spec rfl) ?_
        refine lx (op_buildSlice (f := obE) (xs := [(m.objects[k], some (N5, 100280))]) (l := [(0, (Go.Operand.tmp 28))]) ze33 rfl rfl (by decide) el22 sz33 obE_len (.cons rfl (.agg rfl) .nil) rfl (by decide)) rfl ?_
        refine lxr (op_append_t (m := 600) (m' := 600) (kk := 30) (f := obE) rfl rfl rfl (.inl rfl) el22 ze33 sz33 by33 rfl (by decide) obE_len (by rw [List.length_singleton]; omega) (by rw [List.length_singleton]; omega)) rfl ?_
        refine lx (op_fieldAddr rfl fl29_0 sz22) rfl ?_
        refine lxr (op_store (m := 3) (rs := [_, _, _, _]) rfl rfl rfl (.one (by (first | exact One.eq rfl | exact One.mv _ _ _ _ _ | exact One.cl _ _ _ | exact One.map _ | exact One.sl _ _ _ | exact One.row _ _ _ _ | exact One.msl _ _ _ _ | exact One.ptr _ _ | exact One.b _ | exact One.cells _))) sz22 rfl rfl rfl) rfl ?_
        refine lx_end ⟨by kernel_rfl, ?_⟩
        refine pe_block_normal ?_
        refine pe_then_normal ?_
        refine tr_sub hC (.cons (t := 1) rfl (.cons (t := 2) rfl (.cons (t := 3) rfl (.cons (t := 19) rfl (.cons (t := 20) rfl (.cons (t := 21) rfl .nil)))))) (.cons (t := 3) rfl (.cons (t := 1) rfl (.cons (t := 2) rfl (.cons (t := 605) rfl (.cons (t := 600) rfl .nil))))) rfl ?_
        refine tr_region (fun N6 hN => ?_)
        refine lx (op_add rfl rfl (by omega)) rfl ?_
        refine lx (op_move rfl) rfl ?_
        refine lx_end ⟨by kernel_rfl, ?_⟩
        refine pe_round (⟨(k + 1, xs ++ [(m.objects[k], some (N5, 100280))], (N5, 30), (N5, 100280), m.objects[k].cells), by dsimp only; omega, by dsimp only; rw [hxs, selL_hit (id := ic) (by omega : k < m.objects.length) hki], by dsimp only; rw [selC_hit (by omega) hki]⟩) (by dsimp only; omega) (pe_st hC ?_ ?_ rfl)
        · try dsimp only [List.cons_append, List.nil_append]
          first | refine SubF.cons rfl ?_ | (refine SubF.ent rfl ?_ ?_; · repeat (first | exact Ents.nil | refine Ents.cons ?_ ?_ | refine Ent.tup ?_ | refine Ent.agg ?_ | exact Ent.row _ _ _ _ | exact Ent.nil _ _ | exact Ent.func _ | exact Ent.refl _ | exact Ent.of_eq rfl | refine Ent.cells ?_))
          first | refine SubF.cons rfl ?_ | (refine SubF.ent rfl ?_ ?_; · repeat (first | exact Ents.nil | refine Ents.cons ?_ ?_ | refine Ent.tup ?_ | refine Ent.agg ?_ | exact Ent.row _ _ _ _ | exact Ent.nil _ _ | exact Ent.func _ | exact Ent.refl _ | exact Ent.of_eq rfl | refine Ent.cells ?_))
          first | refine SubF.cons rfl ?_ | (refine SubF.ent rfl ?_ ?_; · repeat (first | exact Ents.nil | refine Ents.cons ?_ ?_ | refine Ent.tup ?_ | refine Ent.agg ?_ | exact Ent.row _ _ _ _ | exact Ent.nil _ _ | exact Ent.func _ | exact Ent.refl _ | exact Ent.of_eq rfl | refine Ent.cells ?_))
          first | refine SubF.cons rfl ?_ | (refine SubF.ent rfl ?_ ?_; · repeat (first | exact Ents.nil | refine Ents.cons ?_ ?_ | refine Ent.tup ?_ | refine Ent.agg ?_ | exact Ent.row _ _ _ _ | exact Ent.nil _ _ | exact Ent.func _ | exact Ent.refl _ | exact Ent.of_eq rfl | refine Ent.cells ?_))
          first | refine SubF.cons rfl ?_ | (refine SubF.ent rfl ?_ ?_; · repeat (first | exact Ents.nil | refine Ents.cons ?_ ?_ | refine Ent.tup ?_ | refine Ent.agg ?_ | exact Ent.row _ _ _ _ | exact Ent.nil _ _ | exact Ent.func _ | exact Ent.refl _ | exact Ent.of_eq rfl | refine Ent.cells ?_))
          first | refine SubF.cons rfl ?_ | (refine SubF.ent rfl ?_ ?_; · repeat (first | exact Ents.nil | refine Ents.cons ?_ ?_ | refine Ent.tup ?_ | refine Ent.agg ?_ | exact Ent.row _ _ _ _ | exact Ent.nil _ _ | exact Ent.func _ | exact Ent.refl _ | exact Ent.of_eq rfl | refine Ent.cells ?_))
          exact SubF.nil
        · try dsimp only [List.cons_append, List.nil_append]
          repeat (first | exact SubL.nil | refine SubL.cons rfl ?_)
      · refine tr_drawn mixed (fun N5 hN => ?_)
        refine lx (op_fieldAddr rfl fl29_0 sz22) rfl ?_
        refine lx (op_bload_one (m := 3) rfl rfl ag22 rfl) rfl ?_
        refine lx (op_bload (m := 5) rfl rfl ag33 sz33) rfl ?_
        first | refine lx (op_call (l := [(Go.Operand.tmp 27)]) (own_ok m.objects[k] hbk) (.cons rfl .nil) fn42) rfl ?_ | refine lx (op_call (l := [(Go.Operand.tmp 27)]) (own_ok m.objects[k] hbk) (.ent rfl (by repeat (first | exact Ents.nil | refine Ents.cons ?_ ?_ | refine Ent.tup ?_ | refine Ent.agg ?_ | exact Ent.row _ _ _ _ | exact Ent.nil _ _ | exact Ent.func _ | exact Ent.refl _ | exact Ent.of_eq rfl | refine Ent.cells ?_)) .nil) fn42) rfl ?_
        refine lx (op_buildSlice (f := obE) (xs := [(m.objects[k], none)]) (l := [(0, (Go.Operand.tmp 28))]) ze33 rfl rfl (by decide) el22 sz33 obE_len (.cons rfl (.agg rfl) .nil) rfl (by decide)) rfl ?_
        refine lxr (op_append_t (m := 600) (m' := 600) (kk := 30) (f := obE) rfl rfl rfl (.inl rfl) el22 ze33 sz33 by33 rfl (by decide) obE_len (by rw [List.length_singleton]; omega) (by rw [List.length_singleton]; omega)) rfl ?_
        refine lx (op_fieldAddr rfl fl29_0 sz22) rfl ?_
        refine lxr (op_store (m := 3) (rs := [_, _, _, _]) rfl rfl rfl (.one (by (first | exact One.eq rfl | exact One.mv _ _ _ _ _ | exact One.cl _ _ _ | exact One.map _ | exact One.sl _ _ _ | exact One.row _ _ _ _ | exact One.msl _ _ _ _ | exact One.ptr _ _ | exact One.b _ | exact One.cells _))) sz22 rfl rfl rfl) rfl ?_
        refine lx_end ⟨by kernel_rfl, ?_⟩
        refine pe_block_normal ?_
        refine pe_then_normal ?_
        refine tr_sub hC (.cons (t := 1) rfl (.cons (t := 2) rfl (.cons (t := 3) rfl (.cons (t := 19) rfl (.cons (t := 20) rfl (.cons (t := 21) rfl .nil)))))) (.cons (t := 3) rfl (.cons (t := 605) rfl (.cons (t := 1) rfl (.cons (t := 2) rfl (.cons (t := 600) rfl .nil))))) rfl ?_
        refine tr_region (fun N6 hN => ?_)
        refine lx (op_add rfl rfl (by omega)) rfl ?_
        refine lx (op_move rfl) rfl ?_
        refine lx_end ⟨by kernel_rfl, ?_⟩
        refine pe_round (⟨(k + 1, xs ++ [(m.objects[k], none)], (N5, 30), ic, cs), by dsimp only; omega, by dsimp only; rw [hxs, selL_ne (by omega : k < m.objects.length) hki], by dsimp only; rw [hcs, selC_ne hki]⟩) (by dsimp only; omega) (pe_st hC ?_ ?_ rfl)
        · try dsimp only [List.cons_append, List.nil_append]
          first | refine SubF.cons rfl ?_ | (refine SubF.ent rfl ?_ ?_; · repeat (first | exact Ents.nil | refine Ents.cons ?_ ?_ | refine Ent.tup ?_ | refine Ent.agg ?_ | exact Ent.row _ _ _ _ | exact Ent.nil _ _ | exact Ent.func _ | exact Ent.refl _ | exact Ent.of_eq rfl | refine Ent.cells ?_))
          first | refine SubF.cons rfl ?_ | (refine SubF.ent rfl ?_ ?_; · repeat (first | exact Ents.nil | refine Ents.cons ?_ ?_ | refine Ent.tup ?_ | refine Ent.agg ?_ | exact Ent.row _ _ _ _ | exact Ent.nil _ _ | exact Ent.func _ | exact Ent.refl _ | exact Ent.of_eq rfl | refine Ent.cells ?_))
          first | refine SubF.cons rfl ?_ | (refine SubF.ent rfl ?_ ?_; · repeat (first | exact Ents.nil | refine Ents.cons ?_ ?_ | refine Ent.tup ?_ | refine Ent.agg ?_ | exact Ent.row _ _ _ _ | exact Ent.nil _ _ | exact Ent.func _ | exact Ent.refl _ | exact Ent.of_eq rfl | refine Ent.cells ?_))
          first | refine SubF.cons rfl ?_ | (refine SubF.ent rfl ?_ ?_; · repeat (first | exact Ents.nil | refine Ents.cons ?_ ?_ | refine Ent.tup ?_ | refine Ent.agg ?_ | exact Ent.row _ _ _ _ | exact Ent.nil _ _ | exact Ent.func _ | exact Ent.refl _ | exact Ent.of_eq rfl | refine Ent.cells ?_))
          first | refine SubF.cons rfl ?_ | (refine SubF.ent rfl ?_ ?_; · repeat (first | exact Ents.nil | refine Ents.cons ?_ ?_ | refine Ent.tup ?_ | refine Ent.agg ?_ | exact Ent.row _ _ _ _ | exact Ent.nil _ _ | exact Ent.func _ | exact Ent.refl _ | exact Ent.of_eq rfl | refine Ent.cells ?_))
          first | refine SubF.cons rfl ?_ | (refine SubF.ent rfl ?_ ?_; · repeat (first | exact Ents.nil | refine Ents.cons ?_ ?_ | refine Ent.tup ?_ | refine Ent.agg ?_ | exact Ent.row _ _ _ _ | exact Ent.nil _ _ | exact Ent.func _ | exact Ent.refl _ | exact Ent.of_eq rfl | refine Ent.cells ?_))
          exact SubF.nil
        · try dsimp only [List.cons_append, List.nil_append]
          repeat (first | exact SubL.nil | refine SubL.cons rfl ?_)
    · (try simp only [Bool.and_eq_true, Bool.or_eq_true, Bool.and_eq_false_iff, Bool.or_eq_false_iff, decide_eq_true_eq, decide_eq_false_iff_not, Bool.not_eq_true', Bool.not_eq_false', List.length_map, ne_eq, Decidable.not_not, Int.not_lt, Int.not_le] at h22)
      have hfin : xs = selL m.objects i ic := by rw [hxs, List.take_of_length_le (by omega)]
      have hcf : cs = m.objects[i].cells := by rw [hcs, selC_end hi (by omega)]
      have hxf : xs.length = m.objects.length := by rw [hfin, selL_len]
      clear hxs hcs
      subst hfin hcf
      rw [hxf]
      refine tr_exit ?_
      refine pe_then_exit ?_
      refine pe_then_exit ?_
      refine pe_block_eq ?_
      refine pe_then_normal ?_
      refine tr_sub hC (.cons (t := 1) rfl (.cons (t := 2) rfl (.cons (t := 3) rfl .nil))) (.cons (t := 3) rfl (.cons (t := 600) rfl (.cons (t := 605) rfl (.cons (t := 1) rfl (.cons (t := 2) rfl .nil))))) rfl ?_
      refine tr_seq ?_
      refine tr_seq ?_
      refine tr_region (fun N7 hN => ?_)
      refine lx (op_fieldAddr rfl fl29_1 sz25) rfl ?_
      refine lx (op_bload_one (m := 1) rfl rfl ag25 rfl) rfl ?_
      first | refine lx (op_len rfl el25) rfl ?_ | refine lx (op_len_row rfl el25) rfl ?_ | refine lx (op_len_mv rfl el25) rfl ?_ | refine lx (op_len_nil rfl el25) rfl ?_
      refine lx (op_move rfl) rfl ?_
      refine lx_end ⟨by kernel_rfl, ?_⟩
      refine pe_then_normal ?_
      refine tr_sub hC (.cons (t := 1) rfl (.cons (t := 2) rfl (.cons (t := 3) rfl (.cons (t := 34) rfl (.cons (t := 35) rfl (.cons (t := 36) rfl .nil)))))) (.cons (t := 3) rfl (.cons (t := 600) rfl (.cons (t := 605) rfl (.cons (t := 1) rfl (.cons (t := 2) rfl .nil))))) rfl ?_
      refine tr_block ?_
      refine tr_nilbox Sy.ps 6 67 3 1 601 rfl rfl (by first | exact hC.low _ (by decide) | rfl) (fun idN => ?_)
      try dsimp only [List.set]
      refine tr_loopK (α := {zz : Nat × (List Sy) × AL.Id // zz.1 ≤ m.syncs.length ∧ zz.2.1 = m.syncs.take zz.1}) (⟨(0, [], idN), Nat.zero_le _, rfl⟩) (fun zz => [(36, eqP (.int .i64 (zz.1.1 : Int)))]) (fun zz => [(3, some ((N1, 3), blk 29 [mvP io 10 0 m.objects.length m.objects.length, rowP zz.1.2.2 Sy.ps 6 zz.1.2.1, eqP (.slice none 0 0), slP ip 1 m.output])), (601, some (zz.1.2.2, tail 67 6 (zz.1.2.1.length * 6)))]) (fun zz => m.syncs.length - zz.1.1) hC (.cons (t := 1) rfl (.cons (t := 2) rfl (.cons (t := 3) rfl (.cons (t := 34) rfl (.cons (t := 35) rfl .nil))))) (.cons (t := 600) rfl (.cons (t := 605) rfl (.cons (t := 1) rfl (.cons (t := 2) rfl .nil)))) rfl ?_ ?_ (fun zz => ?_)
      · try dsimp only [List.cons_append, List.nil_append]
        first | refine SubF.cons rfl ?_ | (refine SubF.ent rfl ?_ ?_; · repeat (first | exact Ents.nil | refine Ents.cons ?_ ?_ | refine Ent.tup ?_ | refine Ent.agg ?_ | exact Ent.row _ _ _ _ | exact Ent.nil _ _ | exact Ent.func _ | exact Ent.refl _ | exact Ent.of_eq rfl | refine Ent.cells ?_))
        exact SubF.nil
      · try dsimp only [List.cons_append, List.nil_append]
        repeat (first | exact SubL.nil | refine SubL.cons rfl ?_)
      · obtain ⟨⟨k, xs, i⟩, hk1, hxs⟩ := zz
        try dsimp only at hk1
        try dsimp only at hxs
        dsimp only [List.cons_append, List.nil_append]
        refine tr_seq ?_
        refine tr_region (fun N8 hN => ?_)
        refine lx (op_lss rfl rfl) rfl ?_
        refine lx_end ⟨by kernel_rfl, ?_⟩
        refine pe_then_normal ?_
        refine tr_sub hC (.cons (t := 1) rfl (.cons (t := 2) rfl (.cons (t := 3) rfl (.cons (t := 34) rfl (.cons (t := 35) rfl (.cons (t := 36) rfl (.cons (t := 37) rfl .nil))))))) (.cons (t := 3) rfl (.cons (t := 601) rfl (.cons (t := 600) rfl (.cons (t := 605) rfl (.cons (t := 1) rfl (.cons (t := 2) rfl .nil)))))) rfl ?_
        refine tr_seq ?_
        refine tr_cond rfl (fun h37 => ?_) (fun h37 => ?_)
        · (try simp only [Bool.and_eq_true, Bool.or_eq_true, Bool.and_eq_false_iff, Bool.or_eq_false_iff, decide_eq_true_eq, decide_eq_false_iff_not, Bool.not_eq_true', Bool.not_eq_false', List.length_map, ne_eq, Decidable.not_not, Int.not_lt, Int.not_le] at h37)
          have hbk := hb.readers _ (List.getElem_mem (by omega : k < m.syncs.length))
          have hxl : xs.length ≤ k := by rw [hxs, List.length_take]; omega
          refine tr_skip ?_
          refine pe_then_normal ?_
          refine tr_sub hC (.cons (t := 1) rfl (.cons (t := 2) rfl (.cons (t := 3) rfl (.cons (t := 34) rfl (.cons (t := 35) rfl (.cons (t := 36) rfl .nil)))))) (.cons (t := 3) rfl (.cons (t := 601) rfl (.cons (t := 600) rfl (.cons (t := 605) rfl (.cons (t := 1) rfl (.cons (t := 2) rfl .nil)))))) rfl ?_
          refine tr_seq ?_
          refine tr_block ?_
          refine tr_seq ?_
          refine tr_region (fun N9 hN => ?_)
          refine lx (op_index rfl rfl el25 sz67 rfl (List.getElem?_eq_getElem (by omega : k < m.syncs.length))) rfl ?_
          first | refine lx (op_load_all rfl ag67 sz67) rfl ?_ | refine lx (op_load_agg rfl ag67 sz67 rfl) rfl ?_ | refine lx (op_bload (m := 3) rfl rfl ag67 sz67) rfl ?_ | refine lx (op_bload (m := 601) rfl rfl ag67 sz67) rfl ?_ | refine lx (op_bload (m := 600) rfl rfl ag67 sz67) rfl ?_ | refine lx (op_bload (m := 605) rfl rfl ag67 sz67) rfl ?_ | refine lx (op_bload (m := 1) rfl rfl ag67 sz67) rfl ?_ | refine lx (op_bload (m := 2) rfl rfl ag67 sz67) rfl ?_ | refine lx (op_bload_part (m := 3) (qs := [_, _, _, _, _, _]) rfl rfl ag67 sz67 rfl rfl) rfl ?_ | refine lx (op_bload_part (m := 601) (qs := [_, _, _, _, _, _]) rfl rfl ag67 sz67 rfl rfl) rfl ?_ | refine lx (op_bload_part (m := 600) (qs := [_, _, _, _, _, _]) rfl rfl ag67 sz67 rfl rfl) rfl ?_ | refine lx (op_bload_part (m := 605) (qs := [_, _, _, _, _, _]) rfl rfl ag67 sz67 rfl rfl) rfl ?_ | refine lx (op_bload_part (m := 1) (qs := [_, _, _, _, _, _]) rfl rfl ag67 sz67 rfl rfl) rfl ?_ | refine lx (op_bload_part (m := 2) (qs := [_, _, _, _, _, _]) rfl rfl ag67 sz67 rfl rfl) rfl ?_
          refine lxn (op_alloc (m := 7) (k := 7) (ps := [eqP (.int .i64 0), eqP (.int .i64 0), eqP (.int .i64 0), eqP (.int .i64 0), eqP (.slice none 0 0), eqP (.int .i64 0)]) ze67 rfl rfl (by first | exact hC.low _ (by decide) | rfl)) rfl ?_
          refine lxr (op_store_all (m := 7) rfl rfl rfl (.agg rfl) sz67 rfl) rfl ?_
          refine lx_end ⟨by kernel_rfl, ?_⟩
          refine pe_then_normal ?_
          refine tr_sub hC (.cons (t := 1) rfl (.cons (t := 2) rfl (.cons (t := 3) rfl (.cons (t := 7) rfl (.cons (t := 34) rfl (.cons (t := 35) rfl (.cons (t := 36) rfl .nil))))))) (.cons (t := 3) rfl (.cons (t := 601) rfl (.cons (t := 600) rfl (.cons (t := 605) rfl (.cons (t := 1) rfl (.cons (t := 2) rfl (.cons (t := 7) rfl .nil))))))) rfl ?_
          refine tr_seq ?_
          refine tr_region (fun N10 hN => ?_)
          refine lx (op_fieldAddr rfl fl67_4 sz27) rfl ?_
          refine lx (op_bload_one (m := 7) rfl rfl ag27 rfl) rfl ?_
          first | refine lx (op_call (l := [(Go.Operand.tmp 41)]) (icl m.syncs[k].readers hbk) (.cons rfl .nil) fn51) rfl ?_ | refine lx (op_call (l := [(Go.Operand.tmp 41)]) (icl m.syncs[k].readers hbk) (.ent rfl (by repeat (first | exact Ents.nil | refine Ents.cons ?_ ?_ | refine Ent.tup ?_ | refine Ent.agg ?_ | exact Ent.row _ _ _ _ | exact Ent.nil _ _ | exact Ent.func _ | exact Ent.refl _ | exact Ent.of_eq rfl | refine Ent.cells ?_)) .nil) fn51) rfl ?_
          refine lx (op_fieldAddr rfl fl67_4 sz27) rfl ?_
          refine lxr (op_store (m := 7) (rs := [_, _, _, _, _, _]) rfl rfl rfl (.one (by (first | exact One.eq rfl | exact One.mv _ _ _ _ _ | exact One.cl _ _ _ | exact One.map _ | exact One.sl _ _ _ | exact One.row _ _ _ _ | exact One.msl _ _ _ _ | exact One.ptr _ _ | exact One.b _ | exact One.cells _))) sz27 rfl rfl rfl) rfl ?_
          refine lx_end ⟨by kernel_rfl, ?_⟩
          refine pe_then_normal ?_
          refine tr_sub hC (.cons (t := 1) rfl (.cons (t := 2) rfl (.cons (t := 3) rfl (.cons (t := 7) rfl (.cons (t := 34) rfl (.cons (t := 35) rfl (.cons (t := 36) rfl .nil))))))) (.cons (t := 3) rfl (.cons (t := 601) rfl (.cons (t := 600) rfl (.cons (t := 605) rfl (.cons (t := 1) rfl (.cons (t := 2) rfl (.cons (t := 7) rfl .nil))))))) rfl ?_
          refine tr_region (fun N11 hN => ?_)
          refine lx (op_fieldAddr rfl fl29_1 sz25) rfl ?_
          refine lx (op_bload_one (m := 3) rfl rfl ag25 rfl) rfl ?_
          refine lx (op_bload (m := 7) rfl rfl ag67 sz67) rfl ?_
          refine lx (op_buildSlice (f := Sy.ps) (xs := [m.syncs[k]]) (l := [(0, (Go.Operand.tmp 46))]) ze67 rfl rfl (by decide) el25 sz67 Sy.len (.cons rfl (.agg rfl) .nil) rfl (by decide)) rfl ?_
          refine lxr (op_append (m := 601) (m' := 601) (kk := 48) rfl rfl rfl (.inl rfl) el25 ze67 sz67 by67 rfl Sy.len (by rw [List.length_singleton]; omega) (by rw [List.length_singleton]; omega)) rfl ?_
          refine lx (op_fieldAddr rfl fl29_1 sz25) rfl ?_
          refine lxr (op_store (m := 3) (rs := [_, _, _, _]) rfl rfl rfl (.one (by (first | exact One.eq rfl | exact One.mv _ _ _ _ _ | exact One.cl _ _ _ | exact One.map _ | exact One.sl _ _ _ | exact One.row _ _ _ _ | exact One.msl _ _ _ _ | exact One.ptr _ _ | exact One.b _ | exact One.cells _))) sz25 rfl rfl rfl) rfl ?_
          refine lx_end ⟨by kernel_rfl, ?_⟩
          refine pe_block_normal ?_
          refine pe_then_normal ?_
          refine tr_sub hC (.cons (t := 1) rfl (.cons (t := 2) rfl (.cons (t := 3) rfl (.cons (t := 34) rfl (.cons (t := 35) rfl (.cons (t := 36) rfl .nil)))))) (.cons (t := 3) rfl (.cons (t := 600) rfl (.cons (t := 605) rfl (.cons (t := 1) rfl (.cons (t := 2) rfl (.cons (t := 601) rfl .nil)))))) rfl ?_
          refine tr_region (fun N12 hN => ?_)
          refine lx (op_add rfl rfl (by omega)) rfl ?_
          refine lx (op_move rfl) rfl ?_
          refine lx_end ⟨by kernel_rfl, ?_⟩
          refine pe_round (⟨(k + 1, xs ++ [m.syncs[k]], (N11, 48)), by dsimp only; omega, by dsimp only; rw [hxs, take_at (by omega : k < m.syncs.length)]⟩) (by dsimp only; omega) (pe_st hC ?_ ?_ rfl)
          · try dsimp only [List.cons_append, List.nil_append]
            first | refine SubF.cons rfl ?_ | (refine SubF.ent rfl ?_ ?_; · repeat (first | exact Ents.nil | refine Ents.cons ?_ ?_ | refine Ent.tup ?_ | refine Ent.agg ?_ | exact Ent.row _ _ _ _ | exact Ent.nil _ _ | exact Ent.func _ | exact Ent.refl _ | exact Ent.of_eq rfl | refine Ent.cells ?_))
            first | refine SubF.cons rfl ?_ | (refine SubF.ent rfl ?_ ?_; · repeat (first | exact Ents.nil | refine Ents.cons ?_ ?_ | refine Ent.tup ?_ | refine Ent.agg ?_ | exact Ent.row _ _ _ _ | exact Ent.nil _ _ | exact Ent.func _ | exact Ent.refl _ | exact Ent.of_eq rfl | refine Ent.cells ?_))
            first | refine SubF.cons rfl ?_ | (refine SubF.ent rfl ?_ ?_; · repeat (first | exact Ents.nil | refine Ents.cons ?_ ?_ | refine Ent.tup ?_ | refine Ent.agg ?_ | exact Ent.row _ _ _ _ | exact Ent.nil _ _ | exact Ent.func _ | exact Ent.refl _ | exact Ent.of_eq rfl | refine Ent.cells ?_))
            first | refine SubF.cons rfl ?_ | (refine SubF.ent rfl ?_ ?_; · repeat (first | exact Ents.nil | refine Ents.cons ?_ ?_ | refine Ent.tup ?_ | refine Ent.agg ?_ | exact Ent.row _ _ _ _ | exact Ent.nil _ _ | exact Ent.func _ | exact Ent.refl _ | exact Ent.of_eq rfl | refine Ent.cells ?_))
            first | refine SubF.cons rfl ?_ | (refine SubF.ent rfl ?_ ?_; · repeat (first | exact Ents.nil | refine Ents.cons ?_ ?_ | refine Ent.tup ?_ | refine Ent.agg ?_ | exact Ent.row _ _ _ _ | exact Ent.nil _ _ | exact Ent.func _ | exact Ent.refl _ | exact Ent.of_eq rfl | refine Ent.cells ?_))
            first | refine SubF.cons rfl ?_ | (refine SubF.ent rfl ?_ ?_; · repeat (first | exact Ents.nil | refine Ents.cons ?_ ?_ | refine Ent.tup ?_ | refine Ent.agg ?_ | exact Ent.row _ _ _ _ | exact Ent.nil _ _ | exact Ent.func _ | exact Ent.refl _ | exact Ent.of_eq rfl | refine Ent.cells ?_))
            exact SubF.nil
          · try dsimp only [List.cons_append, List.nil_append]
            repeat (first | exact SubL.nil | refine SubL.cons rfl ?_)
        · (try simp only [Bool.and_eq_true, Bool.or_eq_true, Bool.and_eq_false_iff, Bool.or_eq_false_iff, decide_eq_true_eq, decide_eq_false_iff_not, Bool.not_eq_true', Bool.not_eq_false', List.length_map, ne_eq, Decidable.not_not, Int.not_lt, Int.not_le] at h37)
          have hfin : xs = m.syncs := by rw [hxs, List.take_of_length_le (by omega)]
          refine tr_exit ?_
          refine pe_then_exit ?_
          refine pe_then_exit ?_
          refine pe_block_eq ?_
          refine pe_then_normal ?_
          refine tr_sub hC (.cons (t := 1) rfl (.cons (t := 2) rfl (.cons (t := 3) rfl .nil))) (.cons (t := 3) rfl (.cons (t := 601) rfl (.cons (t := 600) rfl (.cons (t := 605) rfl (.cons (t := 1) rfl (.cons (t := 2) rfl .nil)))))) rfl ?_
          refine tr_weakTok (m := 3) (qs := [mvP io 10 0 m.objects.length m.objects.length, slP Sy.ps 6 m.syncs, eqP (.slice none 0 0), slP ip 1 m.output]) rfl ?_ ?_
          · repeat (first | exact Ents.nil | refine Ents.cons ?_ ?_ | exact Ent.refl _ | exact Ent.row _ _ _ _ | exact Ent.nil _ _ | exact Ent.trans (Ent.row _ _ _ _) (Ent.of_eq (by rw [hfin])))
          refine tr_seq ?_
          refine tr_seq ?_
          refine tr_region (fun N13 hN => ?_)
          refine lx (op_fieldAddr rfl fl29_2 sz26) rfl ?_
          refine lx (op_bload_one (m := 1) rfl rfl ag26 rfl) rfl ?_
          first | refine lx (op_len rfl el26) rfl ?_ | refine lx (op_len_row rfl el26) rfl ?_ | refine lx (op_len_mv rfl el26) rfl ?_ | refine lx (op_len_nil rfl el26) rfl ?_
          refine lx (op_move rfl) rfl ?_
          refine lx_end ⟨by kernel_rfl, ?_⟩
          refine pe_then_normal ?_
          refine tr_sub hC (.cons (t := 2) rfl (.cons (t := 3) rfl (.cons (t := 52) rfl (.cons (t := 53) rfl (.cons (t := 54) rfl .nil))))) (.cons (t := 3) rfl (.cons (t := 601) rfl (.cons (t := 600) rfl (.cons (t := 605) rfl (.cons (t := 2) rfl .nil))))) rfl ?_
          refine tr_block ?_
          refine tr_nilbox Gr.ps 4 70 3 2 604 rfl rfl (by first | exact hC.low _ (by decide) | rfl) (fun idN => ?_)
          try dsimp only [List.set]
          refine tr_loopK (α := {zz : Nat × (List Gr) × AL.Id // zz.1 ≤ m.gors.length ∧ zz.2.1 = m.gors.take zz.1}) (⟨(0, [], idN), Nat.zero_le _, rfl⟩) (fun zz => [(54, eqP (.int .i64 (zz.1.1 : Int)))]) (fun zz => [(3, some ((N1, 3), blk 29 [mvP io 10 0 m.objects.length m.objects.length, slP Sy.ps 6 m.syncs, rowP zz.1.2.2 Gr.ps 4 zz.1.2.1, slP ip 1 m.output])), (604, some (zz.1.2.2, tail 70 4 (zz.1.2.1.length * 4)))]) (fun zz => m.gors.length - zz.1.1) hC (.cons (t := 2) rfl (.cons (t := 3) rfl (.cons (t := 52) rfl (.cons (t := 53) rfl .nil)))) (.cons (t := 601) rfl (.cons (t := 600) rfl (.cons (t := 605) rfl (.cons (t := 2) rfl .nil)))) rfl ?_ ?_ (fun zz => ?_)
          · try dsimp only [List.cons_append, List.nil_append]
            first | refine SubF.cons rfl ?_ | (refine SubF.ent rfl ?_ ?_; · repeat (first | exact Ents.nil | refine Ents.cons ?_ ?_ | refine Ent.tup ?_ | refine Ent.agg ?_ | exact Ent.row _ _ _ _ | exact Ent.nil _ _ | exact Ent.func _ | exact Ent.refl _ | exact Ent.of_eq rfl | refine Ent.cells ?_))
            exact SubF.nil
          · try dsimp only [List.cons_append, List.nil_append]
            repeat (first | exact SubL.nil | refine SubL.cons rfl ?_)
          · obtain ⟨⟨k, xs, i⟩, hk1, hxs⟩ := zz
            try dsimp only at hk1
            try dsimp only at hxs
            dsimp only [List.cons_append, List.nil_append]
            refine tr_seq ?_
            refine tr_region (fun N14 hN => ?_)
            refine lx (op_lss rfl rfl) rfl ?_
            refine lx_end ⟨by kernel_rfl, ?_⟩
            refine pe_then_normal ?_
            refine tr_sub hC (.cons (t := 2) rfl (.cons (t := 3) rfl (.cons (t := 52) rfl (.cons (t := 53) rfl (.cons (t := 54) rfl (.cons (t := 55) rfl .nil)))))) (.cons (t := 3) rfl (.cons (t := 604) rfl (.cons (t := 601) rfl (.cons (t := 600) rfl (.cons (t := 605) rfl (.cons (t := 2) rfl .nil)))))) rfl ?_
            refine tr_seq ?_
            refine tr_cond rfl (fun h55 => ?_) (fun h55 => ?_)
            · (try simp only [Bool.and_eq_true, Bool.or_eq_true, Bool.and_eq_false_iff, Bool.or_eq_false_iff, decide_eq_true_eq, decide_eq_false_iff_not, Bool.not_eq_true', Bool.not_eq_false', List.length_map, ne_eq, Decidable.not_not, Int.not_lt, Int.not_le] at h55)
              have hbk := hb.gor _ (List.getElem_mem (by omega : k < m.gors.length))
              have hxl : xs.length ≤ k := by rw [hxs, List.length_take]; omega
              have hbfr := hbk.frames
              refine tr_skip ?_
              refine pe_then_normal ?_
              refine tr_sub hC (.cons (t := 2) rfl (.cons (t := 3) rfl (.cons (t := 52) rfl (.cons (t := 53) rfl (.cons (t := 54) rfl .nil))))) (.cons (t := 3) rfl (.cons (t := 604) rfl (.cons (t := 601) rfl (.cons (t := 600) rfl (.cons (t := 605) rfl (.cons (t := 2) rfl .nil)))))) rfl ?_
              refine tr_seq ?_
              refine tr_block ?_
              refine tr_seq ?_
              refine tr_region (fun N15 hN => ?_)
              refine lx (op_index rfl rfl el26 sz70 rfl (List.getElem?_eq_getElem (by omega : k < m.gors.length))) rfl ?_
              first | refine lx (op_load_all rfl ag70 sz70) rfl ?_ | refine lx (op_load_agg rfl ag70 sz70 rfl) rfl ?_ | refine lx (op_bload (m := 3) rfl rfl ag70 sz70) rfl ?_ | refine lx (op_bload (m := 604) rfl rfl ag70 sz70) rfl ?_ | refine lx (op_bload (m := 601) rfl rfl ag70 sz70) rfl ?_ | refine lx (op_bload (m := 600) rfl rfl ag70 sz70) rfl ?_ | refine lx (op_bload (m := 605) rfl rfl ag70 sz70) rfl ?_ | refine lx (op_bload (m := 2) rfl rfl ag70 sz70) rfl ?_ | refine lx (op_bload_part (m := 3) (qs := [_, _, _, _]) rfl rfl ag70 sz70 rfl rfl) rfl ?_ | refine lx (op_bload_part (m := 604) (qs := [_, _, _, _]) rfl rfl ag70 sz70 rfl rfl) rfl ?_ | refine lx (op_bload_part (m := 601) (qs := [_, _, _, _]) rfl rfl ag70 sz70 rfl rfl) rfl ?_ | refine lx (op_bload_part (m := 600) (qs := [_, _, _, _]) rfl rfl ag70 sz70 rfl rfl) rfl ?_ | refine lx (op_bload_part (m := 605) (qs := [_, _, _, _]) rfl rfl ag70 sz70 rfl rfl) rfl ?_ | refine lx (op_bload_part (m := 2) (qs := [_, _, _, _]) rfl rfl ag70 sz70 rfl rfl) rfl ?_
              refine lxn (op_alloc (m := 9) (k := 9) (ps := [eqP (.int .i64 0), eqP (.int .i64 0), eqP (.int .i64 0), eqP (.slice none 0 0)]) ze70 rfl rfl (by first | exact hC.low _ (by decide) | rfl)) rfl ?_
              refine lxr (op_store_all (m := 9) rfl rfl rfl (.agg rfl) sz70 rfl) rfl ?_
              refine lx_end ⟨by kernel_rfl, ?_⟩
              refine pe_then_normal ?_
              refine tr_sub hC (.cons (t := 2) rfl (.cons (t := 3) rfl (.cons (t := 9) rfl (.cons (t := 52) rfl (.cons (t := 53) rfl (.cons (t := 54) rfl .nil)))))) (.cons (t := 3) rfl (.cons (t := 604) rfl (.cons (t := 601) rfl (.cons (t := 600) rfl (.cons (t := 605) rfl (.cons (t := 2) rfl (.cons (t := 9) rfl .nil))))))) rfl ?_
              refine tr_seq ?_
              refine tr_region (fun N16 hN => ?_)
              refine lx (op_fieldAddr rfl fl70_3 sz68) rfl ?_
              refine lx (op_bload_one (m := 9) rfl rfl ag68 rfl) rfl ?_
              first | refine lx_any rfl (op_callG2 (l := [(Go.Operand.tmp 59)]) (add := [(602, ((N16, 100600), blkX 9 92 (m.gors[k].frames.flatMap Fm.ps)))]) (ks := [100600]) (φ := mvP (N16, 100600) 9 0 m.gors[k].frames.length m.gors[k].frames.length) .nil (fcl m.gors[k].frames hbk.frames) (.cons rfl .nil) fn52 rfl rfl rfl (.new (by first | exact hC.low _ (by decide) | rfl) .nil) rfl) (dOK_spec rfl) ?_ | refine lx_any rfl (op_callG2 (l := [(Go.Operand.tmp 59)]) (add := [(602, ((N16, 100600), blkX 9 92 (m.gors[k].frames.flatMap Fm.ps)))]) (ks := [100600]) (φ := mvP (N16, 100600) 9 0 m.gors[k].frames.length m.gors[k].frames.length) .nil (fcl m.gors[k].frames hbk.frames) (.ent rfl (by repeat (first | exact Ents.nil | refine Ents.cons ?_ ?_ | refine Ent.tup ?_ | refine Ent.agg ?_ | exact Ent.row _ _ _ _ | exact Ent.nil _ _ | exact Ent.func _ | exact Ent.refl _ | exact Ent.of_eq rfl | refine Ent.cells ?_)) .nil) fn52 rfl rfl rfl (.new (by first | exact hC.low _ (by decide) | rfl) .nil) rfl) (dOK_spec rfl) ?_
              refine lx (op_assign rfl) rfl ?_
              refine lx_end ⟨by kernel_rfl, ?_⟩
              refine pe_then_normal ?_
              refine tr_sub hC (.cons (t := 2) rfl (.cons (t := 3) rfl (.cons (t := 9) rfl (.cons (t := 10) rfl (.cons (t := 52) rfl (.cons (t := 53) rfl (.cons (t := 54) rfl .nil))))))) (.cons (t := 3) rfl (.cons (t := 604) rfl (.cons (t := 601) rfl (.cons (t := 600) rfl (.cons (t := 605) rfl (.cons (t := 2) rfl (.cons (t := 9) rfl (.cons (t := 602) rfl .nil)))))))) rfl ?_
              refine tr_seq ?_
              refine tr_seq ?_
              refine tr_region (fun N17 hN => ?_)
              refine lx (op_move rfl) rfl ?_
              first | refine lx (op_len rfl el68) rfl ?_ | refine lx (op_len_row rfl el68) rfl ?_ | refine lx (op_len_mv rfl el68) rfl ?_ | refine lx (op_len_nil rfl el68) rfl ?_
              refine lx (op_move rfl) rfl ?_
              refine lx_end ⟨by kernel_rfl, ?_⟩
              refine pe_then_normal ?_
              refine tr_sub hC (.cons (t := 2) rfl (.cons (t := 3) rfl (.cons (t := 9) rfl (.cons (t := 10) rfl (.cons (t := 52) rfl (.cons (t := 53) rfl (.cons (t := 54) rfl (.cons (t := 62) rfl (.cons (t := 63) rfl .nil))))))))) (.cons (t := 3) rfl (.cons (t := 604) rfl (.cons (t := 601) rfl (.cons (t := 600) rfl (.cons (t := 605) rfl (.cons (t := 2) rfl (.cons (t := 9) rfl (.cons (t := 602) rfl .nil)))))))) rfl ?_
              refine tr_block ?_
              refine tr_loopK (α := {zz : Nat // zz ≤ m.gors[k].frames.length}) (⟨(0), Nat.zero_le _⟩) (fun zz => [(63, eqP (.int .i64 (zz.1 : Int)))]) (fun zz => []) (fun zz => m.gors[k].frames.length - zz.1) hC (.cons (t := 2) rfl (.cons (t := 3) rfl (.cons (t := 9) rfl (.cons (t := 10) rfl (.cons (t := 52) rfl (.cons (t := 53) rfl (.cons (t := 54) rfl (.cons (t := 62) rfl .nil)))))))) (.cons (t := 3) rfl (.cons (t := 604) rfl (.cons (t := 601) rfl (.cons (t := 600) rfl (.cons (t := 605) rfl (.cons (t := 2) rfl (.cons (t := 9) rfl (.cons (t := 602) rfl .nil)))))))) rfl ?_ ?_ (fun zz => ?_)
              · try dsimp only [List.cons_append, List.nil_append]
                first | refine SubF.cons rfl ?_ | (refine SubF.ent rfl ?_ ?_; · repeat (first | exact Ents.nil | refine Ents.cons ?_ ?_ | refine Ent.tup ?_ | refine Ent.agg ?_ | exact Ent.row _ _ _ _ | exact Ent.nil _ _ | exact Ent.func _ | exact Ent.refl _ | exact Ent.of_eq rfl | refine Ent.cells ?_))
                exact SubF.nil
              · try dsimp only [List.cons_append, List.nil_append]
                repeat (first | exact SubL.nil | refine SubL.cons rfl ?_)
              · obtain ⟨j, hj1⟩ := zz
                dsimp only [List.cons_append, List.nil_append]
                refine tr_seq ?_
                refine tr_region (fun N18 hN => ?_)
                refine lx (op_lss rfl rfl) rfl ?_
                refine lx_end ⟨by kernel_rfl, ?_⟩
                refine pe_then_normal ?_
                refine tr_sub hC (.cons (t := 2) rfl (.cons (t := 3) rfl (.cons (t := 9) rfl (.cons (t := 10) rfl (.cons (t := 52) rfl (.cons (t := 53) rfl (.cons (t := 54) rfl (.cons (t := 62) rfl (.cons (t := 63) rfl (.cons (t := 64) rfl .nil)))))))))) (.cons (t := 3) rfl (.cons (t := 604) rfl (.cons (t := 601) rfl (.cons (t := 600) rfl (.cons (t := 605) rfl (.cons (t := 2) rfl (.cons (t := 9) rfl (.cons (t := 602) rfl .nil)))))))) rfl ?_
                refine tr_seq ?_
                refine tr_cond rfl (fun h64 => ?_) (fun h64 => ?_)
                · (try simp only [Bool.and_eq_true, Bool.or_eq_true, Bool.and_eq_false_iff, Bool.or_eq_false_iff, decide_eq_true_eq, decide_eq_false_iff_not, Bool.not_eq_true', Bool.not_eq_false', List.length_map, ne_eq, Decidable.not_not, Int.not_lt, Int.not_le] at h64)
                  have hbf := hbk.each _ (List.getElem_mem (by omega : j < m.gors[k].frames.length))
                  have hbd := hbf.defers
                  refine tr_skip ?_
                  refine pe_then_normal ?_
                  refine tr_sub hC (.cons (t := 2) rfl (.cons (t := 3) rfl (.cons (t := 9) rfl (.cons (t := 10) rfl (.cons (t := 52) rfl (.cons (t := 53) rfl (.cons (t := 54) rfl (.cons (t := 62) rfl (.cons (t := 63) rfl .nil))))))))) (.cons (t := 3) rfl (.cons (t := 604) rfl (.cons (t := 601) rfl (.cons (t := 600) rfl (.cons (t := 605) rfl (.cons (t := 2) rfl (.cons (t := 9) rfl (.cons (t := 602) rfl .nil)))))))) rfl ?_
                  refine tr_seq ?_
                  refine tr_block ?_
                  refine tr_seq ?_
                  refine tr_region (fun N19 hN => ?_)
                  refine lx (op_move rfl) rfl ?_
                  refine lx (op_assign rfl) rfl ?_
                  refine lx_end ⟨by kernel_rfl, ?_⟩
                  refine pe_then_normal ?_
                  refine tr_sub hC (.cons (t := 2) rfl (.cons (t := 3) rfl (.cons (t := 9) rfl (.cons (t := 10) rfl (.cons (t := 11) rfl (.cons (t := 52) rfl (.cons (t := 53) rfl (.cons (t := 54) rfl (.cons (t := 62) rfl (.cons (t := 63) rfl .nil)))))))))) (.cons (t := 3) rfl (.cons (t := 604) rfl (.cons (t := 601) rfl (.cons (t := 600) rfl (.cons (t := 605) rfl (.cons (t := 2) rfl (.cons (t := 9) rfl (.cons (t := 602) rfl .nil)))))))) rfl ?_
                  refine tr_seq ?_
                  refine tr_region (fun N20 hN => ?_)
                  refine lx (op_move rfl) rfl ?_
                  refine lx (op_move rfl) rfl ?_
                  refine lx (op_move rfl) rfl ?_
                  refine lx (op_move rfl) rfl ?_
                  refine lx (op_index_mv rfl rfl el68 sz92 rfl (by omega)) rfl ?_
                  refine lx (op_fieldAddr rfl fl92_2 sz30) rfl ?_
                  refine lx (op_tload_one (m := 602) (j := j) (fo := 2) rfl rfl ag30 Fm.len (by omega) (List.getElem?_eq_getElem (by omega : j < m.gors[k].frames.length)) rfl) rfl ?_
                  first | refine lx (op_call (l := [(Go.Operand.tmp 72)]) (vcl m.gors[k].frames[j].regs hbf.regs) (.cons rfl .nil) fn53) rfl ?_ | refine lx (op_call (l := [(Go.Operand.tmp 72)]) (vcl m.gors[k].frames[j].regs hbf.regs) (.ent rfl (by repeat (first | exact Ents.nil | refine Ents.cons ?_ ?_ | refine Ent.tup ?_ | refine Ent.agg ?_ | exact Ent.row _ _ _ _ | exact Ent.nil _ _ | exact Ent.func _ | exact Ent.refl _ | exact Ent.of_eq rfl | refine Ent.cells ?_)) .nil) fn53) rfl ?_
                  refine lx (op_index_mv rfl rfl el68 sz92 rfl (by omega)) rfl ?_
                  refine lx (op_fieldAddr rfl fl92_2 sz30) rfl ?_
                  refine lxr (op_tstore_id (m := 602) (j := j) (fo := 2) (z := m.gors[k].frames[j]) rfl rfl rfl (.one (by (first | exact One.eq rfl | exact One.mv _ _ _ _ _ | exact One.cl _ _ _ | exact One.map _ | exact One.sl _ _ _ | exact One.row _ _ _ _ | exact One.msl _ _ _ _ | exact One.ptr _ _ | exact One.b _ | exact One.cells _))) sz30 rfl Fm.len (by omega) (List.getElem?_eq_getElem (by omega : j < m.gors[k].frames.length)) rfl rfl) rfl ?_
                  refine lx_end ⟨by kernel_rfl, ?_⟩
                  refine pe_then_normal ?_
                  refine tr_sub hC (.cons (t := 2) rfl (.cons (t := 3) rfl (.cons (t := 9) rfl (.cons (t := 10) rfl (.cons (t := 11) rfl (.cons (t := 52) rfl (.cons (t := 53) rfl (.cons (t := 54) rfl (.cons (t := 62) rfl (.cons (t := 63) rfl .nil)))))))))) (.cons (t := 3) rfl (.cons (t := 604) rfl (.cons (t := 601) rfl (.cons (t := 600) rfl (.cons (t := 605) rfl (.cons (t := 2) rfl (.cons (t := 9) rfl (.cons (t := 602) rfl .nil)))))))) rfl ?_
                  refine tr_seq ?_
                  refine tr_region (fun N21 hN => ?_)
                  refine lx (op_move rfl) rfl ?_
                  refine lx (op_move rfl) rfl ?_
                  refine lx (op_index_mv rfl rfl el68 sz92 rfl (by omega)) rfl ?_
                  refine lx (op_fieldAddr rfl fl92_4 sz90) rfl ?_
                  refine lx (op_tload_one (m := 602) (j := j) (fo := 4) rfl rfl ag90 Fm.len (by omega) (List.getElem?_eq_getElem (by omega : j < m.gors[k].frames.length)) rfl) rfl ?_
                  first | refine lx_any rfl (op_callG2 (l := [(Go.Operand.tmp 80)]) (add := [(603, ((N21, 100810), blkX 2 94 (m.gors[k].frames[j].defers.flatMap Df.ps)))]) (ks := [100810]) (φ := mvP (N21, 100810) 2 0 m.gors[k].frames[j].defers.length m.gors[k].frames[j].defers.length) .nil (dcl m.gors[k].frames[j].defers hbf.defers) (.cons rfl .nil) fn54 rfl rfl rfl (.new (by first | exact hC.low _ (by decide) | rfl) .nil) rfl) (dOK_spec rfl) ?_ | refine lx_any rfl (op_callG2 (l := [(Go.Operand.tmp 80)]) (add := [(603, ((N21, 100810), blkX 2 94 (m.gors[k].frames[j].defers.flatMap Df.ps)))]) (ks := [100810]) (φ := mvP (N21, 100810) 2 0 m.gors[k].frames[j].defers.length m.gors[k].frames[j].defers.length) .nil (dcl m.gors[k].frames[j].defers hbf.defers) (.ent rfl (by repeat (first | exact Ents.nil | refine Ents.cons ?_ ?_ | refine Ent.tup ?_ | refine Ent.agg ?_ | exact Ent.row _ _ _ _ | exact Ent.nil _ _ | exact Ent.func _ | exact Ent.refl _ | exact Ent.of_eq rfl | refine Ent.cells ?_)) .nil) fn54 rfl rfl rfl (.new (by first | exact hC.low _ (by decide) | rfl) .nil) rfl) (dOK_spec rfl) ?_
                  refine lx (op_assign rfl) rfl ?_
                  refine lx_end ⟨by kernel_rfl, ?_⟩
                  refine pe_then_normal ?_
                  refine tr_sub hC (.cons (t := 2) rfl (.cons (t := 3) rfl (.cons (t := 9) rfl (.cons (t := 10) rfl (.cons (t := 11) rfl (.cons (t := 12) rfl (.cons (t := 52) rfl (.cons (t := 53) rfl (.cons (t := 54) rfl (.cons (t := 62) rfl (.cons (t := 63) rfl .nil))))))))))) (.cons (t := 3) rfl (.cons (t := 604) rfl (.cons (t := 601) rfl (.cons (t := 600) rfl (.cons (t := 605) rfl (.cons (t := 2) rfl (.cons (t := 9) rfl (.cons (t := 602) rfl (.cons (t := 603) rfl .nil))))))))) rfl ?_
                  refine tr_seq ?_
                  refine tr_seq ?_
                  refine tr_region (fun N22 hN => ?_)
                  refine lx (op_move rfl) rfl ?_
                  first | refine lx (op_len rfl el90) rfl ?_ | refine lx (op_len_row rfl el90) rfl ?_ | refine lx (op_len_mv rfl el90) rfl ?_ | refine lx (op_len_nil rfl el90) rfl ?_
                  refine lx (op_move rfl) rfl ?_
                  refine lx_end ⟨by kernel_rfl, ?_⟩
                  refine pe_then_normal ?_
                  refine tr_sub hC (.cons (t := 2) rfl (.cons (t := 3) rfl (.cons (t := 9) rfl (.cons (t := 10) rfl (.cons (t := 11) rfl (.cons (t := 12) rfl (.cons (t := 52) rfl (.cons (t := 53) rfl (.cons (t := 54) rfl (.cons (t := 62) rfl (.cons (t := 63) rfl (.cons (t := 83) rfl (.cons (t := 84) rfl .nil))))))))))))) (.cons (t := 3) rfl (.cons (t := 604) rfl (.cons (t := 601) rfl (.cons (t := 600) rfl (.cons (t := 605) rfl (.cons (t := 2) rfl (.cons (t := 9) rfl (.cons (t := 602) rfl (.cons (t := 603) rfl .nil))))))))) rfl ?_
                  refine tr_block ?_
                  refine tr_loopK (α := {zz : Nat // zz ≤ m.gors[k].frames[j].defers.length}) (⟨(0), Nat.zero_le _⟩) (fun zz => [(84, eqP (.int .i64 (zz.1 : Int)))]) (fun zz => []) (fun zz => m.gors[k].frames[j].defers.length - zz.1) hC (.cons (t := 2) rfl (.cons (t := 3) rfl (.cons (t := 9) rfl (.cons (t := 10) rfl (.cons (t := 11) rfl (.cons (t := 12) rfl (.cons (t := 52) rfl (.cons (t := 53) rfl (.cons (t := 54) rfl (.cons (t := 62) rfl (.cons (t := 63) rfl (.cons (t := 83) rfl .nil)))))))))))) (.cons (t := 3) rfl (.cons (t := 604) rfl (.cons (t := 601) rfl (.cons (t := 600) rfl (.cons (t := 605) rfl (.cons (t := 2) rfl (.cons (t := 9) rfl (.cons (t := 602) rfl (.cons (t := 603) rfl .nil))))))))) rfl ?_ ?_ (fun zz => ?_)
                  · try dsimp only [List.cons_append, List.nil_append]
                    first | refine SubF.cons rfl ?_ | (refine SubF.ent rfl ?_ ?_; · repeat (first | exact Ents.nil | refine Ents.cons ?_ ?_ | refine Ent.tup ?_ | refine Ent.agg ?_ | exact Ent.row _ _ _ _ | exact Ent.nil _ _ | exact Ent.func _ | exact Ent.refl _ | exact Ent.of_eq rfl | refine Ent.cells ?_))
                    exact SubF.nil
                  · try dsimp only [List.cons_append, List.nil_append]
                    repeat (first | exact SubL.nil | refine SubL.cons rfl ?_)
                  · obtain ⟨q, hq1⟩ := zz
                    dsimp only [List.cons_append, List.nil_append]
                    refine tr_seq ?_
                    refine tr_region (fun N23 hN => ?_)
                    refine lx (op_lss rfl rfl) rfl ?_
                    refine lx_end ⟨by kernel_rfl, ?_⟩
                    refine pe_then_normal ?_
                    refine tr_sub hC (.cons (t := 2) rfl (.cons (t := 3) rfl (.cons (t := 9) rfl (.cons (t := 10) rfl (.cons (t := 11) rfl (.cons (t := 12) rfl (.cons (t := 52) rfl (.cons (t := 53) rfl (.cons (t := 54) rfl (.cons (t := 62) rfl (.cons (t := 63) rfl (.cons (t := 83) rfl (.cons (t := 84) rfl (.cons (t := 85) rfl .nil)))))))))))))) (.cons (t := 3) rfl (.cons (t := 604) rfl (.cons (t := 601) rfl (.cons (t := 600) rfl (.cons (t := 605) rfl (.cons (t := 2) rfl (.cons (t := 9) rfl (.cons (t := 602) rfl (.cons (t := 603) rfl .nil))))))))) rfl ?_
                    refine tr_seq ?_
                    refine tr_cond rfl (fun h85 => ?_) (fun h85 => ?_)
                    · (try simp only [Bool.and_eq_true, Bool.or_eq_true, Bool.and_eq_false_iff, Bool.or_eq_false_iff, decide_eq_true_eq, decide_eq_false_iff_not, Bool.not_eq_true', Bool.not_eq_false', List.length_map, ne_eq, Decidable.not_not, Int.not_lt, Int.not_le] at h85)
                      refine tr_skip ?_
                      refine pe_then_normal ?_
                      refine tr_sub hC (.cons (t := 2) rfl (.cons (t := 3) rfl (.cons (t := 9) rfl (.cons (t := 10) rfl (.cons (t := 11) rfl (.cons (t := 12) rfl (.cons (t := 52) rfl (.cons (t := 53) rfl (.cons (t := 54) rfl (.cons (t := 62) rfl (.cons (t := 63) rfl (.cons (t := 83) rfl (.cons (t := 84) rfl .nil))))))))))))) (.cons (t := 3) rfl (.cons (t := 604) rfl (.cons (t := 601) rfl (.cons (t := 600) rfl (.cons (t := 605) rfl (.cons (t := 2) rfl (.cons (t := 9) rfl (.cons (t := 602) rfl (.cons (t := 603) rfl .nil))))))))) rfl ?_
                      refine tr_seq ?_
                      refine tr_block ?_
                      refine tr_seq ?_
                      refine tr_region (fun N24 hN => ?_)
                      refine lx (op_move rfl) rfl ?_
                      refine lx (op_assign rfl) rfl ?_
                      refine lx_end ⟨by kernel_rfl, ?_⟩
                      refine pe_then_normal ?_
                      refine tr_sub hC (.cons (t := 2) rfl (.cons (t := 3) rfl (.cons (t := 9) rfl (.cons (t := 10) rfl (.cons (t := 11) rfl (.cons (t := 12) rfl (.cons (t := 13) rfl (.cons (t := 52) rfl (.cons (t := 53) rfl (.cons (t := 54) rfl (.cons (t := 62) rfl (.cons (t := 63) rfl (.cons (t := 83) rfl (.cons (t := 84) rfl .nil)))))))))))))) (.cons (t := 3) rfl (.cons (t := 604) rfl (.cons (t := 601) rfl (.cons (t := 600) rfl (.cons (t := 605) rfl (.cons (t := 2) rfl (.cons (t := 9) rfl (.cons (t := 602) rfl (.cons (t := 603) rfl .nil))))))))) rfl ?_
                      refine tr_region (fun N25 hN => ?_)
                      refine lx (op_move rfl) rfl ?_
                      refine lx (op_move rfl) rfl ?_
                      refine lx (op_move rfl) rfl ?_
                      refine lx (op_move rfl) rfl ?_
                      refine lx (op_index_mv rfl rfl el90 sz94 rfl (by omega)) rfl ?_
                      refine lx (op_fieldAddr rfl fl94_1 sz30) rfl ?_
                      refine lx (op_tload_one (m := 603) (j := q) (fo := 1) rfl rfl ag30 Df.len (by omega) (List.getElem?_eq_getElem (by omega : q < m.gors[k].frames[j].defers.length)) rfl) rfl ?_
                      first | refine lx (op_call (l := [(Go.Operand.tmp 93)]) (vcl m.gors[k].frames[j].defers[q].args (hbf.args _ (List.getElem_mem ..))) (.cons rfl .nil) fn53) rfl ?_ | refine lx (op_call (l := [(Go.Operand.tmp 93)]) (vcl m.gors[k].frames[j].defers[q].args (hbf.args _ (List.getElem_mem ..))) (.ent rfl (by repeat (first | exact Ents.nil | refine Ents.cons ?_ ?_ | refine Ent.tup ?_ | refine Ent.agg ?_ | exact Ent.row _ _ _ _ | exact Ent.nil _ _ | exact Ent.func _ | exact Ent.refl _ | exact Ent.of_eq rfl | refine Ent.cells ?_)) .nil) fn53) rfl ?_
                      refine lx (op_index_mv rfl rfl el90 sz94 rfl (by omega)) rfl ?_
                      refine lx (op_fieldAddr rfl fl94_1 sz30) rfl ?_
                      refine lxr (op_tstore_id (m := 603) (j := q) (fo := 1) (z := m.gors[k].frames[j].defers[q]) rfl rfl rfl (.one (by (first | exact One.eq rfl | exact One.mv _ _ _ _ _ | exact One.cl _ _ _ | exact One.map _ | exact One.sl _ _ _ | exact One.row _ _ _ _ | exact One.msl _ _ _ _ | exact One.ptr _ _ | exact One.b _ | exact One.cells _))) sz30 rfl Df.len (by omega) (List.getElem?_eq_getElem (by omega : q < m.gors[k].frames[j].defers.length)) rfl rfl) rfl ?_
                      refine lx_end ⟨by kernel_rfl, ?_⟩
                      refine pe_block_normal ?_
                      refine pe_then_normal ?_
                      refine tr_sub hC (.cons (t := 2) rfl (.cons (t := 3) rfl (.cons (t := 9) rfl (.cons (t := 10) rfl (.cons (t := 11) rfl (.cons (t := 12) rfl (.cons (t := 52) rfl (.cons (t := 53) rfl (.cons (t := 54) rfl (.cons (t := 62) rfl (.cons (t := 63) rfl (.cons (t := 83) rfl (.cons (t := 84) rfl .nil))))))))))))) (.cons (t := 3) rfl (.cons (t := 604) rfl (.cons (t := 601) rfl (.cons (t := 600) rfl (.cons (t := 605) rfl (.cons (t := 2) rfl (.cons (t := 9) rfl (.cons (t := 602) rfl (.cons (t := 603) rfl .nil))))))))) rfl ?_
                      refine tr_region (fun N26 hN => ?_)
                      refine lx (op_add rfl rfl (by omega)) rfl ?_
                      refine lx (op_move rfl) rfl ?_
                      refine lx_end ⟨by kernel_rfl, ?_⟩
                      refine pe_round (⟨(q + 1), by omega⟩) (by dsimp only; omega) (pe_st hC ?_ ?_ rfl)
                      · try dsimp only [List.cons_append, List.nil_append]
                        first | refine SubF.cons rfl ?_ | (refine SubF.ent rfl ?_ ?_; · repeat (first | exact Ents.nil | refine Ents.cons ?_ ?_ | refine Ent.tup ?_ | refine Ent.agg ?_ | exact Ent.row _ _ _ _ | exact Ent.nil _ _ | exact Ent.func _ | exact Ent.refl _ | exact Ent.of_eq rfl | refine Ent.cells ?_))
                        first | refine SubF.cons rfl ?_ | (refine SubF.ent rfl ?_ ?_; · repeat (first | exact Ents.nil | refine Ents.cons ?_ ?_ | refine Ent.tup ?_ | refine Ent.agg ?_ | exact Ent.row _ _ _ _ | exact Ent.nil _ _ | exact Ent.func _ | exact Ent.refl _ | exact Ent.of_eq rfl | refine Ent.cells ?_))
                        first | refine SubF.cons rfl ?_ | (refine SubF.ent rfl ?_ ?_; · repeat (first | exact Ents.nil | refine Ents.cons ?_ ?_ | refine Ent.tup ?_ | refine Ent.agg ?_ | exact Ent.row _ _ _ _ | exact Ent.nil _ _ | exact Ent.func _ | exact Ent.refl _ | exact Ent.of_eq rfl | refine Ent.cells ?_))
                        first | refine SubF.cons rfl ?_ | (refine SubF.ent rfl ?_ ?_; · repeat (first | exact Ents.nil | refine Ents.cons ?_ ?_ | refine Ent.tup ?_ | refine Ent.agg ?_ | exact Ent.row _ _ _ _ | exact Ent.nil _ _ | exact Ent.func _ | exact Ent.refl _ | exact Ent.of_eq rfl | refine Ent.cells ?_))
                        first | refine SubF.cons rfl ?_ | (refine SubF.ent rfl ?_ ?_; · repeat (first | exact Ents.nil | refine Ents.cons ?_ ?_ | refine Ent.tup ?_ | refine Ent.agg ?_ | exact Ent.row _ _ _ _ | exact Ent.nil _ _ | exact Ent.func _ | exact Ent.refl _ | exact Ent.of_eq rfl | refine Ent.cells ?_))
                        first | refine SubF.cons rfl ?_ | (refine SubF.ent rfl ?_ ?_; · repeat (first | exact Ents.nil | refine Ents.cons ?_ ?_ | refine Ent.tup ?_ | refine Ent.agg ?_ | exact Ent.row _ _ _ _ | exact Ent.nil _ _ | exact Ent.func _ | exact Ent.refl _ | exact Ent.of_eq rfl | refine Ent.cells ?_))
                        first | refine SubF.cons rfl ?_ | (refine SubF.ent rfl ?_ ?_; · repeat (first | exact Ents.nil | refine Ents.cons ?_ ?_ | refine Ent.tup ?_ | refine Ent.agg ?_ | exact Ent.row _ _ _ _ | exact Ent.nil _ _ | exact Ent.func _ | exact Ent.refl _ | exact Ent.of_eq rfl | refine Ent.cells ?_))
                        first | refine SubF.cons rfl ?_ | (refine SubF.ent rfl ?_ ?_; · repeat (first | exact Ents.nil | refine Ents.cons ?_ ?_ | refine Ent.tup ?_ | refine Ent.agg ?_ | exact Ent.row _ _ _ _ | exact Ent.nil _ _ | exact Ent.func _ | exact Ent.refl _ | exact Ent.of_eq rfl | refine Ent.cells ?_))
                        first | refine SubF.cons rfl ?_ | (refine SubF.ent rfl ?_ ?_; · repeat (first | exact Ents.nil | refine Ents.cons ?_ ?_ | refine Ent.tup ?_ | refine Ent.agg ?_ | exact Ent.row _ _ _ _ | exact Ent.nil _ _ | exact Ent.func _ | exact Ent.refl _ | exact Ent.of_eq rfl | refine Ent.cells ?_))
                        first | refine SubF.cons rfl ?_ | (refine SubF.ent rfl ?_ ?_; · repeat (first | exact Ents.nil | refine Ents.cons ?_ ?_ | refine Ent.tup ?_ | refine Ent.agg ?_ | exact Ent.row _ _ _ _ | exact Ent.nil _ _ | exact Ent.func _ | exact Ent.refl _ | exact Ent.of_eq rfl | refine Ent.cells ?_))
                        first | refine SubF.cons rfl ?_ | (refine SubF.ent rfl ?_ ?_; · repeat (first | exact Ents.nil | refine Ents.cons ?_ ?_ | refine Ent.tup ?_ | refine Ent.agg ?_ | exact Ent.row _ _ _ _ | exact Ent.nil _ _ | exact Ent.func _ | exact Ent.refl _ | exact Ent.of_eq rfl | refine Ent.cells ?_))
                        first | refine SubF.cons rfl ?_ | (refine SubF.ent rfl ?_ ?_; · repeat (first | exact Ents.nil | refine Ents.cons ?_ ?_ | refine Ent.tup ?_ | refine Ent.agg ?_ | exact Ent.row _ _ _ _ | exact Ent.nil _ _ | exact Ent.func _ | exact Ent.refl _ | exact Ent.of_eq rfl | refine Ent.cells ?_))
                        first | refine SubF.cons rfl ?_ | (refine SubF.ent rfl ?_ ?_; · repeat (first | exact Ents.nil | refine Ents.cons ?_ ?_ | refine Ent.tup ?_ | refine Ent.agg ?_ | exact Ent.row _ _ _ _ | exact Ent.nil _ _ | exact Ent.func _ | exact Ent.refl _ | exact Ent.of_eq rfl | refine Ent.cells ?_))
                        exact SubF.nil
                      · try dsimp only [List.cons_append, List.nil_append]
                        repeat (first | exact SubL.nil | refine SubL.cons rfl ?_)
                    · (try simp only [Bool.and_eq_true, Bool.or_eq_true, Bool.and_eq_false_iff, Bool.or_eq_false_iff, decide_eq_true_eq, decide_eq_false_iff_not, Bool.not_eq_true', Bool.not_eq_false', List.length_map, ne_eq, Decidable.not_not, Int.not_lt, Int.not_le] at h85)
                      refine tr_exit ?_
                      refine pe_then_exit ?_
                      refine pe_then_exit ?_
                      refine pe_block_eq ?_
                      refine pe_then_normal ?_
                      refine tr_sub hC (.cons (t := 2) rfl (.cons (t := 3) rfl (.cons (t := 9) rfl (.cons (t := 10) rfl (.cons (t := 11) rfl (.cons (t := 12) rfl (.cons (t := 52) rfl (.cons (t := 53) rfl (.cons (t := 54) rfl (.cons (t := 62) rfl (.cons (t := 63) rfl .nil))))))))))) (.cons (t := 3) rfl (.cons (t := 604) rfl (.cons (t := 601) rfl (.cons (t := 600) rfl (.cons (t := 605) rfl (.cons (t := 2) rfl (.cons (t := 9) rfl (.cons (t := 602) rfl (.cons (t := 603) rfl .nil))))))))) rfl ?_
                      refine tr_freeze (m := 603) rfl (.cons (t := 2) rfl (.cons (t := 3) rfl (.cons (t := 9) rfl (.cons (t := 10) rfl (.cons (t := 11) rfl (.ent (t := 12) rfl (FEnt.mv (xs := m.gors[k].frames[j].defers) (f := Df.ps) rfl ⟨[], by simp⟩ Df.len) (.cons (t := 52) rfl (.cons (t := 53) rfl (.cons (t := 54) rfl (.cons (t := 62) rfl (.cons (t := 63) rfl .nil))))))))))) ?_
                      try dsimp only
                      refine tr_region (fun N27 hN => ?_)
                      refine lx (op_move rfl) rfl ?_
                      refine lx (op_move rfl) rfl ?_
                      refine lx (op_move rfl) rfl ?_
                      refine lx (op_index_mv rfl rfl el68 sz92 rfl (by omega)) rfl ?_
                      refine lx (op_fieldAddr rfl fl92_4 sz90) rfl ?_
                      refine lxr (op_tstore_id (m := 602) (j := j) (fo := 4) (z := m.gors[k].frames[j]) rfl rfl rfl (.one (by (first | exact One.eq rfl | exact One.mv _ _ _ _ _ | exact One.cl _ _ _ | exact One.map _ | exact One.sl _ _ _ | exact One.row _ _ _ _ | exact One.msl _ _ _ _ | exact One.ptr _ _ | exact One.b _ | exact One.cells _))) sz90 rfl Fm.len (by omega) (List.getElem?_eq_getElem (by omega : j < m.gors[k].frames.length)) rfl rfl) rfl ?_
                      refine lx_end ⟨by kernel_rfl, ?_⟩
                      refine pe_block_normal ?_
                      refine pe_then_normal ?_
                      refine tr_sub hC (.cons (t := 2) rfl (.cons (t := 3) rfl (.cons (t := 9) rfl (.cons (t := 10) rfl (.cons (t := 52) rfl (.cons (t := 53) rfl (.cons (t := 54) rfl (.cons (t := 62) rfl (.cons (t := 63) rfl .nil))))))))) (.cons (t := 3) rfl (.cons (t := 604) rfl (.cons (t := 601) rfl (.cons (t := 600) rfl (.cons (t := 605) rfl (.cons (t := 2) rfl (.cons (t := 9) rfl (.cons (t := 602) rfl .nil)))))))) rfl ?_
                      refine tr_region (fun N28 hN => ?_)
                      refine lx (op_add rfl rfl (by omega)) rfl ?_
                      refine lx (op_move rfl) rfl ?_
                      refine lx_end ⟨by kernel_rfl, ?_⟩
                      refine pe_round (⟨(j + 1), by omega⟩) (by dsimp only; omega) (pe_st hC ?_ ?_ rfl)
                      · try dsimp only [List.cons_append, List.nil_append]
                        first | refine SubF.cons rfl ?_ | (refine SubF.ent rfl ?_ ?_; · repeat (first | exact Ents.nil | refine Ents.cons ?_ ?_ | refine Ent.tup ?_ | refine Ent.agg ?_ | exact Ent.row _ _ _ _ | exact Ent.nil _ _ | exact Ent.func _ | exact Ent.refl _ | exact Ent.of_eq rfl | refine Ent.cells ?_))
                        first | refine SubF.cons rfl ?_ | (refine SubF.ent rfl ?_ ?_; · repeat (first | exact Ents.nil | refine Ents.cons ?_ ?_ | refine Ent.tup ?_ | refine Ent.agg ?_ | exact Ent.row _ _ _ _ | exact Ent.nil _ _ | exact Ent.func _ | exact Ent.refl _ | exact Ent.of_eq rfl | refine Ent.cells ?_))
                        first | refine SubF.cons rfl ?_ | (refine SubF.ent rfl ?_ ?_; · repeat (first | exact Ents.nil | refine Ents.cons ?_ ?_ | refine Ent.tup ?_ | refine Ent.agg ?_ | exact Ent.row _ _ _ _ | exact Ent.nil _ _ | exact Ent.func _ | exact Ent.refl _ | exact Ent.of_eq rfl | refine Ent.cells ?_))
                        first | refine SubF.cons rfl ?_ | (refine SubF.ent rfl ?_ ?_; · repeat (first | exact Ents.nil | refine Ents.cons ?_ ?_ | refine Ent.tup ?_ | refine Ent.agg ?_ | exact Ent.row _ _ _ _ | exact Ent.nil _ _ | exact Ent.func _ | exact Ent.refl _ | exact Ent.of_eq rfl | refine Ent.cells ?_))
                        first | refine SubF.cons rfl ?_ | (refine SubF.ent rfl ?_ ?_; · repeat (first | exact Ents.nil | refine Ents.cons ?_ ?_ | refine Ent.tup ?_ | refine Ent.agg ?_ | exact Ent.row _ _ _ _ | exact Ent.nil _ _ | exact Ent.func _ | exact Ent.refl _ | exact Ent.of_eq rfl | refine Ent.cells ?_))
                        first | refine SubF.cons rfl ?_ | (refine SubF.ent rfl ?_ ?_; · repeat (first | exact Ents.nil | refine Ents.cons ?_ ?_ | refine Ent.tup ?_ | refine Ent.agg ?_ | exact Ent.row _ _ _ _ | exact Ent.nil _ _ | exact Ent.func _ | exact Ent.refl _ | exact Ent.of_eq rfl | refine Ent.cells ?_))
                        first | refine SubF.cons rfl ?_ | (refine SubF.ent rfl ?_ ?_; · repeat (first | exact Ents.nil | refine Ents.cons ?_ ?_ | refine Ent.tup ?_ | refine Ent.agg ?_ | exact Ent.row _ _ _ _ | exact Ent.nil _ _ | exact Ent.func _ | exact Ent.refl _ | exact Ent.of_eq rfl | refine Ent.cells ?_))
                        first | refine SubF.cons rfl ?_ | (refine SubF.ent rfl ?_ ?_; · repeat (first | exact Ents.nil | refine Ents.cons ?_ ?_ | refine Ent.tup ?_ | refine Ent.agg ?_ | exact Ent.row _ _ _ _ | exact Ent.nil _ _ | exact Ent.func _ | exact Ent.refl _ | exact Ent.of_eq rfl | refine Ent.cells ?_))
                        first | refine SubF.cons rfl ?_ | (refine SubF.ent rfl ?_ ?_; · repeat (first | exact Ents.nil | refine Ents.cons ?_ ?_ | refine Ent.tup ?_ | refine Ent.agg ?_ | exact Ent.row _ _ _ _ | exact Ent.nil _ _ | exact Ent.func _ | exact Ent.refl _ | exact Ent.of_eq rfl | refine Ent.cells ?_))
                        exact SubF.nil
                      · try dsimp only [List.cons_append, List.nil_append]
                        repeat (first | exact SubL.nil | refine SubL.cons rfl ?_)
                · (try simp only [Bool.and_eq_true, Bool.or_eq_true, Bool.and_eq_false_iff, Bool.or_eq_false_iff, decide_eq_true_eq, decide_eq_false_iff_not, Bool.not_eq_true', Bool.not_eq_false', List.length_map, ne_eq, Decidable.not_not, Int.not_lt, Int.not_le] at h64)
                  refine tr_exit ?_
                  refine pe_then_exit ?_
                  refine pe_then_exit ?_
                  refine pe_block_eq ?_
                  refine pe_then_normal ?_
                  refine tr_sub hC (.cons (t := 2) rfl (.cons (t := 3) rfl (.cons (t := 9) rfl (.cons (t := 10) rfl (.cons (t := 52) rfl (.cons (t := 53) rfl (.cons (t := 54) rfl .nil))))))) (.cons (t := 3) rfl (.cons (t := 604) rfl (.cons (t := 601) rfl (.cons (t := 600) rfl (.cons (t := 605) rfl (.cons (t := 2) rfl (.cons (t := 9) rfl (.cons (t := 602) rfl .nil)))))))) rfl ?_
                  refine tr_freeze (m := 602) rfl (.cons (t := 2) rfl (.cons (t := 3) rfl (.cons (t := 9) rfl (.ent (t := 10) rfl (FEnt.mv (xs := m.gors[k].frames) (f := Fm.ps) rfl ⟨[], by simp⟩ Fm.len) (.cons (t := 52) rfl (.cons (t := 53) rfl (.cons (t := 54) rfl .nil))))))) ?_
                  try dsimp only
                  refine tr_seq ?_
                  refine tr_region (fun N29 hN => ?_)
                  refine lx (op_move rfl) rfl ?_
                  refine lx (op_fieldAddr rfl fl70_3 sz68) rfl ?_
                  refine lxr (op_store (m := 9) (rs := [_, _, _, _]) rfl rfl rfl (.one (by (first | exact One.eq rfl | exact One.mv _ _ _ _ _ | exact One.cl _ _ _ | exact One.map _ | exact One.sl _ _ _ | exact One.row _ _ _ _ | exact One.msl _ _ _ _ | exact One.ptr _ _ | exact One.b _ | exact One.cells _))) sz68 rfl rfl rfl) rfl ?_
                  refine lx_end ⟨by kernel_rfl, ?_⟩
                  refine pe_then_normal ?_
                  refine tr_sub hC (.cons (t := 2) rfl (.cons (t := 3) rfl (.cons (t := 9) rfl (.cons (t := 52) rfl (.cons (t := 53) rfl (.cons (t := 54) rfl .nil)))))) (.cons (t := 3) rfl (.cons (t := 604) rfl (.cons (t := 601) rfl (.cons (t := 600) rfl (.cons (t := 605) rfl (.cons (t := 2) rfl (.cons (t := 9) rfl .nil))))))) rfl ?_
                  refine tr_region (fun N30 hN => ?_)
                  refine lx (op_fieldAddr rfl fl29_2 sz26) rfl ?_
                  refine lx (op_bload_one (m := 3) rfl rfl ag26 rfl) rfl ?_
                  refine lx (op_bload (m := 9) rfl rfl ag70 sz70) rfl ?_
                  refine lx (op_buildSlice (f := Gr.ps) (xs := [m.gors[k]]) (l := [(0, (Go.Operand.tmp 108))]) ze70 rfl rfl (by decide) el26 sz70 Gr.len (.cons rfl (.agg rfl) .nil) rfl (by decide)) rfl ?_
                  refine lxr (op_append (m := 604) (m' := 604) (kk := 110) rfl rfl rfl (.inl rfl) el26 ze70 sz70 by70 rfl Gr.len (by rw [List.length_singleton]; omega) (by rw [List.length_singleton]; omega)) rfl ?_
                  refine lx (op_fieldAddr rfl fl29_2 sz26) rfl ?_
                  refine lxr (op_store (m := 3) (rs := [_, _, _, _]) rfl rfl rfl (.one (by (first | exact One.eq rfl | exact One.mv _ _ _ _ _ | exact One.cl _ _ _ | exact One.map _ | exact One.sl _ _ _ | exact One.row _ _ _ _ | exact One.msl _ _ _ _ | exact One.ptr _ _ | exact One.b _ | exact One.cells _))) sz26 rfl rfl rfl) rfl ?_
                  refine lx_end ⟨by kernel_rfl, ?_⟩
                  refine pe_block_normal ?_
                  refine pe_then_normal ?_
                  refine tr_sub hC (.cons (t := 2) rfl (.cons (t := 3) rfl (.cons (t := 52) rfl (.cons (t := 53) rfl (.cons (t := 54) rfl .nil))))) (.cons (t := 3) rfl (.cons (t := 601) rfl (.cons (t := 600) rfl (.cons (t := 605) rfl (.cons (t := 2) rfl (.cons (t := 604) rfl .nil)))))) rfl ?_
                  refine tr_region (fun N31 hN => ?_)
                  refine lx (op_add rfl rfl (by omega)) rfl ?_
                  refine lx (op_move rfl) rfl ?_
                  refine lx_end ⟨by kernel_rfl, ?_⟩
                  refine pe_round (⟨(k + 1, xs ++ [m.gors[k]], (N30, 110)), by dsimp only; omega, by dsimp only; rw [hxs, take_at (by omega : k < m.gors.length)]⟩) (by dsimp only; omega) (pe_st hC ?_ ?_ rfl)
                  · try dsimp only [List.cons_append, List.nil_append]
                    first | refine SubF.cons rfl ?_ | (refine SubF.ent rfl ?_ ?_; · repeat (first | exact Ents.nil | refine Ents.cons ?_ ?_ | refine Ent.tup ?_ | refine Ent.agg ?_ | exact Ent.row _ _ _ _ | exact Ent.nil _ _ | exact Ent.func _ | exact Ent.refl _ | exact Ent.of_eq rfl | refine Ent.cells ?_))
                    first | refine SubF.cons rfl ?_ | (refine SubF.ent rfl ?_ ?_; · repeat (first | exact Ents.nil | refine Ents.cons ?_ ?_ | refine Ent.tup ?_ | refine Ent.agg ?_ | exact Ent.row _ _ _ _ | exact Ent.nil _ _ | exact Ent.func _ | exact Ent.refl _ | exact Ent.of_eq rfl | refine Ent.cells ?_))
                    first | refine SubF.cons rfl ?_ | (refine SubF.ent rfl ?_ ?_; · repeat (first | exact Ents.nil | refine Ents.cons ?_ ?_ | refine Ent.tup ?_ | refine Ent.agg ?_ | exact Ent.row _ _ _ _ | exact Ent.nil _ _ | exact Ent.func _ | exact Ent.refl _ | exact Ent.of_eq rfl | refine Ent.cells ?_))
                    first | refine SubF.cons rfl ?_ | (refine SubF.ent rfl ?_ ?_; · repeat (first | exact Ents.nil | refine Ents.cons ?_ ?_ | refine Ent.tup ?_ | refine Ent.agg ?_ | exact Ent.row _ _ _ _ | exact Ent.nil _ _ | exact Ent.func _ | exact Ent.refl _ | exact Ent.of_eq rfl | refine Ent.cells ?_))
                    first | refine SubF.cons rfl ?_ | (refine SubF.ent rfl ?_ ?_; · repeat (first | exact Ents.nil | refine Ents.cons ?_ ?_ | refine Ent.tup ?_ | refine Ent.agg ?_ | exact Ent.row _ _ _ _ | exact Ent.nil _ _ | exact Ent.func _ | exact Ent.refl _ | exact Ent.of_eq rfl | refine Ent.cells ?_))
                    exact SubF.nil
                  · try dsimp only [List.cons_append, List.nil_append]
                    repeat (first | exact SubL.nil | refine SubL.cons rfl ?_)
            · (try simp only [Bool.and_eq_true, Bool.or_eq_true, Bool.and_eq_false_iff, Bool.or_eq_false_iff, decide_eq_true_eq, decide_eq_false_iff_not, Bool.not_eq_true', Bool.not_eq_false', List.length_map, ne_eq, Decidable.not_not, Int.not_lt, Int.not_le] at h55)
              have hfin : xs = m.gors := by rw [hxs, List.take_of_length_le (by omega)]
              refine tr_exit ?_
              refine pe_then_exit ?_
              refine pe_then_exit ?_
              refine pe_block_eq ?_
              refine pe_then_normal ?_
              refine tr_sub hC (.cons (t := 2) rfl (.cons (t := 3) rfl .nil)) (.cons (t := 3) rfl (.cons (t := 604) rfl (.cons (t := 601) rfl (.cons (t := 600) rfl (.cons (t := 605) rfl (.cons (t := 2) rfl .nil)))))) rfl ?_
              refine tr_weakTok (m := 3) (qs := [mvP io 10 0 m.objects.length m.objects.length, slP Sy.ps 6 m.syncs, slP Gr.ps 4 m.gors, slP ip 1 m.output]) rfl ?_ ?_
              · repeat (first | exact Ents.nil | refine Ents.cons ?_ ?_ | exact Ent.refl _ | exact Ent.row _ _ _ _ | exact Ent.nil _ _ | exact Ent.trans (Ent.row _ _ _ _) (Ent.of_eq (by rw [hfin])))
              refine tr_seq ?_
              refine tr_region (fun N32 hN => ?_)
              refine lx (op_bload (m := 3) rfl rfl ag29 sz29) rfl ?_
              refine lxr (op_store_all (m := 2) rfl rfl rfl (.agg rfl) sz29 rfl) rfl ?_
              refine lx_end ⟨by kernel_rfl, ?_⟩
              refine pe_then_normal ?_
              refine tr_sub hC (.cons (t := 2) rfl .nil) (.cons (t := 604) rfl (.cons (t := 601) rfl (.cons (t := 600) rfl (.cons (t := 605) rfl (.cons (t := 2) rfl .nil))))) rfl ?_
              refine tr_ret ?_
              refine pe_ownS' [600, 605] rfl hO rfl (.cell (m := 2) rfl rfl ag29 sz29 .nil) (.cons (m := 600) rfl (RenR.blk _ _ _) (.cons (m := 605) rfl (RenR.blk _ _ _) .nil)) rfl rfl rfl ?_
              intro τ ι hs'
              refine ⟨?_, ?_⟩
              · exact aggP_at (.cons (mv_ren (hs' 0 _ rfl).1 (hs' 0 _ rfl).2) (.cons (ent_at (Ent.refl _)) (.cons (ent_at (Ent.refl _)) (.cons (ent_at (Ent.refl _)) .nil))))
              · exact (.moved rfl (blk_ents (selL_ren (hs' 1 _ rfl).1 (hs' 1 _ rfl).2)) (.moved rfl (fun b o h => h) .nil))
end Go.Proofs.Ytibcbiamdjmckaa


set_option linter.unusedVariables false
set_option linter.unusedSimpArgs false
namespace Go.Proofs.Ytibcbiamdjmckaa
open Go.AL Go.Ch Go.Hp Go.RowKit
theorem Store_ok (m : Mc) (r v : V) (hb : Bd 4000000 m) (hs : Srt m.objects) : FnP Try.prog 21 [aggP m.ps, aggP (vp r), aggP (vp v)] (tupP [aggP (storeF m r v).1.ps, eqP (.int .i64 (storeF m r v).2)]) := by
  refine fn_pure' Try.func21 rfl Try.ntmps21 rfl ?_
  intro σ0 M ex Rf R hC hO
  simp only [frameOf, tokOf]
  refine tr_seq ?_
  refine tr_region (fun N0 hN => ?_)
  refine lxn (op_box (m := 3) (k := 3) rfl (.agg rfl) (by first | exact hC.low _ (by decide) | rfl)) rfl ?_
  refine lxn (op_box (m := 4) (k := 4) rfl (.agg rfl) (by first | exact hC.low _ (by decide) | rfl)) rfl ?_
  refine lxn (op_box (m := 5) (k := 5) rfl (.agg rfl) (by first | exact hC.low _ (by decide) | rfl)) rfl ?_
  refine lxn (op_alloc (m := 6) (k := 6) (ps := [eqP (.slice none 0 0), eqP (.slice none 0 0), eqP (.slice none 0 0), eqP (.slice none 0 0)]) ze29 rfl rfl (by first | exact hC.low _ (by decide) | rfl)) rfl ?_
  refine lx (op_assign rfl) rfl ?_
  refine lx_end ⟨by kernel_rfl, ?_⟩
  refine pe_then_normal ?_
  refine tr_sub hC (.cons (t := 3) rfl (.cons (t := 4) rfl (.cons (t := 5) rfl (.cons (t := 6) rfl .nil)))) (.cons (t := 3) rfl (.cons (t := 4) rfl (.cons (t := 5) rfl (.cons (t := 6) rfl .nil)))) rfl ?_
  refine tr_seq ?_
  refine tr_region (fun N1 hN => ?_)
  refine lx (op_bload (m := 3) rfl rfl ag29 sz29) rfl ?_
  refine lx (op_bload (m := 4) rfl rfl ag41 sz41) rfl ?_
  first | refine lx (op_call (l := [(Go.Operand.tmp 12), (Go.Operand.tmp 13)]) (cell_ok m hb hs r) (.cons rfl (.cons rfl .nil)) fn38) rfl ?_ | refine lx (op_call (l := [(Go.Operand.tmp 12), (Go.Operand.tmp 13)]) (cell_ok m hb hs r) (.ent rfl (by repeat (first | exact Ents.nil | refine Ents.cons ?_ ?_ | refine Ent.tup ?_ | refine Ent.agg ?_ | exact Ent.row _ _ _ _ | exact Ent.nil _ _ | exact Ent.func _ | exact Ent.refl _ | exact Ent.of_eq rfl | refine Ent.cells ?_)) (.ent rfl (by repeat (first | exact Ents.nil | refine Ents.cons ?_ ?_ | refine Ent.tup ?_ | refine Ent.agg ?_ | exact Ent.row _ _ _ _ | exact Ent.nil _ _ | exact Ent.func _ | exact Ent.refl _ | exact Ent.of_eq rfl | refine Ent.cells ?_)) .nil)) fn38) rfl ?_
  refine lx (op_move rfl) rfl ?_
  refine lx (op_extract rfl rfl) rfl ?_
  refine lx (op_extract rfl rfl) rfl ?_
  refine lx (op_assign rfl) rfl ?_
  refine lx (op_assign rfl) rfl ?_
  refine lx_end ⟨by kernel_rfl, ?_⟩
  refine pe_then_normal ?_
  refine tr_sub hC (.cons (t := 3) rfl (.cons (t := 4) rfl (.cons (t := 5) rfl (.cons (t := 6) rfl (.cons (t := 8) rfl (.cons (t := 9) rfl .nil)))))) (.cons (t := 3) rfl (.cons (t := 4) rfl (.cons (t := 5) rfl (.cons (t := 6) rfl .nil)))) rfl ?_
  refine tr_seq ?_
  refine tr_seq ?_
  refine tr_region (fun N2 hN => ?_)
  refine lx (op_move rfl) rfl ?_
  refine lx (op_neq rfl rfl) rfl ?_
  refine lx_end ⟨by kernel_rfl, ?_⟩
  refine pe_then_normal ?_
  refine tr_sub hC (.cons (t := 3) rfl (.cons (t := 4) rfl (.cons (t := 5) rfl (.cons (t := 6) rfl (.cons (t := 8) rfl (.cons (t := 9) rfl (.cons (t := 18) rfl .nil))))))) (.cons (t := 3) rfl (.cons (t := 4) rfl (.cons (t := 5) rfl (.cons (t := 6) rfl .nil)))) rfl ?_
  refine tr_cond rfl (fun h18 => ?_) (fun h18 => ?_)
  · (try simp only [Bool.and_eq_true, Bool.or_eq_true, Bool.and_eq_false_iff, Bool.or_eq_false_iff, decide_eq_true_eq, decide_eq_false_iff_not, Bool.not_eq_true', Bool.not_eq_false', List.length_map, ne_eq, Decidable.not_not, Int.not_lt, Int.not_le] at h18)
    have h := store_n (m := m) (r := r) (v := v) h18
    refine tr_seq ?_
    refine tr_region (fun N3 hN => ?_)
    refine lx (op_build (qs := [_, _, _, _]) (parts := []) ze29 rfl rfl fs29 .nil rfl rfl) rfl ?_
    refine lx (op_move rfl) rfl ?_
    refine lxr (op_store_all (m := 6) rfl rfl rfl (.agg rfl) sz29 rfl) rfl ?_
    refine lx (op_assign rfl) rfl ?_
    refine lx_end ⟨by kernel_rfl, ?_⟩
    refine pe_then_normal ?_
    refine tr_sub hC (.cons (t := 6) rfl (.cons (t := 7) rfl .nil)) (.cons (t := 6) rfl .nil) rfl ?_
    refine tr_ret ?_
    refine pe_then_ret ?_
    refine pe_retN (rs := [.cell 6 29, .tmp 7]) rfl rfl hO rfl (.cell (m := 6) rfl rfl ag29 sz29 (.tmp rfl .nil)) ?_
    rw [h]
    repeat (first | exact Ents.nil | refine Ents.cons ?_ ?_ | refine Ent.tup ?_ | refine Ent.agg ?_ | exact Ent.row _ _ _ _ | exact Ent.nil _ _ | exact Ent.func _ | exact Ent.refl _ | exact Ent.of_eq rfl | refine Ent.cells ?_)
  · (try simp only [Bool.and_eq_true, Bool.or_eq_true, Bool.and_eq_false_iff, Bool.or_eq_false_iff, decide_eq_true_eq, decide_eq_false_iff_not, Bool.not_eq_true', Bool.not_eq_false', List.length_map, ne_eq, Decidable.not_not, Int.not_lt, Int.not_le] at h18)
    obtain ⟨hkd, hfd, h1, hch, ho1, ho2⟩ := cell_inv h18
    obtain ⟨hpl, o, ho, hoid⟩ := fnd_pos hfd hs
    rw [List.getElem?_eq_getElem hpl] at ho2 hch
    simp only [Option.getD_some] at ho2 hch
    have hof : r.off.toNat < (m.objects[(pos m.objects r.n)]'hpl).cells.length := by omega
    have h := store_y (v := v) h18
    rw [List.getElem?_eq_getElem hpl] at h
    simp only [Option.getD_some] at h
    refine tr_skip ?_
    refine pe_then_normal ?_
    refine tr_sub hC (.cons (t := 3) rfl (.cons (t := 4) rfl (.cons (t := 5) rfl (.cons (t := 6) rfl (.cons (t := 8) rfl .nil))))) (.cons (t := 3) rfl (.cons (t := 4) rfl (.cons (t := 5) rfl (.cons (t := 6) rfl .nil)))) rfl ?_
    refine tr_seq ?_
    refine tr_region (fun N4 hN => ?_)
    refine lx (op_bload (m := 3) rfl rfl ag29 sz29) rfl ?_
    first | refine lx_any rfl (op_callG2 (l := [(Go.Operand.tmp 21)]) (add := [(601, ((N4, 100220), blkX 10 33 ((selL m.objects (pos m.objects r.n) (N4, 100221)).flatMap obE))), (605, ((N4, 100221), blkX 3 41 ((m.objects[(pos m.objects r.n)]'hpl).cells.flatMap vp)))]) (ks := [100220, 100221]) (φ := aggP ([mvP (N4, 100220) 10 0 m.objects.length m.objects.length, slP Sy.ps 6 m.syncs, slP Gr.ps 4 m.gors, slP ip 1 m.output])) .nil (copied_cell m hb (pos m.objects r.n) hpl) (.cons rfl .nil) fn40 rfl rfl rfl (.new (by first | exact hC.low _ (by decide) | rfl) (.new (by first | exact hC.low _ (by decide) | rfl) .nil)) rfl) (dOK_spec rfl) ?_ | refine lx_any rfl (op_callG2 (l := [(Go.Operand.tmp 21)]) (add := [(601, ((N4, 100220), blkX 10 33 ((selL m.objects (pos m.objects r.n) (N4, 100221)).flatMap obE))), (605, ((N4, 100221), blkX 3 41 ((m.objects[(pos m.objects r.n)]'hpl).cells.flatMap vp)))]) (ks := [100220, 100221]) (φ := aggP ([mvP (N4, 100220) 10 0 m.objects.length m.objects.length, slP Sy.ps 6 m.syncs, slP Gr.ps 4 m.gors, slP ip 1 m.output])) .nil (copied_cell m hb (pos m.objects r.n) hpl) (.ent rfl (by repeat (first | exact Ents.nil | refine Ents.cons ?_ ?_ | refine Ent.tup ?_ | refine Ent.agg ?_ | exact Ent.row _ _ _ _ | exact Ent.nil _ _ | exact Ent.func _ | exact Ent.refl _ | exact Ent.of_eq rfl | refine Ent.cells ?_)) .nil) fn40 rfl rfl rfl (.new (by first | exact hC.low _ (by decide) | rfl) (.new (by first | exact hC.low _ (by decide) | rfl) .nil)) rfl) (dOK_spec rfl) ?_
    refine lxn (op_alloc (m := 10) (k := 10) (ps := [eqP (.slice none 0 0), eqP (.slice none 0 0), eqP (.slice none 0 0), eqP (.slice none 0 0)]) ze29 rfl rfl (by first | exact hC.low _ (by decide) | rfl)) rfl ?_
    refine lxr (op_store_all (m := 10) rfl rfl rfl (.agg rfl) sz29 rfl) rfl ?_
    refine lx_end ⟨by kernel_rfl, ?_⟩
    refine pe_then_normal ?_
    refine tr_sub hC (.cons (t := 4) rfl (.cons (t := 5) rfl (.cons (t := 6) rfl (.cons (t := 8) rfl (.cons (t := 10) rfl .nil))))) (.cons (t := 4) rfl (.cons (t := 5) rfl (.cons (t := 6) rfl (.cons (t := 601) rfl (.cons (t := 605) rfl (.cons (t := 10) rfl .nil)))))) rfl ?_
    refine tr_seq ?_
    refine tr_drawn mixed (fun N5 hN => ?_)
    refine lx (op_fieldAddr rfl fl29_0 sz22) rfl ?_
    refine lx (op_bload_one (m := 10) rfl rfl ag22 rfl) rfl ?_
    refine lx (op_move rfl) rfl ?_
    refine lx (op_index_mv rfl rfl el22 sz33 h1 hpl) rfl ?_
    refine lx (op_fieldAddr rfl fl33_1 sz30) rfl ?_
    refine lx (op_tload_one (m := 601) (j := (pos m.objects r.n)) (fo := 1) rfl rfl ag30 obE_len (by omega) (selL_at hpl) rfl) rfl ?_
    refine lx (op_fieldAddr rfl fl41_2 sz3) rfl ?_
    refine lx (op_bload_one (m := 4) rfl rfl ag3 rfl) rfl ?_
    refine lx (op_bload (m := 5) rfl rfl ag41 sz41) rfl ?_
    refine lx (op_index_mv rfl rfl el30 sz41 (by omega : r.off = ((r.off.toNat : Nat) : Int)) hof) rfl ?_
    refine lxr (op_tstore (m := 605) (j := r.off.toNat) (fo := 0) (z' := v) rfl rfl rfl (.agg rfl) sz41 rfl vp_len (by omega) (List.getElem?_eq_getElem hof) rfl rfl) rfl ?_
    refine lx_end ⟨by kernel_rfl, ?_⟩
    refine pe_then_normal ?_
    refine tr_sub hC (.cons (t := 6) rfl (.cons (t := 10) rfl .nil)) (.cons (t := 6) rfl (.cons (t := 601) rfl (.cons (t := 605) rfl (.cons (t := 10) rfl .nil)))) rfl ?_
    refine tr_bound 0 (m := 605) rfl ?_
    refine tr_freeze (m := 605) rfl (.ent (t := 0) rfl FEnt.frz_bound (.cons (t := 6) rfl (.cons (t := 10) rfl .nil))) ?_
    refine tr_thaw (t := 0) (n := 601) (qs' := (m.objects.set (pos m.objects r.n) (setC (m.objects[(pos m.objects r.n)]'hpl) r v)).flatMap Ob.ps) rfl (.cons (t := 6) rfl (.cons (t := 10) rfl .nil)) rfl (selL_seal hpl (List.getElem?_eq_getElem hpl) rfl) ?_
    refine tr_bound 1 (m := 601) rfl ?_
    refine tr_freeze (m := 601) rfl (.ent (t := 1) rfl FEnt.frz_bound (.cons (t := 6) rfl (.cons (t := 10) rfl .nil))) ?_
    refine tr_thaw (t := 1) (n := 10) (qs' := [slP Ob.ps 10 (m.objects.set (pos m.objects r.n) (setC (m.objects[(pos m.objects r.n)]'hpl) r v)), slP Sy.ps 6 m.syncs, slP Gr.ps 4 m.gors, slP ip 1 m.output]) rfl (.cons (t := 6) rfl (.cons (t := 10) rfl .nil)) rfl (.cons (FEnt.mv (by simp) ⟨[], by simp⟩ Ob.len) (.cons (.of (Ent.refl _)) (.cons (.of (Ent.refl _)) (.cons (.of (Ent.refl _)) .nil)))) ?_
    refine tr_seq ?_
    refine tr_region (fun N6 hN => ?_)
    refine lx (op_bload (m := 10) rfl rfl ag29 sz29) rfl ?_
    refine lxr (op_store_all (m := 6) rfl rfl rfl (.agg rfl) sz29 rfl) rfl ?_
    refine lx (op_assign rfl) rfl ?_
    refine lx_end ⟨by kernel_rfl, ?_⟩
    refine pe_then_normal ?_
    refine tr_sub hC (.cons (t := 6) rfl (.cons (t := 7) rfl .nil)) (.cons (t := 6) rfl .nil) rfl ?_
    refine tr_ret ?_
    refine pe_retN (rs := [.cell 6 29, .tmp 7]) rfl rfl hO rfl (.cell (m := 6) rfl rfl ag29 sz29 (.tmp rfl .nil)) ?_
    rw [h]
    repeat (first | exact Ents.nil | refine Ents.cons ?_ ?_ | refine Ent.tup ?_ | refine Ent.agg ?_ | exact Ent.row _ _ _ _ | exact Ent.nil _ _ | exact Ent.func _ | exact Ent.refl _ | exact Ent.of_eq rfl | refine Ent.cells ?_)
end Go.Proofs.Ytibcbiamdjmckaa


namespace Go.Hp
open Go.AL Go.Ch
theorem vfrom_of : ∀ (l : List Ob) (last : Int), Srt l → (∀ o ∈ l, last < o.id ∧ objF o = true) → vfrom last l = true
  | [], _, _, _ => rfl
  | o :: l, last, hs, h => by
    obtain ⟨h1, h2⟩ := List.pairwise_cons.1 hs
    obtain ⟨h3, h4⟩ := h o (List.mem_cons_self ..)
    simp only [vfrom, h4, decide_eq_false (by omega : ¬ o.id ≤ last), Bool.not_true, Bool.or_false, Bool.not_false, Bool.true_and]
    exact vfrom_of l o.id h2 fun a ha => ⟨h1 a ha, (h a (List.mem_cons_of_mem _ ha)).2⟩
theorem valid_iff {l : List Ob} : validF l = true ↔ Srt l ∧ ∀ o ∈ l, 0 ≤ o.id ∧ objF o = true := by
  constructor
  · intro h
    obtain ⟨h1, h2⟩ := vfrom_srt l _ h
    exact ⟨h1, fun o ho => ⟨by have := (h2 o ho).1; omega, (h2 o ho).2⟩⟩
  · rintro ⟨h1, h2⟩
    exact vfrom_of l _ h1 fun o ho => ⟨by have := (h2 o ho).1; omega, (h2 o ho).2⟩
section
variable {o x y : Ob} {l : List Ob}
theorem put_nil : putF o [] = [o] := rfl
theorem put_lt (h : x.id < o.id) : putF o (x :: l) = x :: putF o l := by
  have hp : pos (x :: l) o.id = pos l o.id + 1 := by unfold pos; rw [List.countP_cons, if_pos (decide_eq_true h)]
  have hf : fnd (x :: l) o.id = fnd l o.id := by unfold fnd; rw [List.any_cons, decide_eq_false (by omega : ¬ x.id = o.id), Bool.false_or]
  unfold putF
  rw [hp, hf]
  split <;> simp
theorem pos_0 (hs : Srt (x :: l)) (h : ¬ x.id < o.id) : pos (x :: l) o.id = 0 := by
  obtain ⟨h1, _⟩ := List.pairwise_cons.1 hs
  unfold pos
  rw [List.countP_eq_zero]
  intro z hz
  rcases List.mem_cons.1 hz with rfl | hz
  · simpa using h
  · have := h1 z hz; simp; omega
theorem put_eq (hs : Srt (x :: l)) (h : x.id = o.id) : putF o (x :: l) = o :: l := by
  have hf : fnd (x :: l) o.id = true := by unfold fnd; rw [List.any_cons, decide_eq_true h, Bool.true_or]
  unfold putF
  rw [if_pos hf, pos_0 hs (by omega)]
  rfl
theorem put_gt (hs : Srt (x :: l)) (h : o.id < x.id) : putF o (x :: l) = o :: x :: l := by
  obtain ⟨h1, _⟩ := List.pairwise_cons.1 hs
  have hf : fnd (x :: l) o.id = false := by
    unfold fnd
    rw [List.any_eq_false]
    intro z hz
    rcases List.mem_cons.1 hz with rfl | hz
    · simp; omega
    · have := h1 z hz; simp; omega
  unfold putF
  rw [if_neg (by rw [hf]; simp), pos_0 hs (by omega)]
  rfl
theorem mem_put (h : y ∈ putF o l) : y = o ∨ y ∈ l := by
  unfold putF at h
  split at h
  · rcases List.mem_or_eq_of_mem_set h with h | h
    · exact .inr h
    · exact .inl h
  · rcases List.mem_append.1 h with h | h
    · exact .inr (List.mem_of_mem_take h)
    · rcases List.mem_cons.1 h with h | h
      · exact .inl h
      · exact .inr (List.mem_of_mem_drop h)
theorem srt_put : ∀ (l : List Ob), Srt l → Srt (putF o l) ∧ o ∈ putF o l
  | [], _ => ⟨List.pairwise_singleton .., by rw [put_nil]; simp⟩
  | x :: l, hs => by
    obtain ⟨h1, h2⟩ := List.pairwise_cons.1 hs
    rcases Int.lt_trichotomy x.id o.id with h | h | h
    · obtain ⟨i1, i2⟩ := srt_put l h2
      rw [put_lt h]
      refine ⟨List.pairwise_cons.2 ⟨fun y hy => ?_, i1⟩, List.mem_cons_of_mem _ i2⟩
      rcases mem_put hy with rfl | hy
      · exact h
      · exact h1 y hy
    · rw [put_eq hs h]
      exact ⟨List.pairwise_cons.2 ⟨fun y hy => by have := h1 y hy; omega, h2⟩, List.mem_cons_self ..⟩
    · rw [put_gt hs h]
      refine ⟨List.pairwise_cons.2 ⟨fun y hy => ?_, hs⟩, List.mem_cons_self ..⟩
      rcases List.mem_cons.1 hy with rfl | hy
      · exact h
      · have := h1 y hy; omega
theorem put_len : (putF o l).length ≤ l.length + 1 := by
  unfold putF
  split
  · rw [List.length_set]; omega
  · have := pos_le (l := l) (x := o.id); simp; omega
theorem srt_inj (hs : Srt l) (hx : x ∈ l) (hy : y ∈ l) (h : x.id = y.id) : x = y := by
  obtain ⟨i, hi, rfl⟩ := List.mem_iff_getElem.1 hx
  obtain ⟨j, hj, rfl⟩ := List.mem_iff_getElem.1 hy
  rcases Nat.lt_trichotomy i j with g | g | g
  · have := srt_lt hs g hj; omega
  · subst g; rfl
  · have := srt_lt hs g hi; omega
theorem find_mem (hs : Srt l) (ho : o ∈ l) : findF l o.id = (o, true) := by
  have hf : fnd l o.id = true := by unfold fnd; rw [List.any_eq_true]; exact ⟨o, ho, by simp⟩
  obtain ⟨_, z, hz, hid⟩ := fnd_pos hf hs
  rw [findF_yes hf hz, srt_inj hs (List.mem_of_getElem? hz) ho hid]
theorem put_find (hs : Srt l) : findF (putF o l) o.id = (o, true) := find_mem (srt_put l hs).1 (srt_put l hs).2
end
section
variable {n : Nat} {m : Mc} {o : Ob} {x : Int} {r v : V}
theorem ob0_bd : BdO n ob0 := ⟨Nat.zero_le _, Nat.zero_le _, Nat.zero_le _, Nat.zero_le _⟩
theorem mc0_bd : Bd n mc0 := ⟨Nat.zero_le _, (fun _ h => by cases h), Nat.zero_le _, (fun _ h => by cases h), Nat.zero_le _, (fun _ h => by cases h), Nat.zero_le _⟩
theorem find_bd (hb : Bd n m) : BdO n (findF m.objects x).1 := by
  unfold findF
  split
  · cases h : m.objects[pos m.objects x]? with
    | none => exact ob0_bd
    | some o => exact hb.object o (List.mem_of_getElem? h)
  · exact ob0_bd
theorem put_bd (hb : Bd n m) (ho : BdO n o) : Bd (n + 1) { m with objects := putF o m.objects } :=
  have hm := hb.mono (Nat.le_succ n)
  ⟨Nat.le_trans put_len (Nat.succ_le_succ hb.objects), fun y hy => by
    rcases mem_put hy with rfl | hy
    · exact ho.mono (Nat.le_succ n)
    · exact hm.object y hy, hm.syncs, hm.readers, hm.gors, hm.gor, hm.output⟩
theorem alloc_bd (hb : Bd n m) (ho : BdO n o) : Bd (n + 1) (allocF putF m x o).1 := by
  unfold allocF
  split
  · exact mc0_bd
  · split
    · exact mc0_bd
    · rename_i h1 h2
      obtain ⟨gr, hgr⟩ : ∃ gr, m.gors[x.toNat]? = some gr := ⟨_, List.getElem?_eq_getElem (by omega)⟩
      have hp := put_bd (o := { o with id := nid x (m.gors[x.toNat]?.getD default).allocs }) hb ⟨ho.cells, ho.queue, ho.senders, ho.receivers⟩
      refine ⟨hp.objects, hp.object, hp.syncs, hp.readers, by simpa using hp.gors, fun g hg => ?_, hp.output⟩
      rcases List.mem_or_eq_of_mem_set hg with hg | rfl
      · exact hp.gor g hg
      · rw [hgr]
        have := hp.gor gr (List.mem_of_getElem? hgr)
        exact ⟨this.frames, this.each⟩
theorem store_bd (hb : Bd n m) : Bd n (storeF m r v).1 := by
  unfold storeF
  split
  · rename_i h
    obtain ⟨_, h2, _⟩ := cell_inv h
    refine ⟨by simpa using hb.objects, fun y hy => ?_, hb.syncs, hb.readers, hb.gors, hb.gor, hb.output⟩
    rcases List.mem_or_eq_of_mem_set hy with hy | rfl
    · exact hb.object y hy
    · refine setC_bd ?_
      cases h : m.objects[pos m.objects r.n]? with
      | none => exact ob0_bd
      | some o => exact hb.object o (List.mem_of_getElem? h)
  · exact mc0_bd
end
section
variable {m : Mc} {l : List Ob} {o : Ob} {x : Int} {r v : V}
theorem alloc_same (hs : Srt m.objects) : allocF (fun o l => rputF o false l) m x o = allocF putF m x o := by
  unfold allocF
  simp only [put_same _ _ hs]
theorem cell_check (hs : Srt l) : (checkF l r).2 = (cellF l r).2 ∧ ((cellF l r).2 = 0 → (checkF l r).1 = l[pos l r.n]?.getD ob0) := by
  by_cases h1 : r.kind = 2
  · cases h2 : fnd l r.n with
    | false => rw [cellF_1 (.inr h2), checkF_2 h1 (.inl (by rw [find_same hs, findF_no h2]))]; simp
    | true =>
      obtain ⟨hp, z, hz, hid⟩ := fnd_pos h2 hs
      have hf : rfindF l r.n = (z, true) := by rw [find_same hs, findF_yes h2 hz]
      rw [hz]
      cases h3 : z.chan with
      | true => rw [cellF_2 h1 h2 hz h3, checkF_2 h1 (.inr (by rw [hf]; exact h3))]; simp
      | false =>
        have h3' : (rfindF l r.n).2 = true ∧ (rfindF l r.n).1.chan = false := by rw [hf]; exact ⟨rfl, h3⟩
        by_cases h4 : r.off < 0 ∨ r.off ≥ (z.cells.length : Int)
        · rw [cellF_3 h1 h2 hz h3 h4, checkF_3 h1 h3' (by rw [hf]; exact h4)]; simp
        · rw [cellF_4 h1 h2 hz h3 (by omega), checkF_4 h1 h3' (by rw [hf]; exact ⟨by omega, by show r.off < (z.cells.length : Int); omega⟩), hf]
          exact ⟨rfl, fun _ => rfl⟩
  · rw [cellF_1 (.inl h1), checkF_1 h1]; simp
theorem load_same (hs : Srt l) : rloadF l r = loadF l r := by
  obtain ⟨h1, h2⟩ := cell_check (r := r) hs
  unfold rloadF loadF
  rw [h1]
  split
  · rename_i h; rw [h2 h]
  · rfl
theorem store_same (hs : Srt m.objects) : rstoreF m r v = storeF m r v := by
  obtain ⟨h1, h2⟩ := cell_check (r := r) hs
  unfold rstoreF storeF
  rw [h1]
  split
  · rename_i h
    obtain ⟨_, hf, _⟩ := cell_inv h
    obtain ⟨hp, z, hz, hid⟩ := fnd_pos hf hs
    have hfz : rfindF m.objects r.n = (z, true) := by rw [find_same hs, findF_yes hf hz]
    rw [hfz, put_same _ _ hs, hz]
    have e : putF (setC z r v) m.objects = m.objects.set (pos m.objects r.n) (setC z r v) := by
      have h4 : (setC z r v).id = r.n := hid
      rw [put_set (by rw [h4]; exact hf), h4]
    simp only [e, Option.getD_some]
  · rfl
end
section
variable {l : List Ob} {p : Nat} {z z' : Ob} {x : Int}
theorem pos_ids {l' : List Ob} (h : l'.map (·.id) = l.map (·.id)) : pos l' x = pos l x := by
  have e : ∀ l : List Ob, pos l x = (l.map (·.id)).countP fun i => decide (i < x) := fun l => by unfold pos; rw [List.countP_map]; rfl
  rw [e, e, h]
theorem fnd_ids {l' : List Ob} (h : l'.map (·.id) = l.map (·.id)) : fnd l' x = fnd l x := by
  have e : ∀ l : List Ob, fnd l x = (l.map (·.id)).any fun i => decide (i = x) := fun l => by unfold fnd; rw [List.any_map]; rfl
  rw [e, e, h]
theorem srt_ids {l' : List Ob} (h : l'.map (·.id) = l.map (·.id)) (hs : Srt l) : Srt l' := by
  have e : ∀ l : List Ob, Srt l ↔ (l.map (·.id)).Pairwise (· < ·) := fun l => by unfold Srt; rw [List.pairwise_map]
  rw [e] at hs ⊢
  rwa [h]
theorem ids_set (hz : l[p]? = some z) (h : z'.id = z.id) : (l.set p z').map (·.id) = l.map (·.id) := by
  apply List.ext_getElem?
  intro i
  rw [List.getElem?_map, List.getElem?_map, List.getElem?_set]
  by_cases e : p = i
  · subst e
    obtain ⟨hp, rfl⟩ := List.getElem?_eq_some_iff.1 hz
    simp [hp, h]
  · simp [e]
end
section
variable {m : Mc} {l : List Ob} {o z : Ob} {x : Int} {r s v : V}
theorem store_data (hs : Srt m.objects) (h : (storeF m r v).2 = 0) : ∃ z, m.objects[pos m.objects r.n]? = some z ∧ z.id = r.n ∧ fnd m.objects r.n = true ∧ r.kind = 2 ∧ z.chan = false ∧ 0 ≤ r.off ∧ r.off < (z.cells.length : Int) ∧
    (storeF m r v).1.objects = m.objects.set (pos m.objects r.n) (setC z r v) ∧ (cellF m.objects r).2 = 0 := by
  have hc : (cellF m.objects r).2 = 0 := by
    by_cases hc : (cellF m.objects r).2 = 0
    · exact hc
    · rw [store_n hc] at h; exact absurd h hc
  obtain ⟨h1, h2, _, h4, h5, h6⟩ := cell_inv hc
  obtain ⟨hp, z, hz, hid⟩ := fnd_pos h2 hs
  rw [hz] at h4 h6
  exact ⟨z, hz, hid, h2, h1, h4, h5, h6, by rw [store_y hc, hz]; rfl, hc⟩
theorem store_ids (hs : Srt m.objects) (h : (storeF m r v).2 = 0) : (storeF m r v).1.objects.map (·.id) = m.objects.map (·.id) := by
  obtain ⟨z, hz, _, _, _, _, _, _, ho, _⟩ := store_data hs h
  rw [ho]
  exact ids_set hz rfl
/-- what a place holds after a store -/
theorem store_at (hs : Srt m.objects) (h : (storeF m r v).2 = 0) (q : Nat) :
    (storeF m r v).1.objects[q]?.getD ob0 = if q = pos m.objects r.n then setC (m.objects[q]?.getD ob0) r v else m.objects[q]?.getD ob0 := by
  obtain ⟨z, hz, _, _, _, _, _, _, ho, _⟩ := store_data hs h
  rw [ho, List.getElem?_set]
  by_cases e : q = pos m.objects r.n
  · subst e
    obtain ⟨hp, rfl⟩ := List.getElem?_eq_some_iff.1 hz
    simp [hp]
  · rw [if_neg (fun e' => e e'.symm), if_neg e]
theorem store_cell (hs : Srt m.objects) (h : (storeF m r v).2 = 0) : cellF (storeF m r v).1.objects s = cellF m.objects s := by
  have hi := store_ids hs h
  have ha := store_at hs h
  unfold cellF
  rw [fnd_ids hi, pos_ids hi, ha]
  by_cases e : pos m.objects s.n = pos m.objects r.n
  · rw [if_pos e]
    simp [setC]
  · rw [if_neg e]
theorem store_load (hs : Srt m.objects) (h : (storeF m r v).2 = 0) : loadF (storeF m r v).1.objects s = (if s = r then v else (loadF m.objects s).1, (loadF m.objects s).2) := by
  have hi := store_ids hs h
  have ha := store_at hs h
  have hcl := store_cell (s := s) hs h
  obtain ⟨z, hz, hid, hf, hk, hch, ho1, ho2, ho, hc⟩ := store_data hs h
  unfold loadF
  rw [hcl, pos_ids hi, ha]
  by_cases hcs : (cellF m.objects s).2 = 0
  · rw [if_pos hcs, if_pos hcs]
    obtain ⟨g1, g2, _, g4, g5, g6⟩ := cell_inv hcs
    obtain ⟨hp, y, hy, hyid⟩ := fnd_pos g2 hs
    by_cases e : pos m.objects s.n = pos m.objects r.n
    · rw [e] at hy g6
      rw [hz] at hy g6
      cases hy
      have hn : s.n = r.n := by omega
      rw [if_pos e, e, hz]
      simp only [Option.getD_some, setC] at g6 ⊢
      by_cases hsr : s = r
      · subst hsr
        rw [if_pos rfl, List.getElem?_set]
        simp [show s.off.toNat < z.cells.length by omega]
      · have hoff : ¬ r.off.toNat = s.off.toNat := fun e2 => hsr (by
          obtain ⟨a1, a2, a3⟩ := s
          obtain ⟨b1, b2, b3⟩ := r
          simp only at g1 hk hn e2 g5 ho1
          simp only [V.mk.injEq]
          omega)
        rw [if_neg hsr, List.getElem?_set, if_neg hoff]
    · have hsr : ¬ s = r := fun e2 => e (by rw [e2])
      rw [if_neg e, if_neg hsr]
  · rw [if_neg hcs, if_neg hcs]
    have hsr : ¬ s = r := fun e2 => hcs (by rw [e2]; exact hc)
    rw [if_neg hsr]
theorem store_fault (h : ¬ (storeF m r v).2 = 0) : (loadF m.objects r).2 = (storeF m r v).2 := by
  by_cases hc : (cellF m.objects r).2 = 0
  · rw [store_y hc] at h; exact absurd rfl h
  · rw [store_n hc, loadF_no hc]
theorem load_stored (hs : Srt m.objects) (h : (storeF m r v).2 = 0) : loadF (storeF m r v).1.objects r = (v, 0) := by
  rw [store_load hs h, if_pos rfl]
  obtain ⟨_, _, _, _, _, _, _, _, _, hc⟩ := store_data hs h
  obtain ⟨_, _, _, _, _, _, hl⟩ := loadF_yes hs hc
  rw [hl]
theorem put_valid (hv : validF l = true) (h0 : 0 ≤ o.id) (ho : objF o = true) : validF (putF o l) = true := by
  rw [valid_iff] at hv ⊢
  refine ⟨(srt_put l hv.1).1, fun y hy => ?_⟩
  rcases mem_put hy with rfl | hy
  · exact ⟨h0, ho⟩
  · exact hv.2 y hy
theorem setC_obj (h : objF z = true) (hc : z.chan = false) (hv : vval v = true) : objF (setC z r v) = true := by
  rw [objF_d hc] at h
  rw [objF_d (show (setC z r v).chan = false from hc)]
  simp only [Bool.and_eq_true, decide_eq_true_eq] at h ⊢
  obtain ⟨⟨⟨⟨⟨⟨⟨⟨h1, h2⟩, h3⟩, h4⟩, h5⟩, h6⟩, h7⟩, h8⟩, h9⟩ := h
  refine ⟨⟨⟨⟨⟨⟨⟨⟨by simpa [setC] using h1, ?_⟩, h3⟩, h4⟩, h5⟩, h6⟩, h7⟩, h8⟩, h9⟩
  rw [List.all_eq_true] at h2 ⊢
  intro u hu
  rcases List.mem_or_eq_of_mem_set hu with hu | rfl
  · exact h2 u hu
  · exact hv
theorem store_valid (hv : validF m.objects = true) (hvv : vval v = true) (h : (storeF m r v).2 = 0) : validF (storeF m r v).1.objects = true := by
  have hv' := valid_iff.1 hv
  obtain ⟨z, hz, _, _, _, hch, _, _, ho, _⟩ := store_data hv'.1 h
  rw [valid_iff]
  refine ⟨srt_ids (store_ids hv'.1 h) hv'.1, fun y hy => ?_⟩
  rw [ho] at hy
  rcases List.mem_or_eq_of_mem_set hy with hy | rfl
  · exact hv'.2 y hy
  · have := hv'.2 z (List.mem_of_getElem? hz)
    exact ⟨this.1, setC_obj this.2 hch hvv⟩
theorem alloc_valid {g : Int} (hv : validF m.objects = true) (ho : objF o = true) (h : (allocF putF m g o).2.2 = 0) : validF (allocF putF m g o).1.objects = true := by
  unfold allocF at h ⊢
  split at h
  · simp at h
  · rename_i h1
    rw [if_neg h1]
    split at h
    · simp at h
    · rename_i h2
      rw [if_neg h2]
      refine put_valid hv ?_ ho
      show 0 ≤ nid g _
      unfold nid
      omega
theorem one_valid (h : validF [o] = true) : 0 ≤ o.id ∧ objF o = true := (valid_iff.1 h).2 o (List.mem_singleton.2 rfl)
end
end Go.Hp


namespace Go.AL
open Go.RowKit
section
variable {P : Program} {n N : Nat} {F : Fr} {R : Toks} {d : Option Nat} {T : TypeId} {pos : String} {after : Array Edge} {α : Type} {f : α → List Pred} {k bytes : Nat} {t e : TypeId}
theorem op_makeRow {lx cx : Operand} {l : Nat} {li ci : Int} {lk ck : IntKind} {m' kk : Nat} {z : Value} (z0 : α) (hl : opd F lx = some (eqP (.int lk li))) (hc : opd F cx = some (eqP (.int ck ci))) (hli : li = (l : Int)) (hci : ci = (l : Int)) (hm' : R m' = none)
    (ht : elemB P t = some e) (hz : zeroB P e = some (some z)) (hs : sizeB P e = some k) (hby : bytesB P e = some bytes) (hz0 : Ents (z.cells.toList.map eqP) (f z0)) (hk : ∀ z, (f z).length = k) (hk0 : Nat.blt 0 k = true) (h1 : z.cells.toList.all Value.oneCell' = true)
    (hc1 : bytes * l ≤ 281474976710656) (hc2 : l ≤ maxLen) :
    OpJ P n N F R ⟨d, .makeSlice t lx cx, T, pos, after, none⟩ ⟨rdo lx (eqP (.int lk li)) ++ rdo cx (eqP (.int ck ci)), [], [], [(m', ((N, kk), tail e k ((List.replicate l z0).length * k)))], [kk], rowP (N, kk) f k (List.replicate l z0)⟩ where
  loc := by
    intro σ W R a K hm h2 h3 h4 h5 h6 h7 h8 h9 Q
    have hid := h8 kk (by simp)
    have hRm' : R m' = none := by have h := h7 (m', ((N, kk), tail e k ((List.replicate l z0).length * k))) (by simp); simpa using h
    have e1 : a.eval lx = .int lk li := holds_of hl fun w hw => h4 w (List.mem_append_left _ hw)
    have e2 : a.eval cx = .int ck ci := holds_of hc fun w hw => h4 w (List.mem_append_right _ hw)
    have hk0 : 0 < k := Nat.le_of_ble_eq_true hk0
    subst hli hci
    obtain ⟨i, hi, hiz, his, hib⟩ := info_of hz hs hby
    have hzsz : z.cells.size = k := by have := hz0.length; rw [hk] at this; simpa using this
    have h63 : ((l : Nat) : Int) ≤ 9223372036854775807 := by unfold maxLen at hc2; omega
    have hbb : (i.bytes : Int) * ((l : Nat) : Int) ≤ 281474976710656 := by
      rw [hib]
      have h : ((bytes * l : Nat) : Int) ≤ 281474976710656 := by omega
      rwa [Int.natCast_mul] at h
    have hr := run_make (P := P) W t e i z (elem_of ht) hi hiz lk ck (l : Int) (l : Int) (by omega) (by omega) hbb h63
    rw [Int.toNat_natCast, his] at hr
    have hcells : (madeCells z.cells (l * k)).toList = (List.replicate l z.cells.toList).flatten := by
      simp only [madeCells, Array.toList_map, Array.toList_range]
      rw [← flatten_replicate_range hzsz hk0]
    have hflat : (List.replicate l (z.cells.toList.map eqP)).flatten = ((List.replicate l z.cells.toList).flatten).map eqP := by simp [List.map_flatten]
    have hvs0 : Vs σ (List.replicate l (z.cells.toList.map eqP)).flatten (madeCells z.cells (l * k)).toList := by
      rw [hcells, hflat]
      refine Vs.eqs ?_
      rw [List.all_eq_true] at h1 ⊢
      intro u hu
      obtain ⟨q, hq, huq⟩ := List.mem_flatten.1 hu
      rw [List.mem_replicate] at hq
      exact h1 u (by rw [← hq.2]; exact huq)
    have hvs : Vs σ ((List.replicate l z0).flatMap f) (madeCells z.cells (l * k)).toList := by
      rw [← flatten_rep]
      exact hvs0.ents (Ents.rep hz0 l)
    obtain ⟨hmod, hrow⟩ := hm.rowNew (e := e) (xs := List.replicate l z0) (rest := []) hid hRm' hk hvs (cap := l) (by rw [List.append_nil, hvs.1, flatMap_len hk, List.length_replicate]) (by rw [List.length_replicate]; exact Nat.le_refl _) hc2 _ rfl
    refine wp_value (v := .slice (some ⟨W.heap.size, 0, none⟩) l l) (W' := W.alloc (.cells (madeCells z.cells (l * k)) e)) ?_ (h9 _ _ _ (le_bindC hid) (fun q _ hq => bind_ne _ _ _ _ _ (hq kk (by simp))) (by
      have e3 : ((madeCells z.cells (l * k)).toList ++ []).toArray = madeCells z.cells (l * k) := by simp
      rw [e3] at hmod
      exact hmod.congr (updR_new ..)) (by rw [List.length_replicate] at hrow; exact hrow))
    simp only [execOp, e1, e2, Sem.run_bind, hr, Result.andThen_ok, Sem.run_pure]
  rd := rd_app (rd_of hl) (rd_of hc)
  use := by simp
  del := by simp
  add := by simpa using hm'
end
end Go.AL
