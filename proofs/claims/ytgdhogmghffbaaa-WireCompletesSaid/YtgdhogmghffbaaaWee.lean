/- Parts of a proof that share one text: WrWalk13, WrWalk14, WrWalk15. -/
import Derived.Test.YtgdhogmghffbaaaWed
import Derived.Test.YtgdhogmghffbaaaWeb
set_option linter.unusedVariables false
set_option linter.unusedSimpArgs false

set_option linter.unusedVariables false
set_option linter.unusedSimpArgs false
namespace Go.Proofs.Ytgdhogmghffbaaa
open Go.AL Go.Wr Go.RowKit
theorem ar69 : arrB Try.prog 69 = some (2, 46) := by kernel_rfl
theorem ar70 : arrB Try.prog 70 = some (2, 38) := by kernel_rfl
theorem fl73_0 : fldB Try.prog 73 0 = some (0, 69) := by kernel_rfl
theorem fl73_2 : fldB Try.prog 73 2 = some (12, 70) := by kernel_rfl
theorem fs73 : sizesB Try.prog 73 = true := by kernel_rfl
theorem sz69 : sizeB Try.prog 69 = some 10 := by kernel_rfl
theorem sz70 : sizeB Try.prog 70 = some 2 := by kernel_rfl
theorem ze69 : zeroB Try.prog 69 = some (some (.agg #[.int .i64 0, .int .i64 0, .slice none 0 0, .int .i64 0, .slice none 0 0, .int .i64 0, .int .i64 0, .slice none 0 0, .int .i64 0, .slice none 0 0])) := by kernel_rfl
theorem ze73 : zeroB Try.prog 73 = some (some (.agg #[.int .i64 0, .int .i64 0, .slice none 0 0, .int .i64 0, .slice none 0 0, .int .i64 0, .int .i64 0, .slice none 0 0, .int .i64 0, .slice none 0 0, .slice none 0 0, .slice none 0 0, .slice none 0 0, .slice none 0 0, .slice none 0 0, .slice none 0 0])) := by kernel_rfl
theorem start_ok_w (w : Int) (hw : 1 ≤ w ∧ w ≤ 16) : FnOK Try.prog 26 [eqP (.int .i64 w)] [] 7 (fun ι => tupP [ptrP (ι 0) 0, eqP (.bool true)]) (fun ι => [(ι 0, blk 73 (prP (side0 w) (side0 w) (ι 1) (ι 2) (ι 3) (ι 4) (ι 5) (ι 6))), (ι 1, tail 9 1 ((side0 w).s.length * 1)), (ι 2, tail 9 1 ((side0 w).s.length * 1)), (ι 3, tail 9 1 ((side0 w).g.length * 1)), (ι 4, tail 9 1 ((side0 w).g.length * 1)), (ι 5, tail 25 1 ((side0 w).n.length * 1)), (ι 6, tail 25 1 ((side0 w).n.length * 1))]) := by
  refine fn_ownN Try.func26 rfl Try.ntmps26 rfl ?_
  intro σ0 M Rf R hC hO
  simp only [frameOf, tokOf]
  refine tr_seq ?_
  refine tr_region (fun N0 hN => ?_)
  refine lx (op_assign rfl) rfl ?_
  refine lx (op_assign rfl) rfl ?_
  refine lx_end ⟨by kernel_rfl, ?_⟩
  refine pe_then_normal ?_
  refine tr_sub hC (.cons (t := 0) rfl .nil) .nil rfl ?_
  refine tr_seq ?_
  refine tr_region (fun N1 hN => ?_)
  refine lx (op_move rfl) rfl ?_
  first | refine lx (OpJ.ent (op_call (l := [(Go.Operand.tmp 9)]) (New_ok w) (.cons rfl .nil) fn15) (show Ent _ (tupP [aggP (WE.ps ⟨w, 0, [], 0, []⟩), eqP (.int .i64 0)]) from (by rw [new_yes hw]; exact Ent.refl _))) rfl ?_ | refine lx (OpJ.ent (op_call (l := [(Go.Operand.tmp 9)]) (New_ok w) (.ent rfl (by repeat (first | exact Ents.nil | refine Ents.cons ?_ ?_ | refine Ent.tup ?_ | refine Ent.agg ?_ | exact Ent.row _ _ _ _ | exact Ent.nil _ _ | exact Ent.func _ | exact Ent.refl _ | exact Ent.of_eq rfl | refine Ent.cells ?_)) .nil) fn15) (show Ent _ (tupP [aggP (WE.ps ⟨w, 0, [], 0, []⟩), eqP (.int .i64 0)]) from (by rw [new_yes hw]; exact Ent.refl _))) rfl ?_
  refine lx (op_move rfl) rfl ?_
  refine lx (op_extract rfl rfl) rfl ?_
  refine lx (op_extract rfl rfl) rfl ?_
  refine lxn (op_alloc (m := 4) (k := 4) (ps := [eqP (.int .i64 0), eqP (.int .i64 0), eqP (.slice none 0 0), eqP (.int .i64 0), eqP (.slice none 0 0)]) ze46 rfl rfl (by first | exact hC.low _ (by decide) | rfl)) rfl ?_
  refine lxr (op_store_all (m := 4) rfl rfl rfl (.agg rfl) sz46 rfl) rfl ?_
  refine lx (op_assign rfl) rfl ?_
  refine lx_end ⟨by kernel_rfl, ?_⟩
  refine pe_then_normal ?_
  refine tr_sub hC (.cons (t := 0) rfl (.cons (t := 4) rfl (.cons (t := 5) rfl .nil))) (.cons (t := 4) rfl .nil) rfl ?_
  refine tr_seq ?_
  refine tr_region (fun N2 hN => ?_)
  refine lx (op_move rfl) rfl ?_
  first | refine lx (OpJ.ent (op_call (l := [(Go.Operand.tmp 14)]) (New_ok w) (.cons rfl .nil) fn15) (show Ent _ (tupP [aggP (WE.ps ⟨w, 0, [], 0, []⟩), eqP (.int .i64 0)]) from (by rw [new_yes hw]; exact Ent.refl _))) rfl ?_ | refine lx (OpJ.ent (op_call (l := [(Go.Operand.tmp 14)]) (New_ok w) (.ent rfl (by repeat (first | exact Ents.nil | refine Ents.cons ?_ ?_ | refine Ent.tup ?_ | refine Ent.agg ?_ | exact Ent.row _ _ _ _ | exact Ent.nil _ _ | exact Ent.func _ | exact Ent.refl _ | exact Ent.of_eq rfl | refine Ent.cells ?_)) .nil) fn15) (show Ent _ (tupP [aggP (WE.ps ⟨w, 0, [], 0, []⟩), eqP (.int .i64 0)]) from (by rw [new_yes hw]; exact Ent.refl _))) rfl ?_
  refine lx (op_move rfl) rfl ?_
  refine lx (op_extract rfl rfl) rfl ?_
  refine lx (op_extract rfl rfl) rfl ?_
  refine lxn (op_alloc (m := 6) (k := 6) (ps := [eqP (.int .i64 0), eqP (.int .i64 0), eqP (.slice none 0 0), eqP (.int .i64 0), eqP (.slice none 0 0)]) ze46 rfl rfl (by first | exact hC.low _ (by decide) | rfl)) rfl ?_
  refine lxr (op_store_all (m := 6) rfl rfl rfl (.agg rfl) sz46 rfl) rfl ?_
  refine lx (op_assign rfl) rfl ?_
  refine lx_end ⟨by kernel_rfl, ?_⟩
  refine pe_then_normal ?_
  refine tr_sub hC (.cons (t := 4) rfl (.cons (t := 5) rfl (.cons (t := 6) rfl (.cons (t := 7) rfl .nil)))) (.cons (t := 4) rfl (.cons (t := 6) rfl .nil)) rfl ?_
  refine tr_seq ?_
  refine tr_region (fun N3 hN => ?_)
  refine lx (op_bload (m := 4) rfl rfl ag46 sz46) rfl ?_
  refine lx (op_bload (m := 6) rfl rfl ag46 sz46) rfl ?_
  refine lx (op_build_parts (qs := [_, _, _, _, _, _, _, _, _, _]) (parts := [(0, (Go.Operand.tmp 18)), (1, (Go.Operand.tmp 19))]) ze69 rfl rfl ar69 sz46 (.cons (i := 0) rfl (.agg rfl) rfl (.cons (i := 1) rfl (.agg rfl) rfl .nil)) rfl rfl) rfl ?_
  refine lx (op_build (qs := [_, _, _, _, _, _, _, _, _, _, _, _, _, _, _, _]) (parts := [(0, (Go.Operand.tmp 20))]) ze73 rfl rfl fs73 (.cons rfl (.agg rfl) fl73_0 sz69 rfl .nil) rfl rfl) rfl ?_
  refine lxn (op_box (m := 22) (k := 22) rfl (.agg rfl) (by first | exact hC.low _ (by decide) | rfl)) rfl ?_
  refine lx (op_move rfl) rfl ?_
  refine lx (op_eql rfl rfl) rfl ?_
  refine lx (op_move rfl) rfl ?_
  refine lxs rfl rfl rfl guard_eq (.cons (t := 7) rfl (fun _ => Ent.refl _) .nil) (op_move rfl) rfl ?_
  refine lxs rfl rfl rfl guard_eq (.cons (t := 26) rfl (fun h => entW h) .nil) (op_eql rfl rfl) rfl ?_
  refine lx (op_pick_and rfl rfl) rfl ?_
  refine lx (op_assign rfl) rfl ?_
  refine lx (op_assign rfl) rfl ?_
  refine lx_end ⟨by kernel_rfl, ?_⟩
  refine pe_then_normal ?_
  refine tr_sub hC (.cons (t := 2) rfl (.cons (t := 3) rfl .nil)) (.cons (t := 22) rfl .nil) rfl ?_
  refine tr_nilbox stP 1 9 22 10 700 rfl rfl (by first | exact hC.low _ (by decide) | rfl) (fun idN => ?_)
  try dsimp only [List.set]
  refine tr_nilbox stP 1 9 22 11 701 rfl rfl (by first | exact hC.low _ (by decide) | rfl) (fun idN => ?_)
  try dsimp only [List.set]
  refine tr_nilbox stP 1 9 22 12 702 rfl rfl (by first | exact hC.low _ (by decide) | rfl) (fun idN => ?_)
  try dsimp only [List.set]
  refine tr_nilbox stP 1 9 22 13 703 rfl rfl (by first | exact hC.low _ (by decide) | rfl) (fun idN => ?_)
  try dsimp only [List.set]
  refine tr_nilbox byS 1 25 22 14 704 rfl rfl (by first | exact hC.low _ (by decide) | rfl) (fun idN => ?_)
  try dsimp only [List.set]
  refine tr_nilbox byS 1 25 22 15 705 rfl rfl (by first | exact hC.low _ (by decide) | rfl) (fun idN => ?_)
  try dsimp only [List.set]
  refine tr_ret ?_
  refine pe_ownT' (rs := [.tmp 2, .tmp 3]) [22, 700, 701, 702, 703, 704, 705] rfl rfl hO rfl (.tmp rfl (.tmp rfl .nil)) (.cons (m := 22) rfl (RenR.blk _ _ _) (.cons (m := 700) rfl (RenR.tail _ _ _) (.cons (m := 701) rfl (RenR.tail _ _ _) (.cons (m := 702) rfl (RenR.tail _ _ _) (.cons (m := 703) rfl (RenR.tail _ _ _) (.cons (m := 704) rfl (RenR.tail _ _ _) (.cons (m := 705) rfl (RenR.tail _ _ _) .nil))))))) rfl rfl rfl ?_
  intro τ ι hs
  refine ⟨?_, ?_⟩
  · exact tupP_at (.cons (ptr_ren (hs 0 _ rfl).1) (.cons (ent_at (Ent.refl _)) .nil))
  · exact (.moved rfl (blk_ents (.cons (ent_at (Ent.refl _)) (.cons (ent_at (Ent.refl _)) (.cons (ent_at (Ent.refl _)) (.cons (ent_at (Ent.refl _)) (.cons (ent_at (Ent.refl _)) (.cons (ent_at (Ent.refl _)) (.cons (ent_at (Ent.refl _)) (.cons (ent_at (Ent.refl _)) (.cons (ent_at (Ent.refl _)) (.cons (ent_at (Ent.refl _)) (.cons (row_ren (hs 1 _ rfl).1 (hs 1 _ rfl).2) (.cons (row_ren (hs 2 _ rfl).1 (hs 2 _ rfl).2) (.cons (row_ren (hs 3 _ rfl).1 (hs 3 _ rfl).2) (.cons (row_ren (hs 4 _ rfl).1 (hs 4 _ rfl).2) (.cons (row_ren (hs 5 _ rfl).1 (hs 5 _ rfl).2) (.cons (row_ren (hs 6 _ rfl).1 (hs 6 _ rfl).2) .nil))))))))))))))))) (.moved rfl (fun b o h => h) (.moved rfl (fun b o h => h) (.moved rfl (fun b o h => h) (.moved rfl (fun b o h => h) (.moved rfl (fun b o h => h) (.moved rfl (fun b o h => h) .nil)))))))
set_option maxHeartbeats 1000000 in
theorem receive_0 (i0 i1 i2 i3 i4 i5 i6 : AL.Id) (a b : Side) (d : List Int) (h : RecvOK a d) (hg : a.g.length ≤ 1000) : FnOK Try.prog 29 [ptrP i0 0, eqP (.int .i64 0), slP byP 1 d] [(i0, blk 73 (prP a b i1 i2 i3 i4 i5 i6)), (i1, tail 9 1 (a.s.length * 1)), (i2, tail 9 1 (b.s.length * 1)), (i3, tail 9 1 (a.g.length * 1)), (i4, tail 9 1 (b.g.length * 1)), (i5, tail 25 1 (a.n.length * 1)), (i6, tail 25 1 (b.n.length * 1))] 1 (fun ι => eqP (.bool true)) (fun ι => [(i0, blk 73 (prP (rstep a d) b i1 i2 (ι 0) i4 i5 i6)), (i1, tail 9 1 ((rstep a d).s.length * 1)), (i2, tail 9 1 (b.s.length * 1)), (ι 0, tail 9 1 ((rstep a d).g.length * 1)), (i4, tail 9 1 (b.g.length * 1)), (i5, tail 25 1 ((rstep a d).n.length * 1)), (i6, tail 25 1 (b.n.length * 1))]) := by
  obtain ⟨hb, hl, h0, h17⟩ := h
  refine fn_ownN Try.func29 rfl Try.ntmps29 rfl ?_
  intro σ0 M Rf R hC hO
  simp only [frameOf, tokOf]
  refine tr_seq ?_
  refine tr_region (fun N0 hN => ?_)
  refine lx (op_assign rfl) rfl ?_
  refine lx_end ⟨by kernel_rfl, ?_⟩
  refine pe_then_normal ?_
  refine tr_sub hC (.cons (t := 0) rfl (.cons (t := 1) rfl (.cons (t := 2) rfl .nil))) (.cons (t := 0) rfl (.cons (t := 1) rfl (.cons (t := 2) rfl (.cons (t := 3) rfl (.cons (t := 4) rfl (.cons (t := 5) rfl (.cons (t := 6) rfl .nil))))))) rfl ?_
  refine tr_seq ?_
  refine tr_region (fun N1 hN => ?_)
  refine lx (op_move rfl) rfl ?_
  refine lx (op_move rfl) rfl ?_
  first | refine lx (op_nilCheck rfl) rfl ?_ | refine lx (op_nilCheckC rfl) rfl ?_
  refine lx (op_fieldAddr rfl fl73_0 sz69) rfl ?_
  refine lx (op_aindex rfl rfl ar69 sz46 (show (0 : Int) = ((0 : Nat) : Int) from rfl) (by decide)) rfl ?_
  first | refine lx (op_bload (m := 0) rfl rfl ag46 sz46) rfl ?_ | refine lx (op_bload_part (m := 0) (qs := [_, _, _, _, _]) rfl rfl ag46 sz46 rfl rfl) rfl ?_
  refine lx (op_move rfl) rfl ?_
  first | refine lx (OpJ.ent (op_call (l := [(Go.Operand.tmp 18), (Go.Operand.tmp 19)]) (Receive_ok a.e d hb hl) (.cons rfl (.cons rfl .nil)) fn30) (show Ent _ (tupP [aggP (recvF a.e d).1.ps, slP byS 1 (recvF a.e d).2.1, eqP (.int .i64 0)]) from (by rw [h0]; exact Ent.refl _))) rfl ?_ | refine lx (OpJ.ent (op_call (l := [(Go.Operand.tmp 18), (Go.Operand.tmp 19)]) (Receive_ok a.e d hb hl) (.ent rfl (by repeat (first | exact Ents.nil | refine Ents.cons ?_ ?_ | refine Ent.tup ?_ | refine Ent.agg ?_ | exact Ent.row _ _ _ _ | exact Ent.nil _ _ | exact Ent.func _ | exact Ent.refl _ | exact Ent.of_eq rfl | refine Ent.cells ?_)) (.ent rfl (by repeat (first | exact Ents.nil | refine Ents.cons ?_ ?_ | refine Ent.tup ?_ | refine Ent.agg ?_ | exact Ent.row _ _ _ _ | exact Ent.nil _ _ | exact Ent.func _ | exact Ent.refl _ | exact Ent.of_eq rfl | refine Ent.cells ?_)) .nil)) fn30) (show Ent _ (tupP [aggP (recvF a.e d).1.ps, slP byS 1 (recvF a.e d).2.1, eqP (.int .i64 0)]) from (by rw [h0]; exact Ent.refl _))) rfl ?_
  refine lx (op_move rfl) rfl ?_
  refine lx (op_extract rfl rfl) rfl ?_
  refine lx (op_extract rfl rfl) rfl ?_
  refine lx (op_extract rfl rfl) rfl ?_
  refine lxn (op_alloc (m := 7) (k := 7) (ps := [eqP (.int .i64 0), eqP (.int .i64 0), eqP (.slice none 0 0), eqP (.int .i64 0), eqP (.slice none 0 0)]) ze46 rfl rfl (by first | exact hC.low _ (by decide) | rfl)) rfl ?_
  refine lxr (op_store_all (m := 7) rfl rfl rfl (.agg rfl) sz46 rfl) rfl ?_
  refine lx (op_assign rfl) rfl ?_
  refine lx (op_assign rfl) rfl ?_
  refine lx_end ⟨by kernel_rfl, ?_⟩
  refine pe_then_normal ?_
  refine tr_sub hC (.cons (t := 0) rfl (.cons (t := 1) rfl (.cons (t := 7) rfl (.cons (t := 8) rfl (.cons (t := 9) rfl .nil))))) (.cons (t := 0) rfl (.cons (t := 1) rfl (.cons (t := 2) rfl (.cons (t := 3) rfl (.cons (t := 4) rfl (.cons (t := 5) rfl (.cons (t := 6) rfl (.cons (t := 7) rfl .nil)))))))) rfl ?_
  refine tr_seq ?_
  refine tr_seq ?_
  refine tr_region (fun N2 hN => ?_)
  refine lx (op_move rfl) rfl ?_
  refine lx (op_neq rfl rfl) rfl ?_
  refine lx_end ⟨by kernel_rfl, ?_⟩
  refine pe_then_normal ?_
  refine tr_sub hC (.cons (t := 0) rfl (.cons (t := 1) rfl (.cons (t := 7) rfl (.cons (t := 8) rfl (.cons (t := 25) rfl .nil))))) (.cons (t := 0) rfl (.cons (t := 1) rfl (.cons (t := 2) rfl (.cons (t := 3) rfl (.cons (t := 4) rfl (.cons (t := 5) rfl (.cons (t := 6) rfl (.cons (t := 7) rfl .nil)))))))) rfl ?_
  refine tr_cond rfl (fun h25 => ?_) (fun h25 => ?_)
  · exact absurd h25 (by decide)
  · (try simp only [Bool.and_eq_true, Bool.or_eq_true, Bool.and_eq_false_iff, Bool.or_eq_false_iff, decide_eq_true_eq, decide_eq_false_iff_not, Bool.not_eq_true', Bool.not_eq_false', List.length_map, ne_eq, Decidable.not_not, Int.not_lt, Int.not_le] at h25)
    refine tr_skip ?_
    refine pe_then_normal ?_
    refine tr_sub hC (.cons (t := 0) rfl (.cons (t := 1) rfl (.cons (t := 7) rfl (.cons (t := 8) rfl .nil)))) (.cons (t := 0) rfl (.cons (t := 1) rfl (.cons (t := 2) rfl (.cons (t := 3) rfl (.cons (t := 4) rfl (.cons (t := 5) rfl (.cons (t := 6) rfl (.cons (t := 7) rfl .nil)))))))) rfl ?_
    refine tr_seq ?_
    refine tr_drawn mixed (fun N4 hN => ?_)
    refine lx (op_move rfl) rfl ?_
    refine lx (op_move rfl) rfl ?_
    refine lx (op_bload (m := 7) rfl rfl ag46 sz46) rfl ?_
    first | refine lx (op_nilCheck rfl) rfl ?_ | refine lx (op_nilCheckC rfl) rfl ?_
    refine lx (op_fieldAddr rfl fl73_0 sz69) rfl ?_
    refine lx (op_aindex rfl rfl ar69 sz46 (show (0 : Int) = ((0 : Nat) : Int) from rfl) (by decide)) rfl ?_
    first | refine lxr (op_store_all (m := 0) rfl rfl rfl (.agg rfl) sz46 rfl) rfl ?_ | refine lxr (op_store (m := 0) rfl rfl rfl (.agg rfl) sz46 rfl rfl rfl) rfl ?_
    refine lx_end ⟨by kernel_rfl, ?_⟩
    refine pe_then_normal ?_
    refine tr_sub hC (.cons (t := 0) rfl (.cons (t := 1) rfl (.cons (t := 8) rfl .nil))) (.cons (t := 0) rfl (.cons (t := 1) rfl (.cons (t := 2) rfl (.cons (t := 3) rfl (.cons (t := 4) rfl (.cons (t := 5) rfl (.cons (t := 6) rfl .nil))))))) rfl ?_
    refine tr_seq ?_
    refine tr_seq ?_
    refine tr_region (fun N5 hN => ?_)
    refine lx (op_move rfl) rfl ?_
    first | refine lx (op_len rfl el43) rfl ?_ | refine lx (op_len_row rfl el43) rfl ?_ | refine lx (op_len_mv rfl el43) rfl ?_ | refine lx (op_len_nil rfl el43) rfl ?_
    refine lx (op_move rfl) rfl ?_
    refine lx_end ⟨by kernel_rfl, ?_⟩
    refine pe_then_normal ?_
    refine tr_sub hC (.cons (t := 0) rfl (.cons (t := 1) rfl (.cons (t := 32) rfl (.cons (t := 33) rfl (.cons (t := 34) rfl .nil))))) (.cons (t := 0) rfl (.cons (t := 1) rfl (.cons (t := 2) rfl (.cons (t := 3) rfl (.cons (t := 4) rfl (.cons (t := 5) rfl (.cons (t := 6) rfl .nil))))))) rfl ?_
    refine tr_block ?_
    refine tr_loopK (α := {zz : Nat × (List ByteArray) × AL.Id // zz.1 ≤ (recvF a.e d).2.1.length ∧ zz.2.1 = a.g ++ (((recvF a.e d).2.1.take zz.1).map strB)}) (⟨(0, a.g, i3), Nat.zero_le _, by simp⟩) (fun zz => [(34, eqP (.int .i64 (zz.1.1 : Int)))]) (fun zz => [(0, some (i0, blk 73 [eqP (.int .i64 (recvF a.e d).1.window), eqP (.int .i64 (recvF a.e d).1.base), slP byS 1 (recvF a.e d).1.sent, eqP (.int .i64 (recvF a.e d).1.got), slP WF.ps 3 (recvF a.e d).1.early, eqP (.int .i64 b.e.window), eqP (.int .i64 b.e.base), slP byS 1 b.e.sent, eqP (.int .i64 b.e.got), slP WF.ps 3 b.e.early, rowP i1 stP 1 a.s, rowP i2 stP 1 b.s, rowP zz.1.2.2 stP 1 zz.1.2.1, rowP i4 stP 1 b.g, rowP i5 byS 1 a.n, rowP i6 byS 1 b.n])), (3, some (zz.1.2.2, tail 9 1 (zz.1.2.1.length * 1)))]) (fun zz => (recvF a.e d).2.1.length - zz.1.1) hC (.cons (t := 0) rfl (.cons (t := 1) rfl (.cons (t := 32) rfl (.cons (t := 33) rfl .nil)))) (.cons (t := 1) rfl (.cons (t := 2) rfl (.cons (t := 4) rfl (.cons (t := 5) rfl (.cons (t := 6) rfl .nil))))) rfl ?_ ?_ (fun zz => ?_)
    · try dsimp only [List.cons_append, List.nil_append]
      first | refine SubF.cons rfl ?_ | (refine SubF.ent rfl ?_ ?_; · repeat (first | exact Ents.nil | refine Ents.cons ?_ ?_ | refine Ent.tup ?_ | refine Ent.agg ?_ | exact Ent.row _ _ _ _ | exact Ent.nil _ _ | exact Ent.func _ | exact Ent.refl _ | exact Ent.of_eq rfl | refine Ent.cells ?_))
      exact SubF.nil
    · try dsimp only [List.cons_append, List.nil_append]
      repeat (first | exact SubL.nil | refine SubL.cons rfl ?_)
    · obtain ⟨⟨k, xs, i⟩, hk, hxs⟩ := zz
      try dsimp only at hk
      try dsimp only at hxs
      dsimp only [List.cons_append, List.nil_append]
      refine tr_seq ?_
      refine tr_region (fun N6 hN => ?_)
      refine lx (op_lss rfl rfl) rfl ?_
      refine lx_end ⟨by kernel_rfl, ?_⟩
      refine pe_then_normal ?_
      refine tr_sub hC (.cons (t := 0) rfl (.cons (t := 1) rfl (.cons (t := 32) rfl (.cons (t := 33) rfl (.cons (t := 34) rfl (.cons (t := 35) rfl .nil)))))) (.cons (t := 0) rfl (.cons (t := 3) rfl (.cons (t := 1) rfl (.cons (t := 2) rfl (.cons (t := 4) rfl (.cons (t := 5) rfl (.cons (t := 6) rfl .nil))))))) rfl ?_
      refine tr_seq ?_
      refine tr_cond rfl (fun h35 => ?_) (fun h35 => ?_)
      · (try simp only [Bool.and_eq_true, Bool.or_eq_true, Bool.and_eq_false_iff, Bool.or_eq_false_iff, decide_eq_true_eq, decide_eq_false_iff_not, Bool.not_eq_true', Bool.not_eq_false', List.length_map, ne_eq, Decidable.not_not, Int.not_lt, Int.not_le] at h35)
        have hxl : xs.length ≤ a.g.length + 17 := by rw [hxs, List.length_append, List.length_map, List.length_take]; omega
        refine tr_skip ?_
        refine pe_then_normal ?_
        refine tr_sub hC (.cons (t := 0) rfl (.cons (t := 1) rfl (.cons (t := 32) rfl (.cons (t := 33) rfl (.cons (t := 34) rfl .nil))))) (.cons (t := 0) rfl (.cons (t := 3) rfl (.cons (t := 1) rfl (.cons (t := 2) rfl (.cons (t := 4) rfl (.cons (t := 5) rfl (.cons (t := 6) rfl .nil))))))) rfl ?_
        refine tr_seq ?_
        refine tr_block ?_
        refine tr_seq ?_
        refine tr_region (fun N7 hN => ?_)
        refine lx (op_index rfl rfl el43 sz25 rfl (List.getElem?_eq_getElem (by omega : k < (recvF a.e d).2.1.length))) rfl ?_
        first | refine lx (op_load_one rfl ag25 rfl) rfl ?_ | refine lx (op_bload_one (m := 0) rfl rfl ag25 rfl) rfl ?_ | refine lx (op_bload_one (m := 3) rfl rfl ag25 rfl) rfl ?_ | refine lx (op_bload_one (m := 1) rfl rfl ag25 rfl) rfl ?_ | refine lx (op_bload_one (m := 2) rfl rfl ag25 rfl) rfl ?_ | refine lx (op_bload_one (m := 4) rfl rfl ag25 rfl) rfl ?_ | refine lx (op_bload_one (m := 5) rfl rfl ag25 rfl) rfl ?_ | refine lx (op_bload_one (m := 6) rfl rfl ag25 rfl) rfl ?_
        refine lx (op_assign rfl) rfl ?_
        refine lx_end ⟨by kernel_rfl, ?_⟩
        refine pe_then_normal ?_
        refine tr_sub hC (.cons (t := 0) rfl (.cons (t := 1) rfl (.cons (t := 11) rfl (.cons (t := 32) rfl (.cons (t := 33) rfl (.cons (t := 34) rfl .nil)))))) (.cons (t := 0) rfl (.cons (t := 3) rfl (.cons (t := 1) rfl (.cons (t := 2) rfl (.cons (t := 4) rfl (.cons (t := 5) rfl (.cons (t := 6) rfl .nil))))))) rfl ?_
        refine tr_drawn mixed (fun N8 hN => ?_)
        refine lx (op_move rfl) rfl ?_
        refine lx (op_move rfl) rfl ?_
        refine lx (op_move rfl) rfl ?_
        refine lx (op_move rfl) rfl ?_
        first | refine lx (op_nilCheck rfl) rfl ?_ | refine lx (op_nilCheckC rfl) rfl ?_
        refine lx (op_fieldAddr rfl fl73_2 sz70) rfl ?_
        refine lx (op_aindex rfl rfl ar70 sz38 (show (0 : Int) = ((0 : Nat) : Int) from rfl) (by decide)) rfl ?_
        refine lx (op_bload_one (m := 0) rfl rfl ag38 rfl) rfl ?_
        refine lx (op_move rfl) rfl ?_
        refine lx (op_bytes_str rfl (elem_of el25) st9 ik5) rfl ?_
        refine lx (op_buildSlice (f := stP) (xs := [strB ((recvF a.e d).2.1[k]'(by omega))]) (l := [(0, (Go.Operand.tmp 47))]) ze9 rfl rfl (by decide) el38 sz9 stP_len (.cons rfl (.one (by (first | exact One.eq rfl | exact One.mv _ _ _ _ _ | exact One.cl _ _ _ | exact One.map _ | exact One.sl _ _ _ | exact One.row _ _ _ _ | exact One.msl _ _ _ _ | exact One.ptr _ _ | exact One.b _ | exact One.cells _))) .nil) rfl (by decide)) rfl ?_
        refine lxr (op_append (m := 3) (m' := 3) (kk := 49) rfl rfl rfl (.inl rfl) el38 ze9 sz9 by9 rfl stP_len (by rw [List.length_singleton]; omega) (by rw [List.length_singleton]; omega)) rfl ?_
        first | refine lx (op_nilCheck rfl) rfl ?_ | refine lx (op_nilCheckC rfl) rfl ?_
        refine lx (op_fieldAddr rfl fl73_2 sz70) rfl ?_
        refine lx (op_aindex rfl rfl ar70 sz38 (show (0 : Int) = ((0 : Nat) : Int) from rfl) (by decide)) rfl ?_
        refine lxr (op_store_one (m := 0) rfl rfl rfl (by (first | exact One.eq rfl | exact One.mv _ _ _ _ _ | exact One.cl _ _ _ | exact One.map _ | exact One.sl _ _ _ | exact One.row _ _ _ _ | exact One.msl _ _ _ _ | exact One.ptr _ _ | exact One.b _ | exact One.cells _)) sz38 rfl) rfl ?_
        refine lx_end ⟨by kernel_rfl, ?_⟩
        refine pe_block_normal ?_
        refine pe_then_normal ?_
        refine tr_sub hC (.cons (t := 0) rfl (.cons (t := 1) rfl (.cons (t := 32) rfl (.cons (t := 33) rfl (.cons (t := 34) rfl .nil))))) (.cons (t := 0) rfl (.cons (t := 1) rfl (.cons (t := 2) rfl (.cons (t := 4) rfl (.cons (t := 5) rfl (.cons (t := 6) rfl (.cons (t := 3) rfl .nil))))))) rfl ?_
        refine tr_region (fun N9 hN => ?_)
        refine lx (op_add rfl rfl (by omega)) rfl ?_
        refine lx (op_move rfl) rfl ?_
        refine lx_end ⟨by kernel_rfl, ?_⟩
        refine pe_round (⟨(k + 1, xs ++ [strB ((recvF a.e d).2.1[k]'(by omega))], (N8, 49)), by dsimp only; omega, by dsimp only; rw [hxs, take_at (by omega : k < (recvF a.e d).2.1.length), List.map_append, List.append_assoc]; rfl⟩) (by dsimp only; omega) (pe_st hC ?_ ?_ rfl)
        · try dsimp only [List.cons_append, List.nil_append]
          first | refine SubF.cons rfl ?_ | (refine SubF.ent rfl ?_ ?_; · repeat (first | exact Ents.nil | refine Ents.cons ?_ ?_ | refine Ent.tup ?_ | refine Ent.agg ?_ | exact Ent.row _ _ _ _ | exact Ent.nil _ _ | exact Ent.func _ | exact Ent.refl _ | exact Ent.of_eq rfl | refine Ent.cells ?_))
          first | refine SubF.cons rfl ?_ | (refine SubF.ent rfl ?_ ?_; · repeat (first | exact Ents.nil | refine Ents.cons ?_ ?_ | refine Ent.tup ?_ | refine Ent.agg ?_ | exact Ent.row _ _ _ _ | exact Ent.nil _ _ | exact Ent.func _ | exact Ent.refl _ | exact Ent.of_eq rfl | refine Ent.cells ?_))
          first | refine SubF.cons rfl ?_ | (refine SubF.ent rfl ?_ ?_; · repeat (first | exact Ents.nil | refine Ents.cons ?_ ?_ | refine Ent.tup ?_ | refine Ent.agg ?_ | exact Ent.row _ _ _ _ | exact Ent.nil _ _ | exact Ent.func _ | exact Ent.refl _ | exact Ent.of_eq rfl | refine Ent.cells ?_))
          first | refine SubF.cons rfl ?_ | (refine SubF.ent rfl ?_ ?_; · repeat (first | exact Ents.nil | refine Ents.cons ?_ ?_ | refine Ent.tup ?_ | refine Ent.agg ?_ | exact Ent.row _ _ _ _ | exact Ent.nil _ _ | exact Ent.func _ | exact Ent.refl _ | exact Ent.of_eq rfl | refine Ent.cells ?_))
          first | refine SubF.cons rfl ?_ | (refine SubF.ent rfl ?_ ?_; · repeat (first | exact Ents.nil | refine Ents.cons ?_ ?_ | refine Ent.tup ?_ | refine Ent.agg ?_ | exact Ent.row _ _ _ _ | exact Ent.nil _ _ | exact Ent.func _ | exact Ent.refl _ | exact Ent.of_eq rfl | refine Ent.cells ?_))
          exact SubF.nil
        · try dsimp only [List.cons_append, List.nil_append]
          repeat (first | exact SubL.nil | refine SubL.cons rfl ?_)
      · (try simp only [Bool.and_eq_true, Bool.or_eq_true, Bool.and_eq_false_iff, Bool.or_eq_false_iff, decide_eq_true_eq, decide_eq_false_iff_not, Bool.not_eq_true', Bool.not_eq_false', List.length_map, ne_eq, Decidable.not_not, Int.not_lt, Int.not_le] at h35)
        have hfin : xs = (rstep a d).g := by rw [hxs, List.take_of_length_le (by omega)]; rfl
        refine tr_exit ?_
        refine pe_then_exit ?_
        refine pe_then_exit ?_
        refine pe_block_eq ?_
        refine pe_then_normal ?_
        refine tr_sub hC .nil (.cons (t := 0) rfl (.cons (t := 3) rfl (.cons (t := 1) rfl (.cons (t := 2) rfl (.cons (t := 4) rfl (.cons (t := 5) rfl (.cons (t := 6) rfl .nil))))))) rfl ?_
        refine tr_seq ?_
        refine tr_region (fun N10 hN => ?_)
        refine lx (op_assign rfl) rfl ?_
        refine lx_end ⟨by kernel_rfl, ?_⟩
        refine pe_then_normal ?_
        refine tr_sub hC (.cons (t := 6) rfl .nil) (.cons (t := 0) rfl (.cons (t := 3) rfl (.cons (t := 1) rfl (.cons (t := 2) rfl (.cons (t := 4) rfl (.cons (t := 5) rfl (.cons (t := 6) rfl .nil))))))) rfl ?_
        refine tr_ret ?_
        refine pe_ownS' [0, 1, 2, 3, 4, 5, 6] rfl hO rfl (.tmp rfl .nil) (.cons (m := 3) rfl (RenR.tail _ _ _) .nil) rfl rfl rfl ?_
        intro τ ι hs
        refine ⟨?_, ?_⟩
        · exact fun v h => h
        · exact (.kept rfl rfl (by subst hfin; exact blk_ents (.cons (ent_at (Ent.refl _)) (.cons (ent_at (Ent.refl _)) (.cons (ent_at (Ent.refl _)) (.cons (ent_at (Ent.refl _)) (.cons (ent_at (Ent.refl _)) (.cons (ent_at (Ent.refl _)) (.cons (ent_at (Ent.refl _)) (.cons (ent_at (Ent.refl _)) (.cons (ent_at (Ent.refl _)) (.cons (ent_at (Ent.refl _)) (.cons (ent_at (Ent.refl _)) (.cons (ent_at (Ent.refl _)) (.cons (row_ren (hs 0 _ rfl).1 (hs 0 _ rfl).2) (.cons (ent_at (Ent.refl _)) (.cons (ent_at (Ent.refl _)) (.cons (ent_at (Ent.refl _)) .nil))))))))))))))))) (.kept rfl rfl (fun b o h => h) (.kept rfl rfl (fun b o h => h) (.moved rfl (by rw [hfin]; exact fun b o h => h) (.kept rfl rfl (fun b o h => h) (.kept rfl rfl (fun b o h => h) (.kept rfl rfl (fun b o h => h) .nil)))))))
set_option maxHeartbeats 1000000 in
theorem receive_1 (i0 i1 i2 i3 i4 i5 i6 : AL.Id) (a b : Side) (d : List Int) (h : RecvOK b d) (hg : b.g.length ≤ 1000) : FnOK Try.prog 29 [ptrP i0 0, eqP (.int .i64 1), slP byP 1 d] [(i0, blk 73 (prP a b i1 i2 i3 i4 i5 i6)), (i1, tail 9 1 (a.s.length * 1)), (i2, tail 9 1 (b.s.length * 1)), (i3, tail 9 1 (a.g.length * 1)), (i4, tail 9 1 (b.g.length * 1)), (i5, tail 25 1 (a.n.length * 1)), (i6, tail 25 1 (b.n.length * 1))] 1 (fun ι => eqP (.bool true)) (fun ι => [(i0, blk 73 (prP a (rstep b d) i1 i2 i3 (ι 0) i5 i6)), (i1, tail 9 1 (a.s.length * 1)), (i2, tail 9 1 ((rstep b d).s.length * 1)), (i3, tail 9 1 (a.g.length * 1)), (ι 0, tail 9 1 ((rstep b d).g.length * 1)), (i5, tail 25 1 (a.n.length * 1)), (i6, tail 25 1 ((rstep b d).n.length * 1))]) := by
  obtain ⟨hb, hl, h0, h17⟩ := h
  refine fn_ownN Try.func29 rfl Try.ntmps29 rfl ?_
  intro σ0 M Rf R hC hO
  simp only [frameOf, tokOf]
  refine tr_seq ?_
  refine tr_region (fun N0 hN => ?_)
  refine lx (op_assign rfl) rfl ?_
  refine lx_end ⟨by kernel_rfl, ?_⟩
  refine pe_then_normal ?_
  refine tr_sub hC (.cons (t := 0) rfl (.cons (t := 1) rfl (.cons (t := 2) rfl .nil))) (.cons (t := 0) rfl (.cons (t := 1) rfl (.cons (t := 2) rfl (.cons (t := 3) rfl (.cons (t := 4) rfl (.cons (t := 5) rfl (.cons (t := 6) rfl .nil))))))) rfl ?_
  refine tr_seq ?_
  refine tr_region (fun N1 hN => ?_)
  refine lx (op_move rfl) rfl ?_
  refine lx (op_move rfl) rfl ?_
  first | refine lx (op_nilCheck rfl) rfl ?_ | refine lx (op_nilCheckC rfl) rfl ?_
  refine lx (op_fieldAddr rfl fl73_0 sz69) rfl ?_
  refine lx (op_aindex rfl rfl ar69 sz46 (show (1 : Int) = ((1 : Nat) : Int) from rfl) (by decide)) rfl ?_
  first | refine lx (op_bload (m := 0) rfl rfl ag46 sz46) rfl ?_ | refine lx (op_bload_part (m := 0) (qs := [_, _, _, _, _]) rfl rfl ag46 sz46 rfl rfl) rfl ?_
  refine lx (op_move rfl) rfl ?_
  first | refine lx (OpJ.ent (op_call (l := [(Go.Operand.tmp 18), (Go.Operand.tmp 19)]) (Receive_ok b.e d hb hl) (.cons rfl (.cons rfl .nil)) fn30) (show Ent _ (tupP [aggP (recvF b.e d).1.ps, slP byS 1 (recvF b.e d).2.1, eqP (.int .i64 0)]) from (by rw [h0]; exact Ent.refl _))) rfl ?_ | refine lx (OpJ.ent (op_call (l := [(Go.Operand.tmp 18), (Go.Operand.tmp 19)]) (Receive_ok b.e d hb hl) (.ent rfl (by repeat (first | exact Ents.nil | refine Ents.cons ?_ ?_ | refine Ent.tup ?_ | refine Ent.agg ?_ | exact Ent.row _ _ _ _ | exact Ent.nil _ _ | exact Ent.func _ | exact Ent.refl _ | exact Ent.of_eq rfl | refine Ent.cells ?_)) (.ent rfl (by repeat (first | exact Ents.nil | refine Ents.cons ?_ ?_ | refine Ent.tup ?_ | refine Ent.agg ?_ | exact Ent.row _ _ _ _ | exact Ent.nil _ _ | exact Ent.func _ | exact Ent.refl _ | exact Ent.of_eq rfl | refine Ent.cells ?_)) .nil)) fn30) (show Ent _ (tupP [aggP (recvF b.e d).1.ps, slP byS 1 (recvF b.e d).2.1, eqP (.int .i64 0)]) from (by rw [h0]; exact Ent.refl _))) rfl ?_
  refine lx (op_move rfl) rfl ?_
  refine lx (op_extract rfl rfl) rfl ?_
  refine lx (op_extract rfl rfl) rfl ?_
  refine lx (op_extract rfl rfl) rfl ?_
  refine lxn (op_alloc (m := 7) (k := 7) (ps := [eqP (.int .i64 0), eqP (.int .i64 0), eqP (.slice none 0 0), eqP (.int .i64 0), eqP (.slice none 0 0)]) ze46 rfl rfl (by first | exact hC.low _ (by decide) | rfl)) rfl ?_
  refine lxr (op_store_all (m := 7) rfl rfl rfl (.agg rfl) sz46 rfl) rfl ?_
  refine lx (op_assign rfl) rfl ?_
  refine lx (op_assign rfl) rfl ?_
  refine lx_end ⟨by kernel_rfl, ?_⟩
  refine pe_then_normal ?_
  refine tr_sub hC (.cons (t := 0) rfl (.cons (t := 1) rfl (.cons (t := 7) rfl (.cons (t := 8) rfl (.cons (t := 9) rfl .nil))))) (.cons (t := 0) rfl (.cons (t := 1) rfl (.cons (t := 2) rfl (.cons (t := 3) rfl (.cons (t := 4) rfl (.cons (t := 5) rfl (.cons (t := 6) rfl (.cons (t := 7) rfl .nil)))))))) rfl ?_
  refine tr_seq ?_
  refine tr_seq ?_
  refine tr_region (fun N2 hN => ?_)
  refine lx (op_move rfl) rfl ?_
  refine lx (op_neq rfl rfl) rfl ?_
  refine lx_end ⟨by kernel_rfl, ?_⟩
  refine pe_then_normal ?_
  refine tr_sub hC (.cons (t := 0) rfl (.cons (t := 1) rfl (.cons (t := 7) rfl (.cons (t := 8) rfl (.cons (t := 25) rfl .nil))))) (.cons (t := 0) rfl (.cons (t := 1) rfl (.cons (t := 2) rfl (.cons (t := 3) rfl (.cons (t := 4) rfl (.cons (t := 5) rfl (.cons (t := 6) rfl (.cons (t := 7) rfl .nil)))))))) rfl ?_
  refine tr_cond rfl (fun h25 => ?_) (fun h25 => ?_)
  · exact absurd h25 (by decide)
  · (try simp only [Bool.and_eq_true, Bool.or_eq_true, Bool.and_eq_false_iff, Bool.or_eq_false_iff, decide_eq_true_eq, decide_eq_false_iff_not, Bool.not_eq_true', Bool.not_eq_false', List.length_map, ne_eq, Decidable.not_not, Int.not_lt, Int.not_le] at h25)
    refine tr_skip ?_
    refine pe_then_normal ?_
    refine tr_sub hC (.cons (t := 0) rfl (.cons (t := 1) rfl (.cons (t := 7) rfl (.cons (t := 8) rfl .nil)))) (.cons (t := 0) rfl (.cons (t := 1) rfl (.cons (t := 2) rfl (.cons (t := 3) rfl (.cons (t := 4) rfl (.cons (t := 5) rfl (.cons (t := 6) rfl (.cons (t := 7) rfl .nil)))))))) rfl ?_
    refine tr_seq ?_
    refine tr_drawn mixed (fun N4 hN => ?_)
    refine lx (op_move rfl) rfl ?_
    refine lx (op_move rfl) rfl ?_
    refine lx (op_bload (m := 7) rfl rfl ag46 sz46) rfl ?_
    first | refine lx (op_nilCheck rfl) rfl ?_ | refine lx (op_nilCheckC rfl) rfl ?_
    refine lx (op_fieldAddr rfl fl73_0 sz69) rfl ?_
    refine lx (op_aindex rfl rfl ar69 sz46 (show (1 : Int) = ((1 : Nat) : Int) from rfl) (by decide)) rfl ?_
    first | refine lxr (op_store_all (m := 0) rfl rfl rfl (.agg rfl) sz46 rfl) rfl ?_ | refine lxr (op_store (m := 0) rfl rfl rfl (.agg rfl) sz46 rfl rfl rfl) rfl ?_
    refine lx_end ⟨by kernel_rfl, ?_⟩
    refine pe_then_normal ?_
    refine tr_sub hC (.cons (t := 0) rfl (.cons (t := 1) rfl (.cons (t := 8) rfl .nil))) (.cons (t := 0) rfl (.cons (t := 1) rfl (.cons (t := 2) rfl (.cons (t := 3) rfl (.cons (t := 4) rfl (.cons (t := 5) rfl (.cons (t := 6) rfl .nil))))))) rfl ?_
    refine tr_seq ?_
    refine tr_seq ?_
    refine tr_region (fun N5 hN => ?_)
    refine lx (op_move rfl) rfl ?_
    first | refine lx (op_len rfl el43) rfl ?_ | refine lx (op_len_row rfl el43) rfl ?_ | refine lx (op_len_mv rfl el43) rfl ?_ | refine lx (op_len_nil rfl el43) rfl ?_
    refine lx (op_move rfl) rfl ?_
    refine lx_end ⟨by kernel_rfl, ?_⟩
    refine pe_then_normal ?_
    refine tr_sub hC (.cons (t := 0) rfl (.cons (t := 1) rfl (.cons (t := 32) rfl (.cons (t := 33) rfl (.cons (t := 34) rfl .nil))))) (.cons (t := 0) rfl (.cons (t := 1) rfl (.cons (t := 2) rfl (.cons (t := 3) rfl (.cons (t := 4) rfl (.cons (t := 5) rfl (.cons (t := 6) rfl .nil))))))) rfl ?_
    refine tr_block ?_
    refine tr_loopK (α := {zz : Nat × (List ByteArray) × AL.Id // zz.1 ≤ (recvF b.e d).2.1.length ∧ zz.2.1 = b.g ++ (((recvF b.e d).2.1.take zz.1).map strB)}) (⟨(0, b.g, i4), Nat.zero_le _, by simp⟩) (fun zz => [(34, eqP (.int .i64 (zz.1.1 : Int)))]) (fun zz => [(0, some (i0, blk 73 [eqP (.int .i64 a.e.window), eqP (.int .i64 a.e.base), slP byS 1 a.e.sent, eqP (.int .i64 a.e.got), slP WF.ps 3 a.e.early, eqP (.int .i64 (recvF b.e d).1.window), eqP (.int .i64 (recvF b.e d).1.base), slP byS 1 (recvF b.e d).1.sent, eqP (.int .i64 (recvF b.e d).1.got), slP WF.ps 3 (recvF b.e d).1.early, rowP i1 stP 1 a.s, rowP i2 stP 1 b.s, rowP i3 stP 1 a.g, rowP zz.1.2.2 stP 1 zz.1.2.1, rowP i5 byS 1 a.n, rowP i6 byS 1 b.n])), (4, some (zz.1.2.2, tail 9 1 (zz.1.2.1.length * 1)))]) (fun zz => (recvF b.e d).2.1.length - zz.1.1) hC (.cons (t := 0) rfl (.cons (t := 1) rfl (.cons (t := 32) rfl (.cons (t := 33) rfl .nil)))) (.cons (t := 1) rfl (.cons (t := 2) rfl (.cons (t := 3) rfl (.cons (t := 5) rfl (.cons (t := 6) rfl .nil))))) rfl ?_ ?_ (fun zz => ?_)
    · try dsimp only [List.cons_append, List.nil_append]
      first | refine SubF.cons rfl ?_ | (refine SubF.ent rfl ?_ ?_; · repeat (first | exact Ents.nil | refine Ents.cons ?_ ?_ | refine Ent.tup ?_ | refine Ent.agg ?_ | exact Ent.row _ _ _ _ | exact Ent.nil _ _ | exact Ent.func _ | exact Ent.refl _ | exact Ent.of_eq rfl | refine Ent.cells ?_))
      exact SubF.nil
    · try dsimp only [List.cons_append, List.nil_append]
      repeat (first | exact SubL.nil | refine SubL.cons rfl ?_)
    · obtain ⟨⟨k, xs, i⟩, hk, hxs⟩ := zz
      try dsimp only at hk
      try dsimp only at hxs
      dsimp only [List.cons_append, List.nil_append]
      refine tr_seq ?_
      refine tr_region (fun N6 hN => ?_)
      refine lx (op_lss rfl rfl) rfl ?_
      refine lx_end ⟨by kernel_rfl, ?_⟩
      refine pe_then_normal ?_
      refine tr_sub hC (.cons (t := 0) rfl (.cons (t := 1) rfl (.cons (t := 32) rfl (.cons (t := 33) rfl (.cons (t := 34) rfl (.cons (t := 35) rfl .nil)))))) (.cons (t := 0) rfl (.cons (t := 4) rfl (.cons (t := 1) rfl (.cons (t := 2) rfl (.cons (t := 3) rfl (.cons (t := 5) rfl (.cons (t := 6) rfl .nil))))))) rfl ?_
      refine tr_seq ?_
      refine tr_cond rfl (fun h35 => ?_) (fun h35 => ?_)
      · (try simp only [Bool.and_eq_true, Bool.or_eq_true, Bool.and_eq_false_iff, Bool.or_eq_false_iff, decide_eq_true_eq, decide_eq_false_iff_not, Bool.not_eq_true', Bool.not_eq_false', List.length_map, ne_eq, Decidable.not_not, Int.not_lt, Int.not_le] at h35)
        have hxl : xs.length ≤ b.g.length + 17 := by rw [hxs, List.length_append, List.length_map, List.length_take]; omega
        refine tr_skip ?_
        refine pe_then_normal ?_
        refine tr_sub hC (.cons (t := 0) rfl (.cons (t := 1) rfl (.cons (t := 32) rfl (.cons (t := 33) rfl (.cons (t := 34) rfl .nil))))) (.cons (t := 0) rfl (.cons (t := 4) rfl (.cons (t := 1) rfl (.cons (t := 2) rfl (.cons (t := 3) rfl (.cons (t := 5) rfl (.cons (t := 6) rfl .nil))))))) rfl ?_
        refine tr_seq ?_
        refine tr_block ?_
        refine tr_seq ?_
        refine tr_region (fun N7 hN => ?_)
        refine lx (op_index rfl rfl el43 sz25 rfl (List.getElem?_eq_getElem (by omega : k < (recvF b.e d).2.1.length))) rfl ?_
        first | refine lx (op_load_one rfl ag25 rfl) rfl ?_ | refine lx (op_bload_one (m := 0) rfl rfl ag25 rfl) rfl ?_ | refine lx (op_bload_one (m := 4) rfl rfl ag25 rfl) rfl ?_ | refine lx (op_bload_one (m := 1) rfl rfl ag25 rfl) rfl ?_ | refine lx (op_bload_one (m := 2) rfl rfl ag25 rfl) rfl ?_ | refine lx (op_bload_one (m := 3) rfl rfl ag25 rfl) rfl ?_ | refine lx (op_bload_one (m := 5) rfl rfl ag25 rfl) rfl ?_ | refine lx (op_bload_one (m := 6) rfl rfl ag25 rfl) rfl ?_
        refine lx (op_assign rfl) rfl ?_
        refine lx_end ⟨by kernel_rfl, ?_⟩
        refine pe_then_normal ?_
        refine tr_sub hC (.cons (t := 0) rfl (.cons (t := 1) rfl (.cons (t := 11) rfl (.cons (t := 32) rfl (.cons (t := 33) rfl (.cons (t := 34) rfl .nil)))))) (.cons (t := 0) rfl (.cons (t := 4) rfl (.cons (t := 1) rfl (.cons (t := 2) rfl (.cons (t := 3) rfl (.cons (t := 5) rfl (.cons (t := 6) rfl .nil))))))) rfl ?_
        refine tr_drawn mixed (fun N8 hN => ?_)
        refine lx (op_move rfl) rfl ?_
        refine lx (op_move rfl) rfl ?_
        refine lx (op_move rfl) rfl ?_
        refine lx (op_move rfl) rfl ?_
        first | refine lx (op_nilCheck rfl) rfl ?_ | refine lx (op_nilCheckC rfl) rfl ?_
        refine lx (op_fieldAddr rfl fl73_2 sz70) rfl ?_
        refine lx (op_aindex rfl rfl ar70 sz38 (show (1 : Int) = ((1 : Nat) : Int) from rfl) (by decide)) rfl ?_
        refine lx (op_bload_one (m := 0) rfl rfl ag38 rfl) rfl ?_
        refine lx (op_move rfl) rfl ?_
        refine lx (op_bytes_str rfl (elem_of el25) st9 ik5) rfl ?_
        refine lx (op_buildSlice (f := stP) (xs := [strB ((recvF b.e d).2.1[k]'(by omega))]) (l := [(0, (Go.Operand.tmp 47))]) ze9 rfl rfl (by decide) el38 sz9 stP_len (.cons rfl (.one (by (first | exact One.eq rfl | exact One.mv _ _ _ _ _ | exact One.cl _ _ _ | exact One.map _ | exact One.sl _ _ _ | exact One.row _ _ _ _ | exact One.msl _ _ _ _ | exact One.ptr _ _ | exact One.b _ | exact One.cells _))) .nil) rfl (by decide)) rfl ?_
        refine lxr (op_append (m := 4) (m' := 4) (kk := 49) rfl rfl rfl (.inl rfl) el38 ze9 sz9 by9 rfl stP_len (by rw [List.length_singleton]; omega) (by rw [List.length_singleton]; omega)) rfl ?_
        first | refine lx (op_nilCheck rfl) rfl ?_ | refine lx (op_nilCheckC rfl) rfl ?_
        refine lx (op_fieldAddr rfl fl73_2 sz70) rfl ?_
        refine lx (op_aindex rfl rfl ar70 sz38 (show (1 : Int) = ((1 : Nat) : Int) from rfl) (by decide)) rfl ?_
        refine lxr (op_store_one (m := 0) rfl rfl rfl (by (first | exact One.eq rfl | exact One.mv _ _ _ _ _ | exact One.cl _ _ _ | exact One.map _ | exact One.sl _ _ _ | exact One.row _ _ _ _ | exact One.msl _ _ _ _ | exact One.ptr _ _ | exact One.b _ | exact One.cells _)) sz38 rfl) rfl ?_
        refine lx_end ⟨by kernel_rfl, ?_⟩
        refine pe_block_normal ?_
        refine pe_then_normal ?_
        refine tr_sub hC (.cons (t := 0) rfl (.cons (t := 1) rfl (.cons (t := 32) rfl (.cons (t := 33) rfl (.cons (t := 34) rfl .nil))))) (.cons (t := 0) rfl (.cons (t := 1) rfl (.cons (t := 2) rfl (.cons (t := 3) rfl (.cons (t := 5) rfl (.cons (t := 6) rfl (.cons (t := 4) rfl .nil))))))) rfl ?_
        refine tr_region (fun N9 hN => ?_)
        refine lx (op_add rfl rfl (by omega)) rfl ?_
        refine lx (op_move rfl) rfl ?_
        refine lx_end ⟨by kernel_rfl, ?_⟩
        refine pe_round (⟨(k + 1, xs ++ [strB ((recvF b.e d).2.1[k]'(by omega))], (N8, 49)), by dsimp only; omega, by dsimp only; rw [hxs, take_at (by omega : k < (recvF b.e d).2.1.length), List.map_append, List.append_assoc]; rfl⟩) (by dsimp only; omega) (pe_st hC ?_ ?_ rfl)
        · try dsimp only [List.cons_append, List.nil_append]
          first | refine SubF.cons rfl ?_ | (refine SubF.ent rfl ?_ ?_; · repeat (first | exact Ents.nil | refine Ents.cons ?_ ?_ | refine Ent.tup ?_ | refine Ent.agg ?_ | exact Ent.row _ _ _ _ | exact Ent.nil _ _ | exact Ent.func _ | exact Ent.refl _ | exact Ent.of_eq rfl | refine Ent.cells ?_))
          first | refine SubF.cons rfl ?_ | (refine SubF.ent rfl ?_ ?_; · repeat (first | exact Ents.nil | refine Ents.cons ?_ ?_ | refine Ent.tup ?_ | refine Ent.agg ?_ | exact Ent.row _ _ _ _ | exact Ent.nil _ _ | exact Ent.func _ | exact Ent.refl _ | exact Ent.of_eq rfl | refine Ent.cells ?_))
          first | refine SubF.cons rfl ?_ | (refine SubF.ent rfl ?_ ?_; · repeat (first | exact Ents.nil | refine Ents.cons ?_ ?_ | refine Ent.tup ?_ | refine Ent.agg ?_ | exact Ent.row _ _ _ _ | exact Ent.nil _ _ | exact Ent.func _ | exact Ent.refl _ | exact Ent.of_eq rfl | refine Ent.cells ?_))
          first | refine SubF.cons rfl ?_ | (refine SubF.ent rfl ?_ ?_; · repeat (first | exact Ents.nil | refine Ents.cons ?_ ?_ | refine Ent.tup ?_ | refine Ent.agg ?_ | exact Ent.row _ _ _ _ | exact Ent.nil _ _ | exact Ent.func _ | exact Ent.refl _ | exact Ent.of_eq rfl | refine Ent.cells ?_))
          first | refine SubF.cons rfl ?_ | (refine SubF.ent rfl ?_ ?_; · repeat (first | exact Ents.nil | refine Ents.cons ?_ ?_ | refine Ent.tup ?_ | refine Ent.agg ?_ | exact Ent.row _ _ _ _ | exact Ent.nil _ _ | exact Ent.func _ | exact Ent.refl _ | exact Ent.of_eq rfl | refine Ent.cells ?_))
          exact SubF.nil
        · try dsimp only [List.cons_append, List.nil_append]
          repeat (first | exact SubL.nil | refine SubL.cons rfl ?_)
      · (try simp only [Bool.and_eq_true, Bool.or_eq_true, Bool.and_eq_false_iff, Bool.or_eq_false_iff, decide_eq_true_eq, decide_eq_false_iff_not, Bool.not_eq_true', Bool.not_eq_false', List.length_map, ne_eq, Decidable.not_not, Int.not_lt, Int.not_le] at h35)
        have hfin : xs = (rstep b d).g := by rw [hxs, List.take_of_length_le (by omega)]; rfl
        refine tr_exit ?_
        refine pe_then_exit ?_
        refine pe_then_exit ?_
        refine pe_block_eq ?_
        refine pe_then_normal ?_
        refine tr_sub hC .nil (.cons (t := 0) rfl (.cons (t := 4) rfl (.cons (t := 1) rfl (.cons (t := 2) rfl (.cons (t := 3) rfl (.cons (t := 5) rfl (.cons (t := 6) rfl .nil))))))) rfl ?_
        refine tr_seq ?_
        refine tr_region (fun N10 hN => ?_)
        refine lx (op_assign rfl) rfl ?_
        refine lx_end ⟨by kernel_rfl, ?_⟩
        refine pe_then_normal ?_
        refine tr_sub hC (.cons (t := 6) rfl .nil) (.cons (t := 0) rfl (.cons (t := 4) rfl (.cons (t := 1) rfl (.cons (t := 2) rfl (.cons (t := 3) rfl (.cons (t := 5) rfl (.cons (t := 6) rfl .nil))))))) rfl ?_
        refine tr_ret ?_
        refine pe_ownS' [0, 1, 2, 3, 4, 5, 6] rfl hO rfl (.tmp rfl .nil) (.cons (m := 4) rfl (RenR.tail _ _ _) .nil) rfl rfl rfl ?_
        intro τ ι hs
        refine ⟨?_, ?_⟩
        · exact fun v h => h
        · exact (.kept rfl rfl (by subst hfin; exact blk_ents (.cons (ent_at (Ent.refl _)) (.cons (ent_at (Ent.refl _)) (.cons (ent_at (Ent.refl _)) (.cons (ent_at (Ent.refl _)) (.cons (ent_at (Ent.refl _)) (.cons (ent_at (Ent.refl _)) (.cons (ent_at (Ent.refl _)) (.cons (ent_at (Ent.refl _)) (.cons (ent_at (Ent.refl _)) (.cons (ent_at (Ent.refl _)) (.cons (ent_at (Ent.refl _)) (.cons (ent_at (Ent.refl _)) (.cons (ent_at (Ent.refl _)) (.cons (row_ren (hs 0 _ rfl).1 (hs 0 _ rfl).2) (.cons (ent_at (Ent.refl _)) (.cons (ent_at (Ent.refl _)) .nil))))))))))))))))) (.kept rfl rfl (fun b o h => h) (.kept rfl rfl (fun b o h => h) (.kept rfl rfl (fun b o h => h) (.moved rfl (by rw [hfin]; exact fun b o h => h) (.kept rfl rfl (fun b o h => h) (.kept rfl rfl (fun b o h => h) .nil)))))))
end Go.Proofs.Ytgdhogmghffbaaa


set_option linter.unusedVariables false
set_option linter.unusedSimpArgs false
namespace Go.Proofs.Ytgdhogmghffbaaa
open Go.AL Go.Wr Go.RowKit
theorem fl73_1 : fldB Try.prog 73 1 = some (10, 70) := by kernel_rfl
set_option maxHeartbeats 1000000 in
theorem prefix_ok (i0 i1 i2 i3 i4 i5 i6 : AL.Id) (a b : Side) (hp : (a.g.length ≤ b.s.length ∧ a.e.got = (a.g.length : Int) ∧ ∀ i (h1 : i < a.g.length) (h2 : i < b.s.length), b.s[i] = a.g[i]) ∧ (b.g.length ≤ a.s.length ∧ b.e.got = (b.g.length : Int) ∧ ∀ i (h1 : i < b.g.length) (h2 : i < a.s.length), a.s[i] = b.g[i])) (hl : a.s.length ≤ 1000 ∧ b.s.length ≤ 1000) : FnOK Try.prog 28 [ptrP i0 0] [(i0, blk 73 (prP a b i1 i2 i3 i4 i5 i6)), (i1, tail 9 1 (a.s.length * 1)), (i2, tail 9 1 (b.s.length * 1)), (i3, tail 9 1 (a.g.length * 1)), (i4, tail 9 1 (b.g.length * 1)), (i5, tail 25 1 (a.n.length * 1)), (i6, tail 25 1 (b.n.length * 1))] 0 (fun ι => eqP (.bool true)) (fun ι => [(i0, blk 73 (prP a b i1 i2 i3 i4 i5 i6)), (i1, tail 9 1 (a.s.length * 1)), (i2, tail 9 1 (b.s.length * 1)), (i3, tail 9 1 (a.g.length * 1)), (i4, tail 9 1 (b.g.length * 1)), (i5, tail 25 1 (a.n.length * 1)), (i6, tail 25 1 (b.n.length * 1))]) := by
  obtain ⟨⟨pa1, pa2, pa3⟩, ⟨pb1, pb2, pb3⟩⟩ := hp
  refine fn_ownN Try.func28 rfl Try.ntmps28 rfl ?_
  intro σ0 M Rf R hC hO
  simp only [frameOf, tokOf]
  refine tr_seq ?_
  refine tr_region (fun N0 hN => ?_)
  refine lx (op_assign rfl) rfl ?_
  refine lx_end ⟨by kernel_rfl, ?_⟩
  refine pe_then_normal ?_
  refine tr_sub hC (.cons (t := 0) rfl .nil) (.cons (t := 0) rfl (.cons (t := 1) rfl (.cons (t := 2) rfl (.cons (t := 3) rfl (.cons (t := 4) rfl (.cons (t := 5) rfl (.cons (t := 6) rfl .nil))))))) rfl ?_
  refine tr_seq ?_
  refine tr_seq ?_
  refine tr_region (fun N1 hN => ?_)
  refine lx (op_move rfl) rfl ?_
  refine lx_end ⟨by kernel_rfl, ?_⟩
  refine pe_then_normal ?_
  refine tr_sub hC (.cons (t := 0) rfl (.cons (t := 6) rfl .nil)) (.cons (t := 0) rfl (.cons (t := 1) rfl (.cons (t := 2) rfl (.cons (t := 3) rfl (.cons (t := 4) rfl (.cons (t := 5) rfl (.cons (t := 6) rfl .nil))))))) rfl ?_
  refine tr_block ?_
  refine tr_loopK (α := {zz : Nat // zz ≤ 2}) (⟨(0), by omega⟩) (fun zz => [(6, eqP (.int .i64 (zz.1 : Int)))]) (fun zz => []) (fun zz => 2 - zz.1) hC (.cons (t := 0) rfl .nil) (.cons (t := 0) rfl (.cons (t := 1) rfl (.cons (t := 2) rfl (.cons (t := 3) rfl (.cons (t := 4) rfl (.cons (t := 5) rfl (.cons (t := 6) rfl .nil))))))) rfl ?_ ?_ (fun zz => ?_)
  · try dsimp only [List.cons_append, List.nil_append]
    first | refine SubF.cons rfl ?_ | (refine SubF.ent rfl ?_ ?_; · repeat (first | exact Ents.nil | refine Ents.cons ?_ ?_ | refine Ent.tup ?_ | refine Ent.agg ?_ | exact Ent.row _ _ _ _ | exact Ent.nil _ _ | exact Ent.func _ | exact Ent.refl _ | exact Ent.of_eq rfl | refine Ent.cells ?_))
    exact SubF.nil
  · try dsimp only [List.cons_append, List.nil_append]
    repeat (first | exact SubL.nil | refine SubL.cons rfl ?_)
  · obtain ⟨at_, hat⟩ := zz
    dsimp only [List.cons_append, List.nil_append]
    rcases (by omega : at_ = 0 ∨ at_ = 1 ∨ at_ = 2) with rfl | rfl | rfl
    · refine tr_seq ?_
      refine tr_region (fun N2 hN => ?_)
      refine lx (op_lss rfl rfl) rfl ?_
      refine lx_end ⟨by kernel_rfl, ?_⟩
      refine pe_then_normal ?_
      refine tr_sub hC (.cons (t := 0) rfl (.cons (t := 6) rfl (.cons (t := 7) rfl .nil))) (.cons (t := 0) rfl (.cons (t := 1) rfl (.cons (t := 2) rfl (.cons (t := 3) rfl (.cons (t := 4) rfl (.cons (t := 5) rfl (.cons (t := 6) rfl .nil))))))) rfl ?_
      refine tr_seq ?_
      refine tr_cond rfl (fun h7 => ?_) (fun h7 => ?_)
      · (try simp only [Bool.and_eq_true, Bool.or_eq_true, Bool.and_eq_false_iff, Bool.or_eq_false_iff, decide_eq_true_eq, decide_eq_false_iff_not, Bool.not_eq_true', Bool.not_eq_false', List.length_map, ne_eq, Decidable.not_not, Int.not_lt, Int.not_le] at h7)
        refine tr_skip ?_
        refine pe_then_normal ?_
        refine tr_sub hC (.cons (t := 0) rfl (.cons (t := 6) rfl .nil)) (.cons (t := 0) rfl (.cons (t := 1) rfl (.cons (t := 2) rfl (.cons (t := 3) rfl (.cons (t := 4) rfl (.cons (t := 5) rfl (.cons (t := 6) rfl .nil))))))) rfl ?_
        refine tr_seq ?_
        refine tr_block ?_
        refine tr_seq ?_
        refine tr_region (fun N3 hN => ?_)
        refine lx (op_move rfl) rfl ?_
        refine lx (op_assign rfl) rfl ?_
        refine lx_end ⟨by kernel_rfl, ?_⟩
        refine pe_then_normal ?_
        refine tr_sub hC (.cons (t := 0) rfl (.cons (t := 3) rfl (.cons (t := 6) rfl .nil))) (.cons (t := 0) rfl (.cons (t := 1) rfl (.cons (t := 2) rfl (.cons (t := 3) rfl (.cons (t := 4) rfl (.cons (t := 5) rfl (.cons (t := 6) rfl .nil))))))) rfl ?_
        refine tr_seq ?_
        refine tr_seq ?_
        refine tr_drawn mixed (fun N4 hN => ?_)
        refine lx (op_move rfl) rfl ?_
        refine lx (op_move rfl) rfl ?_
        first | refine lx (op_nilCheck rfl) rfl ?_ | refine lx (op_nilCheckC rfl) rfl ?_
        refine lx (op_fieldAddr rfl fl73_2 sz70) rfl ?_
        refine lx (op_aindex rfl rfl ar70 sz38 (show ((0 : Nat) : Int) = ((0 : Nat) : Int) from rfl) (by decide)) rfl ?_
        refine lx (OpJ.ent (op_bload_one (m := 0) rfl rfl ag38 rfl) (show Ent _ (slP stP 1 a.g) from (by exact Ent.row _ _ _ _))) rfl ?_
        first | refine lx (op_len rfl el38) rfl ?_ | refine lx (op_len_row rfl el38) rfl ?_ | refine lx (op_len_mv rfl el38) rfl ?_ | refine lx (op_len_nil rfl el38) rfl ?_
        refine lx (op_move rfl) rfl ?_
        refine lx (op_move rfl) rfl ?_
        refine lx (op_sub rfl rfl (by omega)) rfl ?_
        first | refine lx (op_nilCheck rfl) rfl ?_ | refine lx (op_nilCheckC rfl) rfl ?_
        refine lx (op_fieldAddr rfl fl73_1 sz70) rfl ?_
        refine lx (op_aindex rfl rfl ar70 sz38 (show (1 : Int) - ((0 : Nat) : Int) = ((1 : Nat) : Int) from rfl) (by decide)) rfl ?_
        refine lx (OpJ.ent (op_bload_one (m := 0) rfl rfl ag38 rfl) (show Ent _ (slP stP 1 b.s) from (by exact Ent.row _ _ _ _))) rfl ?_
        first | refine lx (op_len rfl el38) rfl ?_ | refine lx (op_len_row rfl el38) rfl ?_ | refine lx (op_len_mv rfl el38) rfl ?_ | refine lx (op_len_nil rfl el38) rfl ?_
        refine lx (op_gtr rfl rfl) rfl ?_
        refine lx (op_move rfl) rfl ?_
        refine lxs rfl rfl rfl guard_eq (.cons (t := 0) rfl (fun _ => Ent.refl _) .nil) (op_move rfl) rfl ?_
        refine lxs rfl rfl rfl guard_eq (.cons (t := 3) rfl (fun _ => Ent.refl _) .nil) (op_move rfl) rfl ?_
        first | refine lxs rfl rfl rfl guard_eq (.cons (t := 26) rfl (fun h => entW h) .nil) (op_nilCheck rfl) rfl ?_ | refine lxs rfl rfl rfl guard_eq (.cons (t := 26) rfl (fun h => entW h) .nil) (op_nilCheckC rfl) rfl ?_
        refine lxs rfl rfl rfl guard_eq (.cons (t := 28) rfl (fun h => entW h) .nil) (op_fieldAddr rfl fl73_0 sz69) rfl ?_
        refine lxs rfl rfl rfl guard_eq (.cons (t := 27) rfl (fun h => entW h) (.cons (t := 29) rfl (fun h => entW h) .nil)) (op_aindex rfl rfl ar69 sz46 (show ((0 : Nat) : Int) = ((0 : Nat) : Int) from rfl) (by decide)) rfl ?_
        refine lxs rfl rfl rfl guard_eq (.cons (t := 30) rfl (fun h => entW h) .nil) (op_fieldAddr rfl fl46_3 sz3) rfl ?_
        refine lxs rfl rfl rfl guard_eq (.cons (t := 31) rfl (fun h => entW h) .nil) (op_bload_one (m := 0) rfl rfl ag3 rfl) rfl ?_
        refine lxs rfl rfl rfl guard_eq (.cons (t := 0) rfl (fun _ => Ent.refl _) .nil) (op_move rfl) rfl ?_
        refine lxs rfl rfl rfl guard_eq (.cons (t := 3) rfl (fun _ => Ent.refl _) .nil) (op_move rfl) rfl ?_
        first | refine lxs rfl rfl rfl guard_eq (.cons (t := 33) rfl (fun h => entW h) .nil) (op_nilCheck rfl) rfl ?_ | refine lxs rfl rfl rfl guard_eq (.cons (t := 33) rfl (fun h => entW h) .nil) (op_nilCheckC rfl) rfl ?_
        refine lxs rfl rfl rfl guard_eq (.cons (t := 35) rfl (fun h => entW h) .nil) (op_fieldAddr rfl fl73_2 sz70) rfl ?_
        refine lxs rfl rfl rfl guard_eq (.cons (t := 34) rfl (fun h => entW h) (.cons (t := 36) rfl (fun h => entW h) .nil)) (op_aindex rfl rfl ar70 sz38 (show ((0 : Nat) : Int) = ((0 : Nat) : Int) from rfl) (by decide)) rfl ?_
        refine lxs rfl rfl rfl guard_eq (.cons (t := 37) rfl (fun h => entW h) .nil) (op_bload_one (m := 0) rfl rfl ag38 rfl) rfl ?_
        first | refine lxs rfl rfl rfl guard_eq (.cons (t := 38) rfl (fun h => entW h) .nil) (op_len rfl el38) rfl ?_ | refine lxs rfl rfl rfl guard_eq (.cons (t := 38) rfl (fun h => entW h) .nil) (op_len_row rfl el38) rfl ?_ | refine lxs rfl rfl rfl guard_eq (.cons (t := 38) rfl (fun h => entW h) .nil) (op_len_mv rfl el38) rfl ?_ | refine lxs rfl rfl rfl guard_eq (.cons (t := 38) rfl (fun h => entW h) .nil) (op_len_nil rfl el38) rfl ?_
        refine lxs rfl rfl rfl guard_eq (.cons (t := 32) rfl (fun h => entW h) (.cons (t := 39) rfl (fun h => entW h) .nil)) (op_neq rfl rfl) rfl ?_
        refine lx (op_pick_or rfl rfl) rfl ?_
        refine lx_end ⟨by kernel_rfl, ?_⟩
        refine pe_then_normal ?_
        refine tr_sub hC (.cons (t := 0) rfl (.cons (t := 3) rfl (.cons (t := 6) rfl (.cons (t := 41) rfl .nil)))) (.cons (t := 0) rfl (.cons (t := 1) rfl (.cons (t := 2) rfl (.cons (t := 3) rfl (.cons (t := 4) rfl (.cons (t := 5) rfl (.cons (t := 6) rfl .nil))))))) rfl ?_
        refine tr_cond rfl (fun h41 => ?_) (fun h41 => ?_)
        · (try simp only [Bool.and_eq_true, Bool.or_eq_true, Bool.and_eq_false_iff, Bool.or_eq_false_iff, decide_eq_true_eq, decide_eq_false_iff_not, Bool.not_eq_true', Bool.not_eq_false', List.length_map, ne_eq, Decidable.not_not, Int.not_lt, Int.not_le] at h41)
          omega
        · (try simp only [Bool.and_eq_true, Bool.or_eq_true, Bool.and_eq_false_iff, Bool.or_eq_false_iff, decide_eq_true_eq, decide_eq_false_iff_not, Bool.not_eq_true', Bool.not_eq_false', List.length_map, ne_eq, Decidable.not_not, Int.not_lt, Int.not_le] at h41)
          refine tr_skip ?_
          refine pe_then_normal ?_
          refine tr_sub hC (.cons (t := 0) rfl (.cons (t := 3) rfl (.cons (t := 6) rfl .nil))) (.cons (t := 0) rfl (.cons (t := 1) rfl (.cons (t := 2) rfl (.cons (t := 3) rfl (.cons (t := 4) rfl (.cons (t := 5) rfl (.cons (t := 6) rfl .nil))))))) rfl ?_
          refine tr_seq ?_
          refine tr_region (fun N6 hN => ?_)
          refine lx (op_move rfl) rfl ?_
          refine lx (op_move rfl) rfl ?_
          first | refine lx (op_nilCheck rfl) rfl ?_ | refine lx (op_nilCheckC rfl) rfl ?_
          refine lx (op_fieldAddr rfl fl73_2 sz70) rfl ?_
          refine lx (op_aindex rfl rfl ar70 sz38 (show ((0 : Nat) : Int) = ((0 : Nat) : Int) from rfl) (by decide)) rfl ?_
          refine lx (OpJ.ent (op_bload_one (m := 0) rfl rfl ag38 rfl) (show Ent _ (slP stP 1 a.g) from (by exact Ent.row _ _ _ _))) rfl ?_
          first | refine lx (op_len rfl el38) rfl ?_ | refine lx (op_len_row rfl el38) rfl ?_ | refine lx (op_len_mv rfl el38) rfl ?_ | refine lx (op_len_nil rfl el38) rfl ?_
          refine lx (op_move rfl) rfl ?_
          refine lx_end ⟨by kernel_rfl, ?_⟩
          refine pe_then_normal ?_
          refine tr_sub hC (.cons (t := 0) rfl (.cons (t := 3) rfl (.cons (t := 6) rfl (.cons (t := 47) rfl (.cons (t := 48) rfl (.cons (t := 49) rfl .nil)))))) (.cons (t := 0) rfl (.cons (t := 1) rfl (.cons (t := 2) rfl (.cons (t := 3) rfl (.cons (t := 4) rfl (.cons (t := 5) rfl (.cons (t := 6) rfl .nil))))))) rfl ?_
          refine tr_block ?_
          refine tr_loopK (α := {zz : Nat // zz ≤ a.g.length}) (⟨(0), Nat.zero_le _⟩) (fun zz => [(49, eqP (.int .i64 (zz.1 : Int)))]) (fun zz => []) (fun zz => a.g.length - zz.1) hC (.cons (t := 0) rfl (.cons (t := 3) rfl (.cons (t := 6) rfl (.cons (t := 47) rfl (.cons (t := 48) rfl .nil))))) (.cons (t := 0) rfl (.cons (t := 1) rfl (.cons (t := 2) rfl (.cons (t := 3) rfl (.cons (t := 4) rfl (.cons (t := 5) rfl (.cons (t := 6) rfl .nil))))))) rfl ?_ ?_ (fun zz => ?_)
          · try dsimp only [List.cons_append, List.nil_append]
            first | refine SubF.cons rfl ?_ | (refine SubF.ent rfl ?_ ?_; · repeat (first | exact Ents.nil | refine Ents.cons ?_ ?_ | refine Ent.tup ?_ | refine Ent.agg ?_ | exact Ent.row _ _ _ _ | exact Ent.nil _ _ | exact Ent.func _ | exact Ent.refl _ | exact Ent.of_eq rfl | refine Ent.cells ?_))
            exact SubF.nil
          · try dsimp only [List.cons_append, List.nil_append]
            repeat (first | exact SubL.nil | refine SubL.cons rfl ?_)
          · obtain ⟨j, hj⟩ := zz
            dsimp only [List.cons_append, List.nil_append]
            refine tr_seq ?_
            refine tr_region (fun N7 hN => ?_)
            refine lx (op_lss rfl rfl) rfl ?_
            refine lx_end ⟨by kernel_rfl, ?_⟩
            refine pe_then_normal ?_
            refine tr_sub hC (.cons (t := 0) rfl (.cons (t := 3) rfl (.cons (t := 6) rfl (.cons (t := 47) rfl (.cons (t := 48) rfl (.cons (t := 49) rfl (.cons (t := 50) rfl .nil))))))) (.cons (t := 0) rfl (.cons (t := 1) rfl (.cons (t := 2) rfl (.cons (t := 3) rfl (.cons (t := 4) rfl (.cons (t := 5) rfl (.cons (t := 6) rfl .nil))))))) rfl ?_
            refine tr_seq ?_
            refine tr_cond rfl (fun h50 => ?_) (fun h50 => ?_)
            · (try simp only [Bool.and_eq_true, Bool.or_eq_true, Bool.and_eq_false_iff, Bool.or_eq_false_iff, decide_eq_true_eq, decide_eq_false_iff_not, Bool.not_eq_true', Bool.not_eq_false', List.length_map, ne_eq, Decidable.not_not, Int.not_lt, Int.not_le] at h50)
              refine tr_skip ?_
              refine pe_then_normal ?_
              refine tr_sub hC (.cons (t := 0) rfl (.cons (t := 3) rfl (.cons (t := 6) rfl (.cons (t := 47) rfl (.cons (t := 48) rfl (.cons (t := 49) rfl .nil)))))) (.cons (t := 0) rfl (.cons (t := 1) rfl (.cons (t := 2) rfl (.cons (t := 3) rfl (.cons (t := 4) rfl (.cons (t := 5) rfl (.cons (t := 6) rfl .nil))))))) rfl ?_
              refine tr_seq ?_
              refine tr_block ?_
              refine tr_seq ?_
              refine tr_region (fun N8 hN => ?_)
              refine lx (op_move rfl) rfl ?_
              refine lx (op_index rfl rfl el38 sz9 rfl (List.getElem?_eq_getElem (by omega : j < a.g.length))) rfl ?_
              first | refine lx (op_load_one rfl ag9 rfl) rfl ?_ | refine lx (op_bload_one (m := 0) rfl rfl ag9 rfl) rfl ?_ | refine lx (op_bload_one (m := 1) rfl rfl ag9 rfl) rfl ?_ | refine lx (op_bload_one (m := 2) rfl rfl ag9 rfl) rfl ?_ | refine lx (op_bload_one (m := 3) rfl rfl ag9 rfl) rfl ?_ | refine lx (op_bload_one (m := 4) rfl rfl ag9 rfl) rfl ?_ | refine lx (op_bload_one (m := 5) rfl rfl ag9 rfl) rfl ?_ | refine lx (op_bload_one (m := 6) rfl rfl ag9 rfl) rfl ?_
              refine lx (op_assign rfl) rfl ?_
              refine lx (op_assign rfl) rfl ?_
              refine lx_end ⟨by kernel_rfl, ?_⟩
              refine pe_then_normal ?_
              refine tr_sub hC (.cons (t := 0) rfl (.cons (t := 3) rfl (.cons (t := 4) rfl (.cons (t := 5) rfl (.cons (t := 6) rfl (.cons (t := 47) rfl (.cons (t := 48) rfl (.cons (t := 49) rfl .nil)))))))) (.cons (t := 0) rfl (.cons (t := 1) rfl (.cons (t := 2) rfl (.cons (t := 3) rfl (.cons (t := 4) rfl (.cons (t := 5) rfl (.cons (t := 6) rfl .nil))))))) rfl ?_
              refine tr_seq ?_
              refine tr_region (fun N9 hN => ?_)
              refine lx (op_move rfl) rfl ?_
              refine lx (op_move rfl) rfl ?_
              refine lx (op_sub rfl rfl (by omega)) rfl ?_
              first | refine lx (op_nilCheck rfl) rfl ?_ | refine lx (op_nilCheckC rfl) rfl ?_
              refine lx (op_fieldAddr rfl fl73_1 sz70) rfl ?_
              refine lx (op_aindex rfl rfl ar70 sz38 (show (1 : Int) - ((0 : Nat) : Int) = ((1 : Nat) : Int) from rfl) (by decide)) rfl ?_
              refine lx (OpJ.ent (op_bload_one (m := 0) rfl rfl ag38 rfl) (show Ent _ (slP stP 1 b.s) from (by exact Ent.row _ _ _ _))) rfl ?_
              refine lx (op_move rfl) rfl ?_
              refine lx (op_index rfl rfl el38 sz9 rfl (List.getElem?_eq_getElem (by omega : j < b.s.length))) rfl ?_
              first | refine lx (op_load_one rfl ag9 rfl) rfl ?_ | refine lx (op_bload_one (m := 0) rfl rfl ag9 rfl) rfl ?_ | refine lx (op_bload_one (m := 1) rfl rfl ag9 rfl) rfl ?_ | refine lx (op_bload_one (m := 2) rfl rfl ag9 rfl) rfl ?_ | refine lx (op_bload_one (m := 3) rfl rfl ag9 rfl) rfl ?_ | refine lx (op_bload_one (m := 4) rfl rfl ag9 rfl) rfl ?_ | refine lx (op_bload_one (m := 5) rfl rfl ag9 rfl) rfl ?_ | refine lx (op_bload_one (m := 6) rfl rfl ag9 rfl) rfl ?_
              refine lx (op_move rfl) rfl ?_
              refine lx (op_neq_str st9 rfl rfl) rfl ?_
              refine lx_end ⟨by kernel_rfl, ?_⟩
              refine pe_then_normal ?_
              refine tr_sub hC (.cons (t := 0) rfl (.cons (t := 3) rfl (.cons (t := 6) rfl (.cons (t := 47) rfl (.cons (t := 48) rfl (.cons (t := 49) rfl (.cons (t := 65) rfl .nil))))))) (.cons (t := 0) rfl (.cons (t := 1) rfl (.cons (t := 2) rfl (.cons (t := 3) rfl (.cons (t := 4) rfl (.cons (t := 5) rfl (.cons (t := 6) rfl .nil))))))) rfl ?_
              refine tr_cond rfl (fun h65 => ?_) (fun h65 => ?_)
              · have hq := pa3 j (by omega) (by omega)
                rw [hq, str_beq] at h65
                simp at h65
              · (try simp only [Bool.and_eq_true, Bool.or_eq_true, Bool.and_eq_false_iff, Bool.or_eq_false_iff, decide_eq_true_eq, decide_eq_false_iff_not, Bool.not_eq_true', Bool.not_eq_false', List.length_map, ne_eq, Decidable.not_not, Int.not_lt, Int.not_le] at h65)
                refine tr_skip ?_
                refine pe_block_normal ?_
                refine pe_then_normal ?_
                refine tr_sub hC (.cons (t := 0) rfl (.cons (t := 3) rfl (.cons (t := 6) rfl (.cons (t := 47) rfl (.cons (t := 48) rfl (.cons (t := 49) rfl .nil)))))) (.cons (t := 0) rfl (.cons (t := 1) rfl (.cons (t := 2) rfl (.cons (t := 3) rfl (.cons (t := 4) rfl (.cons (t := 5) rfl (.cons (t := 6) rfl .nil))))))) rfl ?_
                refine tr_region (fun N11 hN => ?_)
                refine lx (op_add rfl rfl (by omega)) rfl ?_
                refine lx (op_move rfl) rfl ?_
                refine lx_end ⟨by kernel_rfl, ?_⟩
                refine pe_round (⟨(j + 1), by omega⟩) (by dsimp only; omega) (pe_st hC ?_ ?_ rfl)
                · try dsimp only [List.cons_append, List.nil_append]
                  first | refine SubF.cons rfl ?_ | (refine SubF.ent rfl ?_ ?_; · repeat (first | exact Ents.nil | refine Ents.cons ?_ ?_ | refine Ent.tup ?_ | refine Ent.agg ?_ | exact Ent.row _ _ _ _ | exact Ent.nil _ _ | exact Ent.func _ | exact Ent.refl _ | exact Ent.of_eq rfl | refine Ent.cells ?_))
                  first | refine SubF.cons rfl ?_ | (refine SubF.ent rfl ?_ ?_; · repeat (first | exact Ents.nil | refine Ents.cons ?_ ?_ | refine Ent.tup ?_ | refine Ent.agg ?_ | exact Ent.row _ _ _ _ | exact Ent.nil _ _ | exact Ent.func _ | exact Ent.refl _ | exact Ent.of_eq rfl | refine Ent.cells ?_))
                  first | refine SubF.cons rfl ?_ | (refine SubF.ent rfl ?_ ?_; · repeat (first | exact Ents.nil | refine Ents.cons ?_ ?_ | refine Ent.tup ?_ | refine Ent.agg ?_ | exact Ent.row _ _ _ _ | exact Ent.nil _ _ | exact Ent.func _ | exact Ent.refl _ | exact Ent.of_eq rfl | refine Ent.cells ?_))
                  first | refine SubF.cons rfl ?_ | (refine SubF.ent rfl ?_ ?_; · repeat (first | exact Ents.nil | refine Ents.cons ?_ ?_ | refine Ent.tup ?_ | refine Ent.agg ?_ | exact Ent.row _ _ _ _ | exact Ent.nil _ _ | exact Ent.func _ | exact Ent.refl _ | exact Ent.of_eq rfl | refine Ent.cells ?_))
                  first | refine SubF.cons rfl ?_ | (refine SubF.ent rfl ?_ ?_; · repeat (first | exact Ents.nil | refine Ents.cons ?_ ?_ | refine Ent.tup ?_ | refine Ent.agg ?_ | exact Ent.row _ _ _ _ | exact Ent.nil _ _ | exact Ent.func _ | exact Ent.refl _ | exact Ent.of_eq rfl | refine Ent.cells ?_))
                  first | refine SubF.cons rfl ?_ | (refine SubF.ent rfl ?_ ?_; · repeat (first | exact Ents.nil | refine Ents.cons ?_ ?_ | refine Ent.tup ?_ | refine Ent.agg ?_ | exact Ent.row _ _ _ _ | exact Ent.nil _ _ | exact Ent.func _ | exact Ent.refl _ | exact Ent.of_eq rfl | refine Ent.cells ?_))
                  exact SubF.nil
                · try dsimp only [List.cons_append, List.nil_append]
                  repeat (first | exact SubL.nil | refine SubL.cons rfl ?_)
            · (try simp only [Bool.and_eq_true, Bool.or_eq_true, Bool.and_eq_false_iff, Bool.or_eq_false_iff, decide_eq_true_eq, decide_eq_false_iff_not, Bool.not_eq_true', Bool.not_eq_false', List.length_map, ne_eq, Decidable.not_not, Int.not_lt, Int.not_le] at h50)
              refine tr_exit ?_
              refine pe_then_exit ?_
              refine pe_then_exit ?_
              refine pe_block_eq ?_
              refine pe_block_normal ?_
              refine pe_then_normal ?_
              refine tr_sub hC (.cons (t := 0) rfl (.cons (t := 6) rfl .nil)) (.cons (t := 0) rfl (.cons (t := 1) rfl (.cons (t := 2) rfl (.cons (t := 3) rfl (.cons (t := 4) rfl (.cons (t := 5) rfl (.cons (t := 6) rfl .nil))))))) rfl ?_
              refine tr_region (fun N12 hN => ?_)
              refine lx (op_add rfl rfl (by omega)) rfl ?_
              refine lx (op_move rfl) rfl ?_
              refine lx_end ⟨by kernel_rfl, ?_⟩
              refine pe_round (⟨(1), by omega⟩) (by dsimp only; omega) (pe_st hC ?_ ?_ rfl)
              · try dsimp only [List.cons_append, List.nil_append]
                first | refine SubF.cons rfl ?_ | (refine SubF.ent rfl ?_ ?_; · repeat (first | exact Ents.nil | refine Ents.cons ?_ ?_ | refine Ent.tup ?_ | refine Ent.agg ?_ | exact Ent.row _ _ _ _ | exact Ent.nil _ _ | exact Ent.func _ | exact Ent.refl _ | exact Ent.of_eq rfl | refine Ent.cells ?_))
                first | refine SubF.cons rfl ?_ | (refine SubF.ent rfl ?_ ?_; · repeat (first | exact Ents.nil | refine Ents.cons ?_ ?_ | refine Ent.tup ?_ | refine Ent.agg ?_ | exact Ent.row _ _ _ _ | exact Ent.nil _ _ | exact Ent.func _ | exact Ent.refl _ | exact Ent.of_eq rfl | refine Ent.cells ?_))
                exact SubF.nil
              · try dsimp only [List.cons_append, List.nil_append]
                repeat (first | exact SubL.nil | refine SubL.cons rfl ?_)
      · (try simp only [Bool.and_eq_true, Bool.or_eq_true, Bool.and_eq_false_iff, Bool.or_eq_false_iff, decide_eq_true_eq, decide_eq_false_iff_not, Bool.not_eq_true', Bool.not_eq_false', List.length_map, ne_eq, Decidable.not_not, Int.not_lt, Int.not_le] at h7)
        omega
    · refine tr_seq ?_
      refine tr_region (fun N2 hN => ?_)
      refine lx (op_lss rfl rfl) rfl ?_
      refine lx_end ⟨by kernel_rfl, ?_⟩
      refine pe_then_normal ?_
      refine tr_sub hC (.cons (t := 0) rfl (.cons (t := 6) rfl (.cons (t := 7) rfl .nil))) (.cons (t := 0) rfl (.cons (t := 1) rfl (.cons (t := 2) rfl (.cons (t := 3) rfl (.cons (t := 4) rfl (.cons (t := 5) rfl (.cons (t := 6) rfl .nil))))))) rfl ?_
      refine tr_seq ?_
      refine tr_cond rfl (fun h7 => ?_) (fun h7 => ?_)
      · (try simp only [Bool.and_eq_true, Bool.or_eq_true, Bool.and_eq_false_iff, Bool.or_eq_false_iff, decide_eq_true_eq, decide_eq_false_iff_not, Bool.not_eq_true', Bool.not_eq_false', List.length_map, ne_eq, Decidable.not_not, Int.not_lt, Int.not_le] at h7)
        refine tr_skip ?_
        refine pe_then_normal ?_
        refine tr_sub hC (.cons (t := 0) rfl (.cons (t := 6) rfl .nil)) (.cons (t := 0) rfl (.cons (t := 1) rfl (.cons (t := 2) rfl (.cons (t := 3) rfl (.cons (t := 4) rfl (.cons (t := 5) rfl (.cons (t := 6) rfl .nil))))))) rfl ?_
        refine tr_seq ?_
        refine tr_block ?_
        refine tr_seq ?_
        refine tr_region (fun N3 hN => ?_)
        refine lx (op_move rfl) rfl ?_
        refine lx (op_assign rfl) rfl ?_
        refine lx_end ⟨by kernel_rfl, ?_⟩
        refine pe_then_normal ?_
        refine tr_sub hC (.cons (t := 0) rfl (.cons (t := 3) rfl (.cons (t := 6) rfl .nil))) (.cons (t := 0) rfl (.cons (t := 1) rfl (.cons (t := 2) rfl (.cons (t := 3) rfl (.cons (t := 4) rfl (.cons (t := 5) rfl (.cons (t := 6) rfl .nil))))))) rfl ?_
        refine tr_seq ?_
        refine tr_seq ?_
        refine tr_drawn mixed (fun N4 hN => ?_)
        refine lx (op_move rfl) rfl ?_
        refine lx (op_move rfl) rfl ?_
        first | refine lx (op_nilCheck rfl) rfl ?_ | refine lx (op_nilCheckC rfl) rfl ?_
        refine lx (op_fieldAddr rfl fl73_2 sz70) rfl ?_
        refine lx (op_aindex rfl rfl ar70 sz38 (show ((1 : Nat) : Int) = ((1 : Nat) : Int) from rfl) (by decide)) rfl ?_
        refine lx (OpJ.ent (op_bload_one (m := 0) rfl rfl ag38 rfl) (show Ent _ (slP stP 1 b.g) from (by exact Ent.row _ _ _ _))) rfl ?_
        first | refine lx (op_len rfl el38) rfl ?_ | refine lx (op_len_row rfl el38) rfl ?_ | refine lx (op_len_mv rfl el38) rfl ?_ | refine lx (op_len_nil rfl el38) rfl ?_
        refine lx (op_move rfl) rfl ?_
        refine lx (op_move rfl) rfl ?_
        refine lx (op_sub rfl rfl (by omega)) rfl ?_
        first | refine lx (op_nilCheck rfl) rfl ?_ | refine lx (op_nilCheckC rfl) rfl ?_
        refine lx (op_fieldAddr rfl fl73_1 sz70) rfl ?_
        refine lx (op_aindex rfl rfl ar70 sz38 (show (1 : Int) - ((1 : Nat) : Int) = ((0 : Nat) : Int) from rfl) (by decide)) rfl ?_
        refine lx (OpJ.ent (op_bload_one (m := 0) rfl rfl ag38 rfl) (show Ent _ (slP stP 1 a.s) from (by exact Ent.row _ _ _ _))) rfl ?_
        first | refine lx (op_len rfl el38) rfl ?_ | refine lx (op_len_row rfl el38) rfl ?_ | refine lx (op_len_mv rfl el38) rfl ?_ | refine lx (op_len_nil rfl el38) rfl ?_
        refine lx (op_gtr rfl rfl) rfl ?_
        refine lx (op_move rfl) rfl ?_
        refine lxs rfl rfl rfl guard_eq (.cons (t := 0) rfl (fun _ => Ent.refl _) .nil) (op_move rfl) rfl ?_
        refine lxs rfl rfl rfl guard_eq (.cons (t := 3) rfl (fun _ => Ent.refl _) .nil) (op_move rfl) rfl ?_
        first | refine lxs rfl rfl rfl guard_eq (.cons (t := 26) rfl (fun h => entW h) .nil) (op_nilCheck rfl) rfl ?_ | refine lxs rfl rfl rfl guard_eq (.cons (t := 26) rfl (fun h => entW h) .nil) (op_nilCheckC rfl) rfl ?_
        refine lxs rfl rfl rfl guard_eq (.cons (t := 28) rfl (fun h => entW h) .nil) (op_fieldAddr rfl fl73_0 sz69) rfl ?_
        refine lxs rfl rfl rfl guard_eq (.cons (t := 27) rfl (fun h => entW h) (.cons (t := 29) rfl (fun h => entW h) .nil)) (op_aindex rfl rfl ar69 sz46 (show ((1 : Nat) : Int) = ((1 : Nat) : Int) from rfl) (by decide)) rfl ?_
        refine lxs rfl rfl rfl guard_eq (.cons (t := 30) rfl (fun h => entW h) .nil) (op_fieldAddr rfl fl46_3 sz3) rfl ?_
        refine lxs rfl rfl rfl guard_eq (.cons (t := 31) rfl (fun h => entW h) .nil) (op_bload_one (m := 0) rfl rfl ag3 rfl) rfl ?_
        refine lxs rfl rfl rfl guard_eq (.cons (t := 0) rfl (fun _ => Ent.refl _) .nil) (op_move rfl) rfl ?_
        refine lxs rfl rfl rfl guard_eq (.cons (t := 3) rfl (fun _ => Ent.refl _) .nil) (op_move rfl) rfl ?_
        first | refine lxs rfl rfl rfl guard_eq (.cons (t := 33) rfl (fun h => entW h) .nil) (op_nilCheck rfl) rfl ?_ | refine lxs rfl rfl rfl guard_eq (.cons (t := 33) rfl (fun h => entW h) .nil) (op_nilCheckC rfl) rfl ?_
        refine lxs rfl rfl rfl guard_eq (.cons (t := 35) rfl (fun h => entW h) .nil) (op_fieldAddr rfl fl73_2 sz70) rfl ?_
        refine lxs rfl rfl rfl guard_eq (.cons (t := 34) rfl (fun h => entW h) (.cons (t := 36) rfl (fun h => entW h) .nil)) (op_aindex rfl rfl ar70 sz38 (show ((1 : Nat) : Int) = ((1 : Nat) : Int) from rfl) (by decide)) rfl ?_
        refine lxs rfl rfl rfl guard_eq (.cons (t := 37) rfl (fun h => entW h) .nil) (op_bload_one (m := 0) rfl rfl ag38 rfl) rfl ?_
        first | refine lxs rfl rfl rfl guard_eq (.cons (t := 38) rfl (fun h => entW h) .nil) (op_len rfl el38) rfl ?_ | refine lxs rfl rfl rfl guard_eq (.cons (t := 38) rfl (fun h => entW h) .nil) (op_len_row rfl el38) rfl ?_ | refine lxs rfl rfl rfl guard_eq (.cons (t := 38) rfl (fun h => entW h) .nil) (op_len_mv rfl el38) rfl ?_ | refine lxs rfl rfl rfl guard_eq (.cons (t := 38) rfl (fun h => entW h) .nil) (op_len_nil rfl el38) rfl ?_
        refine lxs rfl rfl rfl guard_eq (.cons (t := 32) rfl (fun h => entW h) (.cons (t := 39) rfl (fun h => entW h) .nil)) (op_neq rfl rfl) rfl ?_
        refine lx (op_pick_or rfl rfl) rfl ?_
        refine lx_end ⟨by kernel_rfl, ?_⟩
        refine pe_then_normal ?_
        refine tr_sub hC (.cons (t := 0) rfl (.cons (t := 3) rfl (.cons (t := 6) rfl (.cons (t := 41) rfl .nil)))) (.cons (t := 0) rfl (.cons (t := 1) rfl (.cons (t := 2) rfl (.cons (t := 3) rfl (.cons (t := 4) rfl (.cons (t := 5) rfl (.cons (t := 6) rfl .nil))))))) rfl ?_
        refine tr_cond rfl (fun h41 => ?_) (fun h41 => ?_)
        · (try simp only [Bool.and_eq_true, Bool.or_eq_true, Bool.and_eq_false_iff, Bool.or_eq_false_iff, decide_eq_true_eq, decide_eq_false_iff_not, Bool.not_eq_true', Bool.not_eq_false', List.length_map, ne_eq, Decidable.not_not, Int.not_lt, Int.not_le] at h41)
          omega
        · (try simp only [Bool.and_eq_true, Bool.or_eq_true, Bool.and_eq_false_iff, Bool.or_eq_false_iff, decide_eq_true_eq, decide_eq_false_iff_not, Bool.not_eq_true', Bool.not_eq_false', List.length_map, ne_eq, Decidable.not_not, Int.not_lt, Int.not_le] at h41)
          refine tr_skip ?_
          refine pe_then_normal ?_
          refine tr_sub hC (.cons (t := 0) rfl (.cons (t := 3) rfl (.cons (t := 6) rfl .nil))) (.cons (t := 0) rfl (.cons (t := 1) rfl (.cons (t := 2) rfl (.cons (t := 3) rfl (.cons (t := 4) rfl (.cons (t := 5) rfl (.cons (t := 6) rfl .nil))))))) rfl ?_
          refine tr_seq ?_
          refine tr_region (fun N6 hN => ?_)
          refine lx (op_move rfl) rfl ?_
          refine lx (op_move rfl) rfl ?_
          first | refine lx (op_nilCheck rfl) rfl ?_ | refine lx (op_nilCheckC rfl) rfl ?_
          refine lx (op_fieldAddr rfl fl73_2 sz70) rfl ?_
          refine lx (op_aindex rfl rfl ar70 sz38 (show ((1 : Nat) : Int) = ((1 : Nat) : Int) from rfl) (by decide)) rfl ?_
          refine lx (OpJ.ent (op_bload_one (m := 0) rfl rfl ag38 rfl) (show Ent _ (slP stP 1 b.g) from (by exact Ent.row _ _ _ _))) rfl ?_
          first | refine lx (op_len rfl el38) rfl ?_ | refine lx (op_len_row rfl el38) rfl ?_ | refine lx (op_len_mv rfl el38) rfl ?_ | refine lx (op_len_nil rfl el38) rfl ?_
          refine lx (op_move rfl) rfl ?_
          refine lx_end ⟨by kernel_rfl, ?_⟩
          refine pe_then_normal ?_
          refine tr_sub hC (.cons (t := 0) rfl (.cons (t := 3) rfl (.cons (t := 6) rfl (.cons (t := 47) rfl (.cons (t := 48) rfl (.cons (t := 49) rfl .nil)))))) (.cons (t := 0) rfl (.cons (t := 1) rfl (.cons (t := 2) rfl (.cons (t := 3) rfl (.cons (t := 4) rfl (.cons (t := 5) rfl (.cons (t := 6) rfl .nil))))))) rfl ?_
          refine tr_block ?_
          refine tr_loopK (α := {zz : Nat // zz ≤ b.g.length}) (⟨(0), Nat.zero_le _⟩) (fun zz => [(49, eqP (.int .i64 (zz.1 : Int)))]) (fun zz => []) (fun zz => b.g.length - zz.1) hC (.cons (t := 0) rfl (.cons (t := 3) rfl (.cons (t := 6) rfl (.cons (t := 47) rfl (.cons (t := 48) rfl .nil))))) (.cons (t := 0) rfl (.cons (t := 1) rfl (.cons (t := 2) rfl (.cons (t := 3) rfl (.cons (t := 4) rfl (.cons (t := 5) rfl (.cons (t := 6) rfl .nil))))))) rfl ?_ ?_ (fun zz => ?_)
          · try dsimp only [List.cons_append, List.nil_append]
            first | refine SubF.cons rfl ?_ | (refine SubF.ent rfl ?_ ?_; · repeat (first | exact Ents.nil | refine Ents.cons ?_ ?_ | refine Ent.tup ?_ | refine Ent.agg ?_ | exact Ent.row _ _ _ _ | exact Ent.nil _ _ | exact Ent.func _ | exact Ent.refl _ | exact Ent.of_eq rfl | refine Ent.cells ?_))
            exact SubF.nil
          · try dsimp only [List.cons_append, List.nil_append]
            repeat (first | exact SubL.nil | refine SubL.cons rfl ?_)
          · obtain ⟨j, hj⟩ := zz
            dsimp only [List.cons_append, List.nil_append]
            refine tr_seq ?_
            refine tr_region (fun N7 hN => ?_)
            refine lx (op_lss rfl rfl) rfl ?_
            refine lx_end ⟨by kernel_rfl, ?_⟩
            refine pe_then_normal ?_
            refine tr_sub hC (.cons (t := 0) rfl (.cons (t := 3) rfl (.cons (t := 6) rfl (.cons (t := 47) rfl (.cons (t := 48) rfl (.cons (t := 49) rfl (.cons (t := 50) rfl .nil))))))) (.cons (t := 0) rfl (.cons (t := 1) rfl (.cons (t := 2) rfl (.cons (t := 3) rfl (.cons (t := 4) rfl (.cons (t := 5) rfl (.cons (t := 6) rfl .nil))))))) rfl ?_
            refine tr_seq ?_
            refine tr_cond rfl (fun h50 => ?_) (fun h50 => ?_)
            · (try simp only [Bool.and_eq_true, Bool.or_eq_true, Bool.and_eq_false_iff, Bool.or_eq_false_iff, decide_eq_true_eq, decide_eq_false_iff_not, Bool.not_eq_true', Bool.not_eq_false', List.length_map, ne_eq, Decidable.not_not, Int.not_lt, Int.not_le] at h50)
              refine tr_skip ?_
              refine pe_then_normal ?_
              refine tr_sub hC (.cons (t := 0) rfl (.cons (t := 3) rfl (.cons (t := 6) rfl (.cons (t := 47) rfl (.cons (t := 48) rfl (.cons (t := 49) rfl .nil)))))) (.cons (t := 0) rfl (.cons (t := 1) rfl (.cons (t := 2) rfl (.cons (t := 3) rfl (.cons (t := 4) rfl (.cons (t := 5) rfl (.cons (t := 6) rfl .nil))))))) rfl ?_
              refine tr_seq ?_
              refine tr_block ?_
              refine tr_seq ?_
              refine tr_region (fun N8 hN => ?_)
              refine lx (op_move rfl) rfl ?_
              refine lx (op_index rfl rfl el38 sz9 rfl (List.getElem?_eq_getElem (by omega : j < b.g.length))) rfl ?_
              first | refine lx (op_load_one rfl ag9 rfl) rfl ?_ | refine lx (op_bload_one (m := 0) rfl rfl ag9 rfl) rfl ?_ | refine lx (op_bload_one (m := 1) rfl rfl ag9 rfl) rfl ?_ | refine lx (op_bload_one (m := 2) rfl rfl ag9 rfl) rfl ?_ | refine lx (op_bload_one (m := 3) rfl rfl ag9 rfl) rfl ?_ | refine lx (op_bload_one (m := 4) rfl rfl ag9 rfl) rfl ?_ | refine lx (op_bload_one (m := 5) rfl rfl ag9 rfl) rfl ?_ | refine lx (op_bload_one (m := 6) rfl rfl ag9 rfl) rfl ?_
              refine lx (op_assign rfl) rfl ?_
              refine lx (op_assign rfl) rfl ?_
              refine lx_end ⟨by kernel_rfl, ?_⟩
              refine pe_then_normal ?_
              refine tr_sub hC (.cons (t := 0) rfl (.cons (t := 3) rfl (.cons (t := 4) rfl (.cons (t := 5) rfl (.cons (t := 6) rfl (.cons (t := 47) rfl (.cons (t := 48) rfl (.cons (t := 49) rfl .nil)))))))) (.cons (t := 0) rfl (.cons (t := 1) rfl (.cons (t := 2) rfl (.cons (t := 3) rfl (.cons (t := 4) rfl (.cons (t := 5) rfl (.cons (t := 6) rfl .nil))))))) rfl ?_
              refine tr_seq ?_
              refine tr_region (fun N9 hN => ?_)
              refine lx (op_move rfl) rfl ?_
              refine lx (op_move rfl) rfl ?_
              refine lx (op_sub rfl rfl (by omega)) rfl ?_
              first | refine lx (op_nilCheck rfl) rfl ?_ | refine lx (op_nilCheckC rfl) rfl ?_
              refine lx (op_fieldAddr rfl fl73_1 sz70) rfl ?_
              refine lx (op_aindex rfl rfl ar70 sz38 (show (1 : Int) - ((1 : Nat) : Int) = ((0 : Nat) : Int) from rfl) (by decide)) rfl ?_
              refine lx (OpJ.ent (op_bload_one (m := 0) rfl rfl ag38 rfl) (show Ent _ (slP stP 1 a.s) from (by exact Ent.row _ _ _ _))) rfl ?_
              refine lx (op_move rfl) rfl ?_
              refine lx (op_index rfl rfl el38 sz9 rfl (List.getElem?_eq_getElem (by omega : j < a.s.length))) rfl ?_
              first | refine lx (op_load_one rfl ag9 rfl) rfl ?_ | refine lx (op_bload_one (m := 0) rfl rfl ag9 rfl) rfl ?_ | refine lx (op_bload_one (m := 1) rfl rfl ag9 rfl) rfl ?_ | refine lx (op_bload_one (m := 2) rfl rfl ag9 rfl) rfl ?_ | refine lx (op_bload_one (m := 3) rfl rfl ag9 rfl) rfl ?_ | refine lx (op_bload_one (m := 4) rfl rfl ag9 rfl) rfl ?_ | refine lx (op_bload_one (m := 5) rfl rfl ag9 rfl) rfl ?_ | refine lx (op_bload_one (m := 6) rfl rfl ag9 rfl) rfl ?_
              refine lx (op_move rfl) rfl ?_
              refine lx (op_neq_str st9 rfl rfl) rfl ?_
              refine lx_end ⟨by kernel_rfl, ?_⟩
              refine pe_then_normal ?_
              refine tr_sub hC (.cons (t := 0) rfl (.cons (t := 3) rfl (.cons (t := 6) rfl (.cons (t := 47) rfl (.cons (t := 48) rfl (.cons (t := 49) rfl (.cons (t := 65) rfl .nil))))))) (.cons (t := 0) rfl (.cons (t := 1) rfl (.cons (t := 2) rfl (.cons (t := 3) rfl (.cons (t := 4) rfl (.cons (t := 5) rfl (.cons (t := 6) rfl .nil))))))) rfl ?_
              refine tr_cond rfl (fun h65 => ?_) (fun h65 => ?_)
              · have hq := pb3 j (by omega) (by omega)
                rw [hq, str_beq] at h65
                simp at h65
              · (try simp only [Bool.and_eq_true, Bool.or_eq_true, Bool.and_eq_false_iff, Bool.or_eq_false_iff, decide_eq_true_eq, decide_eq_false_iff_not, Bool.not_eq_true', Bool.not_eq_false', List.length_map, ne_eq, Decidable.not_not, Int.not_lt, Int.not_le] at h65)
                refine tr_skip ?_
                refine pe_block_normal ?_
                refine pe_then_normal ?_
                refine tr_sub hC (.cons (t := 0) rfl (.cons (t := 3) rfl (.cons (t := 6) rfl (.cons (t := 47) rfl (.cons (t := 48) rfl (.cons (t := 49) rfl .nil)))))) (.cons (t := 0) rfl (.cons (t := 1) rfl (.cons (t := 2) rfl (.cons (t := 3) rfl (.cons (t := 4) rfl (.cons (t := 5) rfl (.cons (t := 6) rfl .nil))))))) rfl ?_
                refine tr_region (fun N11 hN => ?_)
                refine lx (op_add rfl rfl (by omega)) rfl ?_
                refine lx (op_move rfl) rfl ?_
                refine lx_end ⟨by kernel_rfl, ?_⟩
                refine pe_round (⟨(j + 1), by omega⟩) (by dsimp only; omega) (pe_st hC ?_ ?_ rfl)
                · try dsimp only [List.cons_append, List.nil_append]
                  first | refine SubF.cons rfl ?_ | (refine SubF.ent rfl ?_ ?_; · repeat (first | exact Ents.nil | refine Ents.cons ?_ ?_ | refine Ent.tup ?_ | refine Ent.agg ?_ | exact Ent.row _ _ _ _ | exact Ent.nil _ _ | exact Ent.func _ | exact Ent.refl _ | exact Ent.of_eq rfl | refine Ent.cells ?_))
                  first | refine SubF.cons rfl ?_ | (refine SubF.ent rfl ?_ ?_; · repeat (first | exact Ents.nil | refine Ents.cons ?_ ?_ | refine Ent.tup ?_ | refine Ent.agg ?_ | exact Ent.row _ _ _ _ | exact Ent.nil _ _ | exact Ent.func _ | exact Ent.refl _ | exact Ent.of_eq rfl | refine Ent.cells ?_))
                  first | refine SubF.cons rfl ?_ | (refine SubF.ent rfl ?_ ?_; · repeat (first | exact Ents.nil | refine Ents.cons ?_ ?_ | refine Ent.tup ?_ | refine Ent.agg ?_ | exact Ent.row _ _ _ _ | exact Ent.nil _ _ | exact Ent.func _ | exact Ent.refl _ | exact Ent.of_eq rfl | refine Ent.cells ?_))
                  first | refine SubF.cons rfl ?_ | (refine SubF.ent rfl ?_ ?_; · repeat (first | exact Ents.nil | refine Ents.cons ?_ ?_ | refine Ent.tup ?_ | refine Ent.agg ?_ | exact Ent.row _ _ _ _ | exact Ent.nil _ _ | exact Ent.func _ | exact Ent.refl _ | exact Ent.of_eq rfl | refine Ent.cells ?_))
                  first | refine SubF.cons rfl ?_ | (refine SubF.ent rfl ?_ ?_; · repeat (first | exact Ents.nil | refine Ents.cons ?_ ?_ | refine Ent.tup ?_ | refine Ent.agg ?_ | exact Ent.row _ _ _ _ | exact Ent.nil _ _ | exact Ent.func _ | exact Ent.refl _ | exact Ent.of_eq rfl | refine Ent.cells ?_))
                  first | refine SubF.cons rfl ?_ | (refine SubF.ent rfl ?_ ?_; · repeat (first | exact Ents.nil | refine Ents.cons ?_ ?_ | refine Ent.tup ?_ | refine Ent.agg ?_ | exact Ent.row _ _ _ _ | exact Ent.nil _ _ | exact Ent.func _ | exact Ent.refl _ | exact Ent.of_eq rfl | refine Ent.cells ?_))
                  exact SubF.nil
                · try dsimp only [List.cons_append, List.nil_append]
                  repeat (first | exact SubL.nil | refine SubL.cons rfl ?_)
            · (try simp only [Bool.and_eq_true, Bool.or_eq_true, Bool.and_eq_false_iff, Bool.or_eq_false_iff, decide_eq_true_eq, decide_eq_false_iff_not, Bool.not_eq_true', Bool.not_eq_false', List.length_map, ne_eq, Decidable.not_not, Int.not_lt, Int.not_le] at h50)
              refine tr_exit ?_
              refine pe_then_exit ?_
              refine pe_then_exit ?_
              refine pe_block_eq ?_
              refine pe_block_normal ?_
              refine pe_then_normal ?_
              refine tr_sub hC (.cons (t := 0) rfl (.cons (t := 6) rfl .nil)) (.cons (t := 0) rfl (.cons (t := 1) rfl (.cons (t := 2) rfl (.cons (t := 3) rfl (.cons (t := 4) rfl (.cons (t := 5) rfl (.cons (t := 6) rfl .nil))))))) rfl ?_
              refine tr_region (fun N12 hN => ?_)
              refine lx (op_add rfl rfl (by omega)) rfl ?_
              refine lx (op_move rfl) rfl ?_
              refine lx_end ⟨by kernel_rfl, ?_⟩
              refine pe_round (⟨(2), by omega⟩) (by dsimp only; omega) (pe_st hC ?_ ?_ rfl)
              · try dsimp only [List.cons_append, List.nil_append]
                first | refine SubF.cons rfl ?_ | (refine SubF.ent rfl ?_ ?_; · repeat (first | exact Ents.nil | refine Ents.cons ?_ ?_ | refine Ent.tup ?_ | refine Ent.agg ?_ | exact Ent.row _ _ _ _ | exact Ent.nil _ _ | exact Ent.func _ | exact Ent.refl _ | exact Ent.of_eq rfl | refine Ent.cells ?_))
                first | refine SubF.cons rfl ?_ | (refine SubF.ent rfl ?_ ?_; · repeat (first | exact Ents.nil | refine Ents.cons ?_ ?_ | refine Ent.tup ?_ | refine Ent.agg ?_ | exact Ent.row _ _ _ _ | exact Ent.nil _ _ | exact Ent.func _ | exact Ent.refl _ | exact Ent.of_eq rfl | refine Ent.cells ?_))
                exact SubF.nil
              · try dsimp only [List.cons_append, List.nil_append]
                repeat (first | exact SubL.nil | refine SubL.cons rfl ?_)
      · (try simp only [Bool.and_eq_true, Bool.or_eq_true, Bool.and_eq_false_iff, Bool.or_eq_false_iff, decide_eq_true_eq, decide_eq_false_iff_not, Bool.not_eq_true', Bool.not_eq_false', List.length_map, ne_eq, Decidable.not_not, Int.not_lt, Int.not_le] at h7)
        omega
    · refine tr_seq ?_
      refine tr_region (fun N2 hN => ?_)
      refine lx (op_lss rfl rfl) rfl ?_
      refine lx_end ⟨by kernel_rfl, ?_⟩
      refine pe_then_normal ?_
      refine tr_sub hC (.cons (t := 0) rfl (.cons (t := 6) rfl (.cons (t := 7) rfl .nil))) (.cons (t := 0) rfl (.cons (t := 1) rfl (.cons (t := 2) rfl (.cons (t := 3) rfl (.cons (t := 4) rfl (.cons (t := 5) rfl (.cons (t := 6) rfl .nil))))))) rfl ?_
      refine tr_seq ?_
      refine tr_cond rfl (fun h7 => ?_) (fun h7 => ?_)
      · (try simp only [Bool.and_eq_true, Bool.or_eq_true, Bool.and_eq_false_iff, Bool.or_eq_false_iff, decide_eq_true_eq, decide_eq_false_iff_not, Bool.not_eq_true', Bool.not_eq_false', List.length_map, ne_eq, Decidable.not_not, Int.not_lt, Int.not_le] at h7)
        omega
      · (try simp only [Bool.and_eq_true, Bool.or_eq_true, Bool.and_eq_false_iff, Bool.or_eq_false_iff, decide_eq_true_eq, decide_eq_false_iff_not, Bool.not_eq_true', Bool.not_eq_false', List.length_map, ne_eq, Decidable.not_not, Int.not_lt, Int.not_le] at h7)
        refine tr_exit ?_
        refine pe_then_exit ?_
        refine pe_then_exit ?_
        refine pe_block_eq ?_
        refine pe_then_normal ?_
        refine tr_sub hC .nil (.cons (t := 0) rfl (.cons (t := 1) rfl (.cons (t := 2) rfl (.cons (t := 3) rfl (.cons (t := 4) rfl (.cons (t := 5) rfl (.cons (t := 6) rfl .nil))))))) rfl ?_
        refine tr_seq ?_
        refine tr_region (fun N13 hN => ?_)
        refine lx (op_assign rfl) rfl ?_
        refine lx_end ⟨by kernel_rfl, ?_⟩
        refine pe_then_normal ?_
        refine tr_sub hC (.cons (t := 2) rfl .nil) (.cons (t := 0) rfl (.cons (t := 1) rfl (.cons (t := 2) rfl (.cons (t := 3) rfl (.cons (t := 4) rfl (.cons (t := 5) rfl (.cons (t := 6) rfl .nil))))))) rfl ?_
        refine tr_ret ?_
        refine pe_ownS' [0, 1, 2, 3, 4, 5, 6] rfl hO rfl (.tmp rfl .nil) .nil rfl rfl rfl ?_
        intro τ ι hs
        refine ⟨?_, ?_⟩
        · exact fun v h => h
        · exact (.kept rfl rfl (fun b o h => h) (.kept rfl rfl (fun b o h => h) (.kept rfl rfl (fun b o h => h) (.kept rfl rfl (fun b o h => h) (.kept rfl rfl (fun b o h => h) (.kept rfl rfl (fun b o h => h) (.kept rfl rfl (fun b o h => h) .nil)))))))
end Go.Proofs.Ytgdhogmghffbaaa


set_option linter.unusedVariables false
set_option linter.unusedSimpArgs false
namespace Go.Proofs.Ytgdhogmghffbaaa
open Go.AL Go.Wr Go.RowKit
theorem ar71 : arrB Try.prog 71 = some (2, 43) := by kernel_rfl
theorem fl65_0 : fldB Try.prog 65 0 = some (0, 5) := by kernel_rfl
theorem fl65_1 : fldB Try.prog 65 1 = some (1, 5) := by kernel_rfl
theorem fl65_2 : fldB Try.prog 65 2 = some (2, 5) := by kernel_rfl
theorem fl73_3 : fldB Try.prog 73 3 = some (14, 71) := by kernel_rfl
theorem fn29 : fnB Try.prog 29 = true := by kernel_rfl
theorem sz71 : sizeB Try.prog 71 = some 2 := by kernel_rfl
set_option maxHeartbeats 4000000 in
theorem do_at0 (w : Int) (m : Nat) (i0 i1 i2 i3 i4 i5 i6 : AL.Id) (a b : Side) (hinv : Inv w m a b) (hm : m < 150) (hnb : NB a b) (k e p : Int) (hk : 0 ≤ k ∧ k ≤ 255) (he : 0 ≤ e ∧ e ≤ 255) (hp : 0 ≤ p ∧ p ≤ 255) (ha : e.tmod 2 = 0) : FnOK Try.prog 27 [ptrP i0 0, aggP (opP k e p)] [(i0, blk 73 (prP a b i1 i2 i3 i4 i5 i6)), (i1, tail 9 1 (a.s.length * 1)), (i2, tail 9 1 (b.s.length * 1)), (i3, tail 9 1 (a.g.length * 1)), (i4, tail 9 1 (b.g.length * 1)), (i5, tail 25 1 (a.n.length * 1)), (i6, tail 25 1 (b.n.length * 1))] 6 (fun ι => eqP (.bool true)) (fun ι => [(i0, blk 73 (prP (stepF a b (k.tmod 5) p).1 (stepF a b (k.tmod 5) p).2 (ι 0) (ι 1) (ι 2) (ι 3) (ι 4) (ι 5))), (ι 0, tail 9 1 ((stepF a b (k.tmod 5) p).1.s.length * 1)), (ι 1, tail 9 1 ((stepF a b (k.tmod 5) p).2.s.length * 1)), (ι 2, tail 9 1 ((stepF a b (k.tmod 5) p).1.g.length * 1)), (ι 3, tail 9 1 ((stepF a b (k.tmod 5) p).2.g.length * 1)), (ι 4, tail 25 1 ((stepF a b (k.tmod 5) p).1.n.length * 1)), (ι 5, tail 25 1 ((stepF a b (k.tmod 5) p).2.n.length * 1))]) := by
  obtain ⟨q, hq⟩ : ∃ q, q = k.tmod 5 := ⟨_, rfl⟩
  have hq5 := tmod5 hk
  rw [← hq] at hq5
  obtain ⟨hn1, hn2⟩ := hnb
  have hsl := hinv.1.many
  have hos := hinv.2.many
  have hfl := inv_frames hinv
  rw [← hq]
  refine fn_ownN Try.func27 rfl Try.ntmps27 rfl ?_
  intro σ0 M Rf R hC hO
  simp only [frameOf, tokOf]
  refine tr_seq ?_
  refine tr_region (fun N0 hN => ?_)
  refine lxn (op_box (m := 603) (k := 3) rfl (.agg rfl) (by first | exact hC.low _ (by decide) | rfl)) rfl ?_
  refine lx (op_assign rfl) rfl ?_
  refine lx_end ⟨by kernel_rfl, ?_⟩
  refine pe_then_normal ?_
  refine tr_sub hC (.cons (t := 0) rfl (.cons (t := 3) rfl .nil)) (.cons (t := 0) rfl (.cons (t := 1) rfl (.cons (t := 2) rfl (.cons (t := 3) rfl (.cons (t := 4) rfl (.cons (t := 5) rfl (.cons (t := 6) rfl (.cons (t := 603) rfl .nil)))))))) rfl ?_
  refine tr_seq ?_
  refine tr_region (fun N1 hN => ?_)
  refine lx (op_fieldAddr rfl fl65_1 sz5) rfl ?_
  refine lx (op_bload_one (m := 603) rfl rfl ag5 rfl) rfl ?_
  refine lx (OpJ.ent (op_convert rfl us5 ik3) (show Ent _ (eqP (.int .i64 e)) from (by exact entI (u8_conv he)))) rfl ?_
  refine lx (OpJ.ent (op_rem rfl rfl rfl) (show Ent _ (eqP (.int .i64 0)) from (by exact entI ha))) rfl ?_
  refine lx (op_assign rfl) rfl ?_
  refine lx_end ⟨by kernel_rfl, ?_⟩
  refine pe_then_normal ?_
  refine tr_sub hC (.cons (t := 0) rfl (.cons (t := 3) rfl (.cons (t := 5) rfl .nil))) (.cons (t := 0) rfl (.cons (t := 1) rfl (.cons (t := 2) rfl (.cons (t := 3) rfl (.cons (t := 4) rfl (.cons (t := 5) rfl (.cons (t := 6) rfl (.cons (t := 603) rfl .nil)))))))) rfl ?_
  refine tr_seq ?_
  refine tr_region (fun N2 hN => ?_)
  refine lx (op_move rfl) rfl ?_
  refine lx (op_move rfl) rfl ?_
  first | refine lx (op_nilCheck rfl) rfl ?_ | refine lx (op_nilCheckC rfl) rfl ?_
  refine lx (op_fieldAddr rfl fl73_3 sz71) rfl ?_
  refine lx (op_aindex rfl rfl ar71 sz43 (show (0 : Int) = ((0 : Nat) : Int) from rfl) (by decide)) rfl ?_
  refine lx (op_bload_one (m := 0) rfl rfl ag43 rfl) rfl ?_
  first | refine lx (op_len rfl el43) rfl ?_ | refine lx (op_len_row rfl el43) rfl ?_ | refine lx (op_len_mv rfl el43) rfl ?_ | refine lx (op_len_nil rfl el43) rfl ?_
  refine lx (op_assign rfl) rfl ?_
  refine lx_end ⟨by kernel_rfl, ?_⟩
  refine pe_then_normal ?_
  refine tr_sub hC (.cons (t := 0) rfl (.cons (t := 3) rfl (.cons (t := 5) rfl (.cons (t := 6) rfl .nil)))) (.cons (t := 0) rfl (.cons (t := 1) rfl (.cons (t := 2) rfl (.cons (t := 3) rfl (.cons (t := 4) rfl (.cons (t := 5) rfl (.cons (t := 6) rfl (.cons (t := 603) rfl .nil)))))))) rfl ?_
  refine tr_seq ?_
  refine tr_seq ?_
  refine tr_region (fun N3 hN => ?_)
  refine lx (op_fieldAddr rfl fl65_0 sz5) rfl ?_
  refine lx (op_bload_one (m := 603) rfl rfl ag5 rfl) rfl ?_
  refine lx (OpJ.ent (op_rem rfl rfl rfl) (show Ent _ (eqP (.int .u8 q)) from (by exact entI hq.symm))) rfl ?_
  refine lx_end ⟨by kernel_rfl, ?_⟩
  refine pe_then_normal ?_
  refine tr_sub hC (.cons (t := 0) rfl (.cons (t := 3) rfl (.cons (t := 5) rfl (.cons (t := 6) rfl (.cons (t := 28) rfl .nil))))) (.cons (t := 0) rfl (.cons (t := 1) rfl (.cons (t := 2) rfl (.cons (t := 3) rfl (.cons (t := 4) rfl (.cons (t := 5) rfl (.cons (t := 6) rfl (.cons (t := 603) rfl .nil)))))))) rfl ?_
  refine tr_block ?_
  refine tr_seq ?_
  refine tr_region (fun N4 hN => ?_)
  refine lx (op_eql rfl rfl) rfl ?_
  refine lx (op_assign rfl) rfl ?_
  refine lx_end ⟨by kernel_rfl, ?_⟩
  refine pe_then_normal ?_
  refine tr_sub hC (.cons (t := 0) rfl (.cons (t := 3) rfl (.cons (t := 5) rfl (.cons (t := 6) rfl (.cons (t := 28) rfl (.cons (t := 29) rfl .nil)))))) (.cons (t := 0) rfl (.cons (t := 1) rfl (.cons (t := 2) rfl (.cons (t := 3) rfl (.cons (t := 4) rfl (.cons (t := 5) rfl (.cons (t := 6) rfl (.cons (t := 603) rfl .nil)))))))) rfl ?_
  refine tr_cond rfl (fun h29 => ?_) (fun h29 => ?_)
  · (try simp only [Bool.and_eq_true, Bool.or_eq_true, Bool.and_eq_false_iff, Bool.or_eq_false_iff, decide_eq_true_eq, decide_eq_false_iff_not, Bool.not_eq_true', Bool.not_eq_false', List.length_map, ne_eq, Decidable.not_not, Int.not_lt, Int.not_le] at h29)
    obtain rfl : q = 0 := by omega
    refine tr_seq ?_
    refine tr_drawn mixed (fun N5 hN => ?_)
    refine lx (op_move rfl) rfl ?_
    refine lx (op_move rfl) rfl ?_
    first | refine lx (op_nilCheck rfl) rfl ?_ | refine lx (op_nilCheckC rfl) rfl ?_
    refine lx (op_fieldAddr rfl fl73_1 sz70) rfl ?_
    refine lx (op_aindex rfl rfl ar70 sz38 (show (0 : Int) = ((0 : Nat) : Int) from rfl) (by decide)) rfl ?_
    refine lx (op_bload_one (m := 0) rfl rfl ag38 rfl) rfl ?_
    first | refine lx (op_len rfl el38) rfl ?_ | refine lx (op_len_row rfl el38) rfl ?_ | refine lx (op_len_mv rfl el38) rfl ?_ | refine lx (op_len_nil rfl el38) rfl ?_
    refine lx (op_rem rfl rfl rfl) rfl ?_
    refine lx (op_add rfl rfl (add97 _ (by omega))) rfl ?_
    refine lx (op_convert rfl us3 ik5) rfl ?_
    refine lx (op_fieldAddr rfl fl65_2 sz5) rfl ?_
    refine lx (op_bload_one (m := 603) rfl rfl ag5 rfl) rfl ?_
    refine lx (op_buildSlice (f := byP) (xs := [IntKind.u8.wrap (97 + (a.s.length : Int).tmod 26), p]) (l := [(0, (Go.Operand.tmp 40)), (1, (Go.Operand.tmp 42))]) ze5 rfl rfl (by decide) el25 sz5 byP_len (.cons rfl (.one (by (first | exact One.eq rfl | exact One.mv _ _ _ _ _ | exact One.cl _ _ _ | exact One.map _ | exact One.sl _ _ _ | exact One.row _ _ _ _ | exact One.msl _ _ _ _ | exact One.ptr _ _ | exact One.b _ | exact One.cells _))) (.cons rfl (.one (by (first | exact One.eq rfl | exact One.mv _ _ _ _ _ | exact One.cl _ _ _ | exact One.map _ | exact One.sl _ _ _ | exact One.row _ _ _ _ | exact One.msl _ _ _ _ | exact One.ptr _ _ | exact One.b _ | exact One.cells _))) .nil)) rfl (by decide)) rfl ?_
    refine lx (op_bytes_str rfl (elem_of el25) st9 ik5) rfl ?_
    refine lx (op_assign rfl) rfl ?_
    refine lx_end ⟨by kernel_rfl, ?_⟩
    refine pe_then_normal ?_
    refine tr_sub hC (.cons (t := 0) rfl (.cons (t := 5) rfl (.cons (t := 7) rfl .nil))) (.cons (t := 0) rfl (.cons (t := 1) rfl (.cons (t := 2) rfl (.cons (t := 3) rfl (.cons (t := 4) rfl (.cons (t := 5) rfl (.cons (t := 6) rfl .nil))))))) rfl ?_
    refine tr_seq ?_
    refine tr_region (fun N6 hN => ?_)
    refine lx (op_move rfl) rfl ?_
    refine lx (op_move rfl) rfl ?_
    first | refine lx (op_nilCheck rfl) rfl ?_ | refine lx (op_nilCheckC rfl) rfl ?_
    refine lx (op_fieldAddr rfl fl73_0 sz69) rfl ?_
    refine lx (op_aindex rfl rfl ar69 sz46 (show (0 : Int) = ((0 : Nat) : Int) from rfl) (by decide)) rfl ?_
    first | refine lx (op_bload (m := 0) rfl rfl ag46 sz46) rfl ?_ | refine lx (op_bload_part (m := 0) (qs := [_, _, _, _, _]) rfl rfl ag46 sz46 rfl rfl) rfl ?_
    refine lx (op_move rfl) rfl ?_
    refine lx (op_str_bytes rfl st9 (elem_of el25) ik5 (by rw [strB_len]; show 2 ≤ 4000000; decide)) rfl ?_
    first | refine lx (op_call (l := [(Go.Operand.tmp 51), (Go.Operand.tmp 53)]) (Send_ok a.e (byL (dataS a p)) (by rw [byL_len, data_size]; decide)) (.cons rfl (.cons rfl .nil)) fn17) rfl ?_ | refine lx (op_call (l := [(Go.Operand.tmp 51), (Go.Operand.tmp 53)]) (Send_ok a.e (byL (dataS a p)) (by rw [byL_len, data_size]; decide)) (.ent rfl (by repeat (first | exact Ents.nil | refine Ents.cons ?_ ?_ | refine Ent.tup ?_ | refine Ent.agg ?_ | exact Ent.row _ _ _ _ | exact Ent.nil _ _ | exact Ent.func _ | exact Ent.refl _ | exact Ent.of_eq rfl | refine Ent.cells ?_)) (.ent rfl (by repeat (first | exact Ents.nil | refine Ents.cons ?_ ?_ | refine Ent.tup ?_ | refine Ent.agg ?_ | exact Ent.row _ _ _ _ | exact Ent.nil _ _ | exact Ent.func _ | exact Ent.refl _ | exact Ent.of_eq rfl | refine Ent.cells ?_)) .nil)) fn17) rfl ?_
    refine lx (op_move rfl) rfl ?_
    refine lx (op_extract rfl rfl) rfl ?_
    refine lx (op_extract rfl rfl) rfl ?_
    refine lxn (op_alloc (m := 8) (k := 8) (ps := [eqP (.int .i64 0), eqP (.int .i64 0), eqP (.slice none 0 0), eqP (.int .i64 0), eqP (.slice none 0 0)]) ze46 rfl rfl (by first | exact hC.low _ (by decide) | rfl)) rfl ?_
    refine lxr (op_store_all (m := 8) rfl rfl rfl (.agg rfl) sz46 rfl) rfl ?_
    refine lx (op_assign rfl) rfl ?_
    refine lx_end ⟨by kernel_rfl, ?_⟩
    refine pe_then_normal ?_
    refine tr_sub hC (.cons (t := 0) rfl (.cons (t := 5) rfl (.cons (t := 7) rfl (.cons (t := 8) rfl (.cons (t := 9) rfl .nil))))) (.cons (t := 0) rfl (.cons (t := 1) rfl (.cons (t := 2) rfl (.cons (t := 3) rfl (.cons (t := 4) rfl (.cons (t := 5) rfl (.cons (t := 6) rfl (.cons (t := 8) rfl .nil)))))))) rfl ?_
    refine tr_seq ?_
    refine tr_seq ?_
    refine tr_region (fun N7 hN => ?_)
    refine lx (op_move rfl) rfl ?_
    refine lx (op_eql rfl rfl) rfl ?_
    refine lx_end ⟨by kernel_rfl, ?_⟩
    refine pe_then_normal ?_
    refine tr_sub hC (.cons (t := 0) rfl (.cons (t := 5) rfl (.cons (t := 7) rfl (.cons (t := 8) rfl (.cons (t := 9) rfl (.cons (t := 58) rfl .nil)))))) (.cons (t := 0) rfl (.cons (t := 1) rfl (.cons (t := 2) rfl (.cons (t := 3) rfl (.cons (t := 4) rfl (.cons (t := 5) rfl (.cons (t := 6) rfl (.cons (t := 8) rfl .nil)))))))) rfl ?_
    refine tr_cond rfl (fun h58 => ?_) (fun h58 => ?_)
    · (try simp only [Bool.and_eq_true, Bool.or_eq_true, Bool.and_eq_false_iff, Bool.or_eq_false_iff, decide_eq_true_eq, decide_eq_false_iff_not, Bool.not_eq_true', Bool.not_eq_false', List.length_map, ne_eq, Decidable.not_not, Int.not_lt, Int.not_le] at h58)
      have hst := step_0t (b := b) h58
      refine tr_seq ?_
      refine tr_drawn mixed (fun N8 hN => ?_)
      refine lx (op_move rfl) rfl ?_
      refine lx (op_move rfl) rfl ?_
      refine lx (op_bload (m := 8) rfl rfl ag46 sz46) rfl ?_
      first | refine lx (op_nilCheck rfl) rfl ?_ | refine lx (op_nilCheckC rfl) rfl ?_
      refine lx (op_fieldAddr rfl fl73_0 sz69) rfl ?_
      refine lx (op_aindex rfl rfl ar69 sz46 (show (0 : Int) = ((0 : Nat) : Int) from rfl) (by decide)) rfl ?_
      first | refine lxr (op_store_all (m := 0) rfl rfl rfl (.agg rfl) sz46 rfl) rfl ?_ | refine lxr (op_store (m := 0) rfl rfl rfl (.agg rfl) sz46 rfl rfl rfl) rfl ?_
      refine lx_end ⟨by kernel_rfl, ?_⟩
      refine pe_then_normal ?_
      refine tr_sub hC (.cons (t := 0) rfl (.cons (t := 5) rfl (.cons (t := 7) rfl (.cons (t := 9) rfl .nil)))) (.cons (t := 0) rfl (.cons (t := 1) rfl (.cons (t := 2) rfl (.cons (t := 3) rfl (.cons (t := 4) rfl (.cons (t := 5) rfl (.cons (t := 6) rfl .nil))))))) rfl ?_
      refine tr_drawn mixed (fun N9 hN => ?_)
      refine lx (op_move rfl) rfl ?_
      refine lx (op_move rfl) rfl ?_
      refine lx (op_move rfl) rfl ?_
      refine lx (op_move rfl) rfl ?_
      first | refine lx (op_nilCheck rfl) rfl ?_ | refine lx (op_nilCheckC rfl) rfl ?_
      refine lx (op_fieldAddr rfl fl73_1 sz70) rfl ?_
      refine lx (op_aindex rfl rfl ar70 sz38 (show (0 : Int) = ((0 : Nat) : Int) from rfl) (by decide)) rfl ?_
      refine lx (op_bload_one (m := 0) rfl rfl ag38 rfl) rfl ?_
      refine lx (op_move rfl) rfl ?_
      refine lx (op_buildSlice (f := stP) (xs := [(dataS a p)]) (l := [(0, (Go.Operand.tmp 73))]) ze9 rfl rfl (by decide) el38 sz9 stP_len (.cons rfl (.one (by (first | exact One.eq rfl | exact One.mv _ _ _ _ _ | exact One.cl _ _ _ | exact One.map _ | exact One.sl _ _ _ | exact One.row _ _ _ _ | exact One.msl _ _ _ _ | exact One.ptr _ _ | exact One.b _ | exact One.cells _))) .nil) rfl (by decide)) rfl ?_
      refine lxr (op_append (m := 1) (m' := 1) (kk := 75) rfl rfl rfl (.inl rfl) el38 ze9 sz9 by9 rfl stP_len (by rw [List.length_singleton]; omega) (by rw [List.length_singleton]; omega)) rfl ?_
      first | refine lx (op_nilCheck rfl) rfl ?_ | refine lx (op_nilCheckC rfl) rfl ?_
      refine lx (op_fieldAddr rfl fl73_1 sz70) rfl ?_
      refine lx (op_aindex rfl rfl ar70 sz38 (show (0 : Int) = ((0 : Nat) : Int) from rfl) (by decide)) rfl ?_
      refine lxr (op_store_one (m := 0) rfl rfl rfl (by (first | exact One.eq rfl | exact One.mv _ _ _ _ _ | exact One.cl _ _ _ | exact One.map _ | exact One.sl _ _ _ | exact One.row _ _ _ _ | exact One.msl _ _ _ _ | exact One.ptr _ _ | exact One.b _ | exact One.cells _)) sz38 rfl) rfl ?_
      refine lx_end ⟨by kernel_rfl, ?_⟩
      refine pe_then_normal ?_
      refine tr_sub hC (.cons (t := 0) rfl (.cons (t := 5) rfl (.cons (t := 9) rfl .nil))) (.cons (t := 0) rfl (.cons (t := 2) rfl (.cons (t := 3) rfl (.cons (t := 4) rfl (.cons (t := 5) rfl (.cons (t := 6) rfl (.cons (t := 1) rfl .nil))))))) rfl ?_
      refine tr_seq ?_
      refine tr_drawn mixed (fun N10 hN => ?_)
      refine lx (op_move rfl) rfl ?_
      refine lx (op_eql rfl rfl) rfl ?_
      refine lx (op_move rfl) rfl ?_
      refine lxs rfl rfl rfl guard_eq (.cons (t := 9) rfl (fun _ => Ent.refl _) .nil) (op_move rfl) rfl ?_
      refine lxs rfl rfl rfl guard_eq (.cons (t := 82) rfl (fun h => entW h) .nil) (op_eql rfl rfl) rfl ?_
      refine lxs rfl rfl rfl guard_eq (.cons (t := 83) rfl (fun h => entW h) .nil) (op_move rfl) rfl ?_
      refine lxs rfl rfl rfl guard_w (.cons (t := 0) rfl (fun _ => Ent.refl _) .nil) (op_move rfl) rfl ?_
      refine lxs rfl rfl rfl guard_w (.cons (t := 5) rfl (fun _ => Ent.refl _) .nil) (op_move rfl) rfl ?_
      first | refine lxs rfl rfl rfl guard_w (.cons (t := 85) rfl (fun h => entW h) .nil) (op_nilCheck rfl) rfl ?_ | refine lxs rfl rfl rfl guard_w (.cons (t := 85) rfl (fun h => entW h) .nil) (op_nilCheckC rfl) rfl ?_
      refine lxs rfl rfl rfl guard_w (.cons (t := 87) rfl (fun h => entW h) .nil) (op_fieldAddr rfl fl73_0 sz69) rfl ?_
      refine lxs rfl rfl rfl guard_w (.cons (t := 86) rfl (fun h => entW h) (.cons (t := 88) rfl (fun h => entW h) .nil)) (op_aindex rfl rfl ar69 sz46 (show (0 : Int) = ((0 : Nat) : Int) from rfl) (by decide)) rfl ?_
      refine lxs rfl rfl rfl guard_w (.cons (t := 89) rfl (fun h => entW h) .nil) (op_fieldAddr rfl fl46_2 sz43) rfl ?_
      refine lxs rfl rfl rfl guard_w (.cons (t := 90) rfl (fun h => entW h) .nil) (op_bload_one (m := 0) rfl rfl ag43 rfl) rfl ?_
      first | refine lxs rfl rfl rfl guard_w (.cons (t := 91) rfl (fun h => entW h) .nil) (op_len rfl el43) rfl ?_ | refine lxs rfl rfl rfl guard_w (.cons (t := 91) rfl (fun h => entW h) .nil) (op_len_row rfl el43) rfl ?_ | refine lxs rfl rfl rfl guard_w (.cons (t := 91) rfl (fun h => entW h) .nil) (op_len_mv rfl el43) rfl ?_ | refine lxs rfl rfl rfl guard_w (.cons (t := 91) rfl (fun h => entW h) .nil) (op_len_nil rfl el43) rfl ?_
      refine lxs rfl rfl rfl guard_w (.cons (t := 0) rfl (fun _ => Ent.refl _) .nil) (op_move rfl) rfl ?_
      refine lxs rfl rfl rfl guard_w (.cons (t := 5) rfl (fun _ => Ent.refl _) .nil) (op_move rfl) rfl ?_
      first | refine lxs rfl rfl rfl guard_w (.cons (t := 93) rfl (fun h => entW h) .nil) (op_nilCheck rfl) rfl ?_ | refine lxs rfl rfl rfl guard_w (.cons (t := 93) rfl (fun h => entW h) .nil) (op_nilCheckC rfl) rfl ?_
      refine lxs rfl rfl rfl guard_w (.cons (t := 95) rfl (fun h => entW h) .nil) (op_fieldAddr rfl fl73_0 sz69) rfl ?_
      refine lxs rfl rfl rfl guard_w (.cons (t := 94) rfl (fun h => entW h) (.cons (t := 96) rfl (fun h => entW h) .nil)) (op_aindex rfl rfl ar69 sz46 (show (0 : Int) = ((0 : Nat) : Int) from rfl) (by decide)) rfl ?_
      refine lxs rfl rfl rfl guard_w (.cons (t := 97) rfl (fun h => entW h) .nil) (op_fieldAddr rfl fl46_0 sz3) rfl ?_
      refine lxs rfl rfl rfl guard_w (.cons (t := 98) rfl (fun h => entW h) .nil) (op_bload_one (m := 0) rfl rfl ag3 rfl) rfl ?_
      refine lxs rfl rfl rfl guard_w (.cons (t := 92) rfl (fun h => entW h) (.cons (t := 99) rfl (fun h => entW h) .nil)) (op_eql rfl rfl) rfl ?_
      refine lxs rfl rfl rfl guard_eq (.cons (t := 84) rfl (fun h => entW h) (.cons (t := 100) rfl (fun h => entS h) .nil)) (op_pick_and rfl rfl) rfl ?_
      refine lx (op_pick_or rfl rfl) rfl ?_
      refine lx (op_assign rfl) rfl ?_
      refine lx_end ⟨by kernel_rfl, ?_⟩
      refine pe_then_normal ?_
      refine tr_sub hC (.cons (t := 4) rfl .nil) (.cons (t := 0) rfl (.cons (t := 2) rfl (.cons (t := 3) rfl (.cons (t := 4) rfl (.cons (t := 5) rfl (.cons (t := 6) rfl (.cons (t := 1) rfl .nil))))))) rfl ?_
      refine tr_ret ?_
      refine pe_block_ret ?_
      refine pe_then_ret ?_
      refine pe_ownS' [0, 1, 2, 3, 4, 5, 6] rfl hO rfl (.tmp rfl .nil) (.cons (m := 1) rfl (RenR.tail _ _ _) (.cons (m := 2) rfl (RenR.tail _ _ _) (.cons (m := 3) rfl (RenR.tail _ _ _) (.cons (m := 4) rfl (RenR.tail _ _ _) (.cons (m := 5) rfl (RenR.tail _ _ _) (.cons (m := 6) rfl (RenR.tail _ _ _) .nil)))))) rfl rfl rfl ?_
      intro τ ι hs
      refine ⟨?_, ?_⟩
      · exact ent_at (entB (send_t h58))
      · exact (.kept rfl rfl (by rw [hst]; exact blk_ents (.cons (ent_at (Ent.refl _)) (.cons (ent_at (Ent.refl _)) (.cons (ent_at (Ent.refl _)) (.cons (ent_at (Ent.refl _)) (.cons (ent_at (Ent.refl _)) (.cons (ent_at (Ent.refl _)) (.cons (ent_at (Ent.refl _)) (.cons (ent_at (Ent.refl _)) (.cons (ent_at (Ent.refl _)) (.cons (ent_at (Ent.refl _)) (.cons (row_ren (hs 0 _ rfl).1 (hs 0 _ rfl).2) (.cons (row_ren (hs 1 _ rfl).1 (hs 1 _ rfl).2) (.cons (row_ren (hs 2 _ rfl).1 (hs 2 _ rfl).2) (.cons (row_ren (hs 3 _ rfl).1 (hs 3 _ rfl).2) (.cons (row_ren (hs 4 _ rfl).1 (hs 4 _ rfl).2) (.cons (row_ren (hs 5 _ rfl).1 (hs 5 _ rfl).2) .nil))))))))))))))))) (.moved rfl (by rw [hst]; exact fun b o h => h) (.moved rfl (by rw [hst]; exact fun b o h => h) (.moved rfl (by rw [hst]; exact fun b o h => h) (.moved rfl (by rw [hst]; exact fun b o h => h) (.moved rfl (by rw [hst]; exact fun b o h => h) (.moved rfl (by rw [hst]; exact fun b o h => h) .nil)))))))
    · (try simp only [Bool.and_eq_true, Bool.or_eq_true, Bool.and_eq_false_iff, Bool.or_eq_false_iff, decide_eq_true_eq, decide_eq_false_iff_not, Bool.not_eq_true', Bool.not_eq_false', List.length_map, ne_eq, Decidable.not_not, Int.not_lt, Int.not_le] at h58)
      have hst := step_0f (b := b) h58
      refine tr_skip ?_
      refine pe_then_normal ?_
      refine tr_sub hC (.cons (t := 0) rfl (.cons (t := 5) rfl (.cons (t := 9) rfl .nil))) (.cons (t := 0) rfl (.cons (t := 1) rfl (.cons (t := 2) rfl (.cons (t := 3) rfl (.cons (t := 4) rfl (.cons (t := 5) rfl (.cons (t := 6) rfl .nil))))))) rfl ?_
      refine tr_seq ?_
      refine tr_drawn mixed (fun N10 hN => ?_)
      refine lx (op_move rfl) rfl ?_
      refine lx (op_eql rfl rfl) rfl ?_
      refine lx (op_move rfl) rfl ?_
      refine lxs rfl rfl rfl guard_eq (.cons (t := 9) rfl (fun _ => Ent.refl _) .nil) (op_move rfl) rfl ?_
      refine lxs rfl rfl rfl guard_eq (.cons (t := 82) rfl (fun h => entW h) .nil) (op_eql rfl rfl) rfl ?_
      refine lxs rfl rfl rfl guard_eq (.cons (t := 83) rfl (fun h => entW h) .nil) (op_move rfl) rfl ?_
      refine lxs rfl rfl rfl guard_w (.cons (t := 0) rfl (fun _ => Ent.refl _) .nil) (op_move rfl) rfl ?_
      refine lxs rfl rfl rfl guard_w (.cons (t := 5) rfl (fun _ => Ent.refl _) .nil) (op_move rfl) rfl ?_
      first | refine lxs rfl rfl rfl guard_w (.cons (t := 85) rfl (fun h => entW h) .nil) (op_nilCheck rfl) rfl ?_ | refine lxs rfl rfl rfl guard_w (.cons (t := 85) rfl (fun h => entW h) .nil) (op_nilCheckC rfl) rfl ?_
      refine lxs rfl rfl rfl guard_w (.cons (t := 87) rfl (fun h => entW h) .nil) (op_fieldAddr rfl fl73_0 sz69) rfl ?_
      refine lxs rfl rfl rfl guard_w (.cons (t := 86) rfl (fun h => entW h) (.cons (t := 88) rfl (fun h => entW h) .nil)) (op_aindex rfl rfl ar69 sz46 (show (0 : Int) = ((0 : Nat) : Int) from rfl) (by decide)) rfl ?_
      refine lxs rfl rfl rfl guard_w (.cons (t := 89) rfl (fun h => entW h) .nil) (op_fieldAddr rfl fl46_2 sz43) rfl ?_
      refine lxs rfl rfl rfl guard_w (.cons (t := 90) rfl (fun h => entW h) .nil) (op_bload_one (m := 0) rfl rfl ag43 rfl) rfl ?_
      first | refine lxs rfl rfl rfl guard_w (.cons (t := 91) rfl (fun h => entW h) .nil) (op_len rfl el43) rfl ?_ | refine lxs rfl rfl rfl guard_w (.cons (t := 91) rfl (fun h => entW h) .nil) (op_len_row rfl el43) rfl ?_ | refine lxs rfl rfl rfl guard_w (.cons (t := 91) rfl (fun h => entW h) .nil) (op_len_mv rfl el43) rfl ?_ | refine lxs rfl rfl rfl guard_w (.cons (t := 91) rfl (fun h => entW h) .nil) (op_len_nil rfl el43) rfl ?_
      refine lxs rfl rfl rfl guard_w (.cons (t := 0) rfl (fun _ => Ent.refl _) .nil) (op_move rfl) rfl ?_
      refine lxs rfl rfl rfl guard_w (.cons (t := 5) rfl (fun _ => Ent.refl _) .nil) (op_move rfl) rfl ?_
      first | refine lxs rfl rfl rfl guard_w (.cons (t := 93) rfl (fun h => entW h) .nil) (op_nilCheck rfl) rfl ?_ | refine lxs rfl rfl rfl guard_w (.cons (t := 93) rfl (fun h => entW h) .nil) (op_nilCheckC rfl) rfl ?_
      refine lxs rfl rfl rfl guard_w (.cons (t := 95) rfl (fun h => entW h) .nil) (op_fieldAddr rfl fl73_0 sz69) rfl ?_
      refine lxs rfl rfl rfl guard_w (.cons (t := 94) rfl (fun h => entW h) (.cons (t := 96) rfl (fun h => entW h) .nil)) (op_aindex rfl rfl ar69 sz46 (show (0 : Int) = ((0 : Nat) : Int) from rfl) (by decide)) rfl ?_
      refine lxs rfl rfl rfl guard_w (.cons (t := 97) rfl (fun h => entW h) .nil) (op_fieldAddr rfl fl46_0 sz3) rfl ?_
      refine lxs rfl rfl rfl guard_w (.cons (t := 98) rfl (fun h => entW h) .nil) (op_bload_one (m := 0) rfl rfl ag3 rfl) rfl ?_
      refine lxs rfl rfl rfl guard_w (.cons (t := 92) rfl (fun h => entW h) (.cons (t := 99) rfl (fun h => entW h) .nil)) (op_eql rfl rfl) rfl ?_
      refine lxs rfl rfl rfl guard_eq (.cons (t := 84) rfl (fun h => entW h) (.cons (t := 100) rfl (fun h => entS h) .nil)) (op_pick_and rfl rfl) rfl ?_
      refine lx (op_pick_or rfl rfl) rfl ?_
      refine lx (op_assign rfl) rfl ?_
      refine lx_end ⟨by kernel_rfl, ?_⟩
      refine pe_then_normal ?_
      refine tr_sub hC (.cons (t := 4) rfl .nil) (.cons (t := 0) rfl (.cons (t := 1) rfl (.cons (t := 2) rfl (.cons (t := 3) rfl (.cons (t := 4) rfl (.cons (t := 5) rfl (.cons (t := 6) rfl .nil))))))) rfl ?_
      refine tr_ret ?_
      refine pe_block_ret ?_
      refine pe_then_ret ?_
      refine pe_ownS' [0, 1, 2, 3, 4, 5, 6] rfl hO rfl (.tmp rfl .nil) (.cons (m := 1) rfl (RenR.tail _ _ _) (.cons (m := 2) rfl (RenR.tail _ _ _) (.cons (m := 3) rfl (RenR.tail _ _ _) (.cons (m := 4) rfl (RenR.tail _ _ _) (.cons (m := 5) rfl (RenR.tail _ _ _) (.cons (m := 6) rfl (RenR.tail _ _ _) .nil)))))) rfl rfl rfl ?_
      intro τ ι hs
      refine ⟨?_, ?_⟩
      · exact ent_at (entB (send_f hinv hm (by rw [data_size]; decide) h58))
      · exact (.kept rfl rfl (by rw [hst]; exact blk_ents (.cons (ent_at (Ent.refl _)) (.cons (ent_at (Ent.refl _)) (.cons (ent_at (Ent.refl _)) (.cons (ent_at (Ent.refl _)) (.cons (ent_at (Ent.refl _)) (.cons (ent_at (Ent.refl _)) (.cons (ent_at (Ent.refl _)) (.cons (ent_at (Ent.refl _)) (.cons (ent_at (Ent.refl _)) (.cons (ent_at (Ent.refl _)) (.cons (row_ren (hs 0 _ rfl).1 (hs 0 _ rfl).2) (.cons (row_ren (hs 1 _ rfl).1 (hs 1 _ rfl).2) (.cons (row_ren (hs 2 _ rfl).1 (hs 2 _ rfl).2) (.cons (row_ren (hs 3 _ rfl).1 (hs 3 _ rfl).2) (.cons (row_ren (hs 4 _ rfl).1 (hs 4 _ rfl).2) (.cons (row_ren (hs 5 _ rfl).1 (hs 5 _ rfl).2) .nil))))))))))))))))) (.moved rfl (by rw [hst]; exact fun b o h => h) (.moved rfl (by rw [hst]; exact fun b o h => h) (.moved rfl (by rw [hst]; exact fun b o h => h) (.moved rfl (by rw [hst]; exact fun b o h => h) (.moved rfl (by rw [hst]; exact fun b o h => h) (.moved rfl (by rw [hst]; exact fun b o h => h) .nil)))))))
  · (try simp only [Bool.and_eq_true, Bool.or_eq_true, Bool.and_eq_false_iff, Bool.or_eq_false_iff, decide_eq_true_eq, decide_eq_false_iff_not, Bool.not_eq_true', Bool.not_eq_false', List.length_map, ne_eq, Decidable.not_not, Int.not_lt, Int.not_le] at h29)
    refine tr_seq ?_
    refine tr_region (fun N11 hN => ?_)
    refine lx (op_eql rfl rfl) rfl ?_
    refine lx (op_assign rfl) rfl ?_
    refine lx_end ⟨by kernel_rfl, ?_⟩
    refine pe_then_normal ?_
    refine tr_sub hC (.cons (t := 0) rfl (.cons (t := 3) rfl (.cons (t := 5) rfl (.cons (t := 6) rfl (.cons (t := 28) rfl (.cons (t := 103) rfl .nil)))))) (.cons (t := 0) rfl (.cons (t := 1) rfl (.cons (t := 2) rfl (.cons (t := 3) rfl (.cons (t := 4) rfl (.cons (t := 5) rfl (.cons (t := 6) rfl (.cons (t := 603) rfl .nil)))))))) rfl ?_
    refine tr_cond rfl (fun h103 => ?_) (fun h103 => ?_)
    · (try simp only [Bool.and_eq_true, Bool.or_eq_true, Bool.and_eq_false_iff, Bool.or_eq_false_iff, decide_eq_true_eq, decide_eq_false_iff_not, Bool.not_eq_true', Bool.not_eq_false', List.length_map, ne_eq, Decidable.not_not, Int.not_lt, Int.not_le] at h103)
      obtain rfl : q = 1 := by omega
      refine tr_seq ?_
      refine tr_region (fun N12 hN => ?_)
      refine lx (op_move rfl) rfl ?_
      refine lx (op_move rfl) rfl ?_
      first | refine lx (op_nilCheck rfl) rfl ?_ | refine lx (op_nilCheckC rfl) rfl ?_
      refine lx (op_fieldAddr rfl fl73_0 sz69) rfl ?_
      refine lx (op_aindex rfl rfl ar69 sz46 (show (0 : Int) = ((0 : Nat) : Int) from rfl) (by decide)) rfl ?_
      first | refine lx (op_bload (m := 0) rfl rfl ag46 sz46) rfl ?_ | refine lx (op_bload_part (m := 0) (qs := [_, _, _, _, _]) rfl rfl ag46 sz46 rfl rfl) rfl ?_
      first | refine lx (op_call (l := [(Go.Operand.tmp 110)]) (Frames_ok a.e) (.cons rfl .nil) fn24) rfl ?_ | refine lx (op_call (l := [(Go.Operand.tmp 110)]) (Frames_ok a.e) (.ent rfl (by repeat (first | exact Ents.nil | refine Ents.cons ?_ ?_ | refine Ent.tup ?_ | refine Ent.agg ?_ | exact Ent.row _ _ _ _ | exact Ent.nil _ _ | exact Ent.func _ | exact Ent.refl _ | exact Ent.of_eq rfl | refine Ent.cells ?_)) .nil) fn24) rfl ?_
      first | refine lx (op_len rfl el43) rfl ?_ | refine lx (op_len_row rfl el43) rfl ?_ | refine lx (op_len_mv rfl el43) rfl ?_ | refine lx (op_len_nil rfl el43) rfl ?_
      refine lx (op_move rfl) rfl ?_
      refine lx_end ⟨by kernel_rfl, ?_⟩
      refine pe_then_normal ?_
      refine tr_sub hC (.cons (t := 0) rfl (.cons (t := 5) rfl (.cons (t := 111) rfl (.cons (t := 112) rfl (.cons (t := 113) rfl .nil))))) (.cons (t := 0) rfl (.cons (t := 1) rfl (.cons (t := 2) rfl (.cons (t := 3) rfl (.cons (t := 4) rfl (.cons (t := 5) rfl (.cons (t := 6) rfl .nil))))))) rfl ?_
      refine tr_block ?_
      refine tr_loopK (α := {zz : Nat × (List (List Int)) × AL.Id // zz.1 ≤ (framesF a.e).length ∧ zz.2.1 = addN b.n ((framesF a.e).take zz.1)}) (⟨(0, b.n, i6), Nat.zero_le _, rfl⟩) (fun zz => [(113, eqP (.int .i64 (zz.1.1 : Int)))]) (fun zz => [(0, some (i0, blk 73 [eqP (.int .i64 a.e.window), eqP (.int .i64 a.e.base), slP byS 1 a.e.sent, eqP (.int .i64 a.e.got), slP WF.ps 3 a.e.early, eqP (.int .i64 b.e.window), eqP (.int .i64 b.e.base), slP byS 1 b.e.sent, eqP (.int .i64 b.e.got), slP WF.ps 3 b.e.early, rowP i1 stP 1 a.s, rowP i2 stP 1 b.s, rowP i3 stP 1 a.g, rowP i4 stP 1 b.g, rowP i5 byS 1 a.n, rowP zz.1.2.2 byS 1 zz.1.2.1])), (6, some (zz.1.2.2, tail 25 1 (zz.1.2.1.length * 1)))]) (fun zz => (framesF a.e).length - zz.1.1) hC (.cons (t := 0) rfl (.cons (t := 5) rfl (.cons (t := 111) rfl (.cons (t := 112) rfl .nil)))) (.cons (t := 1) rfl (.cons (t := 2) rfl (.cons (t := 3) rfl (.cons (t := 4) rfl (.cons (t := 5) rfl .nil))))) rfl ?_ ?_ (fun zz => ?_)
      · try dsimp only [List.cons_append, List.nil_append]
        first | refine SubF.cons rfl ?_ | (refine SubF.ent rfl ?_ ?_; · repeat (first | exact Ents.nil | refine Ents.cons ?_ ?_ | refine Ent.tup ?_ | refine Ent.agg ?_ | exact Ent.row _ _ _ _ | exact Ent.nil _ _ | exact Ent.func _ | exact Ent.refl _ | exact Ent.of_eq rfl | refine Ent.cells ?_))
        exact SubF.nil
      · try dsimp only [List.cons_append, List.nil_append]
        repeat (first | exact SubL.nil | refine SubL.cons rfl ?_)
      · obtain ⟨⟨j, xs, i⟩, hj, hxs⟩ := zz
        try dsimp only at hj
        try dsimp only at hxs
        dsimp only [List.cons_append, List.nil_append]
        refine tr_seq ?_
        refine tr_region (fun N13 hN => ?_)
        refine lx (op_lss rfl rfl) rfl ?_
        refine lx_end ⟨by kernel_rfl, ?_⟩
        refine pe_then_normal ?_
        refine tr_sub hC (.cons (t := 0) rfl (.cons (t := 5) rfl (.cons (t := 111) rfl (.cons (t := 112) rfl (.cons (t := 113) rfl (.cons (t := 114) rfl .nil)))))) (.cons (t := 0) rfl (.cons (t := 6) rfl (.cons (t := 1) rfl (.cons (t := 2) rfl (.cons (t := 3) rfl (.cons (t := 4) rfl (.cons (t := 5) rfl .nil))))))) rfl ?_
        refine tr_seq ?_
        refine tr_cond rfl (fun h114 => ?_) (fun h114 => ?_)
        · (try simp only [Bool.and_eq_true, Bool.or_eq_true, Bool.and_eq_false_iff, Bool.or_eq_false_iff, decide_eq_true_eq, decide_eq_false_iff_not, Bool.not_eq_true', Bool.not_eq_false', List.length_map, ne_eq, Decidable.not_not, Int.not_lt, Int.not_le] at h114)
          refine tr_skip ?_
          refine pe_then_normal ?_
          refine tr_sub hC (.cons (t := 0) rfl (.cons (t := 5) rfl (.cons (t := 111) rfl (.cons (t := 112) rfl (.cons (t := 113) rfl .nil))))) (.cons (t := 0) rfl (.cons (t := 6) rfl (.cons (t := 1) rfl (.cons (t := 2) rfl (.cons (t := 3) rfl (.cons (t := 4) rfl (.cons (t := 5) rfl .nil))))))) rfl ?_
          refine tr_seq ?_
          refine tr_block ?_
          refine tr_seq ?_
          refine tr_region (fun N14 hN => ?_)
          refine lx (op_index rfl rfl el43 sz25 rfl (List.getElem?_eq_getElem (by omega : j < (framesF a.e).length))) rfl ?_
          first | refine lx (op_load_one rfl ag25 rfl) rfl ?_ | refine lx (op_bload_one (m := 0) rfl rfl ag25 rfl) rfl ?_ | refine lx (op_bload_one (m := 6) rfl rfl ag25 rfl) rfl ?_ | refine lx (op_bload_one (m := 1) rfl rfl ag25 rfl) rfl ?_ | refine lx (op_bload_one (m := 2) rfl rfl ag25 rfl) rfl ?_ | refine lx (op_bload_one (m := 3) rfl rfl ag25 rfl) rfl ?_ | refine lx (op_bload_one (m := 4) rfl rfl ag25 rfl) rfl ?_ | refine lx (op_bload_one (m := 5) rfl rfl ag25 rfl) rfl ?_
          refine lx (op_assign rfl) rfl ?_
          refine lx_end ⟨by kernel_rfl, ?_⟩
          refine pe_then_normal ?_
          refine tr_sub hC (.cons (t := 0) rfl (.cons (t := 5) rfl (.cons (t := 11) rfl (.cons (t := 111) rfl (.cons (t := 112) rfl (.cons (t := 113) rfl .nil)))))) (.cons (t := 0) rfl (.cons (t := 6) rfl (.cons (t := 1) rfl (.cons (t := 2) rfl (.cons (t := 3) rfl (.cons (t := 4) rfl (.cons (t := 5) rfl .nil))))))) rfl ?_
          refine tr_seq ?_
          refine tr_region (fun N15 hN => ?_)
          refine lx (op_move rfl) rfl ?_
          refine lx (op_move rfl) rfl ?_
          refine lx (op_sub rfl rfl (by omega)) rfl ?_
          first | refine lx (op_nilCheck rfl) rfl ?_ | refine lx (op_nilCheckC rfl) rfl ?_
          refine lx (op_fieldAddr rfl fl73_3 sz71) rfl ?_
          refine lx (op_aindex rfl rfl ar71 sz43 (show (1 : Int) - 0 = ((1 : Nat) : Int) from rfl) (by decide)) rfl ?_
          refine lx (op_bload_one (m := 0) rfl rfl ag43 rfl) rfl ?_
          first | refine lx (op_len rfl el43) rfl ?_ | refine lx (op_len_row rfl el43) rfl ?_ | refine lx (op_len_mv rfl el43) rfl ?_ | refine lx (op_len_nil rfl el43) rfl ?_
          refine lx (op_lss rfl rfl) rfl ?_
          refine lx_end ⟨by kernel_rfl, ?_⟩
          refine pe_then_normal ?_
          refine tr_sub hC (.cons (t := 0) rfl (.cons (t := 5) rfl (.cons (t := 11) rfl (.cons (t := 111) rfl (.cons (t := 112) rfl (.cons (t := 113) rfl (.cons (t := 125) rfl .nil))))))) (.cons (t := 0) rfl (.cons (t := 6) rfl (.cons (t := 1) rfl (.cons (t := 2) rfl (.cons (t := 3) rfl (.cons (t := 4) rfl (.cons (t := 5) rfl .nil))))))) rfl ?_
          refine tr_cond rfl (fun h125 => ?_) (fun h125 => ?_)
          · (try simp only [Bool.and_eq_true, Bool.or_eq_true, Bool.and_eq_false_iff, Bool.or_eq_false_iff, decide_eq_true_eq, decide_eq_false_iff_not, Bool.not_eq_true', Bool.not_eq_false', List.length_map, ne_eq, Decidable.not_not, Int.not_lt, Int.not_le] at h125)
            have hxn : addN b.n ((framesF a.e).take (j + 1)) = xs ++ [(framesF a.e)[j]] := by rw [addN_at (by omega), ← hxs, if_pos (by omega)]
            refine tr_drawn mixed (fun N16 hN => ?_)
            refine lx (op_move rfl) rfl ?_
            refine lx (op_move rfl) rfl ?_
            refine lx (op_sub rfl rfl (by omega)) rfl ?_
            refine lx (op_move rfl) rfl ?_
            refine lx (op_move rfl) rfl ?_
            refine lx (op_sub rfl rfl (by omega)) rfl ?_
            first | refine lx (op_nilCheck rfl) rfl ?_ | refine lx (op_nilCheckC rfl) rfl ?_
            refine lx (op_fieldAddr rfl fl73_3 sz71) rfl ?_
            refine lx (op_aindex rfl rfl ar71 sz43 (show (1 : Int) - 0 = ((1 : Nat) : Int) from rfl) (by decide)) rfl ?_
            refine lx (op_bload_one (m := 0) rfl rfl ag43 rfl) rfl ?_
            refine lx (op_move rfl) rfl ?_
            refine lx (op_buildSlice (f := byS) (xs := [(framesF a.e)[j]'(by omega)]) (l := [(0, (Go.Operand.tmp 136))]) ze25 rfl rfl (by decide) el43 sz25 byS_len (.cons rfl (.one (by (first | exact One.eq rfl | exact One.mv _ _ _ _ _ | exact One.cl _ _ _ | exact One.map _ | exact One.sl _ _ _ | exact One.row _ _ _ _ | exact One.msl _ _ _ _ | exact One.ptr _ _ | exact One.b _ | exact One.cells _))) .nil) rfl (by decide)) rfl ?_
            refine lxr (op_append (m := 6) (m' := 6) (kk := 138) rfl rfl rfl (.inl rfl) el43 ze25 sz25 by25 rfl byS_len (by rw [List.length_singleton]; omega) (by rw [List.length_singleton]; omega)) rfl ?_
            first | refine lx (op_nilCheck rfl) rfl ?_ | refine lx (op_nilCheckC rfl) rfl ?_
            refine lx (op_fieldAddr rfl fl73_3 sz71) rfl ?_
            refine lx (op_aindex rfl rfl ar71 sz43 (show (1 : Int) - 0 = ((1 : Nat) : Int) from rfl) (by decide)) rfl ?_
            refine lxr (op_store_one (m := 0) rfl rfl rfl (by (first | exact One.eq rfl | exact One.mv _ _ _ _ _ | exact One.cl _ _ _ | exact One.map _ | exact One.sl _ _ _ | exact One.row _ _ _ _ | exact One.msl _ _ _ _ | exact One.ptr _ _ | exact One.b _ | exact One.cells _)) sz43 rfl) rfl ?_
            refine lx_end ⟨by kernel_rfl, ?_⟩
            refine pe_block_normal ?_
            refine pe_then_normal ?_
            refine tr_sub hC (.cons (t := 0) rfl (.cons (t := 5) rfl (.cons (t := 111) rfl (.cons (t := 112) rfl (.cons (t := 113) rfl .nil))))) (.cons (t := 0) rfl (.cons (t := 1) rfl (.cons (t := 2) rfl (.cons (t := 3) rfl (.cons (t := 4) rfl (.cons (t := 5) rfl (.cons (t := 6) rfl .nil))))))) rfl ?_
            refine tr_region (fun N17 hN => ?_)
            refine lx (op_add rfl rfl (by omega)) rfl ?_
            refine lx (op_move rfl) rfl ?_
            refine lx_end ⟨by kernel_rfl, ?_⟩
            refine pe_round (⟨(j + 1, xs ++ [(framesF a.e)[j]], (N16, 138)), by dsimp only; omega, by dsimp only; exact hxn.symm⟩) (by dsimp only; omega) (pe_st hC ?_ ?_ rfl)
            · try dsimp only [List.cons_append, List.nil_append]
              first | refine SubF.cons rfl ?_ | (refine SubF.ent rfl ?_ ?_; · repeat (first | exact Ents.nil | refine Ents.cons ?_ ?_ | refine Ent.tup ?_ | refine Ent.agg ?_ | exact Ent.row _ _ _ _ | exact Ent.nil _ _ | exact Ent.func _ | exact Ent.refl _ | exact Ent.of_eq rfl | refine Ent.cells ?_))
              first | refine SubF.cons rfl ?_ | (refine SubF.ent rfl ?_ ?_; · repeat (first | exact Ents.nil | refine Ents.cons ?_ ?_ | refine Ent.tup ?_ | refine Ent.agg ?_ | exact Ent.row _ _ _ _ | exact Ent.nil _ _ | exact Ent.func _ | exact Ent.refl _ | exact Ent.of_eq rfl | refine Ent.cells ?_))
              first | refine SubF.cons rfl ?_ | (refine SubF.ent rfl ?_ ?_; · repeat (first | exact Ents.nil | refine Ents.cons ?_ ?_ | refine Ent.tup ?_ | refine Ent.agg ?_ | exact Ent.row _ _ _ _ | exact Ent.nil _ _ | exact Ent.func _ | exact Ent.refl _ | exact Ent.of_eq rfl | refine Ent.cells ?_))
              first | refine SubF.cons rfl ?_ | (refine SubF.ent rfl ?_ ?_; · repeat (first | exact Ents.nil | refine Ents.cons ?_ ?_ | refine Ent.tup ?_ | refine Ent.agg ?_ | exact Ent.row _ _ _ _ | exact Ent.nil _ _ | exact Ent.func _ | exact Ent.refl _ | exact Ent.of_eq rfl | refine Ent.cells ?_))
              first | refine SubF.cons rfl ?_ | (refine SubF.ent rfl ?_ ?_; · repeat (first | exact Ents.nil | refine Ents.cons ?_ ?_ | refine Ent.tup ?_ | refine Ent.agg ?_ | exact Ent.row _ _ _ _ | exact Ent.nil _ _ | exact Ent.func _ | exact Ent.refl _ | exact Ent.of_eq rfl | refine Ent.cells ?_))
              exact SubF.nil
            · try dsimp only [List.cons_append, List.nil_append]
              repeat (first | exact SubL.nil | refine SubL.cons rfl ?_)
          · (try simp only [Bool.and_eq_true, Bool.or_eq_true, Bool.and_eq_false_iff, Bool.or_eq_false_iff, decide_eq_true_eq, decide_eq_false_iff_not, Bool.not_eq_true', Bool.not_eq_false', List.length_map, ne_eq, Decidable.not_not, Int.not_lt, Int.not_le] at h125)
            have hxn : addN b.n ((framesF a.e).take (j + 1)) = xs := by rw [addN_at (by omega), ← hxs, if_neg (by omega)]
            refine tr_skip ?_
            refine pe_block_normal ?_
            refine pe_then_normal ?_
            refine tr_sub hC (.cons (t := 0) rfl (.cons (t := 5) rfl (.cons (t := 111) rfl (.cons (t := 112) rfl (.cons (t := 113) rfl .nil))))) (.cons (t := 0) rfl (.cons (t := 6) rfl (.cons (t := 1) rfl (.cons (t := 2) rfl (.cons (t := 3) rfl (.cons (t := 4) rfl (.cons (t := 5) rfl .nil))))))) rfl ?_
            refine tr_region (fun N17 hN => ?_)
            refine lx (op_add rfl rfl (by omega)) rfl ?_
            refine lx (op_move rfl) rfl ?_
            refine lx_end ⟨by kernel_rfl, ?_⟩
            refine pe_round (⟨(j + 1, xs, i), by dsimp only; omega, by dsimp only; exact hxn.symm⟩) (by dsimp only; omega) (pe_st hC ?_ ?_ rfl)
            · try dsimp only [List.cons_append, List.nil_append]
              first | refine SubF.cons rfl ?_ | (refine SubF.ent rfl ?_ ?_; · repeat (first | exact Ents.nil | refine Ents.cons ?_ ?_ | refine Ent.tup ?_ | refine Ent.agg ?_ | exact Ent.row _ _ _ _ | exact Ent.nil _ _ | exact Ent.func _ | exact Ent.refl _ | exact Ent.of_eq rfl | refine Ent.cells ?_))
              first | refine SubF.cons rfl ?_ | (refine SubF.ent rfl ?_ ?_; · repeat (first | exact Ents.nil | refine Ents.cons ?_ ?_ | refine Ent.tup ?_ | refine Ent.agg ?_ | exact Ent.row _ _ _ _ | exact Ent.nil _ _ | exact Ent.func _ | exact Ent.refl _ | exact Ent.of_eq rfl | refine Ent.cells ?_))
              first | refine SubF.cons rfl ?_ | (refine SubF.ent rfl ?_ ?_; · repeat (first | exact Ents.nil | refine Ents.cons ?_ ?_ | refine Ent.tup ?_ | refine Ent.agg ?_ | exact Ent.row _ _ _ _ | exact Ent.nil _ _ | exact Ent.func _ | exact Ent.refl _ | exact Ent.of_eq rfl | refine Ent.cells ?_))
              first | refine SubF.cons rfl ?_ | (refine SubF.ent rfl ?_ ?_; · repeat (first | exact Ents.nil | refine Ents.cons ?_ ?_ | refine Ent.tup ?_ | refine Ent.agg ?_ | exact Ent.row _ _ _ _ | exact Ent.nil _ _ | exact Ent.func _ | exact Ent.refl _ | exact Ent.of_eq rfl | refine Ent.cells ?_))
              first | refine SubF.cons rfl ?_ | (refine SubF.ent rfl ?_ ?_; · repeat (first | exact Ents.nil | refine Ents.cons ?_ ?_ | refine Ent.tup ?_ | refine Ent.agg ?_ | exact Ent.row _ _ _ _ | exact Ent.nil _ _ | exact Ent.func _ | exact Ent.refl _ | exact Ent.of_eq rfl | refine Ent.cells ?_))
              exact SubF.nil
            · try dsimp only [List.cons_append, List.nil_append]
              repeat (first | exact SubL.nil | refine SubL.cons rfl ?_)
        · (try simp only [Bool.and_eq_true, Bool.or_eq_true, Bool.and_eq_false_iff, Bool.or_eq_false_iff, decide_eq_true_eq, decide_eq_false_iff_not, Bool.not_eq_true', Bool.not_eq_false', List.length_map, ne_eq, Decidable.not_not, Int.not_lt, Int.not_le] at h114)
          have hst : stepF a b 1 p = (a, { b with n := xs }) := by rw [hxs, List.take_of_length_le (by omega)]; rfl
          refine tr_exit ?_
          refine pe_then_exit ?_
          refine pe_then_exit ?_
          refine pe_block_eq ?_
          refine pe_block_normal ?_
          refine pe_then_normal ?_
          refine tr_sub hC .nil (.cons (t := 0) rfl (.cons (t := 6) rfl (.cons (t := 1) rfl (.cons (t := 2) rfl (.cons (t := 3) rfl (.cons (t := 4) rfl (.cons (t := 5) rfl .nil))))))) rfl ?_
          refine tr_seq ?_
          refine tr_region (fun N31 hN => ?_)
          refine lx (op_assign rfl) rfl ?_
          refine lx_end ⟨by kernel_rfl, ?_⟩
          refine pe_then_normal ?_
          refine tr_sub hC (.cons (t := 4) rfl .nil) (.cons (t := 0) rfl (.cons (t := 6) rfl (.cons (t := 1) rfl (.cons (t := 2) rfl (.cons (t := 3) rfl (.cons (t := 4) rfl (.cons (t := 5) rfl .nil))))))) rfl ?_
          refine tr_ret ?_
          refine pe_ownS' [0, 1, 2, 3, 4, 5, 6] rfl hO rfl (.tmp rfl .nil) (.cons (m := 1) rfl (RenR.tail _ _ _) (.cons (m := 2) rfl (RenR.tail _ _ _) (.cons (m := 3) rfl (RenR.tail _ _ _) (.cons (m := 4) rfl (RenR.tail _ _ _) (.cons (m := 5) rfl (RenR.tail _ _ _) (.cons (m := 6) rfl (RenR.tail _ _ _) .nil)))))) rfl rfl rfl ?_
          intro τ ι hs
          refine ⟨?_, ?_⟩
          · exact fun v h => h
          · exact (.kept rfl rfl (by rw [hst]; exact blk_ents (.cons (ent_at (Ent.refl _)) (.cons (ent_at (Ent.refl _)) (.cons (ent_at (Ent.refl _)) (.cons (ent_at (Ent.refl _)) (.cons (ent_at (Ent.refl _)) (.cons (ent_at (Ent.refl _)) (.cons (ent_at (Ent.refl _)) (.cons (ent_at (Ent.refl _)) (.cons (ent_at (Ent.refl _)) (.cons (ent_at (Ent.refl _)) (.cons (row_ren (hs 0 _ rfl).1 (hs 0 _ rfl).2) (.cons (row_ren (hs 1 _ rfl).1 (hs 1 _ rfl).2) (.cons (row_ren (hs 2 _ rfl).1 (hs 2 _ rfl).2) (.cons (row_ren (hs 3 _ rfl).1 (hs 3 _ rfl).2) (.cons (row_ren (hs 4 _ rfl).1 (hs 4 _ rfl).2) (.cons (row_ren (hs 5 _ rfl).1 (hs 5 _ rfl).2) .nil))))))))))))))))) (.moved rfl (by rw [hst]; exact fun b o h => h) (.moved rfl (by rw [hst]; exact fun b o h => h) (.moved rfl (by rw [hst]; exact fun b o h => h) (.moved rfl (by rw [hst]; exact fun b o h => h) (.moved rfl (by rw [hst]; exact fun b o h => h) (.moved rfl (by rw [hst]; exact fun b o h => h) .nil)))))))
    · (try simp only [Bool.and_eq_true, Bool.or_eq_true, Bool.and_eq_false_iff, Bool.or_eq_false_iff, decide_eq_true_eq, decide_eq_false_iff_not, Bool.not_eq_true', Bool.not_eq_false', List.length_map, ne_eq, Decidable.not_not, Int.not_lt, Int.not_le] at h103)
      refine tr_seq ?_
      refine tr_seq ?_
      refine tr_region (fun N18 hN => ?_)
      refine lx (op_eql rfl rfl) rfl ?_
      refine lx (op_assign rfl) rfl ?_
      refine lx_end ⟨by kernel_rfl, ?_⟩
      refine pe_then_normal ?_
      refine tr_sub hC (.cons (t := 0) rfl (.cons (t := 3) rfl (.cons (t := 5) rfl (.cons (t := 6) rfl (.cons (t := 28) rfl (.cons (t := 143) rfl .nil)))))) (.cons (t := 0) rfl (.cons (t := 1) rfl (.cons (t := 2) rfl (.cons (t := 3) rfl (.cons (t := 4) rfl (.cons (t := 5) rfl (.cons (t := 6) rfl (.cons (t := 603) rfl .nil)))))))) rfl ?_
      refine tr_cond2 rfl (fun h143 => ?_) (fun h143 => ?_)
      · (try simp only [Bool.and_eq_true, Bool.or_eq_true, Bool.and_eq_false_iff, Bool.or_eq_false_iff, decide_eq_true_eq, decide_eq_false_iff_not, Bool.not_eq_true', Bool.not_eq_false', List.length_map, ne_eq, Decidable.not_not, Int.not_lt, Int.not_le] at h143)
        obtain rfl : q = 2 := by omega
        refine tr_skip ?_
        refine pe_then_normal ?_
        refine tr_sub hC (.cons (t := 0) rfl (.cons (t := 3) rfl (.cons (t := 5) rfl (.cons (t := 6) rfl (.cons (t := 28) rfl (.cons (t := 143) rfl .nil)))))) (.cons (t := 0) rfl (.cons (t := 1) rfl (.cons (t := 2) rfl (.cons (t := 3) rfl (.cons (t := 4) rfl (.cons (t := 5) rfl (.cons (t := 6) rfl (.cons (t := 603) rfl .nil)))))))) rfl ?_
        refine tr_cond_t rfl ?_
        refine tr_seq ?_
        refine tr_seq ?_
        refine tr_region (fun N20 hN => ?_)
        refine lx (op_move rfl) rfl ?_
        refine lx (op_eql rfl rfl) rfl ?_
        refine lx_end ⟨by kernel_rfl, ?_⟩
        refine pe_then_normal ?_
        refine tr_sub hC (.cons (t := 0) rfl (.cons (t := 3) rfl (.cons (t := 5) rfl (.cons (t := 6) rfl (.cons (t := 147) rfl .nil))))) (.cons (t := 0) rfl (.cons (t := 1) rfl (.cons (t := 2) rfl (.cons (t := 3) rfl (.cons (t := 4) rfl (.cons (t := 5) rfl (.cons (t := 6) rfl (.cons (t := 603) rfl .nil)))))))) rfl ?_
        refine tr_cond rfl (fun h147 => ?_) (fun h147 => ?_)
        · (try simp only [Bool.and_eq_true, Bool.or_eq_true, Bool.and_eq_false_iff, Bool.or_eq_false_iff, decide_eq_true_eq, decide_eq_false_iff_not, Bool.not_eq_true', Bool.not_eq_false', List.length_map, ne_eq, Decidable.not_not, Int.not_lt, Int.not_le] at h147)
          have hst := step_2n (b := b) (p := p) (a := a) (by omega)
          refine tr_seq ?_
          refine tr_region (fun N21 hN => ?_)
          refine lx (op_assign rfl) rfl ?_
          refine lx_end ⟨by kernel_rfl, ?_⟩
          refine pe_then_normal ?_
          refine tr_sub hC (.cons (t := 4) rfl .nil) (.cons (t := 0) rfl (.cons (t := 1) rfl (.cons (t := 2) rfl (.cons (t := 3) rfl (.cons (t := 4) rfl (.cons (t := 5) rfl (.cons (t := 6) rfl .nil))))))) rfl ?_
          refine tr_ret ?_
          refine pe_then_ret ?_
          refine pe_block_ret ?_
          refine pe_then_ret ?_
          refine pe_ownS' [0, 1, 2, 3, 4, 5, 6] rfl hO rfl (.tmp rfl .nil) (.cons (m := 1) rfl (RenR.tail _ _ _) (.cons (m := 2) rfl (RenR.tail _ _ _) (.cons (m := 3) rfl (RenR.tail _ _ _) (.cons (m := 4) rfl (RenR.tail _ _ _) (.cons (m := 5) rfl (RenR.tail _ _ _) (.cons (m := 6) rfl (RenR.tail _ _ _) .nil)))))) rfl rfl rfl ?_
          intro τ ι hs
          refine ⟨?_, ?_⟩
          · exact fun v h => h
          · exact (.kept rfl rfl (by rw [hst]; exact blk_ents (.cons (ent_at (Ent.refl _)) (.cons (ent_at (Ent.refl _)) (.cons (ent_at (Ent.refl _)) (.cons (ent_at (Ent.refl _)) (.cons (ent_at (Ent.refl _)) (.cons (ent_at (Ent.refl _)) (.cons (ent_at (Ent.refl _)) (.cons (ent_at (Ent.refl _)) (.cons (ent_at (Ent.refl _)) (.cons (ent_at (Ent.refl _)) (.cons (row_ren (hs 0 _ rfl).1 (hs 0 _ rfl).2) (.cons (row_ren (hs 1 _ rfl).1 (hs 1 _ rfl).2) (.cons (row_ren (hs 2 _ rfl).1 (hs 2 _ rfl).2) (.cons (row_ren (hs 3 _ rfl).1 (hs 3 _ rfl).2) (.cons (row_ren (hs 4 _ rfl).1 (hs 4 _ rfl).2) (.cons (row_ren (hs 5 _ rfl).1 (hs 5 _ rfl).2) .nil))))))))))))))))) (.moved rfl (by rw [hst]; exact fun b o h => h) (.moved rfl (by rw [hst]; exact fun b o h => h) (.moved rfl (by rw [hst]; exact fun b o h => h) (.moved rfl (by rw [hst]; exact fun b o h => h) (.moved rfl (by rw [hst]; exact fun b o h => h) (.moved rfl (by rw [hst]; exact fun b o h => h) .nil)))))))
        · (try simp only [Bool.and_eq_true, Bool.or_eq_true, Bool.and_eq_false_iff, Bool.or_eq_false_iff, decide_eq_true_eq, decide_eq_false_iff_not, Bool.not_eq_true', Bool.not_eq_false', List.length_map, ne_eq, Decidable.not_not, Int.not_lt, Int.not_le] at h147)
          have h0 : a.n.length ≠ 0 := by omega
          have hpl := (pick_lt (p := p) h0 hp.1).2
          have hst := step_2 (b := b) (p := p) h0
          refine tr_skip ?_
          refine pe_then_normal ?_
          refine tr_sub hC (.cons (t := 0) rfl (.cons (t := 3) rfl (.cons (t := 5) rfl (.cons (t := 6) rfl .nil)))) (.cons (t := 0) rfl (.cons (t := 1) rfl (.cons (t := 2) rfl (.cons (t := 3) rfl (.cons (t := 4) rfl (.cons (t := 5) rfl (.cons (t := 6) rfl (.cons (t := 603) rfl .nil)))))))) rfl ?_
          refine tr_seq ?_
          refine tr_region (fun N22 hN => ?_)
          refine lx (op_fieldAddr rfl fl65_2 sz5) rfl ?_
          refine lx (op_bload_one (m := 603) rfl rfl ag5 rfl) rfl ?_
          refine lx (OpJ.ent (op_convert rfl us5 ik3) (show Ent _ (eqP (.int .i64 p)) from (by exact entI (u8_conv hp)))) rfl ?_
          refine lx (op_move rfl) rfl ?_
          refine lx (OpJ.ent (op_rem rfl rfl (decide_eq_false (by omega))) (show Ent _ (eqP (.int .i64 ((pickI a p) : Int))) from (by exact entI (pick_lt h0 hp.1).1))) rfl ?_
          refine lx (op_assign rfl) rfl ?_
          refine lx_end ⟨by kernel_rfl, ?_⟩
          refine pe_then_normal ?_
          refine tr_sub hC (.cons (t := 0) rfl (.cons (t := 3) rfl (.cons (t := 5) rfl (.cons (t := 12) rfl .nil)))) (.cons (t := 0) rfl (.cons (t := 1) rfl (.cons (t := 2) rfl (.cons (t := 3) rfl (.cons (t := 4) rfl (.cons (t := 5) rfl (.cons (t := 6) rfl (.cons (t := 603) rfl .nil)))))))) rfl ?_
          refine tr_seq ?_
          refine tr_region (fun N23 hN => ?_)
          refine lx (op_move rfl) rfl ?_
          refine lx (op_move rfl) rfl ?_
          first | refine lx (op_nilCheck rfl) rfl ?_ | refine lx (op_nilCheckC rfl) rfl ?_
          refine lx (op_fieldAddr rfl fl73_3 sz71) rfl ?_
          refine lx (op_aindex rfl rfl ar71 sz43 (show (0 : Int) = ((0 : Nat) : Int) from rfl) (by decide)) rfl ?_
          refine lx (OpJ.ent (op_bload_one (m := 0) rfl rfl ag43 rfl) (show Ent _ (slP byS 1 a.n) from (by exact Ent.row _ _ _ _))) rfl ?_
          refine lx (op_move rfl) rfl ?_
          refine lx (op_index rfl rfl el43 sz25 rfl (pick_at h0 hp.1)) rfl ?_
          first | refine lx (op_load_one rfl ag25 rfl) rfl ?_ | refine lx (op_bload_one (m := 0) rfl rfl ag25 rfl) rfl ?_ | refine lx (op_bload_one (m := 1) rfl rfl ag25 rfl) rfl ?_ | refine lx (op_bload_one (m := 2) rfl rfl ag25 rfl) rfl ?_ | refine lx (op_bload_one (m := 3) rfl rfl ag25 rfl) rfl ?_ | refine lx (op_bload_one (m := 4) rfl rfl ag25 rfl) rfl ?_ | refine lx (op_bload_one (m := 5) rfl rfl ag25 rfl) rfl ?_ | refine lx (op_bload_one (m := 6) rfl rfl ag25 rfl) rfl ?_ | refine lx (op_bload_one (m := 603) rfl rfl ag25 rfl) rfl ?_
          refine lx (op_assign rfl) rfl ?_
          refine lx_end ⟨by kernel_rfl, ?_⟩
          refine pe_then_normal ?_
          refine tr_sub hC (.cons (t := 0) rfl (.cons (t := 3) rfl (.cons (t := 5) rfl (.cons (t := 12) rfl (.cons (t := 13) rfl .nil))))) (.cons (t := 0) rfl (.cons (t := 1) rfl (.cons (t := 2) rfl (.cons (t := 3) rfl (.cons (t := 4) rfl (.cons (t := 5) rfl (.cons (t := 6) rfl (.cons (t := 603) rfl .nil)))))))) rfl ?_
          refine tr_seq ?_
          refine tr_seq ?_
          refine tr_region (fun N24 hN => ?_)
          refine lx (op_fieldAddr rfl fl65_0 sz5) rfl ?_
          refine lx (op_bload_one (m := 603) rfl rfl ag5 rfl) rfl ?_
          refine lx (op_rem rfl rfl rfl) rfl ?_
          refine lx (op_eql rfl rfl) rfl ?_
          refine lx_end ⟨by kernel_rfl, ?_⟩
          refine pe_then_normal ?_
          refine tr_sub hC (.cons (t := 0) rfl (.cons (t := 5) rfl (.cons (t := 12) rfl (.cons (t := 13) rfl (.cons (t := 165) rfl .nil))))) (.cons (t := 0) rfl (.cons (t := 1) rfl (.cons (t := 2) rfl (.cons (t := 3) rfl (.cons (t := 4) rfl (.cons (t := 5) rfl (.cons (t := 6) rfl .nil))))))) rfl ?_
          refine tr_cond rfl (fun h165 => ?_) (fun h165 => ?_)
          · (try simp only [Bool.and_eq_true, Bool.or_eq_true, Bool.and_eq_false_iff, Bool.or_eq_false_iff, decide_eq_true_eq, decide_eq_false_iff_not, Bool.not_eq_true', Bool.not_eq_false', List.length_map, ne_eq, Decidable.not_not, Int.not_lt, Int.not_le] at h165)
            refine tr_drawn mixed (fun N25 hN => ?_)
            refine lx (op_move rfl) rfl ?_
            refine lx (op_move rfl) rfl ?_
            refine lxn (op_buildEmpty (m' := 168) (kk := 168) (f := byS) el43 sz25 (by first | exact hC.low _ (by decide) | rfl)) rfl ?_
            refine lx (op_move rfl) rfl ?_
            refine lx (op_move rfl) rfl ?_
            first | refine lx (op_nilCheck rfl) rfl ?_ | refine lx (op_nilCheckC rfl) rfl ?_
            refine lx (op_fieldAddr rfl fl73_3 sz71) rfl ?_
            refine lx (op_aindex rfl rfl ar71 sz43 (show (0 : Int) = ((0 : Nat) : Int) from rfl) (by decide)) rfl ?_
            refine lx (OpJ.ent (op_bload_one (m := 0) rfl rfl ag43 rfl) (show Ent _ (slP byS 1 a.n) from (by exact Ent.row _ _ _ _))) rfl ?_
            refine lx (op_move rfl) rfl ?_
            refine lx (op_slice_h rfl rfl el43 sz25 rfl (by have := (pick_lt (a := a) h0 hp.1).2; omega)) rfl ?_
            refine lxr (op_append (m := 168) (m' := 168) (kk := 177) rfl rfl rfl (.inl rfl) el43 ze25 sz25 by25 rfl byS_len (by simp; omega) (by simp; omega)) rfl ?_
            refine lx (op_move rfl) rfl ?_
            refine lx (op_move rfl) rfl ?_
            first | refine lx (op_nilCheck rfl) rfl ?_ | refine lx (op_nilCheckC rfl) rfl ?_
            refine lx (op_fieldAddr rfl fl73_3 sz71) rfl ?_
            refine lx (op_aindex rfl rfl ar71 sz43 (show (0 : Int) = ((0 : Nat) : Int) from rfl) (by decide)) rfl ?_
            refine lx (OpJ.ent (op_bload_one (m := 0) rfl rfl ag43 rfl) (show Ent _ (slP byS 1 a.n) from (by exact Ent.row _ _ _ _))) rfl ?_
            refine lx (op_move rfl) rfl ?_
            refine lx (op_add rfl rfl (by omega)) rfl ?_
            refine lx (op_slice_l rfl rfl el43 sz25 (by omega : ((pickI a p) : Int) + 1 = (((pickI a p) + 1 : Nat) : Int)) (by have := (pick_lt (a := a) h0 hp.1).2; omega)) rfl ?_
            refine lxr (op_append (m := 168) (m' := 168) (kk := 187) rfl rfl rfl (.inl rfl) el43 ze25 sz25 by25 rfl byS_len (by simp; omega) (by simp; omega)) rfl ?_
            first | refine lx (op_nilCheck rfl) rfl ?_ | refine lx (op_nilCheckC rfl) rfl ?_
            refine lx (op_fieldAddr rfl fl73_3 sz71) rfl ?_
            refine lx (op_aindex rfl rfl ar71 sz43 (show (0 : Int) = ((0 : Nat) : Int) from rfl) (by decide)) rfl ?_
            refine lxr (op_store_one (m := 0) rfl rfl rfl (by (first | exact One.eq rfl | exact One.mv _ _ _ _ _ | exact One.cl _ _ _ | exact One.map _ | exact One.sl _ _ _ | exact One.row _ _ _ _ | exact One.msl _ _ _ _ | exact One.ptr _ _ | exact One.b _ | exact One.cells _)) sz43 rfl) rfl ?_
            refine lx_end ⟨by kernel_rfl, ?_⟩
            refine pe_then_normal ?_
            refine tr_sub hC (.cons (t := 0) rfl (.cons (t := 5) rfl (.cons (t := 13) rfl .nil))) (.cons (t := 0) rfl (.cons (t := 1) rfl (.cons (t := 2) rfl (.cons (t := 3) rfl (.cons (t := 4) rfl (.cons (t := 5) rfl (.cons (t := 6) rfl (.cons (t := 168) rfl .nil)))))))) rfl ?_
            refine tr_seq ?_
            refine tr_region (fun N26 hN => ?_)
            refine lx (op_move rfl) rfl ?_
            refine lx (op_move rfl) rfl ?_
            refine lx (op_move rfl) rfl ?_
            first | refine lx_any rfl (op_callG2 (l := [(Go.Operand.tmp 191), (Go.Operand.tmp 192), (Go.Operand.tmp 193)]) (add := [(0, (i0, blk 73 (prP (rstep ⟨a.e, a.s, a.g, cutN a.n (pickI a p)⟩ (pickD a p)) b i1 i2 (N26, 101940) i4 (N25, 187) i6))), (1, (i1, tail 9 1 ((rstep ⟨a.e, a.s, a.g, cutN a.n (pickI a p)⟩ (pickD a p)).s.length * 1))), (2, (i2, tail 9 1 (b.s.length * 1))), (3, ((N26, 101940), tail 9 1 ((rstep ⟨a.e, a.s, a.g, cutN a.n (pickI a p)⟩ (pickD a p)).g.length * 1))), (4, (i4, tail 9 1 (b.g.length * 1))), (168, ((N25, 187), tail 25 1 ((cutN a.n (pickI a p)).length * 1))), (6, (i6, tail 25 1 (b.n.length * 1)))]) (ks := [101940]) (φ := eqP (.bool true)) (.cons (m := 0) rfl (.cons (m := 1) rfl (.cons (m := 2) rfl (.cons (m := 3) rfl (.cons (m := 4) rfl (.cons (m := 168) rfl (.cons (m := 6) rfl .nil))))))) (receive_0 i0 i1 i2 i3 i4 (N25, 187) i6 ⟨a.e, a.s, a.g, cutN a.n (pickI a p)⟩ b (pickD a p) (pick_recv hinv (by omega) h0 hp.1) (show a.g.length ≤ 1000 by have := inv_g hinv; omega)) (.cons rfl (.cons rfl (.cons rfl .nil))) fn29 rfl rfl rfl (.old rfl (.old rfl (.old rfl (.old rfl (.old rfl (.old rfl (.old rfl .nil))))))) rfl) (dOK_spec rfl) ?_ | refine lx_any rfl (op_callG2 (l := [(Go.Operand.tmp 191), (Go.Operand.tmp 192), (Go.Operand.tmp 193)]) (add := [(0, (i0, blk 73 (prP (rstep ⟨a.e, a.s, a.g, cutN a.n (pickI a p)⟩ (pickD a p)) b i1 i2 (N26, 101940) i4 (N25, 187) i6))), (1, (i1, tail 9 1 ((rstep ⟨a.e, a.s, a.g, cutN a.n (pickI a p)⟩ (pickD a p)).s.length * 1))), (2, (i2, tail 9 1 (b.s.length * 1))), (3, ((N26, 101940), tail 9 1 ((rstep ⟨a.e, a.s, a.g, cutN a.n (pickI a p)⟩ (pickD a p)).g.length * 1))), (4, (i4, tail 9 1 (b.g.length * 1))), (168, ((N25, 187), tail 25 1 ((cutN a.n (pickI a p)).length * 1))), (6, (i6, tail 25 1 (b.n.length * 1)))]) (ks := [101940]) (φ := eqP (.bool true)) (.cons (m := 0) rfl (.cons (m := 1) rfl (.cons (m := 2) rfl (.cons (m := 3) rfl (.cons (m := 4) rfl (.cons (m := 168) rfl (.cons (m := 6) rfl .nil))))))) (receive_0 i0 i1 i2 i3 i4 (N25, 187) i6 ⟨a.e, a.s, a.g, cutN a.n (pickI a p)⟩ b (pickD a p) (pick_recv hinv (by omega) h0 hp.1) (show a.g.length ≤ 1000 by have := inv_g hinv; omega)) (.ent rfl (by repeat (first | exact Ents.nil | refine Ents.cons ?_ ?_ | refine Ent.tup ?_ | refine Ent.agg ?_ | exact Ent.row _ _ _ _ | exact Ent.nil _ _ | exact Ent.func _ | exact Ent.refl _ | exact Ent.of_eq rfl | refine Ent.cells ?_)) (.ent rfl (by repeat (first | exact Ents.nil | refine Ents.cons ?_ ?_ | refine Ent.tup ?_ | refine Ent.agg ?_ | exact Ent.row _ _ _ _ | exact Ent.nil _ _ | exact Ent.func _ | exact Ent.refl _ | exact Ent.of_eq rfl | refine Ent.cells ?_)) (.ent rfl (by repeat (first | exact Ents.nil | refine Ents.cons ?_ ?_ | refine Ent.tup ?_ | refine Ent.agg ?_ | exact Ent.row _ _ _ _ | exact Ent.nil _ _ | exact Ent.func _ | exact Ent.refl _ | exact Ent.of_eq rfl | refine Ent.cells ?_)) .nil))) fn29 rfl rfl rfl (.old rfl (.old rfl (.old rfl (.old rfl (.old rfl (.old rfl (.old rfl .nil))))))) rfl) (dOK_spec rfl) ?_
            refine lx (op_assign rfl) rfl ?_
            refine lx_end ⟨by kernel_rfl, ?_⟩
            refine pe_then_normal ?_
            refine tr_sub hC (.cons (t := 4) rfl .nil) (.cons (t := 5) rfl (.cons (t := 0) rfl (.cons (t := 1) rfl (.cons (t := 2) rfl (.cons (t := 3) rfl (.cons (t := 4) rfl (.cons (t := 168) rfl (.cons (t := 6) rfl .nil)))))))) rfl ?_
            refine tr_ret ?_
            refine pe_block_ret ?_
            refine pe_then_ret ?_
            refine pe_ownS' [0, 1, 2, 3, 4, 168, 6] rfl hO rfl (.tmp rfl .nil) (.cons (m := 1) rfl (RenR.tail _ _ _) (.cons (m := 2) rfl (RenR.tail _ _ _) (.cons (m := 3) rfl (RenR.tail _ _ _) (.cons (m := 4) rfl (RenR.tail _ _ _) (.cons (m := 168) rfl (RenR.tail _ _ _) (.cons (m := 6) rfl (RenR.tail _ _ _) .nil)))))) rfl rfl rfl ?_
            intro τ ι hs
            refine ⟨?_, ?_⟩
            · exact fun v h => h
            · exact (.kept rfl rfl (by rw [hst]; exact blk_ents (.cons (ent_at (Ent.refl _)) (.cons (ent_at (Ent.refl _)) (.cons (ent_at (Ent.refl _)) (.cons (ent_at (Ent.refl _)) (.cons (ent_at (Ent.refl _)) (.cons (ent_at (Ent.refl _)) (.cons (ent_at (Ent.refl _)) (.cons (ent_at (Ent.refl _)) (.cons (ent_at (Ent.refl _)) (.cons (ent_at (Ent.refl _)) (.cons (row_ren (hs 0 _ rfl).1 (hs 0 _ rfl).2) (.cons (row_ren (hs 1 _ rfl).1 (hs 1 _ rfl).2) (.cons (row_ren (hs 2 _ rfl).1 (hs 2 _ rfl).2) (.cons (row_ren (hs 3 _ rfl).1 (hs 3 _ rfl).2) (.cons (row_ren (hs 4 _ rfl).1 (hs 4 _ rfl).2) (.cons (row_ren (hs 5 _ rfl).1 (hs 5 _ rfl).2) .nil))))))))))))))))) (.moved rfl (by rw [hst]; exact fun b o h => h) (.moved rfl (by rw [hst]; exact fun b o h => h) (.moved rfl (by rw [hst]; exact fun b o h => h) (.moved rfl (by rw [hst]; exact fun b o h => h) (.moved rfl (by rw [hst]; exact fun b o h => h) (.moved rfl (by rw [hst]; exact fun b o h => h) .nil)))))))
          · (try simp only [Bool.and_eq_true, Bool.or_eq_true, Bool.and_eq_false_iff, Bool.or_eq_false_iff, decide_eq_true_eq, decide_eq_false_iff_not, Bool.not_eq_true', Bool.not_eq_false', List.length_map, ne_eq, Decidable.not_not, Int.not_lt, Int.not_le] at h165)
            omega
      · (try simp only [Bool.and_eq_true, Bool.or_eq_true, Bool.and_eq_false_iff, Bool.or_eq_false_iff, decide_eq_true_eq, decide_eq_false_iff_not, Bool.not_eq_true', Bool.not_eq_false', List.length_map, ne_eq, Decidable.not_not, Int.not_lt, Int.not_le] at h143)
        refine tr_region (fun N19 hN => ?_)
        refine lx (op_eql rfl rfl) rfl ?_
        refine lx (op_assign rfl) rfl ?_
        refine lx_end ⟨by kernel_rfl, ?_⟩
        refine pe_then_normal ?_
        refine tr_sub hC (.cons (t := 0) rfl (.cons (t := 3) rfl (.cons (t := 5) rfl (.cons (t := 6) rfl (.cons (t := 28) rfl (.cons (t := 143) rfl .nil)))))) (.cons (t := 0) rfl (.cons (t := 1) rfl (.cons (t := 2) rfl (.cons (t := 3) rfl (.cons (t := 4) rfl (.cons (t := 5) rfl (.cons (t := 6) rfl (.cons (t := 603) rfl .nil)))))))) rfl ?_
        refine tr_cond rfl (fun h143_2 => ?_) (fun h143_2 => ?_)
        · (try simp only [Bool.and_eq_true, Bool.or_eq_true, Bool.and_eq_false_iff, Bool.or_eq_false_iff, decide_eq_true_eq, decide_eq_false_iff_not, Bool.not_eq_true', Bool.not_eq_false', List.length_map, ne_eq, Decidable.not_not, Int.not_lt, Int.not_le] at h143_2)
          obtain rfl : q = 3 := by omega
          refine tr_seq ?_
          refine tr_seq ?_
          refine tr_region (fun N20 hN => ?_)
          refine lx (op_move rfl) rfl ?_
          refine lx (op_eql rfl rfl) rfl ?_
          refine lx_end ⟨by kernel_rfl, ?_⟩
          refine pe_then_normal ?_
          refine tr_sub hC (.cons (t := 0) rfl (.cons (t := 3) rfl (.cons (t := 5) rfl (.cons (t := 6) rfl (.cons (t := 147) rfl .nil))))) (.cons (t := 0) rfl (.cons (t := 1) rfl (.cons (t := 2) rfl (.cons (t := 3) rfl (.cons (t := 4) rfl (.cons (t := 5) rfl (.cons (t := 6) rfl (.cons (t := 603) rfl .nil)))))))) rfl ?_
          refine tr_cond rfl (fun h147 => ?_) (fun h147 => ?_)
          · (try simp only [Bool.and_eq_true, Bool.or_eq_true, Bool.and_eq_false_iff, Bool.or_eq_false_iff, decide_eq_true_eq, decide_eq_false_iff_not, Bool.not_eq_true', Bool.not_eq_false', List.length_map, ne_eq, Decidable.not_not, Int.not_lt, Int.not_le] at h147)
            have hst := step_3n (b := b) (p := p) (a := a) (by omega)
            refine tr_seq ?_
            refine tr_region (fun N21 hN => ?_)
            refine lx (op_assign rfl) rfl ?_
            refine lx_end ⟨by kernel_rfl, ?_⟩
            refine pe_then_normal ?_
            refine tr_sub hC (.cons (t := 4) rfl .nil) (.cons (t := 0) rfl (.cons (t := 1) rfl (.cons (t := 2) rfl (.cons (t := 3) rfl (.cons (t := 4) rfl (.cons (t := 5) rfl (.cons (t := 6) rfl .nil))))))) rfl ?_
            refine tr_ret ?_
            refine pe_then_ret ?_
            refine pe_block_ret ?_
            refine pe_then_ret ?_
            refine pe_ownS' [0, 1, 2, 3, 4, 5, 6] rfl hO rfl (.tmp rfl .nil) (.cons (m := 1) rfl (RenR.tail _ _ _) (.cons (m := 2) rfl (RenR.tail _ _ _) (.cons (m := 3) rfl (RenR.tail _ _ _) (.cons (m := 4) rfl (RenR.tail _ _ _) (.cons (m := 5) rfl (RenR.tail _ _ _) (.cons (m := 6) rfl (RenR.tail _ _ _) .nil)))))) rfl rfl rfl ?_
            intro τ ι hs
            refine ⟨?_, ?_⟩
            · exact fun v h => h
            · exact (.kept rfl rfl (by rw [hst]; exact blk_ents (.cons (ent_at (Ent.refl _)) (.cons (ent_at (Ent.refl _)) (.cons (ent_at (Ent.refl _)) (.cons (ent_at (Ent.refl _)) (.cons (ent_at (Ent.refl _)) (.cons (ent_at (Ent.refl _)) (.cons (ent_at (Ent.refl _)) (.cons (ent_at (Ent.refl _)) (.cons (ent_at (Ent.refl _)) (.cons (ent_at (Ent.refl _)) (.cons (row_ren (hs 0 _ rfl).1 (hs 0 _ rfl).2) (.cons (row_ren (hs 1 _ rfl).1 (hs 1 _ rfl).2) (.cons (row_ren (hs 2 _ rfl).1 (hs 2 _ rfl).2) (.cons (row_ren (hs 3 _ rfl).1 (hs 3 _ rfl).2) (.cons (row_ren (hs 4 _ rfl).1 (hs 4 _ rfl).2) (.cons (row_ren (hs 5 _ rfl).1 (hs 5 _ rfl).2) .nil))))))))))))))))) (.moved rfl (by rw [hst]; exact fun b o h => h) (.moved rfl (by rw [hst]; exact fun b o h => h) (.moved rfl (by rw [hst]; exact fun b o h => h) (.moved rfl (by rw [hst]; exact fun b o h => h) (.moved rfl (by rw [hst]; exact fun b o h => h) (.moved rfl (by rw [hst]; exact fun b o h => h) .nil)))))))
          · (try simp only [Bool.and_eq_true, Bool.or_eq_true, Bool.and_eq_false_iff, Bool.or_eq_false_iff, decide_eq_true_eq, decide_eq_false_iff_not, Bool.not_eq_true', Bool.not_eq_false', List.length_map, ne_eq, Decidable.not_not, Int.not_lt, Int.not_le] at h147)
            have h0 : a.n.length ≠ 0 := by omega
            have hpl := (pick_lt (p := p) h0 hp.1).2
            have hst := step_3 (b := b) (p := p) h0
            refine tr_skip ?_
            refine pe_then_normal ?_
            refine tr_sub hC (.cons (t := 0) rfl (.cons (t := 3) rfl (.cons (t := 5) rfl (.cons (t := 6) rfl .nil)))) (.cons (t := 0) rfl (.cons (t := 1) rfl (.cons (t := 2) rfl (.cons (t := 3) rfl (.cons (t := 4) rfl (.cons (t := 5) rfl (.cons (t := 6) rfl (.cons (t := 603) rfl .nil)))))))) rfl ?_
            refine tr_seq ?_
            refine tr_region (fun N22 hN => ?_)
            refine lx (op_fieldAddr rfl fl65_2 sz5) rfl ?_
            refine lx (op_bload_one (m := 603) rfl rfl ag5 rfl) rfl ?_
            refine lx (OpJ.ent (op_convert rfl us5 ik3) (show Ent _ (eqP (.int .i64 p)) from (by exact entI (u8_conv hp)))) rfl ?_
            refine lx (op_move rfl) rfl ?_
            refine lx (OpJ.ent (op_rem rfl rfl (decide_eq_false (by omega))) (show Ent _ (eqP (.int .i64 ((pickI a p) : Int))) from (by exact entI (pick_lt h0 hp.1).1))) rfl ?_
            refine lx (op_assign rfl) rfl ?_
            refine lx_end ⟨by kernel_rfl, ?_⟩
            refine pe_then_normal ?_
            refine tr_sub hC (.cons (t := 0) rfl (.cons (t := 3) rfl (.cons (t := 5) rfl (.cons (t := 12) rfl .nil)))) (.cons (t := 0) rfl (.cons (t := 1) rfl (.cons (t := 2) rfl (.cons (t := 3) rfl (.cons (t := 4) rfl (.cons (t := 5) rfl (.cons (t := 6) rfl (.cons (t := 603) rfl .nil)))))))) rfl ?_
            refine tr_seq ?_
            refine tr_region (fun N23 hN => ?_)
            refine lx (op_move rfl) rfl ?_
            refine lx (op_move rfl) rfl ?_
            first | refine lx (op_nilCheck rfl) rfl ?_ | refine lx (op_nilCheckC rfl) rfl ?_
            refine lx (op_fieldAddr rfl fl73_3 sz71) rfl ?_
            refine lx (op_aindex rfl rfl ar71 sz43 (show (0 : Int) = ((0 : Nat) : Int) from rfl) (by decide)) rfl ?_
            refine lx (OpJ.ent (op_bload_one (m := 0) rfl rfl ag43 rfl) (show Ent _ (slP byS 1 a.n) from (by exact Ent.row _ _ _ _))) rfl ?_
            refine lx (op_move rfl) rfl ?_
            refine lx (op_index rfl rfl el43 sz25 rfl (pick_at h0 hp.1)) rfl ?_
            first | refine lx (op_load_one rfl ag25 rfl) rfl ?_ | refine lx (op_bload_one (m := 0) rfl rfl ag25 rfl) rfl ?_ | refine lx (op_bload_one (m := 1) rfl rfl ag25 rfl) rfl ?_ | refine lx (op_bload_one (m := 2) rfl rfl ag25 rfl) rfl ?_ | refine lx (op_bload_one (m := 3) rfl rfl ag25 rfl) rfl ?_ | refine lx (op_bload_one (m := 4) rfl rfl ag25 rfl) rfl ?_ | refine lx (op_bload_one (m := 5) rfl rfl ag25 rfl) rfl ?_ | refine lx (op_bload_one (m := 6) rfl rfl ag25 rfl) rfl ?_ | refine lx (op_bload_one (m := 603) rfl rfl ag25 rfl) rfl ?_
            refine lx (op_assign rfl) rfl ?_
            refine lx_end ⟨by kernel_rfl, ?_⟩
            refine pe_then_normal ?_
            refine tr_sub hC (.cons (t := 0) rfl (.cons (t := 3) rfl (.cons (t := 5) rfl (.cons (t := 12) rfl (.cons (t := 13) rfl .nil))))) (.cons (t := 0) rfl (.cons (t := 1) rfl (.cons (t := 2) rfl (.cons (t := 3) rfl (.cons (t := 4) rfl (.cons (t := 5) rfl (.cons (t := 6) rfl (.cons (t := 603) rfl .nil)))))))) rfl ?_
            refine tr_seq ?_
            refine tr_seq ?_
            refine tr_region (fun N24 hN => ?_)
            refine lx (op_fieldAddr rfl fl65_0 sz5) rfl ?_
            refine lx (op_bload_one (m := 603) rfl rfl ag5 rfl) rfl ?_
            refine lx (op_rem rfl rfl rfl) rfl ?_
            refine lx (op_eql rfl rfl) rfl ?_
            refine lx_end ⟨by kernel_rfl, ?_⟩
            refine pe_then_normal ?_
            refine tr_sub hC (.cons (t := 0) rfl (.cons (t := 5) rfl (.cons (t := 12) rfl (.cons (t := 13) rfl (.cons (t := 165) rfl .nil))))) (.cons (t := 0) rfl (.cons (t := 1) rfl (.cons (t := 2) rfl (.cons (t := 3) rfl (.cons (t := 4) rfl (.cons (t := 5) rfl (.cons (t := 6) rfl .nil))))))) rfl ?_
            refine tr_cond rfl (fun h165 => ?_) (fun h165 => ?_)
            · (try simp only [Bool.and_eq_true, Bool.or_eq_true, Bool.and_eq_false_iff, Bool.or_eq_false_iff, decide_eq_true_eq, decide_eq_false_iff_not, Bool.not_eq_true', Bool.not_eq_false', List.length_map, ne_eq, Decidable.not_not, Int.not_lt, Int.not_le] at h165)
              omega
            · (try simp only [Bool.and_eq_true, Bool.or_eq_true, Bool.and_eq_false_iff, Bool.or_eq_false_iff, decide_eq_true_eq, decide_eq_false_iff_not, Bool.not_eq_true', Bool.not_eq_false', List.length_map, ne_eq, Decidable.not_not, Int.not_lt, Int.not_le] at h165)
              refine tr_skip ?_
              refine pe_then_normal ?_
              refine tr_sub hC (.cons (t := 0) rfl (.cons (t := 5) rfl (.cons (t := 13) rfl .nil))) (.cons (t := 0) rfl (.cons (t := 1) rfl (.cons (t := 2) rfl (.cons (t := 3) rfl (.cons (t := 4) rfl (.cons (t := 5) rfl (.cons (t := 6) rfl .nil))))))) rfl ?_
              refine tr_seq ?_
              refine tr_region (fun N26 hN => ?_)
              refine lx (op_move rfl) rfl ?_
              refine lx (op_move rfl) rfl ?_
              refine lx (op_move rfl) rfl ?_
              first | refine lx_any rfl (op_callG2 (l := [(Go.Operand.tmp 191), (Go.Operand.tmp 192), (Go.Operand.tmp 193)]) (add := [(0, (i0, blk 73 (prP (rstep a (pickD a p)) b i1 i2 (N26, 101940) i4 i5 i6))), (1, (i1, tail 9 1 ((rstep a (pickD a p)).s.length * 1))), (2, (i2, tail 9 1 (b.s.length * 1))), (3, ((N26, 101940), tail 9 1 ((rstep a (pickD a p)).g.length * 1))), (4, (i4, tail 9 1 (b.g.length * 1))), (5, (i5, tail 25 1 (a.n.length * 1))), (6, (i6, tail 25 1 (b.n.length * 1)))]) (ks := [101940]) (φ := eqP (.bool true)) (.cons (m := 0) rfl (.cons (m := 1) rfl (.cons (m := 2) rfl (.cons (m := 3) rfl (.cons (m := 4) rfl (.cons (m := 5) rfl (.cons (m := 6) rfl .nil))))))) (receive_0 i0 i1 i2 i3 i4 i5 i6 a b (pickD a p) (pick_recv hinv (by omega) h0 hp.1) (show a.g.length ≤ 1000 by have := inv_g hinv; omega)) (.cons rfl (.cons rfl (.cons rfl .nil))) fn29 rfl rfl rfl (.old rfl (.old rfl (.old rfl (.old rfl (.old rfl (.old rfl (.old rfl .nil))))))) rfl) (dOK_spec rfl) ?_ | refine lx_any rfl (op_callG2 (l := [(Go.Operand.tmp 191), (Go.Operand.tmp 192), (Go.Operand.tmp 193)]) (add := [(0, (i0, blk 73 (prP (rstep a (pickD a p)) b i1 i2 (N26, 101940) i4 i5 i6))), (1, (i1, tail 9 1 ((rstep a (pickD a p)).s.length * 1))), (2, (i2, tail 9 1 (b.s.length * 1))), (3, ((N26, 101940), tail 9 1 ((rstep a (pickD a p)).g.length * 1))), (4, (i4, tail 9 1 (b.g.length * 1))), (5, (i5, tail 25 1 (a.n.length * 1))), (6, (i6, tail 25 1 (b.n.length * 1)))]) (ks := [101940]) (φ := eqP (.bool true)) (.cons (m := 0) rfl (.cons (m := 1) rfl (.cons (m := 2) rfl (.cons (m := 3) rfl (.cons (m := 4) rfl (.cons (m := 5) rfl (.cons (m := 6) rfl .nil))))))) (receive_0 i0 i1 i2 i3 i4 i5 i6 a b (pickD a p) (pick_recv hinv (by omega) h0 hp.1) (show a.g.length ≤ 1000 by have := inv_g hinv; omega)) (.ent rfl (by repeat (first | exact Ents.nil | refine Ents.cons ?_ ?_ | refine Ent.tup ?_ | refine Ent.agg ?_ | exact Ent.row _ _ _ _ | exact Ent.nil _ _ | exact Ent.func _ | exact Ent.refl _ | exact Ent.of_eq rfl | refine Ent.cells ?_)) (.ent rfl (by repeat (first | exact Ents.nil | refine Ents.cons ?_ ?_ | refine Ent.tup ?_ | refine Ent.agg ?_ | exact Ent.row _ _ _ _ | exact Ent.nil _ _ | exact Ent.func _ | exact Ent.refl _ | exact Ent.of_eq rfl | refine Ent.cells ?_)) (.ent rfl (by repeat (first | exact Ents.nil | refine Ents.cons ?_ ?_ | refine Ent.tup ?_ | refine Ent.agg ?_ | exact Ent.row _ _ _ _ | exact Ent.nil _ _ | exact Ent.func _ | exact Ent.refl _ | exact Ent.of_eq rfl | refine Ent.cells ?_)) .nil))) fn29 rfl rfl rfl (.old rfl (.old rfl (.old rfl (.old rfl (.old rfl (.old rfl (.old rfl .nil))))))) rfl) (dOK_spec rfl) ?_
              refine lx (op_assign rfl) rfl ?_
              refine lx_end ⟨by kernel_rfl, ?_⟩
              refine pe_then_normal ?_
              refine tr_sub hC (.cons (t := 4) rfl .nil) (.cons (t := 0) rfl (.cons (t := 1) rfl (.cons (t := 2) rfl (.cons (t := 3) rfl (.cons (t := 4) rfl (.cons (t := 5) rfl (.cons (t := 6) rfl .nil))))))) rfl ?_
              refine tr_ret ?_
              refine pe_block_ret ?_
              refine pe_then_ret ?_
              refine pe_ownS' [0, 1, 2, 3, 4, 5, 6] rfl hO rfl (.tmp rfl .nil) (.cons (m := 1) rfl (RenR.tail _ _ _) (.cons (m := 2) rfl (RenR.tail _ _ _) (.cons (m := 3) rfl (RenR.tail _ _ _) (.cons (m := 4) rfl (RenR.tail _ _ _) (.cons (m := 5) rfl (RenR.tail _ _ _) (.cons (m := 6) rfl (RenR.tail _ _ _) .nil)))))) rfl rfl rfl ?_
              intro τ ι hs
              refine ⟨?_, ?_⟩
              · exact fun v h => h
              · exact (.kept rfl rfl (by rw [hst]; exact blk_ents (.cons (ent_at (Ent.refl _)) (.cons (ent_at (Ent.refl _)) (.cons (ent_at (Ent.refl _)) (.cons (ent_at (Ent.refl _)) (.cons (ent_at (Ent.refl _)) (.cons (ent_at (Ent.refl _)) (.cons (ent_at (Ent.refl _)) (.cons (ent_at (Ent.refl _)) (.cons (ent_at (Ent.refl _)) (.cons (ent_at (Ent.refl _)) (.cons (row_ren (hs 0 _ rfl).1 (hs 0 _ rfl).2) (.cons (row_ren (hs 1 _ rfl).1 (hs 1 _ rfl).2) (.cons (row_ren (hs 2 _ rfl).1 (hs 2 _ rfl).2) (.cons (row_ren (hs 3 _ rfl).1 (hs 3 _ rfl).2) (.cons (row_ren (hs 4 _ rfl).1 (hs 4 _ rfl).2) (.cons (row_ren (hs 5 _ rfl).1 (hs 5 _ rfl).2) .nil))))))))))))))))) (.moved rfl (by rw [hst]; exact fun b o h => h) (.moved rfl (by rw [hst]; exact fun b o h => h) (.moved rfl (by rw [hst]; exact fun b o h => h) (.moved rfl (by rw [hst]; exact fun b o h => h) (.moved rfl (by rw [hst]; exact fun b o h => h) (.moved rfl (by rw [hst]; exact fun b o h => h) .nil)))))))
        · (try simp only [Bool.and_eq_true, Bool.or_eq_true, Bool.and_eq_false_iff, Bool.or_eq_false_iff, decide_eq_true_eq, decide_eq_false_iff_not, Bool.not_eq_true', Bool.not_eq_false', List.length_map, ne_eq, Decidable.not_not, Int.not_lt, Int.not_le] at h143_2)
          refine tr_seq ?_
          refine tr_region (fun N27 hN => ?_)
          refine lx (op_eql rfl rfl) rfl ?_
          refine lx (op_assign rfl) rfl ?_
          refine lx_end ⟨by kernel_rfl, ?_⟩
          refine pe_then_normal ?_
          refine tr_sub hC (.cons (t := 0) rfl (.cons (t := 3) rfl (.cons (t := 5) rfl (.cons (t := 6) rfl (.cons (t := 195) rfl .nil))))) (.cons (t := 0) rfl (.cons (t := 1) rfl (.cons (t := 2) rfl (.cons (t := 3) rfl (.cons (t := 4) rfl (.cons (t := 5) rfl (.cons (t := 6) rfl (.cons (t := 603) rfl .nil)))))))) rfl ?_
          refine tr_cond rfl (fun h195 => ?_) (fun h195 => ?_)
          · (try simp only [Bool.and_eq_true, Bool.or_eq_true, Bool.and_eq_false_iff, Bool.or_eq_false_iff, decide_eq_true_eq, decide_eq_false_iff_not, Bool.not_eq_true', Bool.not_eq_false', List.length_map, ne_eq, Decidable.not_not, Int.not_lt, Int.not_le] at h195)
            obtain rfl : q = 4 := by omega
            refine tr_seq ?_
            refine tr_region (fun N28 hN => ?_)
            refine lx (op_move rfl) rfl ?_
            refine lx (op_gtr rfl rfl) rfl ?_
            refine lx_end ⟨by kernel_rfl, ?_⟩
            refine pe_then_normal ?_
            refine tr_sub hC (.cons (t := 0) rfl (.cons (t := 3) rfl (.cons (t := 5) rfl (.cons (t := 6) rfl (.cons (t := 198) rfl .nil))))) (.cons (t := 0) rfl (.cons (t := 1) rfl (.cons (t := 2) rfl (.cons (t := 3) rfl (.cons (t := 4) rfl (.cons (t := 5) rfl (.cons (t := 6) rfl (.cons (t := 603) rfl .nil)))))))) rfl ?_
            refine tr_cond rfl (fun h198 => ?_) (fun h198 => ?_)
            · (try simp only [Bool.and_eq_true, Bool.or_eq_true, Bool.and_eq_false_iff, Bool.or_eq_false_iff, decide_eq_true_eq, decide_eq_false_iff_not, Bool.not_eq_true', Bool.not_eq_false', List.length_map, ne_eq, Decidable.not_not, Int.not_lt, Int.not_le] at h198)
              have h0 : a.n.length ≠ 0 := by omega
              have hpl := (pick_lt (p := p) h0 hp.1).2
              have hst := step_4 (b := b) (p := p) h0
              refine tr_seq ?_
              refine tr_region (fun N29 hN => ?_)
              refine lx (op_fieldAddr rfl fl65_2 sz5) rfl ?_
              refine lx (op_bload_one (m := 603) rfl rfl ag5 rfl) rfl ?_
              refine lx (OpJ.ent (op_convert rfl us5 ik3) (show Ent _ (eqP (.int .i64 p)) from (by exact entI (u8_conv hp)))) rfl ?_
              refine lx (op_move rfl) rfl ?_
              refine lx (OpJ.ent (op_rem rfl rfl (decide_eq_false (by omega))) (show Ent _ (eqP (.int .i64 ((pickI a p) : Int))) from (by exact entI (pick_lt h0 hp.1).1))) rfl ?_
              refine lx (op_assign rfl) rfl ?_
              refine lx_end ⟨by kernel_rfl, ?_⟩
              refine pe_then_normal ?_
              refine tr_sub hC (.cons (t := 0) rfl (.cons (t := 5) rfl (.cons (t := 14) rfl .nil))) (.cons (t := 0) rfl (.cons (t := 1) rfl (.cons (t := 2) rfl (.cons (t := 3) rfl (.cons (t := 4) rfl (.cons (t := 5) rfl (.cons (t := 6) rfl .nil))))))) rfl ?_
              refine tr_drawn mixed (fun N30 hN => ?_)
              refine lx (op_move rfl) rfl ?_
              refine lx (op_move rfl) rfl ?_
              refine lxn (op_buildEmpty (m' := 206) (kk := 206) (f := byS) el43 sz25 (by first | exact hC.low _ (by decide) | rfl)) rfl ?_
              refine lx (op_move rfl) rfl ?_
              refine lx (op_move rfl) rfl ?_
              first | refine lx (op_nilCheck rfl) rfl ?_ | refine lx (op_nilCheckC rfl) rfl ?_
              refine lx (op_fieldAddr rfl fl73_3 sz71) rfl ?_
              refine lx (op_aindex rfl rfl ar71 sz43 (show (0 : Int) = ((0 : Nat) : Int) from rfl) (by decide)) rfl ?_
              refine lx (OpJ.ent (op_bload_one (m := 0) rfl rfl ag43 rfl) (show Ent _ (slP byS 1 a.n) from (by exact Ent.row _ _ _ _))) rfl ?_
              refine lx (op_move rfl) rfl ?_
              refine lx (op_slice_h rfl rfl el43 sz25 rfl (by have := (pick_lt (a := a) h0 hp.1).2; omega)) rfl ?_
              refine lxr (op_append (m := 206) (m' := 206) (kk := 215) rfl rfl rfl (.inl rfl) el43 ze25 sz25 by25 rfl byS_len (by simp; omega) (by simp; omega)) rfl ?_
              refine lx (op_move rfl) rfl ?_
              refine lx (op_move rfl) rfl ?_
              first | refine lx (op_nilCheck rfl) rfl ?_ | refine lx (op_nilCheckC rfl) rfl ?_
              refine lx (op_fieldAddr rfl fl73_3 sz71) rfl ?_
              refine lx (op_aindex rfl rfl ar71 sz43 (show (0 : Int) = ((0 : Nat) : Int) from rfl) (by decide)) rfl ?_
              refine lx (OpJ.ent (op_bload_one (m := 0) rfl rfl ag43 rfl) (show Ent _ (slP byS 1 a.n) from (by exact Ent.row _ _ _ _))) rfl ?_
              refine lx (op_move rfl) rfl ?_
              refine lx (op_add rfl rfl (by omega)) rfl ?_
              refine lx (op_slice_l rfl rfl el43 sz25 (by omega : ((pickI a p) : Int) + 1 = (((pickI a p) + 1 : Nat) : Int)) (by have := (pick_lt (a := a) h0 hp.1).2; omega)) rfl ?_
              refine lxr (op_append (m := 206) (m' := 206) (kk := 225) rfl rfl rfl (.inl rfl) el43 ze25 sz25 by25 rfl byS_len (by simp; omega) (by simp; omega)) rfl ?_
              first | refine lx (op_nilCheck rfl) rfl ?_ | refine lx (op_nilCheckC rfl) rfl ?_
              refine lx (op_fieldAddr rfl fl73_3 sz71) rfl ?_
              refine lx (op_aindex rfl rfl ar71 sz43 (show (0 : Int) = ((0 : Nat) : Int) from rfl) (by decide)) rfl ?_
              refine lxr (op_store_one (m := 0) rfl rfl rfl (by (first | exact One.eq rfl | exact One.mv _ _ _ _ _ | exact One.cl _ _ _ | exact One.map _ | exact One.sl _ _ _ | exact One.row _ _ _ _ | exact One.msl _ _ _ _ | exact One.ptr _ _ | exact One.b _ | exact One.cells _)) sz43 rfl) rfl ?_
              refine lx_end ⟨by kernel_rfl, ?_⟩
              refine pe_block_normal ?_
              refine pe_then_normal ?_
              refine tr_sub hC .nil (.cons (t := 0) rfl (.cons (t := 1) rfl (.cons (t := 2) rfl (.cons (t := 3) rfl (.cons (t := 4) rfl (.cons (t := 5) rfl (.cons (t := 6) rfl (.cons (t := 206) rfl .nil)))))))) rfl ?_
              refine tr_seq ?_
              refine tr_region (fun N31 hN => ?_)
              refine lx (op_assign rfl) rfl ?_
              refine lx_end ⟨by kernel_rfl, ?_⟩
              refine pe_then_normal ?_
              refine tr_sub hC (.cons (t := 4) rfl .nil) (.cons (t := 0) rfl (.cons (t := 1) rfl (.cons (t := 2) rfl (.cons (t := 3) rfl (.cons (t := 4) rfl (.cons (t := 5) rfl (.cons (t := 6) rfl (.cons (t := 206) rfl .nil)))))))) rfl ?_
              refine tr_ret ?_
              refine pe_ownS' [0, 1, 2, 3, 4, 206, 6] rfl hO rfl (.tmp rfl .nil) (.cons (m := 1) rfl (RenR.tail _ _ _) (.cons (m := 2) rfl (RenR.tail _ _ _) (.cons (m := 3) rfl (RenR.tail _ _ _) (.cons (m := 4) rfl (RenR.tail _ _ _) (.cons (m := 206) rfl (RenR.tail _ _ _) (.cons (m := 6) rfl (RenR.tail _ _ _) .nil)))))) rfl rfl rfl ?_
              intro τ ι hs
              refine ⟨?_, ?_⟩
              · exact fun v h => h
              · exact (.kept rfl rfl (by rw [hst]; exact blk_ents (.cons (ent_at (Ent.refl _)) (.cons (ent_at (Ent.refl _)) (.cons (ent_at (Ent.refl _)) (.cons (ent_at (Ent.refl _)) (.cons (ent_at (Ent.refl _)) (.cons (ent_at (Ent.refl _)) (.cons (ent_at (Ent.refl _)) (.cons (ent_at (Ent.refl _)) (.cons (ent_at (Ent.refl _)) (.cons (ent_at (Ent.refl _)) (.cons (row_ren (hs 0 _ rfl).1 (hs 0 _ rfl).2) (.cons (row_ren (hs 1 _ rfl).1 (hs 1 _ rfl).2) (.cons (row_ren (hs 2 _ rfl).1 (hs 2 _ rfl).2) (.cons (row_ren (hs 3 _ rfl).1 (hs 3 _ rfl).2) (.cons (row_ren (hs 4 _ rfl).1 (hs 4 _ rfl).2) (.cons (row_ren (hs 5 _ rfl).1 (hs 5 _ rfl).2) .nil))))))))))))))))) (.moved rfl (by rw [hst]; exact fun b o h => h) (.moved rfl (by rw [hst]; exact fun b o h => h) (.moved rfl (by rw [hst]; exact fun b o h => h) (.moved rfl (by rw [hst]; exact fun b o h => h) (.moved rfl (by rw [hst]; exact fun b o h => h) (.moved rfl (by rw [hst]; exact fun b o h => h) .nil)))))))
            · (try simp only [Bool.and_eq_true, Bool.or_eq_true, Bool.and_eq_false_iff, Bool.or_eq_false_iff, decide_eq_true_eq, decide_eq_false_iff_not, Bool.not_eq_true', Bool.not_eq_false', List.length_map, ne_eq, Decidable.not_not, Int.not_lt, Int.not_le] at h198)
              have hst := step_4n (b := b) (p := p) (a := a) (by omega)
              refine tr_skip ?_
              refine pe_block_normal ?_
              refine pe_then_normal ?_
              refine tr_sub hC .nil (.cons (t := 0) rfl (.cons (t := 1) rfl (.cons (t := 2) rfl (.cons (t := 3) rfl (.cons (t := 4) rfl (.cons (t := 5) rfl (.cons (t := 6) rfl .nil))))))) rfl ?_
              refine tr_seq ?_
              refine tr_region (fun N31 hN => ?_)
              refine lx (op_assign rfl) rfl ?_
              refine lx_end ⟨by kernel_rfl, ?_⟩
              refine pe_then_normal ?_
              refine tr_sub hC (.cons (t := 4) rfl .nil) (.cons (t := 0) rfl (.cons (t := 1) rfl (.cons (t := 2) rfl (.cons (t := 3) rfl (.cons (t := 4) rfl (.cons (t := 5) rfl (.cons (t := 6) rfl .nil))))))) rfl ?_
              refine tr_ret ?_
              refine pe_ownS' [0, 1, 2, 3, 4, 5, 6] rfl hO rfl (.tmp rfl .nil) (.cons (m := 1) rfl (RenR.tail _ _ _) (.cons (m := 2) rfl (RenR.tail _ _ _) (.cons (m := 3) rfl (RenR.tail _ _ _) (.cons (m := 4) rfl (RenR.tail _ _ _) (.cons (m := 5) rfl (RenR.tail _ _ _) (.cons (m := 6) rfl (RenR.tail _ _ _) .nil)))))) rfl rfl rfl ?_
              intro τ ι hs
              refine ⟨?_, ?_⟩
              · exact fun v h => h
              · exact (.kept rfl rfl (by rw [hst]; exact blk_ents (.cons (ent_at (Ent.refl _)) (.cons (ent_at (Ent.refl _)) (.cons (ent_at (Ent.refl _)) (.cons (ent_at (Ent.refl _)) (.cons (ent_at (Ent.refl _)) (.cons (ent_at (Ent.refl _)) (.cons (ent_at (Ent.refl _)) (.cons (ent_at (Ent.refl _)) (.cons (ent_at (Ent.refl _)) (.cons (ent_at (Ent.refl _)) (.cons (row_ren (hs 0 _ rfl).1 (hs 0 _ rfl).2) (.cons (row_ren (hs 1 _ rfl).1 (hs 1 _ rfl).2) (.cons (row_ren (hs 2 _ rfl).1 (hs 2 _ rfl).2) (.cons (row_ren (hs 3 _ rfl).1 (hs 3 _ rfl).2) (.cons (row_ren (hs 4 _ rfl).1 (hs 4 _ rfl).2) (.cons (row_ren (hs 5 _ rfl).1 (hs 5 _ rfl).2) .nil))))))))))))))))) (.moved rfl (by rw [hst]; exact fun b o h => h) (.moved rfl (by rw [hst]; exact fun b o h => h) (.moved rfl (by rw [hst]; exact fun b o h => h) (.moved rfl (by rw [hst]; exact fun b o h => h) (.moved rfl (by rw [hst]; exact fun b o h => h) (.moved rfl (by rw [hst]; exact fun b o h => h) .nil)))))))
          · (try simp only [Bool.and_eq_true, Bool.or_eq_true, Bool.and_eq_false_iff, Bool.or_eq_false_iff, decide_eq_true_eq, decide_eq_false_iff_not, Bool.not_eq_true', Bool.not_eq_false', List.length_map, ne_eq, Decidable.not_not, Int.not_lt, Int.not_le] at h195)
            omega
end Go.Proofs.Ytgdhogmghffbaaa
