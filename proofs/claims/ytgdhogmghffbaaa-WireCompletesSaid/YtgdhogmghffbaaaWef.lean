/- Parts of a proof that share one text: WrWalk16, WrPref0, WrPref. -/
import Derived.Test.YtgdhogmghffbaaaWee
import Derived.Test.YtgdhogmghffbaaaWed
import Derived.Test.YtgdhogmghffbaaaWeb
set_option linter.unusedVariables false
set_option linter.unusedSimpArgs false

set_option linter.unusedVariables false
set_option linter.unusedSimpArgs false
namespace Go.Proofs.Ytgdhogmghffbaaa
open Go.AL Go.Wr Go.RowKit
set_option maxHeartbeats 4000000 in
theorem do_at1 (w : Int) (m : Nat) (i0 i1 i2 i3 i4 i5 i6 : AL.Id) (a b : Side) (hinv : Inv w m b a) (hm : m < 150) (hnb : NB b a) (k e p : Int) (hk : 0 ≤ k ∧ k ≤ 255) (he : 0 ≤ e ∧ e ≤ 255) (hp : 0 ≤ p ∧ p ≤ 255) (ha : e.tmod 2 = 1) : FnOK Try.prog 27 [ptrP i0 0, aggP (opP k e p)] [(i0, blk 73 (prP a b i1 i2 i3 i4 i5 i6)), (i1, tail 9 1 (a.s.length * 1)), (i2, tail 9 1 (b.s.length * 1)), (i3, tail 9 1 (a.g.length * 1)), (i4, tail 9 1 (b.g.length * 1)), (i5, tail 25 1 (a.n.length * 1)), (i6, tail 25 1 (b.n.length * 1))] 6 (fun ι => eqP (.bool true)) (fun ι => [(i0, blk 73 (prP (stepF b a (k.tmod 5) p).2 (stepF b a (k.tmod 5) p).1 (ι 0) (ι 1) (ι 2) (ι 3) (ι 4) (ι 5))), (ι 0, tail 9 1 ((stepF b a (k.tmod 5) p).2.s.length * 1)), (ι 1, tail 9 1 ((stepF b a (k.tmod 5) p).1.s.length * 1)), (ι 2, tail 9 1 ((stepF b a (k.tmod 5) p).2.g.length * 1)), (ι 3, tail 9 1 ((stepF b a (k.tmod 5) p).1.g.length * 1)), (ι 4, tail 25 1 ((stepF b a (k.tmod 5) p).2.n.length * 1)), (ι 5, tail 25 1 ((stepF b a (k.tmod 5) p).1.n.length * 1))]) := by
  obtain ⟨q, hq⟩ : ∃ q, q = k.tmod 5 := ⟨_, rfl⟩
  have hq5 := tmod5 hk
  rw [← hq] at hq5
  obtain ⟨hn1, hn2⟩ := hnb
  have hsl := hinv.1.many
  have hos := hinv.2.many
  have hfl := inv_frames hinv
  rw [← hq]
  refine fn_ownN Try.func27 rfl Try.ntmps27 rfl ?_
  intro σ0 M Rf R hC hO
  simp only [frameOf, tokOf]
  refine tr_seq ?_
  refine tr_region (fun N0 hN => ?_)
  refine lxn (op_box (m := 603) (k := 3) rfl (.agg rfl) (by first | exact hC.low _ (by decide) | rfl)) rfl ?_
  refine lx (op_assign rfl) rfl ?_
  refine lx_end ⟨by kernel_rfl, ?_⟩
  refine pe_then_normal ?_
  refine tr_sub hC (.cons (t := 0) rfl (.cons (t := 3) rfl .nil)) (.cons (t := 0) rfl (.cons (t := 1) rfl (.cons (t := 2) rfl (.cons (t := 3) rfl (.cons (t := 4) rfl (.cons (t := 5) rfl (.cons (t := 6) rfl (.cons (t := 603) rfl .nil)))))))) rfl ?_
  refine tr_seq ?_
  refine tr_region (fun N1 hN => ?_)
  refine lx (op_fieldAddr rfl fl65_1 sz5) rfl ?_
  refine lx (op_bload_one (m := 603) rfl rfl ag5 rfl) rfl ?_
  refine lx (OpJ.ent (op_convert rfl us5 ik3) (show Ent _ (eqP (.int .i64 e)) from (by exact entI (u8_conv he)))) rfl ?_
  refine lx (OpJ.ent (op_rem rfl rfl rfl) (show Ent _ (eqP (.int .i64 1)) from (by exact entI ha))) rfl ?_
  refine lx (op_assign rfl) rfl ?_
  refine lx_end ⟨by kernel_rfl, ?_⟩
  refine pe_then_normal ?_
  refine tr_sub hC (.cons (t := 0) rfl (.cons (t := 3) rfl (.cons (t := 5) rfl .nil))) (.cons (t := 0) rfl (.cons (t := 1) rfl (.cons (t := 2) rfl (.cons (t := 3) rfl (.cons (t := 4) rfl (.cons (t := 5) rfl (.cons (t := 6) rfl (.cons (t := 603) rfl .nil)))))))) rfl ?_
  refine tr_seq ?_
  refine tr_region (fun N2 hN => ?_)
  refine lx (op_move rfl) rfl ?_
  refine lx (op_move rfl) rfl ?_
  first | refine lx (op_nilCheck rfl) rfl ?_ | refine lx (op_nilCheckC rfl) rfl ?_
  refine lx (op_fieldAddr rfl fl73_3 sz71) rfl ?_
  refine lx (op_aindex rfl rfl ar71 sz43 (show (1 : Int) = ((1 : Nat) : Int) from rfl) (by decide)) rfl ?_
  refine lx (op_bload_one (m := 0) rfl rfl ag43 rfl) rfl ?_
  first | refine lx (op_len rfl el43) rfl ?_ | refine lx (op_len_row rfl el43) rfl ?_ | refine lx (op_len_mv rfl el43) rfl ?_ | refine lx (op_len_nil rfl el43) rfl ?_
  refine lx (op_assign rfl) rfl ?_
  refine lx_end ⟨by kernel_rfl, ?_⟩
  refine pe_then_normal ?_
  refine tr_sub hC (.cons (t := 0) rfl (.cons (t := 3) rfl (.cons (t := 5) rfl (.cons (t := 6) rfl .nil)))) (.cons (t := 0) rfl (.cons (t := 1) rfl (.cons (t := 2) rfl (.cons (t := 3) rfl (.cons (t := 4) rfl (.cons (t := 5) rfl (.cons (t := 6) rfl (.cons (t := 603) rfl .nil)))))))) rfl ?_
  refine tr_seq ?_
  refine tr_seq ?_
  refine tr_region (fun N3 hN => ?_)
  refine lx (op_fieldAddr rfl fl65_0 sz5) rfl ?_
  refine lx (op_bload_one (m := 603) rfl rfl ag5 rfl) rfl ?_
  refine lx (OpJ.ent (op_rem rfl rfl rfl) (show Ent _ (eqP (.int .u8 q)) from (by exact entI hq.symm))) rfl ?_
  refine lx_end ⟨by kernel_rfl, ?_⟩
  refine pe_then_normal ?_
  refine tr_sub hC (.cons (t := 0) rfl (.cons (t := 3) rfl (.cons (t := 5) rfl (.cons (t := 6) rfl (.cons (t := 28) rfl .nil))))) (.cons (t := 0) rfl (.cons (t := 1) rfl (.cons (t := 2) rfl (.cons (t := 3) rfl (.cons (t := 4) rfl (.cons (t := 5) rfl (.cons (t := 6) rfl (.cons (t := 603) rfl .nil)))))))) rfl ?_
  refine tr_block ?_
  refine tr_seq ?_
  refine tr_region (fun N4 hN => ?_)
  refine lx (op_eql rfl rfl) rfl ?_
  refine lx (op_assign rfl) rfl ?_
  refine lx_end ⟨by kernel_rfl, ?_⟩
  refine pe_then_normal ?_
  refine tr_sub hC (.cons (t := 0) rfl (.cons (t := 3) rfl (.cons (t := 5) rfl (.cons (t := 6) rfl (.cons (t := 28) rfl (.cons (t := 29) rfl .nil)))))) (.cons (t := 0) rfl (.cons (t := 1) rfl (.cons (t := 2) rfl (.cons (t := 3) rfl (.cons (t := 4) rfl (.cons (t := 5) rfl (.cons (t := 6) rfl (.cons (t := 603) rfl .nil)))))))) rfl ?_
  refine tr_cond rfl (fun h29 => ?_) (fun h29 => ?_)
  · (try simp only [Bool.and_eq_true, Bool.or_eq_true, Bool.and_eq_false_iff, Bool.or_eq_false_iff, decide_eq_true_eq, decide_eq_false_iff_not, Bool.not_eq_true', Bool.not_eq_false', List.length_map, ne_eq, Decidable.not_not, Int.not_lt, Int.not_le] at h29)
    obtain rfl : q = 0 := by omega
    refine tr_seq ?_
    refine tr_drawn mixed (fun N5 hN => ?_)
    refine lx (op_move rfl) rfl ?_
    refine lx (op_move rfl) rfl ?_
    first | refine lx (op_nilCheck rfl) rfl ?_ | refine lx (op_nilCheckC rfl) rfl ?_
    refine lx (op_fieldAddr rfl fl73_1 sz70) rfl ?_
    refine lx (op_aindex rfl rfl ar70 sz38 (show (1 : Int) = ((1 : Nat) : Int) from rfl) (by decide)) rfl ?_
    refine lx (op_bload_one (m := 0) rfl rfl ag38 rfl) rfl ?_
    first | refine lx (op_len rfl el38) rfl ?_ | refine lx (op_len_row rfl el38) rfl ?_ | refine lx (op_len_mv rfl el38) rfl ?_ | refine lx (op_len_nil rfl el38) rfl ?_
    refine lx (op_rem rfl rfl rfl) rfl ?_
    refine lx (op_add rfl rfl (add97 _ (by omega))) rfl ?_
    refine lx (op_convert rfl us3 ik5) rfl ?_
    refine lx (op_fieldAddr rfl fl65_2 sz5) rfl ?_
    refine lx (op_bload_one (m := 603) rfl rfl ag5 rfl) rfl ?_
    refine lx (op_buildSlice (f := byP) (xs := [IntKind.u8.wrap (97 + (b.s.length : Int).tmod 26), p]) (l := [(0, (Go.Operand.tmp 40)), (1, (Go.Operand.tmp 42))]) ze5 rfl rfl (by decide) el25 sz5 byP_len (.cons rfl (.one (by (first | exact One.eq rfl | exact One.mv _ _ _ _ _ | exact One.cl _ _ _ | exact One.map _ | exact One.sl _ _ _ | exact One.row _ _ _ _ | exact One.msl _ _ _ _ | exact One.ptr _ _ | exact One.b _ | exact One.cells _))) (.cons rfl (.one (by (first | exact One.eq rfl | exact One.mv _ _ _ _ _ | exact One.cl _ _ _ | exact One.map _ | exact One.sl _ _ _ | exact One.row _ _ _ _ | exact One.msl _ _ _ _ | exact One.ptr _ _ | exact One.b _ | exact One.cells _))) .nil)) rfl (by decide)) rfl ?_
    refine lx (op_bytes_str rfl (elem_of el25) st9 ik5) rfl ?_
    refine lx (op_assign rfl) rfl ?_
    refine lx_end ⟨by kernel_rfl, ?_⟩
    refine pe_then_normal ?_
    refine tr_sub hC (.cons (t := 0) rfl (.cons (t := 5) rfl (.cons (t := 7) rfl .nil))) (.cons (t := 0) rfl (.cons (t := 1) rfl (.cons (t := 2) rfl (.cons (t := 3) rfl (.cons (t := 4) rfl (.cons (t := 5) rfl (.cons (t := 6) rfl .nil))))))) rfl ?_
    refine tr_seq ?_
    refine tr_region (fun N6 hN => ?_)
    refine lx (op_move rfl) rfl ?_
    refine lx (op_move rfl) rfl ?_
    first | refine lx (op_nilCheck rfl) rfl ?_ | refine lx (op_nilCheckC rfl) rfl ?_
    refine lx (op_fieldAddr rfl fl73_0 sz69) rfl ?_
    refine lx (op_aindex rfl rfl ar69 sz46 (show (1 : Int) = ((1 : Nat) : Int) from rfl) (by decide)) rfl ?_
    first | refine lx (op_bload (m := 0) rfl rfl ag46 sz46) rfl ?_ | refine lx (op_bload_part (m := 0) (qs := [_, _, _, _, _]) rfl rfl ag46 sz46 rfl rfl) rfl ?_
    refine lx (op_move rfl) rfl ?_
    refine lx (op_str_bytes rfl st9 (elem_of el25) ik5 (by rw [strB_len]; show 2 ≤ 4000000; decide)) rfl ?_
    first | refine lx (op_call (l := [(Go.Operand.tmp 51), (Go.Operand.tmp 53)]) (Send_ok b.e (byL (dataS b p)) (by rw [byL_len, data_size]; decide)) (.cons rfl (.cons rfl .nil)) fn17) rfl ?_ | refine lx (op_call (l := [(Go.Operand.tmp 51), (Go.Operand.tmp 53)]) (Send_ok b.e (byL (dataS b p)) (by rw [byL_len, data_size]; decide)) (.ent rfl (by repeat (first | exact Ents.nil | refine Ents.cons ?_ ?_ | refine Ent.tup ?_ | refine Ent.agg ?_ | exact Ent.row _ _ _ _ | exact Ent.nil _ _ | exact Ent.func _ | exact Ent.refl _ | exact Ent.of_eq rfl | refine Ent.cells ?_)) (.ent rfl (by repeat (first | exact Ents.nil | refine Ents.cons ?_ ?_ | refine Ent.tup ?_ | refine Ent.agg ?_ | exact Ent.row _ _ _ _ | exact Ent.nil _ _ | exact Ent.func _ | exact Ent.refl _ | exact Ent.of_eq rfl | refine Ent.cells ?_)) .nil)) fn17) rfl ?_
    refine lx (op_move rfl) rfl ?_
    refine lx (op_extract rfl rfl) rfl ?_
    refine lx (op_extract rfl rfl) rfl ?_
    refine lxn (op_alloc (m := 8) (k := 8) (ps := [eqP (.int .i64 0), eqP (.int .i64 0), eqP (.slice none 0 0), eqP (.int .i64 0), eqP (.slice none 0 0)]) ze46 rfl rfl (by first | exact hC.low _ (by decide) | rfl)) rfl ?_
    refine lxr (op_store_all (m := 8) rfl rfl rfl (.agg rfl) sz46 rfl) rfl ?_
    refine lx (op_assign rfl) rfl ?_
    refine lx_end ⟨by kernel_rfl, ?_⟩
    refine pe_then_normal ?_
    refine tr_sub hC (.cons (t := 0) rfl (.cons (t := 5) rfl (.cons (t := 7) rfl (.cons (t := 8) rfl (.cons (t := 9) rfl .nil))))) (.cons (t := 0) rfl (.cons (t := 1) rfl (.cons (t := 2) rfl (.cons (t := 3) rfl (.cons (t := 4) rfl (.cons (t := 5) rfl (.cons (t := 6) rfl (.cons (t := 8) rfl .nil)))))))) rfl ?_
    refine tr_seq ?_
    refine tr_seq ?_
    refine tr_region (fun N7 hN => ?_)
    refine lx (op_move rfl) rfl ?_
    refine lx (op_eql rfl rfl) rfl ?_
    refine lx_end ⟨by kernel_rfl, ?_⟩
    refine pe_then_normal ?_
    refine tr_sub hC (.cons (t := 0) rfl (.cons (t := 5) rfl (.cons (t := 7) rfl (.cons (t := 8) rfl (.cons (t := 9) rfl (.cons (t := 58) rfl .nil)))))) (.cons (t := 0) rfl (.cons (t := 1) rfl (.cons (t := 2) rfl (.cons (t := 3) rfl (.cons (t := 4) rfl (.cons (t := 5) rfl (.cons (t := 6) rfl (.cons (t := 8) rfl .nil)))))))) rfl ?_
    refine tr_cond rfl (fun h58 => ?_) (fun h58 => ?_)
    · (try simp only [Bool.and_eq_true, Bool.or_eq_true, Bool.and_eq_false_iff, Bool.or_eq_false_iff, decide_eq_true_eq, decide_eq_false_iff_not, Bool.not_eq_true', Bool.not_eq_false', List.length_map, ne_eq, Decidable.not_not, Int.not_lt, Int.not_le] at h58)
      have hst := step_0t (b := a) h58
      refine tr_seq ?_
      refine tr_drawn mixed (fun N8 hN => ?_)
      refine lx (op_move rfl) rfl ?_
      refine lx (op_move rfl) rfl ?_
      refine lx (op_bload (m := 8) rfl rfl ag46 sz46) rfl ?_
      first | refine lx (op_nilCheck rfl) rfl ?_ | refine lx (op_nilCheckC rfl) rfl ?_
      refine lx (op_fieldAddr rfl fl73_0 sz69) rfl ?_
      refine lx (op_aindex rfl rfl ar69 sz46 (show (1 : Int) = ((1 : Nat) : Int) from rfl) (by decide)) rfl ?_
      first | refine lxr (op_store_all (m := 0) rfl rfl rfl (.agg rfl) sz46 rfl) rfl ?_ | refine lxr (op_store (m := 0) rfl rfl rfl (.agg rfl) sz46 rfl rfl rfl) rfl ?_
      refine lx_end ⟨by kernel_rfl, ?_⟩
      refine pe_then_normal ?_
      refine tr_sub hC (.cons (t := 0) rfl (.cons (t := 5) rfl (.cons (t := 7) rfl (.cons (t := 9) rfl .nil)))) (.cons (t := 0) rfl (.cons (t := 1) rfl (.cons (t := 2) rfl (.cons (t := 3) rfl (.cons (t := 4) rfl (.cons (t := 5) rfl (.cons (t := 6) rfl .nil))))))) rfl ?_
      refine tr_drawn mixed (fun N9 hN => ?_)
      refine lx (op_move rfl) rfl ?_
      refine lx (op_move rfl) rfl ?_
      refine lx (op_move rfl) rfl ?_
      refine lx (op_move rfl) rfl ?_
      first | refine lx (op_nilCheck rfl) rfl ?_ | refine lx (op_nilCheckC rfl) rfl ?_
      refine lx (op_fieldAddr rfl fl73_1 sz70) rfl ?_
      refine lx (op_aindex rfl rfl ar70 sz38 (show (1 : Int) = ((1 : Nat) : Int) from rfl) (by decide)) rfl ?_
      refine lx (op_bload_one (m := 0) rfl rfl ag38 rfl) rfl ?_
      refine lx (op_move rfl) rfl ?_
      refine lx (op_buildSlice (f := stP) (xs := [(dataS b p)]) (l := [(0, (Go.Operand.tmp 73))]) ze9 rfl rfl (by decide) el38 sz9 stP_len (.cons rfl (.one (by (first | exact One.eq rfl | exact One.mv _ _ _ _ _ | exact One.cl _ _ _ | exact One.map _ | exact One.sl _ _ _ | exact One.row _ _ _ _ | exact One.msl _ _ _ _ | exact One.ptr _ _ | exact One.b _ | exact One.cells _))) .nil) rfl (by decide)) rfl ?_
      refine lxr (op_append (m := 2) (m' := 2) (kk := 75) rfl rfl rfl (.inl rfl) el38 ze9 sz9 by9 rfl stP_len (by rw [List.length_singleton]; omega) (by rw [List.length_singleton]; omega)) rfl ?_
      first | refine lx (op_nilCheck rfl) rfl ?_ | refine lx (op_nilCheckC rfl) rfl ?_
      refine lx (op_fieldAddr rfl fl73_1 sz70) rfl ?_
      refine lx (op_aindex rfl rfl ar70 sz38 (show (1 : Int) = ((1 : Nat) : Int) from rfl) (by decide)) rfl ?_
      refine lxr (op_store_one (m := 0) rfl rfl rfl (by (first | exact One.eq rfl | exact One.mv _ _ _ _ _ | exact One.cl _ _ _ | exact One.map _ | exact One.sl _ _ _ | exact One.row _ _ _ _ | exact One.msl _ _ _ _ | exact One.ptr _ _ | exact One.b _ | exact One.cells _)) sz38 rfl) rfl ?_
      refine lx_end ⟨by kernel_rfl, ?_⟩
      refine pe_then_normal ?_
      refine tr_sub hC (.cons (t := 0) rfl (.cons (t := 5) rfl (.cons (t := 9) rfl .nil))) (.cons (t := 0) rfl (.cons (t := 1) rfl (.cons (t := 3) rfl (.cons (t := 4) rfl (.cons (t := 5) rfl (.cons (t := 6) rfl (.cons (t := 2) rfl .nil))))))) rfl ?_
      refine tr_seq ?_
      refine tr_drawn mixed (fun N10 hN => ?_)
      refine lx (op_move rfl) rfl ?_
      refine lx (op_eql rfl rfl) rfl ?_
      refine lx (op_move rfl) rfl ?_
      refine lxs rfl rfl rfl guard_eq (.cons (t := 9) rfl (fun _ => Ent.refl _) .nil) (op_move rfl) rfl ?_
      refine lxs rfl rfl rfl guard_eq (.cons (t := 82) rfl (fun h => entW h) .nil) (op_eql rfl rfl) rfl ?_
      refine lxs rfl rfl rfl guard_eq (.cons (t := 83) rfl (fun h => entW h) .nil) (op_move rfl) rfl ?_
      refine lxs rfl rfl rfl guard_w (.cons (t := 0) rfl (fun _ => Ent.refl _) .nil) (op_move rfl) rfl ?_
      refine lxs rfl rfl rfl guard_w (.cons (t := 5) rfl (fun _ => Ent.refl _) .nil) (op_move rfl) rfl ?_
      first | refine lxs rfl rfl rfl guard_w (.cons (t := 85) rfl (fun h => entW h) .nil) (op_nilCheck rfl) rfl ?_ | refine lxs rfl rfl rfl guard_w (.cons (t := 85) rfl (fun h => entW h) .nil) (op_nilCheckC rfl) rfl ?_
      refine lxs rfl rfl rfl guard_w (.cons (t := 87) rfl (fun h => entW h) .nil) (op_fieldAddr rfl fl73_0 sz69) rfl ?_
      refine lxs rfl rfl rfl guard_w (.cons (t := 86) rfl (fun h => entW h) (.cons (t := 88) rfl (fun h => entW h) .nil)) (op_aindex rfl rfl ar69 sz46 (show (1 : Int) = ((1 : Nat) : Int) from rfl) (by decide)) rfl ?_
      refine lxs rfl rfl rfl guard_w (.cons (t := 89) rfl (fun h => entW h) .nil) (op_fieldAddr rfl fl46_2 sz43) rfl ?_
      refine lxs rfl rfl rfl guard_w (.cons (t := 90) rfl (fun h => entW h) .nil) (op_bload_one (m := 0) rfl rfl ag43 rfl) rfl ?_
      first | refine lxs rfl rfl rfl guard_w (.cons (t := 91) rfl (fun h => entW h) .nil) (op_len rfl el43) rfl ?_ | refine lxs rfl rfl rfl guard_w (.cons (t := 91) rfl (fun h => entW h) .nil) (op_len_row rfl el43) rfl ?_ | refine lxs rfl rfl rfl guard_w (.cons (t := 91) rfl (fun h => entW h) .nil) (op_len_mv rfl el43) rfl ?_ | refine lxs rfl rfl rfl guard_w (.cons (t := 91) rfl (fun h => entW h) .nil) (op_len_nil rfl el43) rfl ?_
      refine lxs rfl rfl rfl guard_w (.cons (t := 0) rfl (fun _ => Ent.refl _) .nil) (op_move rfl) rfl ?_
      refine lxs rfl rfl rfl guard_w (.cons (t := 5) rfl (fun _ => Ent.refl _) .nil) (op_move rfl) rfl ?_
      first | refine lxs rfl rfl rfl guard_w (.cons (t := 93) rfl (fun h => entW h) .nil) (op_nilCheck rfl) rfl ?_ | refine lxs rfl rfl rfl guard_w (.cons (t := 93) rfl (fun h => entW h) .nil) (op_nilCheckC rfl) rfl ?_
      refine lxs rfl rfl rfl guard_w (.cons (t := 95) rfl (fun h => entW h) .nil) (op_fieldAddr rfl fl73_0 sz69) rfl ?_
      refine lxs rfl rfl rfl guard_w (.cons (t := 94) rfl (fun h => entW h) (.cons (t := 96) rfl (fun h => entW h) .nil)) (op_aindex rfl rfl ar69 sz46 (show (1 : Int) = ((1 : Nat) : Int) from rfl) (by decide)) rfl ?_
      refine lxs rfl rfl rfl guard_w (.cons (t := 97) rfl (fun h => entW h) .nil) (op_fieldAddr rfl fl46_0 sz3) rfl ?_
      refine lxs rfl rfl rfl guard_w (.cons (t := 98) rfl (fun h => entW h) .nil) (op_bload_one (m := 0) rfl rfl ag3 rfl) rfl ?_
      refine lxs rfl rfl rfl guard_w (.cons (t := 92) rfl (fun h => entW h) (.cons (t := 99) rfl (fun h => entW h) .nil)) (op_eql rfl rfl) rfl ?_
      refine lxs rfl rfl rfl guard_eq (.cons (t := 84) rfl (fun h => entW h) (.cons (t := 100) rfl (fun h => entS h) .nil)) (op_pick_and rfl rfl) rfl ?_
      refine lx (op_pick_or rfl rfl) rfl ?_
      refine lx (op_assign rfl) rfl ?_
      refine lx_end ⟨by kernel_rfl, ?_⟩
      refine pe_then_normal ?_
      refine tr_sub hC (.cons (t := 4) rfl .nil) (.cons (t := 0) rfl (.cons (t := 1) rfl (.cons (t := 3) rfl (.cons (t := 4) rfl (.cons (t := 5) rfl (.cons (t := 6) rfl (.cons (t := 2) rfl .nil))))))) rfl ?_
      refine tr_ret ?_
      refine pe_block_ret ?_
      refine pe_then_ret ?_
      refine pe_ownS' [0, 1, 2, 3, 4, 5, 6] rfl hO rfl (.tmp rfl .nil) (.cons (m := 1) rfl (RenR.tail _ _ _) (.cons (m := 2) rfl (RenR.tail _ _ _) (.cons (m := 3) rfl (RenR.tail _ _ _) (.cons (m := 4) rfl (RenR.tail _ _ _) (.cons (m := 5) rfl (RenR.tail _ _ _) (.cons (m := 6) rfl (RenR.tail _ _ _) .nil)))))) rfl rfl rfl ?_
      intro τ ι hs
      refine ⟨?_, ?_⟩
      · exact ent_at (entB (send_t h58))
      · exact (.kept rfl rfl (by rw [hst]; exact blk_ents (.cons (ent_at (Ent.refl _)) (.cons (ent_at (Ent.refl _)) (.cons (ent_at (Ent.refl _)) (.cons (ent_at (Ent.refl _)) (.cons (ent_at (Ent.refl _)) (.cons (ent_at (Ent.refl _)) (.cons (ent_at (Ent.refl _)) (.cons (ent_at (Ent.refl _)) (.cons (ent_at (Ent.refl _)) (.cons (ent_at (Ent.refl _)) (.cons (row_ren (hs 0 _ rfl).1 (hs 0 _ rfl).2) (.cons (row_ren (hs 1 _ rfl).1 (hs 1 _ rfl).2) (.cons (row_ren (hs 2 _ rfl).1 (hs 2 _ rfl).2) (.cons (row_ren (hs 3 _ rfl).1 (hs 3 _ rfl).2) (.cons (row_ren (hs 4 _ rfl).1 (hs 4 _ rfl).2) (.cons (row_ren (hs 5 _ rfl).1 (hs 5 _ rfl).2) .nil))))))))))))))))) (.moved rfl (by rw [hst]; exact fun b o h => h) (.moved rfl (by rw [hst]; exact fun b o h => h) (.moved rfl (by rw [hst]; exact fun b o h => h) (.moved rfl (by rw [hst]; exact fun b o h => h) (.moved rfl (by rw [hst]; exact fun b o h => h) (.moved rfl (by rw [hst]; exact fun b o h => h) .nil)))))))
    · (try simp only [Bool.and_eq_true, Bool.or_eq_true, Bool.and_eq_false_iff, Bool.or_eq_false_iff, decide_eq_true_eq, decide_eq_false_iff_not, Bool.not_eq_true', Bool.not_eq_false', List.length_map, ne_eq, Decidable.not_not, Int.not_lt, Int.not_le] at h58)
      have hst := step_0f (b := a) h58
      refine tr_skip ?_
      refine pe_then_normal ?_
      refine tr_sub hC (.cons (t := 0) rfl (.cons (t := 5) rfl (.cons (t := 9) rfl .nil))) (.cons (t := 0) rfl (.cons (t := 1) rfl (.cons (t := 2) rfl (.cons (t := 3) rfl (.cons (t := 4) rfl (.cons (t := 5) rfl (.cons (t := 6) rfl .nil))))))) rfl ?_
      refine tr_seq ?_
      refine tr_drawn mixed (fun N10 hN => ?_)
      refine lx (op_move rfl) rfl ?_
      refine lx (op_eql rfl rfl) rfl ?_
      refine lx (op_move rfl) rfl ?_
      refine lxs rfl rfl rfl guard_eq (.cons (t := 9) rfl (fun _ => Ent.refl _) .nil) (op_move rfl) rfl ?_
      refine lxs rfl rfl rfl guard_eq (.cons (t := 82) rfl (fun h => entW h) .nil) (op_eql rfl rfl) rfl ?_
      refine lxs rfl rfl rfl guard_eq (.cons (t := 83) rfl (fun h => entW h) .nil) (op_move rfl) rfl ?_
      refine lxs rfl rfl rfl guard_w (.cons (t := 0) rfl (fun _ => Ent.refl _) .nil) (op_move rfl) rfl ?_
      refine lxs rfl rfl rfl guard_w (.cons (t := 5) rfl (fun _ => Ent.refl _) .nil) (op_move rfl) rfl ?_
      first | refine lxs rfl rfl rfl guard_w (.cons (t := 85) rfl (fun h => entW h) .nil) (op_nilCheck rfl) rfl ?_ | refine lxs rfl rfl rfl guard_w (.cons (t := 85) rfl (fun h => entW h) .nil) (op_nilCheckC rfl) rfl ?_
      refine lxs rfl rfl rfl guard_w (.cons (t := 87) rfl (fun h => entW h) .nil) (op_fieldAddr rfl fl73_0 sz69) rfl ?_
      refine lxs rfl rfl rfl guard_w (.cons (t := 86) rfl (fun h => entW h) (.cons (t := 88) rfl (fun h => entW h) .nil)) (op_aindex rfl rfl ar69 sz46 (show (1 : Int) = ((1 : Nat) : Int) from rfl) (by decide)) rfl ?_
      refine lxs rfl rfl rfl guard_w (.cons (t := 89) rfl (fun h => entW h) .nil) (op_fieldAddr rfl fl46_2 sz43) rfl ?_
      refine lxs rfl rfl rfl guard_w (.cons (t := 90) rfl (fun h => entW h) .nil) (op_bload_one (m := 0) rfl rfl ag43 rfl) rfl ?_
      first | refine lxs rfl rfl rfl guard_w (.cons (t := 91) rfl (fun h => entW h) .nil) (op_len rfl el43) rfl ?_ | refine lxs rfl rfl rfl guard_w (.cons (t := 91) rfl (fun h => entW h) .nil) (op_len_row rfl el43) rfl ?_ | refine lxs rfl rfl rfl guard_w (.cons (t := 91) rfl (fun h => entW h) .nil) (op_len_mv rfl el43) rfl ?_ | refine lxs rfl rfl rfl guard_w (.cons (t := 91) rfl (fun h => entW h) .nil) (op_len_nil rfl el43) rfl ?_
      refine lxs rfl rfl rfl guard_w (.cons (t := 0) rfl (fun _ => Ent.refl _) .nil) (op_move rfl) rfl ?_
      refine lxs rfl rfl rfl guard_w (.cons (t := 5) rfl (fun _ => Ent.refl _) .nil) (op_move rfl) rfl ?_
      first | refine lxs rfl rfl rfl guard_w (.cons (t := 93) rfl (fun h => entW h) .nil) (op_nilCheck rfl) rfl ?_ | refine lxs rfl rfl rfl guard_w (.cons (t := 93) rfl (fun h => entW h) .nil) (op_nilCheckC rfl) rfl ?_
      refine lxs rfl rfl rfl guard_w (.cons (t := 95) rfl (fun h => entW h) .nil) (op_fieldAddr rfl fl73_0 sz69) rfl ?_
      refine lxs rfl rfl rfl guard_w (.cons (t := 94) rfl (fun h => entW h) (.cons (t := 96) rfl (fun h => entW h) .nil)) (op_aindex rfl rfl ar69 sz46 (show (1 : Int) = ((1 : Nat) : Int) from rfl) (by decide)) rfl ?_
      refine lxs rfl rfl rfl guard_w (.cons (t := 97) rfl (fun h => entW h) .nil) (op_fieldAddr rfl fl46_0 sz3) rfl ?_
      refine lxs rfl rfl rfl guard_w (.cons (t := 98) rfl (fun h => entW h) .nil) (op_bload_one (m := 0) rfl rfl ag3 rfl) rfl ?_
      refine lxs rfl rfl rfl guard_w (.cons (t := 92) rfl (fun h => entW h) (.cons (t := 99) rfl (fun h => entW h) .nil)) (op_eql rfl rfl) rfl ?_
      refine lxs rfl rfl rfl guard_eq (.cons (t := 84) rfl (fun h => entW h) (.cons (t := 100) rfl (fun h => entS h) .nil)) (op_pick_and rfl rfl) rfl ?_
      refine lx (op_pick_or rfl rfl) rfl ?_
      refine lx (op_assign rfl) rfl ?_
      refine lx_end ⟨by kernel_rfl, ?_⟩
      refine pe_then_normal ?_
      refine tr_sub hC (.cons (t := 4) rfl .nil) (.cons (t := 0) rfl (.cons (t := 1) rfl (.cons (t := 2) rfl (.cons (t := 3) rfl (.cons (t := 4) rfl (.cons (t := 5) rfl (.cons (t := 6) rfl .nil))))))) rfl ?_
      refine tr_ret ?_
      refine pe_block_ret ?_
      refine pe_then_ret ?_
      refine pe_ownS' [0, 1, 2, 3, 4, 5, 6] rfl hO rfl (.tmp rfl .nil) (.cons (m := 1) rfl (RenR.tail _ _ _) (.cons (m := 2) rfl (RenR.tail _ _ _) (.cons (m := 3) rfl (RenR.tail _ _ _) (.cons (m := 4) rfl (RenR.tail _ _ _) (.cons (m := 5) rfl (RenR.tail _ _ _) (.cons (m := 6) rfl (RenR.tail _ _ _) .nil)))))) rfl rfl rfl ?_
      intro τ ι hs
      refine ⟨?_, ?_⟩
      · exact ent_at (entB (send_f hinv hm (by rw [data_size]; decide) h58))
      · exact (.kept rfl rfl (by rw [hst]; exact blk_ents (.cons (ent_at (Ent.refl _)) (.cons (ent_at (Ent.refl _)) (.cons (ent_at (Ent.refl _)) (.cons (ent_at (Ent.refl _)) (.cons (ent_at (Ent.refl _)) (.cons (ent_at (Ent.refl _)) (.cons (ent_at (Ent.refl _)) (.cons (ent_at (Ent.refl _)) (.cons (ent_at (Ent.refl _)) (.cons (ent_at (Ent.refl _)) (.cons (row_ren (hs 0 _ rfl).1 (hs 0 _ rfl).2) (.cons (row_ren (hs 1 _ rfl).1 (hs 1 _ rfl).2) (.cons (row_ren (hs 2 _ rfl).1 (hs 2 _ rfl).2) (.cons (row_ren (hs 3 _ rfl).1 (hs 3 _ rfl).2) (.cons (row_ren (hs 4 _ rfl).1 (hs 4 _ rfl).2) (.cons (row_ren (hs 5 _ rfl).1 (hs 5 _ rfl).2) .nil))))))))))))))))) (.moved rfl (by rw [hst]; exact fun b o h => h) (.moved rfl (by rw [hst]; exact fun b o h => h) (.moved rfl (by rw [hst]; exact fun b o h => h) (.moved rfl (by rw [hst]; exact fun b o h => h) (.moved rfl (by rw [hst]; exact fun b o h => h) (.moved rfl (by rw [hst]; exact fun b o h => h) .nil)))))))
  · (try simp only [Bool.and_eq_true, Bool.or_eq_true, Bool.and_eq_false_iff, Bool.or_eq_false_iff, decide_eq_true_eq, decide_eq_false_iff_not, Bool.not_eq_true', Bool.not_eq_false', List.length_map, ne_eq, Decidable.not_not, Int.not_lt, Int.not_le] at h29)
    refine tr_seq ?_
    refine tr_region (fun N11 hN => ?_)
    refine lx (op_eql rfl rfl) rfl ?_
    refine lx (op_assign rfl) rfl ?_
    refine lx_end ⟨by kernel_rfl, ?_⟩
    refine pe_then_normal ?_
    refine tr_sub hC (.cons (t := 0) rfl (.cons (t := 3) rfl (.cons (t := 5) rfl (.cons (t := 6) rfl (.cons (t := 28) rfl (.cons (t := 103) rfl .nil)))))) (.cons (t := 0) rfl (.cons (t := 1) rfl (.cons (t := 2) rfl (.cons (t := 3) rfl (.cons (t := 4) rfl (.cons (t := 5) rfl (.cons (t := 6) rfl (.cons (t := 603) rfl .nil)))))))) rfl ?_
    refine tr_cond rfl (fun h103 => ?_) (fun h103 => ?_)
    · (try simp only [Bool.and_eq_true, Bool.or_eq_true, Bool.and_eq_false_iff, Bool.or_eq_false_iff, decide_eq_true_eq, decide_eq_false_iff_not, Bool.not_eq_true', Bool.not_eq_false', List.length_map, ne_eq, Decidable.not_not, Int.not_lt, Int.not_le] at h103)
      obtain rfl : q = 1 := by omega
      refine tr_seq ?_
      refine tr_region (fun N12 hN => ?_)
      refine lx (op_move rfl) rfl ?_
      refine lx (op_move rfl) rfl ?_
      first | refine lx (op_nilCheck rfl) rfl ?_ | refine lx (op_nilCheckC rfl) rfl ?_
      refine lx (op_fieldAddr rfl fl73_0 sz69) rfl ?_
      refine lx (op_aindex rfl rfl ar69 sz46 (show (1 : Int) = ((1 : Nat) : Int) from rfl) (by decide)) rfl ?_
      first | refine lx (op_bload (m := 0) rfl rfl ag46 sz46) rfl ?_ | refine lx (op_bload_part (m := 0) (qs := [_, _, _, _, _]) rfl rfl ag46 sz46 rfl rfl) rfl ?_
      first | refine lx (op_call (l := [(Go.Operand.tmp 110)]) (Frames_ok b.e) (.cons rfl .nil) fn24) rfl ?_ | refine lx (op_call (l := [(Go.Operand.tmp 110)]) (Frames_ok b.e) (.ent rfl (by repeat (first | exact Ents.nil | refine Ents.cons ?_ ?_ | refine Ent.tup ?_ | refine Ent.agg ?_ | exact Ent.row _ _ _ _ | exact Ent.nil _ _ | exact Ent.func _ | exact Ent.refl _ | exact Ent.of_eq rfl | refine Ent.cells ?_)) .nil) fn24) rfl ?_
      first | refine lx (op_len rfl el43) rfl ?_ | refine lx (op_len_row rfl el43) rfl ?_ | refine lx (op_len_mv rfl el43) rfl ?_ | refine lx (op_len_nil rfl el43) rfl ?_
      refine lx (op_move rfl) rfl ?_
      refine lx_end ⟨by kernel_rfl, ?_⟩
      refine pe_then_normal ?_
      refine tr_sub hC (.cons (t := 0) rfl (.cons (t := 5) rfl (.cons (t := 111) rfl (.cons (t := 112) rfl (.cons (t := 113) rfl .nil))))) (.cons (t := 0) rfl (.cons (t := 1) rfl (.cons (t := 2) rfl (.cons (t := 3) rfl (.cons (t := 4) rfl (.cons (t := 5) rfl (.cons (t := 6) rfl .nil))))))) rfl ?_
      refine tr_block ?_
      refine tr_loopK (α := {zz : Nat × (List (List Int)) × AL.Id // zz.1 ≤ (framesF b.e).length ∧ zz.2.1 = addN a.n ((framesF b.e).take zz.1)}) (⟨(0, a.n, i5), Nat.zero_le _, rfl⟩) (fun zz => [(113, eqP (.int .i64 (zz.1.1 : Int)))]) (fun zz => [(0, some (i0, blk 73 [eqP (.int .i64 a.e.window), eqP (.int .i64 a.e.base), slP byS 1 a.e.sent, eqP (.int .i64 a.e.got), slP WF.ps 3 a.e.early, eqP (.int .i64 b.e.window), eqP (.int .i64 b.e.base), slP byS 1 b.e.sent, eqP (.int .i64 b.e.got), slP WF.ps 3 b.e.early, rowP i1 stP 1 a.s, rowP i2 stP 1 b.s, rowP i3 stP 1 a.g, rowP i4 stP 1 b.g, rowP zz.1.2.2 byS 1 zz.1.2.1, rowP i6 byS 1 b.n])), (5, some (zz.1.2.2, tail 25 1 (zz.1.2.1.length * 1)))]) (fun zz => (framesF b.e).length - zz.1.1) hC (.cons (t := 0) rfl (.cons (t := 5) rfl (.cons (t := 111) rfl (.cons (t := 112) rfl .nil)))) (.cons (t := 1) rfl (.cons (t := 2) rfl (.cons (t := 3) rfl (.cons (t := 4) rfl (.cons (t := 6) rfl .nil))))) rfl ?_ ?_ (fun zz => ?_)
      · try dsimp only [List.cons_append, List.nil_append]
        first | refine SubF.cons rfl ?_ | (refine SubF.ent rfl ?_ ?_; · repeat (first | exact Ents.nil | refine Ents.cons ?_ ?_ | refine Ent.tup ?_ | refine Ent.agg ?_ | exact Ent.row _ _ _ _ | exact Ent.nil _ _ | exact Ent.func _ | exact Ent.refl _ | exact Ent.of_eq rfl | refine Ent.cells ?_))
        exact SubF.nil
      · try dsimp only [List.cons_append, List.nil_append]
        repeat (first | exact SubL.nil | refine SubL.cons rfl ?_)
      · obtain ⟨⟨j, xs, i⟩, hj, hxs⟩ := zz
        try dsimp only at hj
        try dsimp only at hxs
        dsimp only [List.cons_append, List.nil_append]
        refine tr_seq ?_
        refine tr_region (fun N13 hN => ?_)
        refine lx (op_lss rfl rfl) rfl ?_
        refine lx_end ⟨by kernel_rfl, ?_⟩
        refine pe_then_normal ?_
        refine tr_sub hC (.cons (t := 0) rfl (.cons (t := 5) rfl (.cons (t := 111) rfl (.cons (t := 112) rfl (.cons (t := 113) rfl (.cons (t := 114) rfl .nil)))))) (.cons (t := 0) rfl (.cons (t := 5) rfl (.cons (t := 1) rfl (.cons (t := 2) rfl (.cons (t := 3) rfl (.cons (t := 4) rfl (.cons (t := 6) rfl .nil))))))) rfl ?_
        refine tr_seq ?_
        refine tr_cond rfl (fun h114 => ?_) (fun h114 => ?_)
        · (try simp only [Bool.and_eq_true, Bool.or_eq_true, Bool.and_eq_false_iff, Bool.or_eq_false_iff, decide_eq_true_eq, decide_eq_false_iff_not, Bool.not_eq_true', Bool.not_eq_false', List.length_map, ne_eq, Decidable.not_not, Int.not_lt, Int.not_le] at h114)
          refine tr_skip ?_
          refine pe_then_normal ?_
          refine tr_sub hC (.cons (t := 0) rfl (.cons (t := 5) rfl (.cons (t := 111) rfl (.cons (t := 112) rfl (.cons (t := 113) rfl .nil))))) (.cons (t := 0) rfl (.cons (t := 5) rfl (.cons (t := 1) rfl (.cons (t := 2) rfl (.cons (t := 3) rfl (.cons (t := 4) rfl (.cons (t := 6) rfl .nil))))))) rfl ?_
          refine tr_seq ?_
          refine tr_block ?_
          refine tr_seq ?_
          refine tr_region (fun N14 hN => ?_)
          refine lx (op_index rfl rfl el43 sz25 rfl (List.getElem?_eq_getElem (by omega : j < (framesF b.e).length))) rfl ?_
          first | refine lx (op_load_one rfl ag25 rfl) rfl ?_ | refine lx (op_bload_one (m := 0) rfl rfl ag25 rfl) rfl ?_ | refine lx (op_bload_one (m := 5) rfl rfl ag25 rfl) rfl ?_ | refine lx (op_bload_one (m := 1) rfl rfl ag25 rfl) rfl ?_ | refine lx (op_bload_one (m := 2) rfl rfl ag25 rfl) rfl ?_ | refine lx (op_bload_one (m := 3) rfl rfl ag25 rfl) rfl ?_ | refine lx (op_bload_one (m := 4) rfl rfl ag25 rfl) rfl ?_ | refine lx (op_bload_one (m := 6) rfl rfl ag25 rfl) rfl ?_
          refine lx (op_assign rfl) rfl ?_
          refine lx_end ⟨by kernel_rfl, ?_⟩
          refine pe_then_normal ?_
          refine tr_sub hC (.cons (t := 0) rfl (.cons (t := 5) rfl (.cons (t := 11) rfl (.cons (t := 111) rfl (.cons (t := 112) rfl (.cons (t := 113) rfl .nil)))))) (.cons (t := 0) rfl (.cons (t := 5) rfl (.cons (t := 1) rfl (.cons (t := 2) rfl (.cons (t := 3) rfl (.cons (t := 4) rfl (.cons (t := 6) rfl .nil))))))) rfl ?_
          refine tr_seq ?_
          refine tr_region (fun N15 hN => ?_)
          refine lx (op_move rfl) rfl ?_
          refine lx (op_move rfl) rfl ?_
          refine lx (op_sub rfl rfl (by omega)) rfl ?_
          first | refine lx (op_nilCheck rfl) rfl ?_ | refine lx (op_nilCheckC rfl) rfl ?_
          refine lx (op_fieldAddr rfl fl73_3 sz71) rfl ?_
          refine lx (op_aindex rfl rfl ar71 sz43 (show (1 : Int) - 1 = ((0 : Nat) : Int) from rfl) (by decide)) rfl ?_
          refine lx (op_bload_one (m := 0) rfl rfl ag43 rfl) rfl ?_
          first | refine lx (op_len rfl el43) rfl ?_ | refine lx (op_len_row rfl el43) rfl ?_ | refine lx (op_len_mv rfl el43) rfl ?_ | refine lx (op_len_nil rfl el43) rfl ?_
          refine lx (op_lss rfl rfl) rfl ?_
          refine lx_end ⟨by kernel_rfl, ?_⟩
          refine pe_then_normal ?_
          refine tr_sub hC (.cons (t := 0) rfl (.cons (t := 5) rfl (.cons (t := 11) rfl (.cons (t := 111) rfl (.cons (t := 112) rfl (.cons (t := 113) rfl (.cons (t := 125) rfl .nil))))))) (.cons (t := 0) rfl (.cons (t := 5) rfl (.cons (t := 1) rfl (.cons (t := 2) rfl (.cons (t := 3) rfl (.cons (t := 4) rfl (.cons (t := 6) rfl .nil))))))) rfl ?_
          refine tr_cond rfl (fun h125 => ?_) (fun h125 => ?_)
          · (try simp only [Bool.and_eq_true, Bool.or_eq_true, Bool.and_eq_false_iff, Bool.or_eq_false_iff, decide_eq_true_eq, decide_eq_false_iff_not, Bool.not_eq_true', Bool.not_eq_false', List.length_map, ne_eq, Decidable.not_not, Int.not_lt, Int.not_le] at h125)
            have hxn : addN a.n ((framesF b.e).take (j + 1)) = xs ++ [(framesF b.e)[j]] := by rw [addN_at (by omega), ← hxs, if_pos (by omega)]
            refine tr_drawn mixed (fun N16 hN => ?_)
            refine lx (op_move rfl) rfl ?_
            refine lx (op_move rfl) rfl ?_
            refine lx (op_sub rfl rfl (by omega)) rfl ?_
            refine lx (op_move rfl) rfl ?_
            refine lx (op_move rfl) rfl ?_
            refine lx (op_sub rfl rfl (by omega)) rfl ?_
            first | refine lx (op_nilCheck rfl) rfl ?_ | refine lx (op_nilCheckC rfl) rfl ?_
            refine lx (op_fieldAddr rfl fl73_3 sz71) rfl ?_
            refine lx (op_aindex rfl rfl ar71 sz43 (show (1 : Int) - 1 = ((0 : Nat) : Int) from rfl) (by decide)) rfl ?_
            refine lx (op_bload_one (m := 0) rfl rfl ag43 rfl) rfl ?_
            refine lx (op_move rfl) rfl ?_
            refine lx (op_buildSlice (f := byS) (xs := [(framesF b.e)[j]'(by omega)]) (l := [(0, (Go.Operand.tmp 136))]) ze25 rfl rfl (by decide) el43 sz25 byS_len (.cons rfl (.one (by (first | exact One.eq rfl | exact One.mv _ _ _ _ _ | exact One.cl _ _ _ | exact One.map _ | exact One.sl _ _ _ | exact One.row _ _ _ _ | exact One.msl _ _ _ _ | exact One.ptr _ _ | exact One.b _ | exact One.cells _))) .nil) rfl (by decide)) rfl ?_
            refine lxr (op_append (m := 5) (m' := 5) (kk := 138) rfl rfl rfl (.inl rfl) el43 ze25 sz25 by25 rfl byS_len (by rw [List.length_singleton]; omega) (by rw [List.length_singleton]; omega)) rfl ?_
            first | refine lx (op_nilCheck rfl) rfl ?_ | refine lx (op_nilCheckC rfl) rfl ?_
            refine lx (op_fieldAddr rfl fl73_3 sz71) rfl ?_
            refine lx (op_aindex rfl rfl ar71 sz43 (show (1 : Int) - 1 = ((0 : Nat) : Int) from rfl) (by decide)) rfl ?_
            refine lxr (op_store_one (m := 0) rfl rfl rfl (by (first | exact One.eq rfl | exact One.mv _ _ _ _ _ | exact One.cl _ _ _ | exact One.map _ | exact One.sl _ _ _ | exact One.row _ _ _ _ | exact One.msl _ _ _ _ | exact One.ptr _ _ | exact One.b _ | exact One.cells _)) sz43 rfl) rfl ?_
            refine lx_end ⟨by kernel_rfl, ?_⟩
            refine pe_block_normal ?_
            refine pe_then_normal ?_
            refine tr_sub hC (.cons (t := 0) rfl (.cons (t := 5) rfl (.cons (t := 111) rfl (.cons (t := 112) rfl (.cons (t := 113) rfl .nil))))) (.cons (t := 0) rfl (.cons (t := 1) rfl (.cons (t := 2) rfl (.cons (t := 3) rfl (.cons (t := 4) rfl (.cons (t := 6) rfl (.cons (t := 5) rfl .nil))))))) rfl ?_
            refine tr_region (fun N17 hN => ?_)
            refine lx (op_add rfl rfl (by omega)) rfl ?_
            refine lx (op_move rfl) rfl ?_
            refine lx_end ⟨by kernel_rfl, ?_⟩
            refine pe_round (⟨(j + 1, xs ++ [(framesF b.e)[j]], (N16, 138)), by dsimp only; omega, by dsimp only; exact hxn.symm⟩) (by dsimp only; omega) (pe_st hC ?_ ?_ rfl)
            · try dsimp only [List.cons_append, List.nil_append]
              first | refine SubF.cons rfl ?_ | (refine SubF.ent rfl ?_ ?_; · repeat (first | exact Ents.nil | refine Ents.cons ?_ ?_ | refine Ent.tup ?_ | refine Ent.agg ?_ | exact Ent.row _ _ _ _ | exact Ent.nil _ _ | exact Ent.func _ | exact Ent.refl _ | exact Ent.of_eq rfl | refine Ent.cells ?_))
              first | refine SubF.cons rfl ?_ | (refine SubF.ent rfl ?_ ?_; · repeat (first | exact Ents.nil | refine Ents.cons ?_ ?_ | refine Ent.tup ?_ | refine Ent.agg ?_ | exact Ent.row _ _ _ _ | exact Ent.nil _ _ | exact Ent.func _ | exact Ent.refl _ | exact Ent.of_eq rfl | refine Ent.cells ?_))
              first | refine SubF.cons rfl ?_ | (refine SubF.ent rfl ?_ ?_; · repeat (first | exact Ents.nil | refine Ents.cons ?_ ?_ | refine Ent.tup ?_ | refine Ent.agg ?_ | exact Ent.row _ _ _ _ | exact Ent.nil _ _ | exact Ent.func _ | exact Ent.refl _ | exact Ent.of_eq rfl | refine Ent.cells ?_))
              first | refine SubF.cons rfl ?_ | (refine SubF.ent rfl ?_ ?_; · repeat (first | exact Ents.nil | refine Ents.cons ?_ ?_ | refine Ent.tup ?_ | refine Ent.agg ?_ | exact Ent.row _ _ _ _ | exact Ent.nil _ _ | exact Ent.func _ | exact Ent.refl _ | exact Ent.of_eq rfl | refine Ent.cells ?_))
              first | refine SubF.cons rfl ?_ | (refine SubF.ent rfl ?_ ?_; · repeat (first | exact Ents.nil | refine Ents.cons ?_ ?_ | refine Ent.tup ?_ | refine Ent.agg ?_ | exact Ent.row _ _ _ _ | exact Ent.nil _ _ | exact Ent.func _ | exact Ent.refl _ | exact Ent.of_eq rfl | refine Ent.cells ?_))
              exact SubF.nil
            · try dsimp only [List.cons_append, List.nil_append]
              repeat (first | exact SubL.nil | refine SubL.cons rfl ?_)
          · (try simp only [Bool.and_eq_true, Bool.or_eq_true, Bool.and_eq_false_iff, Bool.or_eq_false_iff, decide_eq_true_eq, decide_eq_false_iff_not, Bool.not_eq_true', Bool.not_eq_false', List.length_map, ne_eq, Decidable.not_not, Int.not_lt, Int.not_le] at h125)
            have hxn : addN a.n ((framesF b.e).take (j + 1)) = xs := by rw [addN_at (by omega), ← hxs, if_neg (by omega)]
            refine tr_skip ?_
            refine pe_block_normal ?_
            refine pe_then_normal ?_
            refine tr_sub hC (.cons (t := 0) rfl (.cons (t := 5) rfl (.cons (t := 111) rfl (.cons (t := 112) rfl (.cons (t := 113) rfl .nil))))) (.cons (t := 0) rfl (.cons (t := 5) rfl (.cons (t := 1) rfl (.cons (t := 2) rfl (.cons (t := 3) rfl (.cons (t := 4) rfl (.cons (t := 6) rfl .nil))))))) rfl ?_
            refine tr_region (fun N17 hN => ?_)
            refine lx (op_add rfl rfl (by omega)) rfl ?_
            refine lx (op_move rfl) rfl ?_
            refine lx_end ⟨by kernel_rfl, ?_⟩
            refine pe_round (⟨(j + 1, xs, i), by dsimp only; omega, by dsimp only; exact hxn.symm⟩) (by dsimp only; omega) (pe_st hC ?_ ?_ rfl)
            · try dsimp only [List.cons_append, List.nil_append]
              first | refine SubF.cons rfl ?_ | (refine SubF.ent rfl ?_ ?_; · repeat (first | exact Ents.nil | refine Ents.cons ?_ ?_ | refine Ent.tup ?_ | refine Ent.agg ?_ | exact Ent.row _ _ _ _ | exact Ent.nil _ _ | exact Ent.func _ | exact Ent.refl _ | exact Ent.of_eq rfl | refine Ent.cells ?_))
              first | refine SubF.cons rfl ?_ | (refine SubF.ent rfl ?_ ?_; · repeat (first | exact Ents.nil | refine Ents.cons ?_ ?_ | refine Ent.tup ?_ | refine Ent.agg ?_ | exact Ent.row _ _ _ _ | exact Ent.nil _ _ | exact Ent.func _ | exact Ent.refl _ | exact Ent.of_eq rfl | refine Ent.cells ?_))
              first | refine SubF.cons rfl ?_ | (refine SubF.ent rfl ?_ ?_; · repeat (first | exact Ents.nil | refine Ents.cons ?_ ?_ | refine Ent.tup ?_ | refine Ent.agg ?_ | exact Ent.row _ _ _ _ | exact Ent.nil _ _ | exact Ent.func _ | exact Ent.refl _ | exact Ent.of_eq rfl | refine Ent.cells ?_))
              first | refine SubF.cons rfl ?_ | (refine SubF.ent rfl ?_ ?_; · repeat (first | exact Ents.nil | refine Ents.cons ?_ ?_ | refine Ent.tup ?_ | refine Ent.agg ?_ | exact Ent.row _ _ _ _ | exact Ent.nil _ _ | exact Ent.func _ | exact Ent.refl _ | exact Ent.of_eq rfl | refine Ent.cells ?_))
              first | refine SubF.cons rfl ?_ | (refine SubF.ent rfl ?_ ?_; · repeat (first | exact Ents.nil | refine Ents.cons ?_ ?_ | refine Ent.tup ?_ | refine Ent.agg ?_ | exact Ent.row _ _ _ _ | exact Ent.nil _ _ | exact Ent.func _ | exact Ent.refl _ | exact Ent.of_eq rfl | refine Ent.cells ?_))
              exact SubF.nil
            · try dsimp only [List.cons_append, List.nil_append]
              repeat (first | exact SubL.nil | refine SubL.cons rfl ?_)
        · (try simp only [Bool.and_eq_true, Bool.or_eq_true, Bool.and_eq_false_iff, Bool.or_eq_false_iff, decide_eq_true_eq, decide_eq_false_iff_not, Bool.not_eq_true', Bool.not_eq_false', List.length_map, ne_eq, Decidable.not_not, Int.not_lt, Int.not_le] at h114)
          have hst : stepF b a 1 p = (b, { a with n := xs }) := by rw [hxs, List.take_of_length_le (by omega)]; rfl
          refine tr_exit ?_
          refine pe_then_exit ?_
          refine pe_then_exit ?_
          refine pe_block_eq ?_
          refine pe_block_normal ?_
          refine pe_then_normal ?_
          refine tr_sub hC .nil (.cons (t := 0) rfl (.cons (t := 5) rfl (.cons (t := 1) rfl (.cons (t := 2) rfl (.cons (t := 3) rfl (.cons (t := 4) rfl (.cons (t := 6) rfl .nil))))))) rfl ?_
          refine tr_seq ?_
          refine tr_region (fun N31 hN => ?_)
          refine lx (op_assign rfl) rfl ?_
          refine lx_end ⟨by kernel_rfl, ?_⟩
          refine pe_then_normal ?_
          refine tr_sub hC (.cons (t := 4) rfl .nil) (.cons (t := 0) rfl (.cons (t := 5) rfl (.cons (t := 1) rfl (.cons (t := 2) rfl (.cons (t := 3) rfl (.cons (t := 4) rfl (.cons (t := 6) rfl .nil))))))) rfl ?_
          refine tr_ret ?_
          refine pe_ownS' [0, 1, 2, 3, 4, 5, 6] rfl hO rfl (.tmp rfl .nil) (.cons (m := 1) rfl (RenR.tail _ _ _) (.cons (m := 2) rfl (RenR.tail _ _ _) (.cons (m := 3) rfl (RenR.tail _ _ _) (.cons (m := 4) rfl (RenR.tail _ _ _) (.cons (m := 5) rfl (RenR.tail _ _ _) (.cons (m := 6) rfl (RenR.tail _ _ _) .nil)))))) rfl rfl rfl ?_
          intro τ ι hs
          refine ⟨?_, ?_⟩
          · exact fun v h => h
          · exact (.kept rfl rfl (by rw [hst]; exact blk_ents (.cons (ent_at (Ent.refl _)) (.cons (ent_at (Ent.refl _)) (.cons (ent_at (Ent.refl _)) (.cons (ent_at (Ent.refl _)) (.cons (ent_at (Ent.refl _)) (.cons (ent_at (Ent.refl _)) (.cons (ent_at (Ent.refl _)) (.cons (ent_at (Ent.refl _)) (.cons (ent_at (Ent.refl _)) (.cons (ent_at (Ent.refl _)) (.cons (row_ren (hs 0 _ rfl).1 (hs 0 _ rfl).2) (.cons (row_ren (hs 1 _ rfl).1 (hs 1 _ rfl).2) (.cons (row_ren (hs 2 _ rfl).1 (hs 2 _ rfl).2) (.cons (row_ren (hs 3 _ rfl).1 (hs 3 _ rfl).2) (.cons (row_ren (hs 4 _ rfl).1 (hs 4 _ rfl).2) (.cons (row_ren (hs 5 _ rfl).1 (hs 5 _ rfl).2) .nil))))))))))))))))) (.moved rfl (by rw [hst]; exact fun b o h => h) (.moved rfl (by rw [hst]; exact fun b o h => h) (.moved rfl (by rw [hst]; exact fun b o h => h) (.moved rfl (by rw [hst]; exact fun b o h => h) (.moved rfl (by rw [hst]; exact fun b o h => h) (.moved rfl (by rw [hst]; exact fun b o h => h) .nil)))))))
    · (try simp only [Bool.and_eq_true, Bool.or_eq_true, Bool.and_eq_false_iff, Bool.or_eq_false_iff, decide_eq_true_eq, decide_eq_false_iff_not, Bool.not_eq_true', Bool.not_eq_false', List.length_map, ne_eq, Decidable.not_not, Int.not_lt, Int.not_le] at h103)
      refine tr_seq ?_
      refine tr_seq ?_
      refine tr_region (fun N18 hN => ?_)
      refine lx (op_eql rfl rfl) rfl ?_
      refine lx (op_assign rfl) rfl ?_
      refine lx_end ⟨by kernel_rfl, ?_⟩
      refine pe_then_normal ?_
      refine tr_sub hC (.cons (t := 0) rfl (.cons (t := 3) rfl (.cons (t := 5) rfl (.cons (t := 6) rfl (.cons (t := 28) rfl (.cons (t := 143) rfl .nil)))))) (.cons (t := 0) rfl (.cons (t := 1) rfl (.cons (t := 2) rfl (.cons (t := 3) rfl (.cons (t := 4) rfl (.cons (t := 5) rfl (.cons (t := 6) rfl (.cons (t := 603) rfl .nil)))))))) rfl ?_
      refine tr_cond2 rfl (fun h143 => ?_) (fun h143 => ?_)
      · (try simp only [Bool.and_eq_true, Bool.or_eq_true, Bool.and_eq_false_iff, Bool.or_eq_false_iff, decide_eq_true_eq, decide_eq_false_iff_not, Bool.not_eq_true', Bool.not_eq_false', List.length_map, ne_eq, Decidable.not_not, Int.not_lt, Int.not_le] at h143)
        obtain rfl : q = 2 := by omega
        refine tr_skip ?_
        refine pe_then_normal ?_
        refine tr_sub hC (.cons (t := 0) rfl (.cons (t := 3) rfl (.cons (t := 5) rfl (.cons (t := 6) rfl (.cons (t := 28) rfl (.cons (t := 143) rfl .nil)))))) (.cons (t := 0) rfl (.cons (t := 1) rfl (.cons (t := 2) rfl (.cons (t := 3) rfl (.cons (t := 4) rfl (.cons (t := 5) rfl (.cons (t := 6) rfl (.cons (t := 603) rfl .nil)))))))) rfl ?_
        refine tr_cond_t rfl ?_
        refine tr_seq ?_
        refine tr_seq ?_
        refine tr_region (fun N20 hN => ?_)
        refine lx (op_move rfl) rfl ?_
        refine lx (op_eql rfl rfl) rfl ?_
        refine lx_end ⟨by kernel_rfl, ?_⟩
        refine pe_then_normal ?_
        refine tr_sub hC (.cons (t := 0) rfl (.cons (t := 3) rfl (.cons (t := 5) rfl (.cons (t := 6) rfl (.cons (t := 147) rfl .nil))))) (.cons (t := 0) rfl (.cons (t := 1) rfl (.cons (t := 2) rfl (.cons (t := 3) rfl (.cons (t := 4) rfl (.cons (t := 5) rfl (.cons (t := 6) rfl (.cons (t := 603) rfl .nil)))))))) rfl ?_
        refine tr_cond rfl (fun h147 => ?_) (fun h147 => ?_)
        · (try simp only [Bool.and_eq_true, Bool.or_eq_true, Bool.and_eq_false_iff, Bool.or_eq_false_iff, decide_eq_true_eq, decide_eq_false_iff_not, Bool.not_eq_true', Bool.not_eq_false', List.length_map, ne_eq, Decidable.not_not, Int.not_lt, Int.not_le] at h147)
          have hst := step_2n (b := a) (p := p) (a := b) (by omega)
          refine tr_seq ?_
          refine tr_region (fun N21 hN => ?_)
          refine lx (op_assign rfl) rfl ?_
          refine lx_end ⟨by kernel_rfl, ?_⟩
          refine pe_then_normal ?_
          refine tr_sub hC (.cons (t := 4) rfl .nil) (.cons (t := 0) rfl (.cons (t := 1) rfl (.cons (t := 2) rfl (.cons (t := 3) rfl (.cons (t := 4) rfl (.cons (t := 5) rfl (.cons (t := 6) rfl .nil))))))) rfl ?_
          refine tr_ret ?_
          refine pe_then_ret ?_
          refine pe_block_ret ?_
          refine pe_then_ret ?_
          refine pe_ownS' [0, 1, 2, 3, 4, 5, 6] rfl hO rfl (.tmp rfl .nil) (.cons (m := 1) rfl (RenR.tail _ _ _) (.cons (m := 2) rfl (RenR.tail _ _ _) (.cons (m := 3) rfl (RenR.tail _ _ _) (.cons (m := 4) rfl (RenR.tail _ _ _) (.cons (m := 5) rfl (RenR.tail _ _ _) (.cons (m := 6) rfl (RenR.tail _ _ _) .nil)))))) rfl rfl rfl ?_
          intro τ ι hs
          refine ⟨?_, ?_⟩
          · exact fun v h => h
          · exact (.kept rfl rfl (by rw [hst]; exact blk_ents (.cons (ent_at (Ent.refl _)) (.cons (ent_at (Ent.refl _)) (.cons (ent_at (Ent.refl _)) (.cons (ent_at (Ent.refl _)) (.cons (ent_at (Ent.refl _)) (.cons (ent_at (Ent.refl _)) (.cons (ent_at (Ent.refl _)) (.cons (ent_at (Ent.refl _)) (.cons (ent_at (Ent.refl _)) (.cons (ent_at (Ent.refl _)) (.cons (row_ren (hs 0 _ rfl).1 (hs 0 _ rfl).2) (.cons (row_ren (hs 1 _ rfl).1 (hs 1 _ rfl).2) (.cons (row_ren (hs 2 _ rfl).1 (hs 2 _ rfl).2) (.cons (row_ren (hs 3 _ rfl).1 (hs 3 _ rfl).2) (.cons (row_ren (hs 4 _ rfl).1 (hs 4 _ rfl).2) (.cons (row_ren (hs 5 _ rfl).1 (hs 5 _ rfl).2) .nil))))))))))))))))) (.moved rfl (by rw [hst]; exact fun b o h => h) (.moved rfl (by rw [hst]; exact fun b o h => h) (.moved rfl (by rw [hst]; exact fun b o h => h) (.moved rfl (by rw [hst]; exact fun b o h => h) (.moved rfl (by rw [hst]; exact fun b o h => h) (.moved rfl (by rw [hst]; exact fun b o h => h) .nil)))))))
        · (try simp only [Bool.and_eq_true, Bool.or_eq_true, Bool.and_eq_false_iff, Bool.or_eq_false_iff, decide_eq_true_eq, decide_eq_false_iff_not, Bool.not_eq_true', Bool.not_eq_false', List.length_map, ne_eq, Decidable.not_not, Int.not_lt, Int.not_le] at h147)
          have h0 : b.n.length ≠ 0 := by omega
          have hpl := (pick_lt (p := p) h0 hp.1).2
          have hst := step_2 (b := a) (p := p) h0
          refine tr_skip ?_
          refine pe_then_normal ?_
          refine tr_sub hC (.cons (t := 0) rfl (.cons (t := 3) rfl (.cons (t := 5) rfl (.cons (t := 6) rfl .nil)))) (.cons (t := 0) rfl (.cons (t := 1) rfl (.cons (t := 2) rfl (.cons (t := 3) rfl (.cons (t := 4) rfl (.cons (t := 5) rfl (.cons (t := 6) rfl (.cons (t := 603) rfl .nil)))))))) rfl ?_
          refine tr_seq ?_
          refine tr_region (fun N22 hN => ?_)
          refine lx (op_fieldAddr rfl fl65_2 sz5) rfl ?_
          refine lx (op_bload_one (m := 603) rfl rfl ag5 rfl) rfl ?_
          refine lx (OpJ.ent (op_convert rfl us5 ik3) (show Ent _ (eqP (.int .i64 p)) from (by exact entI (u8_conv hp)))) rfl ?_
          refine lx (op_move rfl) rfl ?_
          refine lx (OpJ.ent (op_rem rfl rfl (decide_eq_false (by omega))) (show Ent _ (eqP (.int .i64 ((pickI b p) : Int))) from (by exact entI (pick_lt h0 hp.1).1))) rfl ?_
          refine lx (op_assign rfl) rfl ?_
          refine lx_end ⟨by kernel_rfl, ?_⟩
          refine pe_then_normal ?_
          refine tr_sub hC (.cons (t := 0) rfl (.cons (t := 3) rfl (.cons (t := 5) rfl (.cons (t := 12) rfl .nil)))) (.cons (t := 0) rfl (.cons (t := 1) rfl (.cons (t := 2) rfl (.cons (t := 3) rfl (.cons (t := 4) rfl (.cons (t := 5) rfl (.cons (t := 6) rfl (.cons (t := 603) rfl .nil)))))))) rfl ?_
          refine tr_seq ?_
          refine tr_region (fun N23 hN => ?_)
          refine lx (op_move rfl) rfl ?_
          refine lx (op_move rfl) rfl ?_
          first | refine lx (op_nilCheck rfl) rfl ?_ | refine lx (op_nilCheckC rfl) rfl ?_
          refine lx (op_fieldAddr rfl fl73_3 sz71) rfl ?_
          refine lx (op_aindex rfl rfl ar71 sz43 (show (1 : Int) = ((1 : Nat) : Int) from rfl) (by decide)) rfl ?_
          refine lx (OpJ.ent (op_bload_one (m := 0) rfl rfl ag43 rfl) (show Ent _ (slP byS 1 b.n) from (by exact Ent.row _ _ _ _))) rfl ?_
          refine lx (op_move rfl) rfl ?_
          refine lx (op_index rfl rfl el43 sz25 rfl (pick_at h0 hp.1)) rfl ?_
          first | refine lx (op_load_one rfl ag25 rfl) rfl ?_ | refine lx (op_bload_one (m := 0) rfl rfl ag25 rfl) rfl ?_ | refine lx (op_bload_one (m := 1) rfl rfl ag25 rfl) rfl ?_ | refine lx (op_bload_one (m := 2) rfl rfl ag25 rfl) rfl ?_ | refine lx (op_bload_one (m := 3) rfl rfl ag25 rfl) rfl ?_ | refine lx (op_bload_one (m := 4) rfl rfl ag25 rfl) rfl ?_ | refine lx (op_bload_one (m := 5) rfl rfl ag25 rfl) rfl ?_ | refine lx (op_bload_one (m := 6) rfl rfl ag25 rfl) rfl ?_ | refine lx (op_bload_one (m := 603) rfl rfl ag25 rfl) rfl ?_
          refine lx (op_assign rfl) rfl ?_
          refine lx_end ⟨by kernel_rfl, ?_⟩
          refine pe_then_normal ?_
          refine tr_sub hC (.cons (t := 0) rfl (.cons (t := 3) rfl (.cons (t := 5) rfl (.cons (t := 12) rfl (.cons (t := 13) rfl .nil))))) (.cons (t := 0) rfl (.cons (t := 1) rfl (.cons (t := 2) rfl (.cons (t := 3) rfl (.cons (t := 4) rfl (.cons (t := 5) rfl (.cons (t := 6) rfl (.cons (t := 603) rfl .nil)))))))) rfl ?_
          refine tr_seq ?_
          refine tr_seq ?_
          refine tr_region (fun N24 hN => ?_)
          refine lx (op_fieldAddr rfl fl65_0 sz5) rfl ?_
          refine lx (op_bload_one (m := 603) rfl rfl ag5 rfl) rfl ?_
          refine lx (op_rem rfl rfl rfl) rfl ?_
          refine lx (op_eql rfl rfl) rfl ?_
          refine lx_end ⟨by kernel_rfl, ?_⟩
          refine pe_then_normal ?_
          refine tr_sub hC (.cons (t := 0) rfl (.cons (t := 5) rfl (.cons (t := 12) rfl (.cons (t := 13) rfl (.cons (t := 165) rfl .nil))))) (.cons (t := 0) rfl (.cons (t := 1) rfl (.cons (t := 2) rfl (.cons (t := 3) rfl (.cons (t := 4) rfl (.cons (t := 5) rfl (.cons (t := 6) rfl .nil))))))) rfl ?_
          refine tr_cond rfl (fun h165 => ?_) (fun h165 => ?_)
          · (try simp only [Bool.and_eq_true, Bool.or_eq_true, Bool.and_eq_false_iff, Bool.or_eq_false_iff, decide_eq_true_eq, decide_eq_false_iff_not, Bool.not_eq_true', Bool.not_eq_false', List.length_map, ne_eq, Decidable.not_not, Int.not_lt, Int.not_le] at h165)
            refine tr_drawn mixed (fun N25 hN => ?_)
            refine lx (op_move rfl) rfl ?_
            refine lx (op_move rfl) rfl ?_
            refine lxn (op_buildEmpty (m' := 168) (kk := 168) (f := byS) el43 sz25 (by first | exact hC.low _ (by decide) | rfl)) rfl ?_
            refine lx (op_move rfl) rfl ?_
            refine lx (op_move rfl) rfl ?_
            first | refine lx (op_nilCheck rfl) rfl ?_ | refine lx (op_nilCheckC rfl) rfl ?_
            refine lx (op_fieldAddr rfl fl73_3 sz71) rfl ?_
            refine lx (op_aindex rfl rfl ar71 sz43 (show (1 : Int) = ((1 : Nat) : Int) from rfl) (by decide)) rfl ?_
            refine lx (OpJ.ent (op_bload_one (m := 0) rfl rfl ag43 rfl) (show Ent _ (slP byS 1 b.n) from (by exact Ent.row _ _ _ _))) rfl ?_
            refine lx (op_move rfl) rfl ?_
            refine lx (op_slice_h rfl rfl el43 sz25 rfl (by have := (pick_lt (a := b) h0 hp.1).2; omega)) rfl ?_
            refine lxr (op_append (m := 168) (m' := 168) (kk := 177) rfl rfl rfl (.inl rfl) el43 ze25 sz25 by25 rfl byS_len (by simp; omega) (by simp; omega)) rfl ?_
            refine lx (op_move rfl) rfl ?_
            refine lx (op_move rfl) rfl ?_
            first | refine lx (op_nilCheck rfl) rfl ?_ | refine lx (op_nilCheckC rfl) rfl ?_
            refine lx (op_fieldAddr rfl fl73_3 sz71) rfl ?_
            refine lx (op_aindex rfl rfl ar71 sz43 (show (1 : Int) = ((1 : Nat) : Int) from rfl) (by decide)) rfl ?_
            refine lx (OpJ.ent (op_bload_one (m := 0) rfl rfl ag43 rfl) (show Ent _ (slP byS 1 b.n) from (by exact Ent.row _ _ _ _))) rfl ?_
            refine lx (op_move rfl) rfl ?_
            refine lx (op_add rfl rfl (by omega)) rfl ?_
            refine lx (op_slice_l rfl rfl el43 sz25 (by omega : ((pickI b p) : Int) + 1 = (((pickI b p) + 1 : Nat) : Int)) (by have := (pick_lt (a := b) h0 hp.1).2; omega)) rfl ?_
            refine lxr (op_append (m := 168) (m' := 168) (kk := 187) rfl rfl rfl (.inl rfl) el43 ze25 sz25 by25 rfl byS_len (by simp; omega) (by simp; omega)) rfl ?_
            first | refine lx (op_nilCheck rfl) rfl ?_ | refine lx (op_nilCheckC rfl) rfl ?_
            refine lx (op_fieldAddr rfl fl73_3 sz71) rfl ?_
            refine lx (op_aindex rfl rfl ar71 sz43 (show (1 : Int) = ((1 : Nat) : Int) from rfl) (by decide)) rfl ?_
            refine lxr (op_store_one (m := 0) rfl rfl rfl (by (first | exact One.eq rfl | exact One.mv _ _ _ _ _ | exact One.cl _ _ _ | exact One.map _ | exact One.sl _ _ _ | exact One.row _ _ _ _ | exact One.msl _ _ _ _ | exact One.ptr _ _ | exact One.b _ | exact One.cells _)) sz43 rfl) rfl ?_
            refine lx_end ⟨by kernel_rfl, ?_⟩
            refine pe_then_normal ?_
            refine tr_sub hC (.cons (t := 0) rfl (.cons (t := 5) rfl (.cons (t := 13) rfl .nil))) (.cons (t := 0) rfl (.cons (t := 1) rfl (.cons (t := 2) rfl (.cons (t := 3) rfl (.cons (t := 4) rfl (.cons (t := 5) rfl (.cons (t := 6) rfl (.cons (t := 168) rfl .nil)))))))) rfl ?_
            refine tr_seq ?_
            refine tr_region (fun N26 hN => ?_)
            refine lx (op_move rfl) rfl ?_
            refine lx (op_move rfl) rfl ?_
            refine lx (op_move rfl) rfl ?_
            first | refine lx_any rfl (op_callG2 (l := [(Go.Operand.tmp 191), (Go.Operand.tmp 192), (Go.Operand.tmp 193)]) (add := [(0, (i0, blk 73 (prP a (rstep ⟨b.e, b.s, b.g, cutN b.n (pickI b p)⟩ (pickD b p)) i1 i2 i3 (N26, 101940) i5 (N25, 187)))), (1, (i1, tail 9 1 (a.s.length * 1))), (2, (i2, tail 9 1 ((rstep ⟨b.e, b.s, b.g, cutN b.n (pickI b p)⟩ (pickD b p)).s.length * 1))), (3, (i3, tail 9 1 (a.g.length * 1))), (4, ((N26, 101940), tail 9 1 ((rstep ⟨b.e, b.s, b.g, cutN b.n (pickI b p)⟩ (pickD b p)).g.length * 1))), (5, (i5, tail 25 1 (a.n.length * 1))), (168, ((N25, 187), tail 25 1 ((cutN b.n (pickI b p)).length * 1)))]) (ks := [101940]) (φ := eqP (.bool true)) (.cons (m := 0) rfl (.cons (m := 1) rfl (.cons (m := 2) rfl (.cons (m := 3) rfl (.cons (m := 4) rfl (.cons (m := 5) rfl (.cons (m := 168) rfl .nil))))))) (receive_1 i0 i1 i2 i3 i4 i5 (N25, 187) a ⟨b.e, b.s, b.g, cutN b.n (pickI b p)⟩ (pickD b p) (pick_recv hinv (by omega) h0 hp.1) (show b.g.length ≤ 1000 by have := inv_g hinv; omega)) (.cons rfl (.cons rfl (.cons rfl .nil))) fn29 rfl rfl rfl (.old rfl (.old rfl (.old rfl (.old rfl (.old rfl (.old rfl (.old rfl .nil))))))) rfl) (dOK_spec rfl) ?_ | refine lx_any rfl (op_callG2 (l := [(Go.Operand.tmp 191), (Go.Operand.tmp 192), (Go.Operand.tmp 193)]) (add := [(0, (i0, blk 73 (prP a (rstep ⟨b.e, b.s, b.g, cutN b.n (pickI b p)⟩ (pickD b p)) i1 i2 i3 (N26, 101940) i5 (N25, 187)))), (1, (i1, tail 9 1 (a.s.length * 1))), (2, (i2, tail 9 1 ((rstep ⟨b.e, b.s, b.g, cutN b.n (pickI b p)⟩ (pickD b p)).s.length * 1))), (3, (i3, tail 9 1 (a.g.length * 1))), (4, ((N26, 101940), tail 9 1 ((rstep ⟨b.e, b.s, b.g, cutN b.n (pickI b p)⟩ (pickD b p)).g.length * 1))), (5, (i5, tail 25 1 (a.n.length * 1))), (168, ((N25, 187), tail 25 1 ((cutN b.n (pickI b p)).length * 1)))]) (ks := [101940]) (φ := eqP (.bool true)) (.cons (m := 0) rfl (.cons (m := 1) rfl (.cons (m := 2) rfl (.cons (m := 3) rfl (.cons (m := 4) rfl (.cons (m := 5) rfl (.cons (m := 168) rfl .nil))))))) (receive_1 i0 i1 i2 i3 i4 i5 (N25, 187) a ⟨b.e, b.s, b.g, cutN b.n (pickI b p)⟩ (pickD b p) (pick_recv hinv (by omega) h0 hp.1) (show b.g.length ≤ 1000 by have := inv_g hinv; omega)) (.ent rfl (by repeat (first | exact Ents.nil | refine Ents.cons ?_ ?_ | refine Ent.tup ?_ | refine Ent.agg ?_ | exact Ent.row _ _ _ _ | exact Ent.nil _ _ | exact Ent.func _ | exact Ent.refl _ | exact Ent.of_eq rfl | refine Ent.cells ?_)) (.ent rfl (by repeat (first | exact Ents.nil | refine Ents.cons ?_ ?_ | refine Ent.tup ?_ | refine Ent.agg ?_ | exact Ent.row _ _ _ _ | exact Ent.nil _ _ | exact Ent.func _ | exact Ent.refl _ | exact Ent.of_eq rfl | refine Ent.cells ?_)) (.ent rfl (by repeat (first | exact Ents.nil | refine Ents.cons ?_ ?_ | refine Ent.tup ?_ | refine Ent.agg ?_ | exact Ent.row _ _ _ _ | exact Ent.nil _ _ | exact Ent.func _ | exact Ent.refl _ | exact Ent.of_eq rfl | refine Ent.cells ?_)) .nil))) fn29 rfl rfl rfl (.old rfl (.old rfl (.old rfl (.old rfl (.old rfl (.old rfl (.old rfl .nil))))))) rfl) (dOK_spec rfl) ?_
            refine lx (op_assign rfl) rfl ?_
            refine lx_end ⟨by kernel_rfl, ?_⟩
            refine pe_then_normal ?_
            refine tr_sub hC (.cons (t := 4) rfl .nil) (.cons (t := 6) rfl (.cons (t := 0) rfl (.cons (t := 1) rfl (.cons (t := 2) rfl (.cons (t := 3) rfl (.cons (t := 4) rfl (.cons (t := 5) rfl (.cons (t := 168) rfl .nil)))))))) rfl ?_
            refine tr_ret ?_
            refine pe_block_ret ?_
            refine pe_then_ret ?_
            refine pe_ownS' [0, 1, 2, 3, 4, 5, 168] rfl hO rfl (.tmp rfl .nil) (.cons (m := 1) rfl (RenR.tail _ _ _) (.cons (m := 2) rfl (RenR.tail _ _ _) (.cons (m := 3) rfl (RenR.tail _ _ _) (.cons (m := 4) rfl (RenR.tail _ _ _) (.cons (m := 5) rfl (RenR.tail _ _ _) (.cons (m := 168) rfl (RenR.tail _ _ _) .nil)))))) rfl rfl rfl ?_
            intro τ ι hs
            refine ⟨?_, ?_⟩
            · exact fun v h => h
            · exact (.kept rfl rfl (by rw [hst]; exact blk_ents (.cons (ent_at (Ent.refl _)) (.cons (ent_at (Ent.refl _)) (.cons (ent_at (Ent.refl _)) (.cons (ent_at (Ent.refl _)) (.cons (ent_at (Ent.refl _)) (.cons (ent_at (Ent.refl _)) (.cons (ent_at (Ent.refl _)) (.cons (ent_at (Ent.refl _)) (.cons (ent_at (Ent.refl _)) (.cons (ent_at (Ent.refl _)) (.cons (row_ren (hs 0 _ rfl).1 (hs 0 _ rfl).2) (.cons (row_ren (hs 1 _ rfl).1 (hs 1 _ rfl).2) (.cons (row_ren (hs 2 _ rfl).1 (hs 2 _ rfl).2) (.cons (row_ren (hs 3 _ rfl).1 (hs 3 _ rfl).2) (.cons (row_ren (hs 4 _ rfl).1 (hs 4 _ rfl).2) (.cons (row_ren (hs 5 _ rfl).1 (hs 5 _ rfl).2) .nil))))))))))))))))) (.moved rfl (by rw [hst]; exact fun b o h => h) (.moved rfl (by rw [hst]; exact fun b o h => h) (.moved rfl (by rw [hst]; exact fun b o h => h) (.moved rfl (by rw [hst]; exact fun b o h => h) (.moved rfl (by rw [hst]; exact fun b o h => h) (.moved rfl (by rw [hst]; exact fun b o h => h) .nil)))))))
          · (try simp only [Bool.and_eq_true, Bool.or_eq_true, Bool.and_eq_false_iff, Bool.or_eq_false_iff, decide_eq_true_eq, decide_eq_false_iff_not, Bool.not_eq_true', Bool.not_eq_false', List.length_map, ne_eq, Decidable.not_not, Int.not_lt, Int.not_le] at h165)
            omega
      · (try simp only [Bool.and_eq_true, Bool.or_eq_true, Bool.and_eq_false_iff, Bool.or_eq_false_iff, decide_eq_true_eq, decide_eq_false_iff_not, Bool.not_eq_true', Bool.not_eq_false', List.length_map, ne_eq, Decidable.not_not, Int.not_lt, Int.not_le] at h143)
        refine tr_region (fun N19 hN => ?_)
        refine lx (op_eql rfl rfl) rfl ?_
        refine lx (op_assign rfl) rfl ?_
        refine lx_end ⟨by kernel_rfl, ?_⟩
        refine pe_then_normal ?_
        refine tr_sub hC (.cons (t := 0) rfl (.cons (t := 3) rfl (.cons (t := 5) rfl (.cons (t := 6) rfl (.cons (t := 28) rfl (.cons (t := 143) rfl .nil)))))) (.cons (t := 0) rfl (.cons (t := 1) rfl (.cons (t := 2) rfl (.cons (t := 3) rfl (.cons (t := 4) rfl (.cons (t := 5) rfl (.cons (t := 6) rfl (.cons (t := 603) rfl .nil)))))))) rfl ?_
        refine tr_cond rfl (fun h143_2 => ?_) (fun h143_2 => ?_)
        · (try simp only [Bool.and_eq_true, Bool.or_eq_true, Bool.and_eq_false_iff, Bool.or_eq_false_iff, decide_eq_true_eq, decide_eq_false_iff_not, Bool.not_eq_true', Bool.not_eq_false', List.length_map, ne_eq, Decidable.not_not, Int.not_lt, Int.not_le] at h143_2)
          obtain rfl : q = 3 := by omega
          refine tr_seq ?_
          refine tr_seq ?_
          refine tr_region (fun N20 hN => ?_)
          refine lx (op_move rfl) rfl ?_
          refine lx (op_eql rfl rfl) rfl ?_
          refine lx_end ⟨by kernel_rfl, ?_⟩
          refine pe_then_normal ?_
          refine tr_sub hC (.cons (t := 0) rfl (.cons (t := 3) rfl (.cons (t := 5) rfl (.cons (t := 6) rfl (.cons (t := 147) rfl .nil))))) (.cons (t := 0) rfl (.cons (t := 1) rfl (.cons (t := 2) rfl (.cons (t := 3) rfl (.cons (t := 4) rfl (.cons (t := 5) rfl (.cons (t := 6) rfl (.cons (t := 603) rfl .nil)))))))) rfl ?_
          refine tr_cond rfl (fun h147 => ?_) (fun h147 => ?_)
          · (try simp only [Bool.and_eq_true, Bool.or_eq_true, Bool.and_eq_false_iff, Bool.or_eq_false_iff, decide_eq_true_eq, decide_eq_false_iff_not, Bool.not_eq_true', Bool.not_eq_false', List.length_map, ne_eq, Decidable.not_not, Int.not_lt, Int.not_le] at h147)
            have hst := step_3n (b := a) (p := p) (a := b) (by omega)
            refine tr_seq ?_
            refine tr_region (fun N21 hN => ?_)
            refine lx (op_assign rfl) rfl ?_
            refine lx_end ⟨by kernel_rfl, ?_⟩
            refine pe_then_normal ?_
            refine tr_sub hC (.cons (t := 4) rfl .nil) (.cons (t := 0) rfl (.cons (t := 1) rfl (.cons (t := 2) rfl (.cons (t := 3) rfl (.cons (t := 4) rfl (.cons (t := 5) rfl (.cons (t := 6) rfl .nil))))))) rfl ?_
            refine tr_ret ?_
            refine pe_then_ret ?_
            refine pe_block_ret ?_
            refine pe_then_ret ?_
            refine pe_ownS' [0, 1, 2, 3, 4, 5, 6] rfl hO rfl (.tmp rfl .nil) (.cons (m := 1) rfl (RenR.tail _ _ _) (.cons (m := 2) rfl (RenR.tail _ _ _) (.cons (m := 3) rfl (RenR.tail _ _ _) (.cons (m := 4) rfl (RenR.tail _ _ _) (.cons (m := 5) rfl (RenR.tail _ _ _) (.cons (m := 6) rfl (RenR.tail _ _ _) .nil)))))) rfl rfl rfl ?_
            intro τ ι hs
            refine ⟨?_, ?_⟩
            · exact fun v h => h
            · exact (.kept rfl rfl (by rw [hst]; exact blk_ents (.cons (ent_at (Ent.refl _)) (.cons (ent_at (Ent.refl _)) (.cons (ent_at (Ent.refl _)) (.cons (ent_at (Ent.refl _)) (.cons (ent_at (Ent.refl _)) (.cons (ent_at (Ent.refl _)) (.cons (ent_at (Ent.refl _)) (.cons (ent_at (Ent.refl _)) (.cons (ent_at (Ent.refl _)) (.cons (ent_at (Ent.refl _)) (.cons (row_ren (hs 0 _ rfl).1 (hs 0 _ rfl).2) (.cons (row_ren (hs 1 _ rfl).1 (hs 1 _ rfl).2) (.cons (row_ren (hs 2 _ rfl).1 (hs 2 _ rfl).2) (.cons (row_ren (hs 3 _ rfl).1 (hs 3 _ rfl).2) (.cons (row_ren (hs 4 _ rfl).1 (hs 4 _ rfl).2) (.cons (row_ren (hs 5 _ rfl).1 (hs 5 _ rfl).2) .nil))))))))))))))))) (.moved rfl (by rw [hst]; exact fun b o h => h) (.moved rfl (by rw [hst]; exact fun b o h => h) (.moved rfl (by rw [hst]; exact fun b o h => h) (.moved rfl (by rw [hst]; exact fun b o h => h) (.moved rfl (by rw [hst]; exact fun b o h => h) (.moved rfl (by rw [hst]; exact fun b o h => h) .nil)))))))
          · (try simp only [Bool.and_eq_true, Bool.or_eq_true, Bool.and_eq_false_iff, Bool.or_eq_false_iff, decide_eq_true_eq, decide_eq_false_iff_not, Bool.not_eq_true', Bool.not_eq_false', List.length_map, ne_eq, Decidable.not_not, Int.not_lt, Int.not_le] at h147)
            have h0 : b.n.length ≠ 0 := by omega
            have hpl := (pick_lt (p := p) h0 hp.1).2
            have hst := step_3 (b := a) (p := p) h0
            refine tr_skip ?_
            refine pe_then_normal ?_
            refine tr_sub hC (.cons (t := 0) rfl (.cons (t := 3) rfl (.cons (t := 5) rfl (.cons (t := 6) rfl .nil)))) (.cons (t := 0) rfl (.cons (t := 1) rfl (.cons (t := 2) rfl (.cons (t := 3) rfl (.cons (t := 4) rfl (.cons (t := 5) rfl (.cons (t := 6) rfl (.cons (t := 603) rfl .nil)))))))) rfl ?_
            refine tr_seq ?_
            refine tr_region (fun N22 hN => ?_)
            refine lx (op_fieldAddr rfl fl65_2 sz5) rfl ?_
            refine lx (op_bload_one (m := 603) rfl rfl ag5 rfl) rfl ?_
            refine lx (OpJ.ent (op_convert rfl us5 ik3) (show Ent _ (eqP (.int .i64 p)) from (by exact entI (u8_conv hp)))) rfl ?_
            refine lx (op_move rfl) rfl ?_
            refine lx (OpJ.ent (op_rem rfl rfl (decide_eq_false (by omega))) (show Ent _ (eqP (.int .i64 ((pickI b p) : Int))) from (by exact entI (pick_lt h0 hp.1).1))) rfl ?_
            refine lx (op_assign rfl) rfl ?_
            refine lx_end ⟨by kernel_rfl, ?_⟩
            refine pe_then_normal ?_
            refine tr_sub hC (.cons (t := 0) rfl (.cons (t := 3) rfl (.cons (t := 5) rfl (.cons (t := 12) rfl .nil)))) (.cons (t := 0) rfl (.cons (t := 1) rfl (.cons (t := 2) rfl (.cons (t := 3) rfl (.cons (t := 4) rfl (.cons (t := 5) rfl (.cons (t := 6) rfl (.cons (t := 603) rfl .nil)))))))) rfl ?_
            refine tr_seq ?_
            refine tr_region (fun N23 hN => ?_)
            refine lx (op_move rfl) rfl ?_
            refine lx (op_move rfl) rfl ?_
            first | refine lx (op_nilCheck rfl) rfl ?_ | refine lx (op_nilCheckC rfl) rfl ?_
            refine lx (op_fieldAddr rfl fl73_3 sz71) rfl ?_
            refine lx (op_aindex rfl rfl ar71 sz43 (show (1 : Int) = ((1 : Nat) : Int) from rfl) (by decide)) rfl ?_
            refine lx (OpJ.ent (op_bload_one (m := 0) rfl rfl ag43 rfl) (show Ent _ (slP byS 1 b.n) from (by exact Ent.row _ _ _ _))) rfl ?_
            refine lx (op_move rfl) rfl ?_
            refine lx (op_index rfl rfl el43 sz25 rfl (pick_at h0 hp.1)) rfl ?_
            first | refine lx (op_load_one rfl ag25 rfl) rfl ?_ | refine lx (op_bload_one (m := 0) rfl rfl ag25 rfl) rfl ?_ | refine lx (op_bload_one (m := 1) rfl rfl ag25 rfl) rfl ?_ | refine lx (op_bload_one (m := 2) rfl rfl ag25 rfl) rfl ?_ | refine lx (op_bload_one (m := 3) rfl rfl ag25 rfl) rfl ?_ | refine lx (op_bload_one (m := 4) rfl rfl ag25 rfl) rfl ?_ | refine lx (op_bload_one (m := 5) rfl rfl ag25 rfl) rfl ?_ | refine lx (op_bload_one (m := 6) rfl rfl ag25 rfl) rfl ?_ | refine lx (op_bload_one (m := 603) rfl rfl ag25 rfl) rfl ?_
            refine lx (op_assign rfl) rfl ?_
            refine lx_end ⟨by kernel_rfl, ?_⟩
            refine pe_then_normal ?_
            refine tr_sub hC (.cons (t := 0) rfl (.cons (t := 3) rfl (.cons (t := 5) rfl (.cons (t := 12) rfl (.cons (t := 13) rfl .nil))))) (.cons (t := 0) rfl (.cons (t := 1) rfl (.cons (t := 2) rfl (.cons (t := 3) rfl (.cons (t := 4) rfl (.cons (t := 5) rfl (.cons (t := 6) rfl (.cons (t := 603) rfl .nil)))))))) rfl ?_
            refine tr_seq ?_
            refine tr_seq ?_
            refine tr_region (fun N24 hN => ?_)
            refine lx (op_fieldAddr rfl fl65_0 sz5) rfl ?_
            refine lx (op_bload_one (m := 603) rfl rfl ag5 rfl) rfl ?_
            refine lx (op_rem rfl rfl rfl) rfl ?_
            refine lx (op_eql rfl rfl) rfl ?_
            refine lx_end ⟨by kernel_rfl, ?_⟩
            refine pe_then_normal ?_
            refine tr_sub hC (.cons (t := 0) rfl (.cons (t := 5) rfl (.cons (t := 12) rfl (.cons (t := 13) rfl (.cons (t := 165) rfl .nil))))) (.cons (t := 0) rfl (.cons (t := 1) rfl (.cons (t := 2) rfl (.cons (t := 3) rfl (.cons (t := 4) rfl (.cons (t := 5) rfl (.cons (t := 6) rfl .nil))))))) rfl ?_
            refine tr_cond rfl (fun h165 => ?_) (fun h165 => ?_)
            · (try simp only [Bool.and_eq_true, Bool.or_eq_true, Bool.and_eq_false_iff, Bool.or_eq_false_iff, decide_eq_true_eq, decide_eq_false_iff_not, Bool.not_eq_true', Bool.not_eq_false', List.length_map, ne_eq, Decidable.not_not, Int.not_lt, Int.not_le] at h165)
              omega
            · (try simp only [Bool.and_eq_true, Bool.or_eq_true, Bool.and_eq_false_iff, Bool.or_eq_false_iff, decide_eq_true_eq, decide_eq_false_iff_not, Bool.not_eq_true', Bool.not_eq_false', List.length_map, ne_eq, Decidable.not_not, Int.not_lt, Int.not_le] at h165)
              refine tr_skip ?_
              refine pe_then_normal ?_
              refine tr_sub hC (.cons (t := 0) rfl (.cons (t := 5) rfl (.cons (t := 13) rfl .nil))) (.cons (t := 0) rfl (.cons (t := 1) rfl (.cons (t := 2) rfl (.cons (t := 3) rfl (.cons (t := 4) rfl (.cons (t := 5) rfl (.cons (t := 6) rfl .nil))))))) rfl ?_
              refine tr_seq ?_
              refine tr_region (fun N26 hN => ?_)
              refine lx (op_move rfl) rfl ?_
              refine lx (op_move rfl) rfl ?_
              refine lx (op_move rfl) rfl ?_
              first | refine lx_any rfl (op_callG2 (l := [(Go.Operand.tmp 191), (Go.Operand.tmp 192), (Go.Operand.tmp 193)]) (add := [(0, (i0, blk 73 (prP a (rstep b (pickD b p)) i1 i2 i3 (N26, 101940) i5 i6))), (1, (i1, tail 9 1 (a.s.length * 1))), (2, (i2, tail 9 1 ((rstep b (pickD b p)).s.length * 1))), (3, (i3, tail 9 1 (a.g.length * 1))), (4, ((N26, 101940), tail 9 1 ((rstep b (pickD b p)).g.length * 1))), (5, (i5, tail 25 1 (a.n.length * 1))), (6, (i6, tail 25 1 (b.n.length * 1)))]) (ks := [101940]) (φ := eqP (.bool true)) (.cons (m := 0) rfl (.cons (m := 1) rfl (.cons (m := 2) rfl (.cons (m := 3) rfl (.cons (m := 4) rfl (.cons (m := 5) rfl (.cons (m := 6) rfl .nil))))))) (receive_1 i0 i1 i2 i3 i4 i5 i6 a b (pickD b p) (pick_recv hinv (by omega) h0 hp.1) (show b.g.length ≤ 1000 by have := inv_g hinv; omega)) (.cons rfl (.cons rfl (.cons rfl .nil))) fn29 rfl rfl rfl (.old rfl (.old rfl (.old rfl (.old rfl (.old rfl (.old rfl (.old rfl .nil))))))) rfl) (dOK_spec rfl) ?_ | refine lx_any rfl (op_callG2 (l := [(Go.Operand.tmp 191), (Go.Operand.tmp 192), (Go.Operand.tmp 193)]) (add := [(0, (i0, blk 73 (prP a (rstep b (pickD b p)) i1 i2 i3 (N26, 101940) i5 i6))), (1, (i1, tail 9 1 (a.s.length * 1))), (2, (i2, tail 9 1 ((rstep b (pickD b p)).s.length * 1))), (3, (i3, tail 9 1 (a.g.length * 1))), (4, ((N26, 101940), tail 9 1 ((rstep b (pickD b p)).g.length * 1))), (5, (i5, tail 25 1 (a.n.length * 1))), (6, (i6, tail 25 1 (b.n.length * 1)))]) (ks := [101940]) (φ := eqP (.bool true)) (.cons (m := 0) rfl (.cons (m := 1) rfl (.cons (m := 2) rfl (.cons (m := 3) rfl (.cons (m := 4) rfl (.cons (m := 5) rfl (.cons (m := 6) rfl .nil))))))) (receive_1 i0 i1 i2 i3 i4 i5 i6 a b (pickD b p) (pick_recv hinv (by omega) h0 hp.1) (show b.g.length ≤ 1000 by have := inv_g hinv; omega)) (.ent rfl (by repeat (first | exact Ents.nil | refine Ents.cons ?_ ?_ | refine Ent.tup ?_ | refine Ent.agg ?_ | exact Ent.row _ _ _ _ | exact Ent.nil _ _ | exact Ent.func _ | exact Ent.refl _ | exact Ent.of_eq rfl | refine Ent.cells ?_)) (.ent rfl (by repeat (first | exact Ents.nil | refine Ents.cons ?_ ?_ | refine Ent.tup ?_ | refine Ent.agg ?_ | exact Ent.row _ _ _ _ | exact Ent.nil _ _ | exact Ent.func _ | exact Ent.refl _ | exact Ent.of_eq rfl | refine Ent.cells ?_)) (.ent rfl (by repeat (first | exact Ents.nil | refine Ents.cons ?_ ?_ | refine Ent.tup ?_ | refine Ent.agg ?_ | exact Ent.row _ _ _ _ | exact Ent.nil _ _ | exact Ent.func _ | exact Ent.refl _ | exact Ent.of_eq rfl | refine Ent.cells ?_)) .nil))) fn29 rfl rfl rfl (.old rfl (.old rfl (.old rfl (.old rfl (.old rfl (.old rfl (.old rfl .nil))))))) rfl) (dOK_spec rfl) ?_
              refine lx (op_assign rfl) rfl ?_
              refine lx_end ⟨by kernel_rfl, ?_⟩
              refine pe_then_normal ?_
              refine tr_sub hC (.cons (t := 4) rfl .nil) (.cons (t := 0) rfl (.cons (t := 1) rfl (.cons (t := 2) rfl (.cons (t := 3) rfl (.cons (t := 4) rfl (.cons (t := 5) rfl (.cons (t := 6) rfl .nil))))))) rfl ?_
              refine tr_ret ?_
              refine pe_block_ret ?_
              refine pe_then_ret ?_
              refine pe_ownS' [0, 1, 2, 3, 4, 5, 6] rfl hO rfl (.tmp rfl .nil) (.cons (m := 1) rfl (RenR.tail _ _ _) (.cons (m := 2) rfl (RenR.tail _ _ _) (.cons (m := 3) rfl (RenR.tail _ _ _) (.cons (m := 4) rfl (RenR.tail _ _ _) (.cons (m := 5) rfl (RenR.tail _ _ _) (.cons (m := 6) rfl (RenR.tail _ _ _) .nil)))))) rfl rfl rfl ?_
              intro τ ι hs
              refine ⟨?_, ?_⟩
              · exact fun v h => h
              · exact (.kept rfl rfl (by rw [hst]; exact blk_ents (.cons (ent_at (Ent.refl _)) (.cons (ent_at (Ent.refl _)) (.cons (ent_at (Ent.refl _)) (.cons (ent_at (Ent.refl _)) (.cons (ent_at (Ent.refl _)) (.cons (ent_at (Ent.refl _)) (.cons (ent_at (Ent.refl _)) (.cons (ent_at (Ent.refl _)) (.cons (ent_at (Ent.refl _)) (.cons (ent_at (Ent.refl _)) (.cons (row_ren (hs 0 _ rfl).1 (hs 0 _ rfl).2) (.cons (row_ren (hs 1 _ rfl).1 (hs 1 _ rfl).2) (.cons (row_ren (hs 2 _ rfl).1 (hs 2 _ rfl).2) (.cons (row_ren (hs 3 _ rfl).1 (hs 3 _ rfl).2) (.cons (row_ren (hs 4 _ rfl).1 (hs 4 _ rfl).2) (.cons (row_ren (hs 5 _ rfl).1 (hs 5 _ rfl).2) .nil))))))))))))))))) (.moved rfl (by rw [hst]; exact fun b o h => h) (.moved rfl (by rw [hst]; exact fun b o h => h) (.moved rfl (by rw [hst]; exact fun b o h => h) (.moved rfl (by rw [hst]; exact fun b o h => h) (.moved rfl (by rw [hst]; exact fun b o h => h) (.moved rfl (by rw [hst]; exact fun b o h => h) .nil)))))))
        · (try simp only [Bool.and_eq_true, Bool.or_eq_true, Bool.and_eq_false_iff, Bool.or_eq_false_iff, decide_eq_true_eq, decide_eq_false_iff_not, Bool.not_eq_true', Bool.not_eq_false', List.length_map, ne_eq, Decidable.not_not, Int.not_lt, Int.not_le] at h143_2)
          refine tr_seq ?_
          refine tr_region (fun N27 hN => ?_)
          refine lx (op_eql rfl rfl) rfl ?_
          refine lx (op_assign rfl) rfl ?_
          refine lx_end ⟨by kernel_rfl, ?_⟩
          refine pe_then_normal ?_
          refine tr_sub hC (.cons (t := 0) rfl (.cons (t := 3) rfl (.cons (t := 5) rfl (.cons (t := 6) rfl (.cons (t := 195) rfl .nil))))) (.cons (t := 0) rfl (.cons (t := 1) rfl (.cons (t := 2) rfl (.cons (t := 3) rfl (.cons (t := 4) rfl (.cons (t := 5) rfl (.cons (t := 6) rfl (.cons (t := 603) rfl .nil)))))))) rfl ?_
          refine tr_cond rfl (fun h195 => ?_) (fun h195 => ?_)
          · (try simp only [Bool.and_eq_true, Bool.or_eq_true, Bool.and_eq_false_iff, Bool.or_eq_false_iff, decide_eq_true_eq, decide_eq_false_iff_not, Bool.not_eq_true', Bool.not_eq_false', List.length_map, ne_eq, Decidable.not_not, Int.not_lt, Int.not_le] at h195)
            obtain rfl : q = 4 := by omega
            refine tr_seq ?_
            refine tr_region (fun N28 hN => ?_)
            refine lx (op_move rfl) rfl ?_
            refine lx (op_gtr rfl rfl) rfl ?_
            refine lx_end ⟨by kernel_rfl, ?_⟩
            refine pe_then_normal ?_
            refine tr_sub hC (.cons (t := 0) rfl (.cons (t := 3) rfl (.cons (t := 5) rfl (.cons (t := 6) rfl (.cons (t := 198) rfl .nil))))) (.cons (t := 0) rfl (.cons (t := 1) rfl (.cons (t := 2) rfl (.cons (t := 3) rfl (.cons (t := 4) rfl (.cons (t := 5) rfl (.cons (t := 6) rfl (.cons (t := 603) rfl .nil)))))))) rfl ?_
            refine tr_cond rfl (fun h198 => ?_) (fun h198 => ?_)
            · (try simp only [Bool.and_eq_true, Bool.or_eq_true, Bool.and_eq_false_iff, Bool.or_eq_false_iff, decide_eq_true_eq, decide_eq_false_iff_not, Bool.not_eq_true', Bool.not_eq_false', List.length_map, ne_eq, Decidable.not_not, Int.not_lt, Int.not_le] at h198)
              have h0 : b.n.length ≠ 0 := by omega
              have hpl := (pick_lt (p := p) h0 hp.1).2
              have hst := step_4 (b := a) (p := p) h0
              refine tr_seq ?_
              refine tr_region (fun N29 hN => ?_)
              refine lx (op_fieldAddr rfl fl65_2 sz5) rfl ?_
              refine lx (op_bload_one (m := 603) rfl rfl ag5 rfl) rfl ?_
              refine lx (OpJ.ent (op_convert rfl us5 ik3) (show Ent _ (eqP (.int .i64 p)) from (by exact entI (u8_conv hp)))) rfl ?_
              refine lx (op_move rfl) rfl ?_
              refine lx (OpJ.ent (op_rem rfl rfl (decide_eq_false (by omega))) (show Ent _ (eqP (.int .i64 ((pickI b p) : Int))) from (by exact entI (pick_lt h0 hp.1).1))) rfl ?_
              refine lx (op_assign rfl) rfl ?_
              refine lx_end ⟨by kernel_rfl, ?_⟩
              refine pe_then_normal ?_
              refine tr_sub hC (.cons (t := 0) rfl (.cons (t := 5) rfl (.cons (t := 14) rfl .nil))) (.cons (t := 0) rfl (.cons (t := 1) rfl (.cons (t := 2) rfl (.cons (t := 3) rfl (.cons (t := 4) rfl (.cons (t := 5) rfl (.cons (t := 6) rfl .nil))))))) rfl ?_
              refine tr_drawn mixed (fun N30 hN => ?_)
              refine lx (op_move rfl) rfl ?_
              refine lx (op_move rfl) rfl ?_
              refine lxn (op_buildEmpty (m' := 206) (kk := 206) (f := byS) el43 sz25 (by first | exact hC.low _ (by decide) | rfl)) rfl ?_
              refine lx (op_move rfl) rfl ?_
              refine lx (op_move rfl) rfl ?_
              first | refine lx (op_nilCheck rfl) rfl ?_ | refine lx (op_nilCheckC rfl) rfl ?_
              refine lx (op_fieldAddr rfl fl73_3 sz71) rfl ?_
              refine lx (op_aindex rfl rfl ar71 sz43 (show (1 : Int) = ((1 : Nat) : Int) from rfl) (by decide)) rfl ?_
              refine lx (OpJ.ent (op_bload_one (m := 0) rfl rfl ag43 rfl) (show Ent _ (slP byS 1 b.n) from (by exact Ent.row _ _ _ _))) rfl ?_
              refine lx (op_move rfl) rfl ?_
              refine lx (op_slice_h rfl rfl el43 sz25 rfl (by have := (pick_lt (a := b) h0 hp.1).2; omega)) rfl ?_
              refine lxr (op_append (m := 206) (m' := 206) (kk := 215) rfl rfl rfl (.inl rfl) el43 ze25 sz25 by25 rfl byS_len (by simp; omega) (by simp; omega)) rfl ?_
              refine lx (op_move rfl) rfl ?_
              refine lx (op_move rfl) rfl ?_
              first | refine lx (op_nilCheck rfl) rfl ?_ | refine lx (op_nilCheckC rfl) rfl ?_
              refine lx (op_fieldAddr rfl fl73_3 sz71) rfl ?_
              refine lx (op_aindex rfl rfl ar71 sz43 (show (1 : Int) = ((1 : Nat) : Int) from rfl) (by decide)) rfl ?_
              refine lx (OpJ.ent (op_bload_one (m := 0) rfl rfl ag43 rfl) (show Ent _ (slP byS 1 b.n) from (by exact Ent.row _ _ _ _))) rfl ?_
              refine lx (op_move rfl) rfl ?_
              refine lx (op_add rfl rfl (by omega)) rfl ?_
              refine lx (op_slice_l rfl rfl el43 sz25 (by omega : ((pickI b p) : Int) + 1 = (((pickI b p) + 1 : Nat) : Int)) (by have := (pick_lt (a := b) h0 hp.1).2; omega)) rfl ?_
              refine lxr (op_append (m := 206) (m' := 206) (kk := 225) rfl rfl rfl (.inl rfl) el43 ze25 sz25 by25 rfl byS_len (by simp; omega) (by simp; omega)) rfl ?_
              first | refine lx (op_nilCheck rfl) rfl ?_ | refine lx (op_nilCheckC rfl) rfl ?_
              refine lx (op_fieldAddr rfl fl73_3 sz71) rfl ?_
              refine lx (op_aindex rfl rfl ar71 sz43 (show (1 : Int) = ((1 : Nat) : Int) from rfl) (by decide)) rfl ?_
              refine lxr (op_store_one (m := 0) rfl rfl rfl (by (first | exact One.eq rfl | exact One.mv _ _ _ _ _ | exact One.cl _ _ _ | exact One.map _ | exact One.sl _ _ _ | exact One.row _ _ _ _ | exact One.msl _ _ _ _ | exact One.ptr _ _ | exact One.b _ | exact One.cells _)) sz43 rfl) rfl ?_
              refine lx_end ⟨by kernel_rfl, ?_⟩
              refine pe_block_normal ?_
              refine pe_then_normal ?_
              refine tr_sub hC .nil (.cons (t := 0) rfl (.cons (t := 1) rfl (.cons (t := 2) rfl (.cons (t := 3) rfl (.cons (t := 4) rfl (.cons (t := 5) rfl (.cons (t := 6) rfl (.cons (t := 206) rfl .nil)))))))) rfl ?_
              refine tr_seq ?_
              refine tr_region (fun N31 hN => ?_)
              refine lx (op_assign rfl) rfl ?_
              refine lx_end ⟨by kernel_rfl, ?_⟩
              refine pe_then_normal ?_
              refine tr_sub hC (.cons (t := 4) rfl .nil) (.cons (t := 0) rfl (.cons (t := 1) rfl (.cons (t := 2) rfl (.cons (t := 3) rfl (.cons (t := 4) rfl (.cons (t := 5) rfl (.cons (t := 6) rfl (.cons (t := 206) rfl .nil)))))))) rfl ?_
              refine tr_ret ?_
              refine pe_ownS' [0, 1, 2, 3, 4, 5, 206] rfl hO rfl (.tmp rfl .nil) (.cons (m := 1) rfl (RenR.tail _ _ _) (.cons (m := 2) rfl (RenR.tail _ _ _) (.cons (m := 3) rfl (RenR.tail _ _ _) (.cons (m := 4) rfl (RenR.tail _ _ _) (.cons (m := 5) rfl (RenR.tail _ _ _) (.cons (m := 206) rfl (RenR.tail _ _ _) .nil)))))) rfl rfl rfl ?_
              intro τ ι hs
              refine ⟨?_, ?_⟩
              · exact fun v h => h
              · exact (.kept rfl rfl (by rw [hst]; exact blk_ents (.cons (ent_at (Ent.refl _)) (.cons (ent_at (Ent.refl _)) (.cons (ent_at (Ent.refl _)) (.cons (ent_at (Ent.refl _)) (.cons (ent_at (Ent.refl _)) (.cons (ent_at (Ent.refl _)) (.cons (ent_at (Ent.refl _)) (.cons (ent_at (Ent.refl _)) (.cons (ent_at (Ent.refl _)) (.cons (ent_at (Ent.refl _)) (.cons (row_ren (hs 0 _ rfl).1 (hs 0 _ rfl).2) (.cons (row_ren (hs 1 _ rfl).1 (hs 1 _ rfl).2) (.cons (row_ren (hs 2 _ rfl).1 (hs 2 _ rfl).2) (.cons (row_ren (hs 3 _ rfl).1 (hs 3 _ rfl).2) (.cons (row_ren (hs 4 _ rfl).1 (hs 4 _ rfl).2) (.cons (row_ren (hs 5 _ rfl).1 (hs 5 _ rfl).2) .nil))))))))))))))))) (.moved rfl (by rw [hst]; exact fun b o h => h) (.moved rfl (by rw [hst]; exact fun b o h => h) (.moved rfl (by rw [hst]; exact fun b o h => h) (.moved rfl (by rw [hst]; exact fun b o h => h) (.moved rfl (by rw [hst]; exact fun b o h => h) (.moved rfl (by rw [hst]; exact fun b o h => h) .nil)))))))
            · (try simp only [Bool.and_eq_true, Bool.or_eq_true, Bool.and_eq_false_iff, Bool.or_eq_false_iff, decide_eq_true_eq, decide_eq_false_iff_not, Bool.not_eq_true', Bool.not_eq_false', List.length_map, ne_eq, Decidable.not_not, Int.not_lt, Int.not_le] at h198)
              have hst := step_4n (b := a) (p := p) (a := b) (by omega)
              refine tr_skip ?_
              refine pe_block_normal ?_
              refine pe_then_normal ?_
              refine tr_sub hC .nil (.cons (t := 0) rfl (.cons (t := 1) rfl (.cons (t := 2) rfl (.cons (t := 3) rfl (.cons (t := 4) rfl (.cons (t := 5) rfl (.cons (t := 6) rfl .nil))))))) rfl ?_
              refine tr_seq ?_
              refine tr_region (fun N31 hN => ?_)
              refine lx (op_assign rfl) rfl ?_
              refine lx_end ⟨by kernel_rfl, ?_⟩
              refine pe_then_normal ?_
              refine tr_sub hC (.cons (t := 4) rfl .nil) (.cons (t := 0) rfl (.cons (t := 1) rfl (.cons (t := 2) rfl (.cons (t := 3) rfl (.cons (t := 4) rfl (.cons (t := 5) rfl (.cons (t := 6) rfl .nil))))))) rfl ?_
              refine tr_ret ?_
              refine pe_ownS' [0, 1, 2, 3, 4, 5, 6] rfl hO rfl (.tmp rfl .nil) (.cons (m := 1) rfl (RenR.tail _ _ _) (.cons (m := 2) rfl (RenR.tail _ _ _) (.cons (m := 3) rfl (RenR.tail _ _ _) (.cons (m := 4) rfl (RenR.tail _ _ _) (.cons (m := 5) rfl (RenR.tail _ _ _) (.cons (m := 6) rfl (RenR.tail _ _ _) .nil)))))) rfl rfl rfl ?_
              intro τ ι hs
              refine ⟨?_, ?_⟩
              · exact fun v h => h
              · exact (.kept rfl rfl (by rw [hst]; exact blk_ents (.cons (ent_at (Ent.refl _)) (.cons (ent_at (Ent.refl _)) (.cons (ent_at (Ent.refl _)) (.cons (ent_at (Ent.refl _)) (.cons (ent_at (Ent.refl _)) (.cons (ent_at (Ent.refl _)) (.cons (ent_at (Ent.refl _)) (.cons (ent_at (Ent.refl _)) (.cons (ent_at (Ent.refl _)) (.cons (ent_at (Ent.refl _)) (.cons (row_ren (hs 0 _ rfl).1 (hs 0 _ rfl).2) (.cons (row_ren (hs 1 _ rfl).1 (hs 1 _ rfl).2) (.cons (row_ren (hs 2 _ rfl).1 (hs 2 _ rfl).2) (.cons (row_ren (hs 3 _ rfl).1 (hs 3 _ rfl).2) (.cons (row_ren (hs 4 _ rfl).1 (hs 4 _ rfl).2) (.cons (row_ren (hs 5 _ rfl).1 (hs 5 _ rfl).2) .nil))))))))))))))))) (.moved rfl (by rw [hst]; exact fun b o h => h) (.moved rfl (by rw [hst]; exact fun b o h => h) (.moved rfl (by rw [hst]; exact fun b o h => h) (.moved rfl (by rw [hst]; exact fun b o h => h) (.moved rfl (by rw [hst]; exact fun b o h => h) (.moved rfl (by rw [hst]; exact fun b o h => h) .nil)))))))
          · (try simp only [Bool.and_eq_true, Bool.or_eq_true, Bool.and_eq_false_iff, Bool.or_eq_false_iff, decide_eq_true_eq, decide_eq_false_iff_not, Bool.not_eq_true', Bool.not_eq_false', List.length_map, ne_eq, Decidable.not_not, Int.not_lt, Int.not_le] at h195)
            omega
end Go.Proofs.Ytgdhogmghffbaaa


set_option linter.unusedVariables false
set_option linter.unusedSimpArgs false
namespace Go.Proofs.Ytgdhogmghffbaaa
open Go.AL Go.Wr Go.RowKit
theorem ag65 : aggB Try.prog 65 = some true := by kernel_rfl
theorem el60 : elemB Try.prog 60 = some 65 := by kernel_rfl
theorem fn26 : fnB Try.prog 26 = true := by kernel_rfl
theorem fn27 : fnB Try.prog 27 = true := by kernel_rfl
theorem fn28 : fnB Try.prog 28 = true := by kernel_rfl
theorem sz65 : sizeB Try.prog 65 = some 3 := by kernel_rfl
theorem ze65 : zeroB Try.prog 65 = some (some (.agg #[.int .u8 0, .int .u8 0, .int .u8 0])) := by kernel_rfl
theorem do_ok (w : Int) (m : Nat) (i0 i1 i2 i3 i4 i5 i6 : AL.Id) (a b : Side) (hinv : Inv w m a b) (hm : m < 150) (hnb : NB a b) (k e p : Int) (hk : 0 ≤ k ∧ k ≤ 255) (he : 0 ≤ e ∧ e ≤ 255) (hp : 0 ≤ p ∧ p ≤ 255) : FnOK Try.prog 27 [ptrP i0 0, aggP (opP k e p)] [(i0, blk 73 (prP a b i1 i2 i3 i4 i5 i6)), (i1, tail 9 1 (a.s.length * 1)), (i2, tail 9 1 (b.s.length * 1)), (i3, tail 9 1 (a.g.length * 1)), (i4, tail 9 1 (b.g.length * 1)), (i5, tail 25 1 (a.n.length * 1)), (i6, tail 25 1 (b.n.length * 1))] 6 (fun ι => eqP (.bool true)) (fun ι => [(i0, blk 73 (prP (doF (a, b) k e p).1 (doF (a, b) k e p).2 (ι 0) (ι 1) (ι 2) (ι 3) (ι 4) (ι 5))), (ι 0, tail 9 1 ((doF (a, b) k e p).1.s.length * 1)), (ι 1, tail 9 1 ((doF (a, b) k e p).2.s.length * 1)), (ι 2, tail 9 1 ((doF (a, b) k e p).1.g.length * 1)), (ι 3, tail 9 1 ((doF (a, b) k e p).2.g.length * 1)), (ι 4, tail 25 1 ((doF (a, b) k e p).1.n.length * 1)), (ι 5, tail 25 1 ((doF (a, b) k e p).2.n.length * 1))]) := by
  rcases tmod2 he with ha | ha
  · rw [do_0 ha]
    exact do_at0 w m i0 i1 i2 i3 i4 i5 i6 a b hinv hm hnb k e p hk he hp ha
  · rw [do_1 ha]
    exact do_at1 w m i0 i1 i2 i3 i4 i5 i6 a b hinv.swap hm ⟨hnb.2, hnb.1⟩ k e p hk he hp ha
set_option maxHeartbeats 2000000 in
theorem law_prefix (l : List (Int × Int × Int)) (hl : ∀ x ∈ l, opOK x) (w : Int) : FnP Try.prog 7 [slP opF 3 l, eqP (.int .i64 w)] (eqP (.bool true)) := by
  refine fn_pure' Try.func7 rfl Try.ntmps7 rfl ?_
  intro σ0 M ex Rf R hC hO
  simp only [frameOf, tokOf]
  refine tr_seq ?_
  refine tr_region (fun N0 hN => ?_)
  refine lx (op_assign rfl) rfl ?_
  refine lx_end ⟨by kernel_rfl, ?_⟩
  refine pe_then_normal ?_
  refine tr_sub hC (.cons (t := 0) rfl (.cons (t := 1) rfl .nil)) .nil rfl ?_
  refine tr_seq ?_
  refine tr_seq ?_
  refine tr_region (fun N1 hN => ?_)
  first | refine lx (op_call (l := []) (awake_ok) .nil fn9) rfl ?_ | refine lx (op_call (l := []) (awake_ok) .nil fn9) rfl ?_
  first | refine lx (op_not rfl) rfl ?_ | refine lx (op_not_b rfl) rfl ?_
  refine lx_end ⟨by kernel_rfl, ?_⟩
  refine pe_then_normal ?_
  refine tr_sub hC (.cons (t := 0) rfl (.cons (t := 1) rfl (.cons (t := 10) rfl .nil))) .nil rfl ?_
  refine tr_cond rfl (fun h10 => ?_) (fun h10 => ?_)
  · exact absurd h10 (by decide)
  · (try simp only [Bool.and_eq_true, Bool.or_eq_true, Bool.and_eq_false_iff, Bool.or_eq_false_iff, decide_eq_true_eq, decide_eq_false_iff_not, Bool.not_eq_true', Bool.not_eq_false', List.length_map, ne_eq, Decidable.not_not, Int.not_lt, Int.not_le] at h10)
    refine tr_skip ?_
    refine pe_then_normal ?_
    refine tr_sub hC (.cons (t := 0) rfl (.cons (t := 1) rfl .nil)) .nil rfl ?_
    refine tr_seq ?_
    refine tr_seq ?_
    refine tr_region (fun N3 hN => ?_)
    refine lx (op_move rfl) rfl ?_
    first | refine lx (op_len rfl el60) rfl ?_ | refine lx (op_len_row rfl el60) rfl ?_ | refine lx (op_len_mv rfl el60) rfl ?_ | refine lx (op_len_nil rfl el60) rfl ?_
    refine lx (op_gtr rfl rfl) rfl ?_
    refine lx (op_move rfl) rfl ?_
    refine lxs rfl rfl rfl guard_eq (.cons (t := 1) rfl (fun _ => Ent.refl _) .nil) (op_move rfl) rfl ?_
    refine lxs rfl rfl rfl guard_eq (.cons (t := 15) rfl (fun h => entW h) .nil) (op_lss rfl rfl) rfl ?_
    refine lx (op_pick_or rfl rfl) rfl ?_
    refine lx (op_move rfl) rfl ?_
    refine lxs rfl rfl rfl guard_eq (.cons (t := 1) rfl (fun _ => Ent.refl _) .nil) (op_move rfl) rfl ?_
    refine lxs rfl rfl rfl guard_eq (.cons (t := 19) rfl (fun h => entW h) .nil) (op_gtr rfl rfl) rfl ?_
    refine lx (op_pick_or rfl rfl) rfl ?_
    refine lx_end ⟨by kernel_rfl, ?_⟩
    refine pe_then_normal ?_
    refine tr_sub hC (.cons (t := 0) rfl (.cons (t := 1) rfl (.cons (t := 21) rfl .nil))) .nil rfl ?_
    refine tr_cond rfl (fun h21 => ?_) (fun h21 => ?_)
    · (try simp only [Bool.and_eq_true, Bool.or_eq_true, Bool.and_eq_false_iff, Bool.or_eq_false_iff, decide_eq_true_eq, decide_eq_false_iff_not, Bool.not_eq_true', Bool.not_eq_false', List.length_map, ne_eq, Decidable.not_not, Int.not_lt, Int.not_le] at h21)
      refine tr_seq ?_
      refine tr_region (fun N4 hN => ?_)
      refine lx (op_assign rfl) rfl ?_
      refine lx_end ⟨by kernel_rfl, ?_⟩
      refine pe_then_normal ?_
      refine tr_sub hC (.cons (t := 4) rfl .nil) .nil rfl ?_
      refine tr_ret ?_
      refine pe_then_ret ?_
      refine pe_ret1 rfl hO rfl (.tmp rfl .nil) ?_
      repeat (first | exact Ents.nil | refine Ents.cons ?_ ?_ | refine Ent.tup ?_ | refine Ent.agg ?_ | exact Ent.row _ _ _ _ | exact Ent.nil _ _ | exact Ent.func _ | exact Ent.refl _ | exact Ent.of_eq rfl | refine Ent.cells ?_)
    · (try simp only [Bool.and_eq_true, Bool.or_eq_true, Bool.and_eq_false_iff, Bool.or_eq_false_iff, decide_eq_true_eq, decide_eq_false_iff_not, Bool.not_eq_true', Bool.not_eq_false', List.length_map, ne_eq, Decidable.not_not, Int.not_lt, Int.not_le] at h21)
      have hw : 1 ≤ w ∧ w ≤ 16 := by omega
      refine tr_skip ?_
      refine pe_then_normal ?_
      refine tr_sub hC (.cons (t := 0) rfl (.cons (t := 1) rfl .nil)) .nil rfl ?_
      refine tr_seq ?_
      refine tr_region (fun N5 hN => ?_)
      refine lx (op_move rfl) rfl ?_
      first | refine lx_any rfl (op_callG2 (l := [(Go.Operand.tmp 23)]) (add := [(800, ((N5, 100240), blk 73 (prP (side0 w) (side0 w) (N5, 100241) (N5, 100242) (N5, 100243) (N5, 100244) (N5, 100245) (N5, 100246)))), (801, ((N5, 100241), tail 9 1 ((side0 w).s.length * 1))), (802, ((N5, 100242), tail 9 1 ((side0 w).s.length * 1))), (803, ((N5, 100243), tail 9 1 ((side0 w).g.length * 1))), (804, ((N5, 100244), tail 9 1 ((side0 w).g.length * 1))), (805, ((N5, 100245), tail 25 1 ((side0 w).n.length * 1))), (806, ((N5, 100246), tail 25 1 ((side0 w).n.length * 1)))]) (ks := [100240, 100241, 100242, 100243, 100244, 100245, 100246]) (φ := tupP [ptrP (N5, 100240) 0, eqP (.bool true)]) .nil (start_ok_w w hw) (.cons rfl .nil) fn26 rfl rfl rfl (.new (by first | exact hC.low _ (by decide) | rfl) (.new (by first | exact hC.low _ (by decide) | rfl) (.new (by first | exact hC.low _ (by decide) | rfl) (.new (by first | exact hC.low _ (by decide) | rfl) (.new (by first | exact hC.low _ (by decide) | rfl) (.new (by first | exact hC.low _ (by decide) | rfl) (.new (by first | exact hC.low _ (by decide) | rfl) .nil))))))) rfl) (dOK_spec rfl) ?_ | refine lx_any rfl (op_callG2 (l := [(Go.Operand.tmp 23)]) (add := [(800, ((N5, 100240), blk 73 (prP (side0 w) (side0 w) (N5, 100241) (N5, 100242) (N5, 100243) (N5, 100244) (N5, 100245) (N5, 100246)))), (801, ((N5, 100241), tail 9 1 ((side0 w).s.length * 1))), (802, ((N5, 100242), tail 9 1 ((side0 w).s.length * 1))), (803, ((N5, 100243), tail 9 1 ((side0 w).g.length * 1))), (804, ((N5, 100244), tail 9 1 ((side0 w).g.length * 1))), (805, ((N5, 100245), tail 25 1 ((side0 w).n.length * 1))), (806, ((N5, 100246), tail 25 1 ((side0 w).n.length * 1)))]) (ks := [100240, 100241, 100242, 100243, 100244, 100245, 100246]) (φ := tupP [ptrP (N5, 100240) 0, eqP (.bool true)]) .nil (start_ok_w w hw) (.ent rfl (by repeat (first | exact Ents.nil | refine Ents.cons ?_ ?_ | refine Ent.tup ?_ | refine Ent.agg ?_ | exact Ent.row _ _ _ _ | exact Ent.nil _ _ | exact Ent.func _ | exact Ent.refl _ | exact Ent.of_eq rfl | refine Ent.cells ?_)) .nil) fn26 rfl rfl rfl (.new (by first | exact hC.low _ (by decide) | rfl) (.new (by first | exact hC.low _ (by decide) | rfl) (.new (by first | exact hC.low _ (by decide) | rfl) (.new (by first | exact hC.low _ (by decide) | rfl) (.new (by first | exact hC.low _ (by decide) | rfl) (.new (by first | exact hC.low _ (by decide) | rfl) (.new (by first | exact hC.low _ (by decide) | rfl) .nil))))))) rfl) (dOK_spec rfl) ?_
      refine lx (op_move rfl) rfl ?_
      refine lx (op_extract rfl rfl) rfl ?_
      refine lx (op_extract rfl rfl) rfl ?_
      refine lx (op_assign rfl) rfl ?_
      refine lx (op_assign rfl) rfl ?_
      refine lx_end ⟨by kernel_rfl, ?_⟩
      refine pe_then_normal ?_
      refine tr_sub hC (.cons (t := 0) rfl (.cons (t := 5) rfl (.cons (t := 6) rfl .nil))) (.cons (t := 800) rfl (.cons (t := 801) rfl (.cons (t := 802) rfl (.cons (t := 803) rfl (.cons (t := 804) rfl (.cons (t := 805) rfl (.cons (t := 806) rfl .nil))))))) rfl ?_
      refine tr_seq ?_
      refine tr_seq ?_
      refine tr_region (fun N6 hN => ?_)
      refine lx (op_move rfl) rfl ?_
      first | refine lx (op_len rfl el60) rfl ?_ | refine lx (op_len_row rfl el60) rfl ?_ | refine lx (op_len_mv rfl el60) rfl ?_ | refine lx (op_len_nil rfl el60) rfl ?_
      refine lx (op_move rfl) rfl ?_
      refine lx_end ⟨by kernel_rfl, ?_⟩
      refine pe_then_normal ?_
      refine tr_sub hC (.cons (t := 5) rfl (.cons (t := 6) rfl (.cons (t := 27) rfl (.cons (t := 28) rfl (.cons (t := 29) rfl .nil))))) (.cons (t := 800) rfl (.cons (t := 801) rfl (.cons (t := 802) rfl (.cons (t := 803) rfl (.cons (t := 804) rfl (.cons (t := 805) rfl (.cons (t := 806) rfl .nil))))))) rfl ?_
      refine tr_block ?_
      refine tr_loopK (α := {zz : Nat × Side × Side × AL.Id × AL.Id × AL.Id × AL.Id × AL.Id × AL.Id // zz.1 ≤ l.length ∧ Inv w zz.1 zz.2.1 zz.2.2.1 ∧ NB zz.2.1 zz.2.2.1}) (⟨(0, (side0 w), (side0 w), (N5, 100241), (N5, 100242), (N5, 100243), (N5, 100244), (N5, 100245), (N5, 100246)), Nat.zero_le _, start_inv hw, nb0 w⟩) (fun zz => [(29, eqP (.int .i64 (zz.1.1 : Int)))]) (fun zz => [(800, some ((N5, 100240), blk 73 (prP zz.1.2.1 zz.1.2.2.1 zz.1.2.2.2.1 zz.1.2.2.2.2.1 zz.1.2.2.2.2.2.1 zz.1.2.2.2.2.2.2.1 zz.1.2.2.2.2.2.2.2.1 zz.1.2.2.2.2.2.2.2.2))), (801, some (zz.1.2.2.2.1, tail 9 1 (zz.1.2.1.s.length * 1))), (802, some (zz.1.2.2.2.2.1, tail 9 1 (zz.1.2.2.1.s.length * 1))), (803, some (zz.1.2.2.2.2.2.1, tail 9 1 (zz.1.2.1.g.length * 1))), (804, some (zz.1.2.2.2.2.2.2.1, tail 9 1 (zz.1.2.2.1.g.length * 1))), (805, some (zz.1.2.2.2.2.2.2.2.1, tail 25 1 (zz.1.2.1.n.length * 1))), (806, some (zz.1.2.2.2.2.2.2.2.2, tail 25 1 (zz.1.2.2.1.n.length * 1)))]) (fun zz => l.length - zz.1.1) hC (.cons (t := 5) rfl (.cons (t := 6) rfl (.cons (t := 27) rfl (.cons (t := 28) rfl .nil)))) .nil rfl ?_ ?_ (fun zz => ?_)
      · try dsimp only [List.cons_append, List.nil_append]
        first | refine SubF.cons rfl ?_ | (refine SubF.ent rfl ?_ ?_; · repeat (first | exact Ents.nil | refine Ents.cons ?_ ?_ | refine Ent.tup ?_ | refine Ent.agg ?_ | exact Ent.row _ _ _ _ | exact Ent.nil _ _ | exact Ent.func _ | exact Ent.refl _ | exact Ent.of_eq rfl | refine Ent.cells ?_))
        exact SubF.nil
      · try dsimp only [List.cons_append, List.nil_append]
        repeat (first | exact SubL.nil | refine SubL.cons rfl ?_)
      · obtain ⟨⟨k, a, b, j1, j2, j3, j4, j5, j6⟩, hk, hinv, hnb⟩ := zz
        try dsimp only at hk
        try dsimp only at hinv
        try dsimp only at hnb
        dsimp only [List.cons_append, List.nil_append]
        refine tr_seq ?_
        refine tr_region (fun N7 hN => ?_)
        refine lx (op_lss rfl rfl) rfl ?_
        refine lx_end ⟨by kernel_rfl, ?_⟩
        refine pe_then_normal ?_
        refine tr_sub hC (.cons (t := 5) rfl (.cons (t := 6) rfl (.cons (t := 27) rfl (.cons (t := 28) rfl (.cons (t := 29) rfl (.cons (t := 30) rfl .nil)))))) (.cons (t := 800) rfl (.cons (t := 801) rfl (.cons (t := 802) rfl (.cons (t := 803) rfl (.cons (t := 804) rfl (.cons (t := 805) rfl (.cons (t := 806) rfl .nil))))))) rfl ?_
        refine tr_seq ?_
        refine tr_cond rfl (fun h30 => ?_) (fun h30 => ?_)
        · (try simp only [Bool.and_eq_true, Bool.or_eq_true, Bool.and_eq_false_iff, Bool.or_eq_false_iff, decide_eq_true_eq, decide_eq_false_iff_not, Bool.not_eq_true', Bool.not_eq_false', List.length_map, ne_eq, Decidable.not_not, Int.not_lt, Int.not_le] at h30)
          have hx : opOK l[k] := hl _ (List.getElem_mem (by omega : k < l.length))
          have hinv2 := do_inv (s := (a, b)) hinv (by omega) (k := l[k].1) (e := l[k].2.1) hx.2.2.1
          have hnb2 := do_nb (s := (a, b)) (k := l[k].1) (e := l[k].2.1) (p := l[k].2.2) hnb
          refine tr_skip ?_
          refine pe_then_normal ?_
          refine tr_sub hC (.cons (t := 5) rfl (.cons (t := 6) rfl (.cons (t := 27) rfl (.cons (t := 28) rfl (.cons (t := 29) rfl .nil))))) (.cons (t := 800) rfl (.cons (t := 801) rfl (.cons (t := 802) rfl (.cons (t := 803) rfl (.cons (t := 804) rfl (.cons (t := 805) rfl (.cons (t := 806) rfl .nil))))))) rfl ?_
          refine tr_seq ?_
          refine tr_block ?_
          refine tr_seq ?_
          refine tr_region (fun N8 hN => ?_)
          refine lx (op_index rfl rfl el60 sz65 rfl (List.getElem?_eq_getElem (by omega : k < l.length))) rfl ?_
          first | refine lx (op_load_all rfl ag65 sz65) rfl ?_ | refine lx (op_load_agg rfl ag65 sz65 rfl) rfl ?_ | refine lx (op_bload (m := 800) rfl rfl ag65 sz65) rfl ?_ | refine lx (op_bload (m := 801) rfl rfl ag65 sz65) rfl ?_ | refine lx (op_bload (m := 802) rfl rfl ag65 sz65) rfl ?_ | refine lx (op_bload (m := 803) rfl rfl ag65 sz65) rfl ?_ | refine lx (op_bload (m := 804) rfl rfl ag65 sz65) rfl ?_ | refine lx (op_bload (m := 805) rfl rfl ag65 sz65) rfl ?_ | refine lx (op_bload (m := 806) rfl rfl ag65 sz65) rfl ?_ | refine lx (op_bload_part (m := 800) (qs := [_, _, _]) rfl rfl ag65 sz65 rfl rfl) rfl ?_ | refine lx (op_bload_part (m := 801) (qs := [_, _, _]) rfl rfl ag65 sz65 rfl rfl) rfl ?_ | refine lx (op_bload_part (m := 802) (qs := [_, _, _]) rfl rfl ag65 sz65 rfl rfl) rfl ?_ | refine lx (op_bload_part (m := 803) (qs := [_, _, _]) rfl rfl ag65 sz65 rfl rfl) rfl ?_ | refine lx (op_bload_part (m := 804) (qs := [_, _, _]) rfl rfl ag65 sz65 rfl rfl) rfl ?_ | refine lx (op_bload_part (m := 805) (qs := [_, _, _]) rfl rfl ag65 sz65 rfl rfl) rfl ?_ | refine lx (op_bload_part (m := 806) (qs := [_, _, _]) rfl rfl ag65 sz65 rfl rfl) rfl ?_
          refine lxn (op_alloc (m := 8) (k := 8) (ps := [eqP (.int .u8 0), eqP (.int .u8 0), eqP (.int .u8 0)]) ze65 rfl rfl (by first | exact hC.low _ (by decide) | rfl)) rfl ?_
          refine lxr (op_store_all (m := 8) rfl rfl rfl (.agg rfl) sz65 rfl) rfl ?_
          refine lx_end ⟨by kernel_rfl, ?_⟩
          refine pe_then_normal ?_
          refine tr_sub hC (.cons (t := 5) rfl (.cons (t := 6) rfl (.cons (t := 8) rfl (.cons (t := 27) rfl (.cons (t := 28) rfl (.cons (t := 29) rfl .nil)))))) (.cons (t := 800) rfl (.cons (t := 801) rfl (.cons (t := 802) rfl (.cons (t := 803) rfl (.cons (t := 804) rfl (.cons (t := 805) rfl (.cons (t := 806) rfl (.cons (t := 8) rfl .nil)))))))) rfl ?_
          refine tr_seq ?_
          refine tr_region (fun N9 hN => ?_)
          refine lx (op_move rfl) rfl ?_
          first | refine lx (op_not rfl) rfl ?_ | refine lx (op_not_b rfl) rfl ?_
          refine lx (op_move rfl) rfl ?_
          refine lxg rfl rfl rfl (op_move rfl) rfl ?_
          refine lxg rfl rfl rfl (op_bload (m := 8) rfl rfl ag65 sz65) rfl ?_
          first | refine lx_run rfl rfl rfl (op_callG2 (l := [(Go.Operand.tmp 36), (Go.Operand.tmp 37)]) (add := [(800, ((N5, 100240), blk 73 (prP (doF (a, b) (l[k]'(by omega)).1 (l[k]'(by omega)).2.1 (l[k]'(by omega)).2.2).1 (doF (a, b) (l[k]'(by omega)).1 (l[k]'(by omega)).2.1 (l[k]'(by omega)).2.2).2 (N9, 100380) (N9, 100381) (N9, 100382) (N9, 100383) (N9, 100384) (N9, 100385)))), (801, ((N9, 100380), tail 9 1 ((doF (a, b) (l[k]'(by omega)).1 (l[k]'(by omega)).2.1 (l[k]'(by omega)).2.2).1.s.length * 1))), (802, ((N9, 100381), tail 9 1 ((doF (a, b) (l[k]'(by omega)).1 (l[k]'(by omega)).2.1 (l[k]'(by omega)).2.2).2.s.length * 1))), (803, ((N9, 100382), tail 9 1 ((doF (a, b) (l[k]'(by omega)).1 (l[k]'(by omega)).2.1 (l[k]'(by omega)).2.2).1.g.length * 1))), (804, ((N9, 100383), tail 9 1 ((doF (a, b) (l[k]'(by omega)).1 (l[k]'(by omega)).2.1 (l[k]'(by omega)).2.2).2.g.length * 1))), (805, ((N9, 100384), tail 25 1 ((doF (a, b) (l[k]'(by omega)).1 (l[k]'(by omega)).2.1 (l[k]'(by omega)).2.2).1.n.length * 1))), (806, ((N9, 100385), tail 25 1 ((doF (a, b) (l[k]'(by omega)).1 (l[k]'(by omega)).2.1 (l[k]'(by omega)).2.2).2.n.length * 1)))]) (ks := [100380, 100381, 100382, 100383, 100384, 100385]) (φ := eqP (.bool true)) (.cons (m := 800) rfl (.cons (m := 801) rfl (.cons (m := 802) rfl (.cons (m := 803) rfl (.cons (m := 804) rfl (.cons (m := 805) rfl (.cons (m := 806) rfl .nil))))))) (do_ok w k (N5, 100240) j1 j2 j3 j4 j5 j6 a b hinv (by omega) hnb (l[k]'(by omega)).1 (l[k]'(by omega)).2.1 (l[k]'(by omega)).2.2 hx.1 hx.2.1 hx.2.2) (.cons rfl (.cons rfl .nil)) fn27 rfl rfl rfl (.old rfl (.old rfl (.old rfl (.old rfl (.old rfl (.old rfl (.old rfl .nil))))))) rfl) (dOK_spec rfl) ?_ | refine lx_run rfl rfl rfl (op_callG2 (l := [(Go.Operand.tmp 36), (Go.Operand.tmp 37)]) (add := [(800, ((N5, 100240), blk 73 (prP (doF (a, b) (l[k]'(by omega)).1 (l[k]'(by omega)).2.1 (l[k]'(by omega)).2.2).1 (doF (a, b) (l[k]'(by omega)).1 (l[k]'(by omega)).2.1 (l[k]'(by omega)).2.2).2 (N9, 100380) (N9, 100381) (N9, 100382) (N9, 100383) (N9, 100384) (N9, 100385)))), (801, ((N9, 100380), tail 9 1 ((doF (a, b) (l[k]'(by omega)).1 (l[k]'(by omega)).2.1 (l[k]'(by omega)).2.2).1.s.length * 1))), (802, ((N9, 100381), tail 9 1 ((doF (a, b) (l[k]'(by omega)).1 (l[k]'(by omega)).2.1 (l[k]'(by omega)).2.2).2.s.length * 1))), (803, ((N9, 100382), tail 9 1 ((doF (a, b) (l[k]'(by omega)).1 (l[k]'(by omega)).2.1 (l[k]'(by omega)).2.2).1.g.length * 1))), (804, ((N9, 100383), tail 9 1 ((doF (a, b) (l[k]'(by omega)).1 (l[k]'(by omega)).2.1 (l[k]'(by omega)).2.2).2.g.length * 1))), (805, ((N9, 100384), tail 25 1 ((doF (a, b) (l[k]'(by omega)).1 (l[k]'(by omega)).2.1 (l[k]'(by omega)).2.2).1.n.length * 1))), (806, ((N9, 100385), tail 25 1 ((doF (a, b) (l[k]'(by omega)).1 (l[k]'(by omega)).2.1 (l[k]'(by omega)).2.2).2.n.length * 1)))]) (ks := [100380, 100381, 100382, 100383, 100384, 100385]) (φ := eqP (.bool true)) (.cons (m := 800) rfl (.cons (m := 801) rfl (.cons (m := 802) rfl (.cons (m := 803) rfl (.cons (m := 804) rfl (.cons (m := 805) rfl (.cons (m := 806) rfl .nil))))))) (do_ok w k (N5, 100240) j1 j2 j3 j4 j5 j6 a b hinv (by omega) hnb (l[k]'(by omega)).1 (l[k]'(by omega)).2.1 (l[k]'(by omega)).2.2 hx.1 hx.2.1 hx.2.2) (.ent rfl (by repeat (first | exact Ents.nil | refine Ents.cons ?_ ?_ | refine Ent.tup ?_ | refine Ent.agg ?_ | exact Ent.row _ _ _ _ | exact Ent.nil _ _ | exact Ent.func _ | exact Ent.refl _ | exact Ent.of_eq rfl | refine Ent.cells ?_)) (.ent rfl (by repeat (first | exact Ents.nil | refine Ents.cons ?_ ?_ | refine Ent.tup ?_ | refine Ent.agg ?_ | exact Ent.row _ _ _ _ | exact Ent.nil _ _ | exact Ent.func _ | exact Ent.refl _ | exact Ent.of_eq rfl | refine Ent.cells ?_)) .nil)) fn27 rfl rfl rfl (.old rfl (.old rfl (.old rfl (.old rfl (.old rfl (.old rfl (.old rfl .nil))))))) rfl) (dOK_spec rfl) ?_
          first | refine lxg rfl rfl rfl (op_not rfl) rfl ?_ | refine lxg rfl rfl rfl (op_not_b rfl) rfl ?_
          refine lx (op_pick_f rfl rfl) rfl ?_
          refine lx (op_move rfl) rfl ?_
          refine lxg rfl rfl rfl (op_move rfl) rfl ?_
          first | refine lx_run rfl rfl rfl (op_callG2 (l := [(Go.Operand.tmp 42)]) (add := [(800, ((N5, 100240), blk 73 (prP (doF (a, b) (l[k]'(by omega)).1 (l[k]'(by omega)).2.1 (l[k]'(by omega)).2.2).1 (doF (a, b) (l[k]'(by omega)).1 (l[k]'(by omega)).2.1 (l[k]'(by omega)).2.2).2 (N9, 100380) (N9, 100381) (N9, 100382) (N9, 100383) (N9, 100384) (N9, 100385)))), (801, ((N9, 100380), tail 9 1 ((doF (a, b) (l[k]'(by omega)).1 (l[k]'(by omega)).2.1 (l[k]'(by omega)).2.2).1.s.length * 1))), (802, ((N9, 100381), tail 9 1 ((doF (a, b) (l[k]'(by omega)).1 (l[k]'(by omega)).2.1 (l[k]'(by omega)).2.2).2.s.length * 1))), (803, ((N9, 100382), tail 9 1 ((doF (a, b) (l[k]'(by omega)).1 (l[k]'(by omega)).2.1 (l[k]'(by omega)).2.2).1.g.length * 1))), (804, ((N9, 100383), tail 9 1 ((doF (a, b) (l[k]'(by omega)).1 (l[k]'(by omega)).2.1 (l[k]'(by omega)).2.2).2.g.length * 1))), (805, ((N9, 100384), tail 25 1 ((doF (a, b) (l[k]'(by omega)).1 (l[k]'(by omega)).2.1 (l[k]'(by omega)).2.2).1.n.length * 1))), (806, ((N9, 100385), tail 25 1 ((doF (a, b) (l[k]'(by omega)).1 (l[k]'(by omega)).2.1 (l[k]'(by omega)).2.2).2.n.length * 1)))]) (ks := []) (φ := eqP (.bool true)) (.cons (m := 800) rfl (.cons (m := 801) rfl (.cons (m := 802) rfl (.cons (m := 803) rfl (.cons (m := 804) rfl (.cons (m := 805) rfl (.cons (m := 806) rfl .nil))))))) (prefix_ok (N5, 100240) (N9, 100380) (N9, 100381) (N9, 100382) (N9, 100383) (N9, 100384) (N9, 100385) (doF (a, b) (l[k]'(by omega)).1 (l[k]'(by omega)).2.1 (l[k]'(by omega)).2.2).1 (doF (a, b) (l[k]'(by omega)).1 (l[k]'(by omega)).2.1 (l[k]'(by omega)).2.2).2 ⟨inv_pre hinv2, inv_pre hinv2.swap⟩ (inv_s hinv2 (by omega))) (.cons rfl .nil) fn28 rfl rfl rfl (.old rfl (.old rfl (.old rfl (.old rfl (.old rfl (.old rfl (.old rfl .nil))))))) rfl) (dOK_spec rfl) ?_ | refine lx_run rfl rfl rfl (op_callG2 (l := [(Go.Operand.tmp 42)]) (add := [(800, ((N5, 100240), blk 73 (prP (doF (a, b) (l[k]'(by omega)).1 (l[k]'(by omega)).2.1 (l[k]'(by omega)).2.2).1 (doF (a, b) (l[k]'(by omega)).1 (l[k]'(by omega)).2.1 (l[k]'(by omega)).2.2).2 (N9, 100380) (N9, 100381) (N9, 100382) (N9, 100383) (N9, 100384) (N9, 100385)))), (801, ((N9, 100380), tail 9 1 ((doF (a, b) (l[k]'(by omega)).1 (l[k]'(by omega)).2.1 (l[k]'(by omega)).2.2).1.s.length * 1))), (802, ((N9, 100381), tail 9 1 ((doF (a, b) (l[k]'(by omega)).1 (l[k]'(by omega)).2.1 (l[k]'(by omega)).2.2).2.s.length * 1))), (803, ((N9, 100382), tail 9 1 ((doF (a, b) (l[k]'(by omega)).1 (l[k]'(by omega)).2.1 (l[k]'(by omega)).2.2).1.g.length * 1))), (804, ((N9, 100383), tail 9 1 ((doF (a, b) (l[k]'(by omega)).1 (l[k]'(by omega)).2.1 (l[k]'(by omega)).2.2).2.g.length * 1))), (805, ((N9, 100384), tail 25 1 ((doF (a, b) (l[k]'(by omega)).1 (l[k]'(by omega)).2.1 (l[k]'(by omega)).2.2).1.n.length * 1))), (806, ((N9, 100385), tail 25 1 ((doF (a, b) (l[k]'(by omega)).1 (l[k]'(by omega)).2.1 (l[k]'(by omega)).2.2).2.n.length * 1)))]) (ks := []) (φ := eqP (.bool true)) (.cons (m := 800) rfl (.cons (m := 801) rfl (.cons (m := 802) rfl (.cons (m := 803) rfl (.cons (m := 804) rfl (.cons (m := 805) rfl (.cons (m := 806) rfl .nil))))))) (prefix_ok (N5, 100240) (N9, 100380) (N9, 100381) (N9, 100382) (N9, 100383) (N9, 100384) (N9, 100385) (doF (a, b) (l[k]'(by omega)).1 (l[k]'(by omega)).2.1 (l[k]'(by omega)).2.2).1 (doF (a, b) (l[k]'(by omega)).1 (l[k]'(by omega)).2.1 (l[k]'(by omega)).2.2).2 ⟨inv_pre hinv2, inv_pre hinv2.swap⟩ (inv_s hinv2 (by omega))) (.ent rfl (by repeat (first | exact Ents.nil | refine Ents.cons ?_ ?_ | refine Ent.tup ?_ | refine Ent.agg ?_ | exact Ent.row _ _ _ _ | exact Ent.nil _ _ | exact Ent.func _ | exact Ent.refl _ | exact Ent.of_eq rfl | refine Ent.cells ?_)) .nil) fn28 rfl rfl rfl (.old rfl (.old rfl (.old rfl (.old rfl (.old rfl (.old rfl (.old rfl .nil))))))) rfl) (dOK_spec rfl) ?_
          first | refine lxg rfl rfl rfl (op_not rfl) rfl ?_ | refine lxg rfl rfl rfl (op_not_b rfl) rfl ?_
          refine lx (op_pick_f rfl rfl) rfl ?_
          refine lx_end ⟨by kernel_rfl, ?_⟩
          refine pe_then_normal ?_
          refine tr_sub hC (.cons (t := 5) rfl (.cons (t := 6) rfl (.cons (t := 27) rfl (.cons (t := 28) rfl (.cons (t := 29) rfl (.cons (t := 45) rfl .nil)))))) (.cons (t := 800) rfl (.cons (t := 801) rfl (.cons (t := 802) rfl (.cons (t := 803) rfl (.cons (t := 804) rfl (.cons (t := 805) rfl (.cons (t := 806) rfl .nil))))))) rfl ?_
          refine tr_cond_f rfl ?_
          refine tr_skip ?_
          refine pe_block_normal ?_
          refine pe_then_normal ?_
          refine tr_sub hC (.cons (t := 5) rfl (.cons (t := 6) rfl (.cons (t := 27) rfl (.cons (t := 28) rfl (.cons (t := 29) rfl .nil))))) (.cons (t := 800) rfl (.cons (t := 801) rfl (.cons (t := 802) rfl (.cons (t := 803) rfl (.cons (t := 804) rfl (.cons (t := 805) rfl (.cons (t := 806) rfl .nil))))))) rfl ?_
          refine tr_region (fun N11 hN => ?_)
          refine lx (op_add rfl rfl (by omega)) rfl ?_
          refine lx (op_move rfl) rfl ?_
          refine lx_end ⟨by kernel_rfl, ?_⟩
          refine pe_round (⟨(k + 1, (doF (a, b) (l[k]'(by omega)).1 (l[k]'(by omega)).2.1 (l[k]'(by omega)).2.2).1, (doF (a, b) (l[k]'(by omega)).1 (l[k]'(by omega)).2.1 (l[k]'(by omega)).2.2).2, (N9, 100380), (N9, 100381), (N9, 100382), (N9, 100383), (N9, 100384), (N9, 100385)), by dsimp only; omega, hinv2, hnb2⟩) (by dsimp only; omega) (pe_st hC ?_ ?_ rfl)
          · try dsimp only [List.cons_append, List.nil_append]
            first | refine SubF.cons rfl ?_ | (refine SubF.ent rfl ?_ ?_; · repeat (first | exact Ents.nil | refine Ents.cons ?_ ?_ | refine Ent.tup ?_ | refine Ent.agg ?_ | exact Ent.row _ _ _ _ | exact Ent.nil _ _ | exact Ent.func _ | exact Ent.refl _ | exact Ent.of_eq rfl | refine Ent.cells ?_))
            first | refine SubF.cons rfl ?_ | (refine SubF.ent rfl ?_ ?_; · repeat (first | exact Ents.nil | refine Ents.cons ?_ ?_ | refine Ent.tup ?_ | refine Ent.agg ?_ | exact Ent.row _ _ _ _ | exact Ent.nil _ _ | exact Ent.func _ | exact Ent.refl _ | exact Ent.of_eq rfl | refine Ent.cells ?_))
            first | refine SubF.cons rfl ?_ | (refine SubF.ent rfl ?_ ?_; · repeat (first | exact Ents.nil | refine Ents.cons ?_ ?_ | refine Ent.tup ?_ | refine Ent.agg ?_ | exact Ent.row _ _ _ _ | exact Ent.nil _ _ | exact Ent.func _ | exact Ent.refl _ | exact Ent.of_eq rfl | refine Ent.cells ?_))
            first | refine SubF.cons rfl ?_ | (refine SubF.ent rfl ?_ ?_; · repeat (first | exact Ents.nil | refine Ents.cons ?_ ?_ | refine Ent.tup ?_ | refine Ent.agg ?_ | exact Ent.row _ _ _ _ | exact Ent.nil _ _ | exact Ent.func _ | exact Ent.refl _ | exact Ent.of_eq rfl | refine Ent.cells ?_))
            first | refine SubF.cons rfl ?_ | (refine SubF.ent rfl ?_ ?_; · repeat (first | exact Ents.nil | refine Ents.cons ?_ ?_ | refine Ent.tup ?_ | refine Ent.agg ?_ | exact Ent.row _ _ _ _ | exact Ent.nil _ _ | exact Ent.func _ | exact Ent.refl _ | exact Ent.of_eq rfl | refine Ent.cells ?_))
            exact SubF.nil
          · try dsimp only [List.cons_append, List.nil_append]
            repeat (first | exact SubL.nil | refine SubL.cons rfl ?_)
        · (try simp only [Bool.and_eq_true, Bool.or_eq_true, Bool.and_eq_false_iff, Bool.or_eq_false_iff, decide_eq_true_eq, decide_eq_false_iff_not, Bool.not_eq_true', Bool.not_eq_false', List.length_map, ne_eq, Decidable.not_not, Int.not_lt, Int.not_le] at h30)
          refine tr_exit ?_
          refine pe_then_exit ?_
          refine pe_then_exit ?_
          refine pe_block_eq ?_
          refine pe_then_normal ?_
          refine tr_sub hC (.cons (t := 6) rfl .nil) (.cons (t := 800) rfl (.cons (t := 801) rfl (.cons (t := 802) rfl (.cons (t := 803) rfl (.cons (t := 804) rfl (.cons (t := 805) rfl (.cons (t := 806) rfl .nil))))))) rfl ?_
          refine tr_seq ?_
          refine tr_region (fun N12 hN => ?_)
          refine lx (op_move rfl) rfl ?_
          refine lx (op_assign rfl) rfl ?_
          refine lx_end ⟨by kernel_rfl, ?_⟩
          refine pe_then_normal ?_
          refine tr_sub hC (.cons (t := 4) rfl .nil) (.cons (t := 800) rfl (.cons (t := 801) rfl (.cons (t := 802) rfl (.cons (t := 803) rfl (.cons (t := 804) rfl (.cons (t := 805) rfl (.cons (t := 806) rfl .nil))))))) rfl ?_
          refine tr_ret ?_
          refine pe_ret1 rfl hO rfl (.tmp rfl .nil) ?_
          repeat (first | exact Ents.nil | refine Ents.cons ?_ ?_ | refine Ent.tup ?_ | refine Ent.agg ?_ | exact Ent.row _ _ _ _ | exact Ent.nil _ _ | exact Ent.func _ | exact Ent.refl _ | exact Ent.of_eq rfl | refine Ent.cells ?_)
end Go.Proofs.Ytgdhogmghffbaaa


set_option linter.unusedVariables false
set_option linter.unusedSimpArgs false
namespace Go.Proofs.Ytgdhogmghffbaaa
open Go.AL Go.Wr Go.RowKit
set_option maxHeartbeats 4000000 in
theorem law_completes (l : List (Int × Int × Int)) (hl : ∀ x ∈ l, opOK x) (w : Int) : FnP Try.prog 8 [slP opF 3 l, eqP (.int .i64 w)] (eqP (.bool true)) := by
  refine fn_pure' Try.func8 rfl Try.ntmps8 rfl ?_
  intro σ0 M ex Rf R hC hO
  simp only [frameOf, tokOf]
  refine tr_seq ?_
  refine tr_region (fun N0 hN => ?_)
  refine lx (op_assign rfl) rfl ?_
  refine lx_end ⟨by kernel_rfl, ?_⟩
  refine pe_then_normal ?_
  refine tr_sub hC (.cons (t := 0) rfl (.cons (t := 1) rfl .nil)) .nil rfl ?_
  refine tr_seq ?_
  refine tr_seq ?_
  refine tr_region (fun N1 hN => ?_)
  first | refine lx (op_call (l := []) (awake_ok) .nil fn9) rfl ?_ | refine lx (op_call (l := []) (awake_ok) .nil fn9) rfl ?_
  first | refine lx (op_not rfl) rfl ?_ | refine lx (op_not_b rfl) rfl ?_
  refine lx_end ⟨by kernel_rfl, ?_⟩
  refine pe_then_normal ?_
  refine tr_sub hC (.cons (t := 0) rfl (.cons (t := 1) rfl (.cons (t := 14) rfl .nil))) .nil rfl ?_
  refine tr_cond rfl (fun h14 => ?_) (fun h14 => ?_)
  · exact absurd h14 (by decide)
  · (try simp only [Bool.and_eq_true, Bool.or_eq_true, Bool.and_eq_false_iff, Bool.or_eq_false_iff, decide_eq_true_eq, decide_eq_false_iff_not, Bool.not_eq_true', Bool.not_eq_false', List.length_map, ne_eq, Decidable.not_not, Int.not_lt, Int.not_le] at h14)
    refine tr_skip ?_
    refine pe_then_normal ?_
    refine tr_sub hC (.cons (t := 0) rfl (.cons (t := 1) rfl .nil)) .nil rfl ?_
    refine tr_seq ?_
    refine tr_seq ?_
    refine tr_region (fun N3 hN => ?_)
    refine lx (op_move rfl) rfl ?_
    first | refine lx (op_len rfl el60) rfl ?_ | refine lx (op_len_row rfl el60) rfl ?_ | refine lx (op_len_mv rfl el60) rfl ?_ | refine lx (op_len_nil rfl el60) rfl ?_
    refine lx (op_gtr rfl rfl) rfl ?_
    refine lx (op_move rfl) rfl ?_
    refine lxs rfl rfl rfl guard_eq (.cons (t := 1) rfl (fun _ => Ent.refl _) .nil) (op_move rfl) rfl ?_
    refine lxs rfl rfl rfl guard_eq (.cons (t := 19) rfl (fun h => entW h) .nil) (op_lss rfl rfl) rfl ?_
    refine lx (op_pick_or rfl rfl) rfl ?_
    refine lx (op_move rfl) rfl ?_
    refine lxs rfl rfl rfl guard_eq (.cons (t := 1) rfl (fun _ => Ent.refl _) .nil) (op_move rfl) rfl ?_
    refine lxs rfl rfl rfl guard_eq (.cons (t := 23) rfl (fun h => entW h) .nil) (op_gtr rfl rfl) rfl ?_
    refine lx (op_pick_or rfl rfl) rfl ?_
    refine lx_end ⟨by kernel_rfl, ?_⟩
    refine pe_then_normal ?_
    refine tr_sub hC (.cons (t := 0) rfl (.cons (t := 1) rfl (.cons (t := 25) rfl .nil))) .nil rfl ?_
    refine tr_cond rfl (fun h25 => ?_) (fun h25 => ?_)
    · (try simp only [Bool.and_eq_true, Bool.or_eq_true, Bool.and_eq_false_iff, Bool.or_eq_false_iff, decide_eq_true_eq, decide_eq_false_iff_not, Bool.not_eq_true', Bool.not_eq_false', List.length_map, ne_eq, Decidable.not_not, Int.not_lt, Int.not_le] at h25)
      refine tr_seq ?_
      refine tr_region (fun N4 hN => ?_)
      refine lx (op_assign rfl) rfl ?_
      refine lx_end ⟨by kernel_rfl, ?_⟩
      refine pe_then_normal ?_
      refine tr_sub hC (.cons (t := 4) rfl .nil) .nil rfl ?_
      refine tr_ret ?_
      refine pe_then_ret ?_
      refine pe_ret1 rfl hO rfl (.tmp rfl .nil) ?_
      repeat (first | exact Ents.nil | refine Ents.cons ?_ ?_ | refine Ent.tup ?_ | refine Ent.agg ?_ | exact Ent.row _ _ _ _ | exact Ent.nil _ _ | exact Ent.func _ | exact Ent.refl _ | exact Ent.of_eq rfl | refine Ent.cells ?_)
    · (try simp only [Bool.and_eq_true, Bool.or_eq_true, Bool.and_eq_false_iff, Bool.or_eq_false_iff, decide_eq_true_eq, decide_eq_false_iff_not, Bool.not_eq_true', Bool.not_eq_false', List.length_map, ne_eq, Decidable.not_not, Int.not_lt, Int.not_le] at h25)
      have hw : 1 ≤ w ∧ w ≤ 16 := by omega
      refine tr_skip ?_
      refine pe_then_normal ?_
      refine tr_sub hC (.cons (t := 0) rfl (.cons (t := 1) rfl .nil)) .nil rfl ?_
      refine tr_seq ?_
      refine tr_region (fun N5 hN => ?_)
      refine lx (op_move rfl) rfl ?_
      first | refine lx_any rfl (op_callG2 (l := [(Go.Operand.tmp 27)]) (add := [(800, ((N5, 100280), blk 73 (prP (side0 w) (side0 w) (N5, 100281) (N5, 100282) (N5, 100283) (N5, 100284) (N5, 100285) (N5, 100286)))), (801, ((N5, 100281), tail 9 1 ((side0 w).s.length * 1))), (802, ((N5, 100282), tail 9 1 ((side0 w).s.length * 1))), (803, ((N5, 100283), tail 9 1 ((side0 w).g.length * 1))), (804, ((N5, 100284), tail 9 1 ((side0 w).g.length * 1))), (805, ((N5, 100285), tail 25 1 ((side0 w).n.length * 1))), (806, ((N5, 100286), tail 25 1 ((side0 w).n.length * 1)))]) (ks := [100280, 100281, 100282, 100283, 100284, 100285, 100286]) (φ := tupP [ptrP (N5, 100280) 0, eqP (.bool true)]) .nil (start_ok_w w hw) (.cons rfl .nil) fn26 rfl rfl rfl (.new (by first | exact hC.low _ (by decide) | rfl) (.new (by first | exact hC.low _ (by decide) | rfl) (.new (by first | exact hC.low _ (by decide) | rfl) (.new (by first | exact hC.low _ (by decide) | rfl) (.new (by first | exact hC.low _ (by decide) | rfl) (.new (by first | exact hC.low _ (by decide) | rfl) (.new (by first | exact hC.low _ (by decide) | rfl) .nil))))))) rfl) (dOK_spec rfl) ?_ | refine lx_any rfl (op_callG2 (l := [(Go.Operand.tmp 27)]) (add := [(800, ((N5, 100280), blk 73 (prP (side0 w) (side0 w) (N5, 100281) (N5, 100282) (N5, 100283) (N5, 100284) (N5, 100285) (N5, 100286)))), (801, ((N5, 100281), tail 9 1 ((side0 w).s.length * 1))), (802, ((N5, 100282), tail 9 1 ((side0 w).s.length * 1))), (803, ((N5, 100283), tail 9 1 ((side0 w).g.length * 1))), (804, ((N5, 100284), tail 9 1 ((side0 w).g.length * 1))), (805, ((N5, 100285), tail 25 1 ((side0 w).n.length * 1))), (806, ((N5, 100286), tail 25 1 ((side0 w).n.length * 1)))]) (ks := [100280, 100281, 100282, 100283, 100284, 100285, 100286]) (φ := tupP [ptrP (N5, 100280) 0, eqP (.bool true)]) .nil (start_ok_w w hw) (.ent rfl (by repeat (first | exact Ents.nil | refine Ents.cons ?_ ?_ | refine Ent.tup ?_ | refine Ent.agg ?_ | exact Ent.row _ _ _ _ | exact Ent.nil _ _ | exact Ent.func _ | exact Ent.refl _ | exact Ent.of_eq rfl | refine Ent.cells ?_)) .nil) fn26 rfl rfl rfl (.new (by first | exact hC.low _ (by decide) | rfl) (.new (by first | exact hC.low _ (by decide) | rfl) (.new (by first | exact hC.low _ (by decide) | rfl) (.new (by first | exact hC.low _ (by decide) | rfl) (.new (by first | exact hC.low _ (by decide) | rfl) (.new (by first | exact hC.low _ (by decide) | rfl) (.new (by first | exact hC.low _ (by decide) | rfl) .nil))))))) rfl) (dOK_spec rfl) ?_
      refine lx (op_move rfl) rfl ?_
      refine lx (op_extract rfl rfl) rfl ?_
      refine lx (op_extract rfl rfl) rfl ?_
      refine lx (op_assign rfl) rfl ?_
      refine lx (op_assign rfl) rfl ?_
      refine lx_end ⟨by kernel_rfl, ?_⟩
      refine pe_then_normal ?_
      refine tr_sub hC (.cons (t := 0) rfl (.cons (t := 5) rfl (.cons (t := 6) rfl .nil))) (.cons (t := 800) rfl (.cons (t := 801) rfl (.cons (t := 802) rfl (.cons (t := 803) rfl (.cons (t := 804) rfl (.cons (t := 805) rfl (.cons (t := 806) rfl .nil))))))) rfl ?_
      refine tr_seq ?_
      refine tr_seq ?_
      refine tr_region (fun N6 hN => ?_)
      refine lx (op_move rfl) rfl ?_
      first | refine lx (op_len rfl el60) rfl ?_ | refine lx (op_len_row rfl el60) rfl ?_ | refine lx (op_len_mv rfl el60) rfl ?_ | refine lx (op_len_nil rfl el60) rfl ?_
      refine lx (op_move rfl) rfl ?_
      refine lx_end ⟨by kernel_rfl, ?_⟩
      refine pe_then_normal ?_
      refine tr_sub hC (.cons (t := 5) rfl (.cons (t := 6) rfl (.cons (t := 31) rfl (.cons (t := 32) rfl (.cons (t := 33) rfl .nil))))) (.cons (t := 800) rfl (.cons (t := 801) rfl (.cons (t := 802) rfl (.cons (t := 803) rfl (.cons (t := 804) rfl (.cons (t := 805) rfl (.cons (t := 806) rfl .nil))))))) rfl ?_
      refine tr_block ?_
      refine tr_loopK (α := {zz : Nat × Side × Side × AL.Id × AL.Id × AL.Id × AL.Id × AL.Id × AL.Id // zz.1 ≤ l.length ∧ Inv w zz.1 zz.2.1 zz.2.2.1 ∧ NB zz.2.1 zz.2.2.1}) (⟨(0, (side0 w), (side0 w), (N5, 100281), (N5, 100282), (N5, 100283), (N5, 100284), (N5, 100285), (N5, 100286)), Nat.zero_le _, start_inv hw, nb0 w⟩) (fun zz => [(33, eqP (.int .i64 (zz.1.1 : Int)))]) (fun zz => [(800, some ((N5, 100280), blk 73 (prP zz.1.2.1 zz.1.2.2.1 zz.1.2.2.2.1 zz.1.2.2.2.2.1 zz.1.2.2.2.2.2.1 zz.1.2.2.2.2.2.2.1 zz.1.2.2.2.2.2.2.2.1 zz.1.2.2.2.2.2.2.2.2))), (801, some (zz.1.2.2.2.1, tail 9 1 (zz.1.2.1.s.length * 1))), (802, some (zz.1.2.2.2.2.1, tail 9 1 (zz.1.2.2.1.s.length * 1))), (803, some (zz.1.2.2.2.2.2.1, tail 9 1 (zz.1.2.1.g.length * 1))), (804, some (zz.1.2.2.2.2.2.2.1, tail 9 1 (zz.1.2.2.1.g.length * 1))), (805, some (zz.1.2.2.2.2.2.2.2.1, tail 25 1 (zz.1.2.1.n.length * 1))), (806, some (zz.1.2.2.2.2.2.2.2.2, tail 25 1 (zz.1.2.2.1.n.length * 1)))]) (fun zz => l.length - zz.1.1) hC (.cons (t := 5) rfl (.cons (t := 6) rfl (.cons (t := 31) rfl (.cons (t := 32) rfl .nil)))) .nil rfl ?_ ?_ (fun zz => ?_)
      · try dsimp only [List.cons_append, List.nil_append]
        first | refine SubF.cons rfl ?_ | (refine SubF.ent rfl ?_ ?_; · repeat (first | exact Ents.nil | refine Ents.cons ?_ ?_ | refine Ent.tup ?_ | refine Ent.agg ?_ | exact Ent.row _ _ _ _ | exact Ent.nil _ _ | exact Ent.func _ | exact Ent.refl _ | exact Ent.of_eq rfl | refine Ent.cells ?_))
        exact SubF.nil
      · try dsimp only [List.cons_append, List.nil_append]
        repeat (first | exact SubL.nil | refine SubL.cons rfl ?_)
      · obtain ⟨⟨k, a, b, j1, j2, j3, j4, j5, j6⟩, hk, hinv, hnb⟩ := zz
        try dsimp only at hk
        try dsimp only at hinv
        try dsimp only at hnb
        dsimp only [List.cons_append, List.nil_append]
        refine tr_seq ?_
        refine tr_region (fun N7 hN => ?_)
        refine lx (op_lss rfl rfl) rfl ?_
        refine lx_end ⟨by kernel_rfl, ?_⟩
        refine pe_then_normal ?_
        refine tr_sub hC (.cons (t := 5) rfl (.cons (t := 6) rfl (.cons (t := 31) rfl (.cons (t := 32) rfl (.cons (t := 33) rfl (.cons (t := 34) rfl .nil)))))) (.cons (t := 800) rfl (.cons (t := 801) rfl (.cons (t := 802) rfl (.cons (t := 803) rfl (.cons (t := 804) rfl (.cons (t := 805) rfl (.cons (t := 806) rfl .nil))))))) rfl ?_
        refine tr_seq ?_
        refine tr_cond rfl (fun h34 => ?_) (fun h34 => ?_)
        · (try simp only [Bool.and_eq_true, Bool.or_eq_true, Bool.and_eq_false_iff, Bool.or_eq_false_iff, decide_eq_true_eq, decide_eq_false_iff_not, Bool.not_eq_true', Bool.not_eq_false', List.length_map, ne_eq, Decidable.not_not, Int.not_lt, Int.not_le] at h34)
          have hx : opOK l[k] := hl _ (List.getElem_mem (by omega : k < l.length))
          have hinv2 := do_inv (s := (a, b)) hinv (by omega) (k := l[k].1) (e := l[k].2.1) hx.2.2.1
          have hnb2 := do_nb (s := (a, b)) (k := l[k].1) (e := l[k].2.1) (p := l[k].2.2) hnb
          refine tr_skip ?_
          refine pe_then_normal ?_
          refine tr_sub hC (.cons (t := 5) rfl (.cons (t := 6) rfl (.cons (t := 31) rfl (.cons (t := 32) rfl (.cons (t := 33) rfl .nil))))) (.cons (t := 800) rfl (.cons (t := 801) rfl (.cons (t := 802) rfl (.cons (t := 803) rfl (.cons (t := 804) rfl (.cons (t := 805) rfl (.cons (t := 806) rfl .nil))))))) rfl ?_
          refine tr_seq ?_
          refine tr_block ?_
          refine tr_seq ?_
          refine tr_region (fun N8 hN => ?_)
          refine lx (op_index rfl rfl el60 sz65 rfl (List.getElem?_eq_getElem (by omega : k < l.length))) rfl ?_
          first | refine lx (op_load_all rfl ag65 sz65) rfl ?_ | refine lx (op_load_agg rfl ag65 sz65 rfl) rfl ?_ | refine lx (op_bload (m := 800) rfl rfl ag65 sz65) rfl ?_ | refine lx (op_bload (m := 801) rfl rfl ag65 sz65) rfl ?_ | refine lx (op_bload (m := 802) rfl rfl ag65 sz65) rfl ?_ | refine lx (op_bload (m := 803) rfl rfl ag65 sz65) rfl ?_ | refine lx (op_bload (m := 804) rfl rfl ag65 sz65) rfl ?_ | refine lx (op_bload (m := 805) rfl rfl ag65 sz65) rfl ?_ | refine lx (op_bload (m := 806) rfl rfl ag65 sz65) rfl ?_ | refine lx (op_bload_part (m := 800) (qs := [_, _, _]) rfl rfl ag65 sz65 rfl rfl) rfl ?_ | refine lx (op_bload_part (m := 801) (qs := [_, _, _]) rfl rfl ag65 sz65 rfl rfl) rfl ?_ | refine lx (op_bload_part (m := 802) (qs := [_, _, _]) rfl rfl ag65 sz65 rfl rfl) rfl ?_ | refine lx (op_bload_part (m := 803) (qs := [_, _, _]) rfl rfl ag65 sz65 rfl rfl) rfl ?_ | refine lx (op_bload_part (m := 804) (qs := [_, _, _]) rfl rfl ag65 sz65 rfl rfl) rfl ?_ | refine lx (op_bload_part (m := 805) (qs := [_, _, _]) rfl rfl ag65 sz65 rfl rfl) rfl ?_ | refine lx (op_bload_part (m := 806) (qs := [_, _, _]) rfl rfl ag65 sz65 rfl rfl) rfl ?_
          refine lxn (op_alloc (m := 8) (k := 8) (ps := [eqP (.int .u8 0), eqP (.int .u8 0), eqP (.int .u8 0)]) ze65 rfl rfl (by first | exact hC.low _ (by decide) | rfl)) rfl ?_
          refine lxr (op_store_all (m := 8) rfl rfl rfl (.agg rfl) sz65 rfl) rfl ?_
          refine lx_end ⟨by kernel_rfl, ?_⟩
          refine pe_then_normal ?_
          refine tr_sub hC (.cons (t := 5) rfl (.cons (t := 6) rfl (.cons (t := 8) rfl (.cons (t := 31) rfl (.cons (t := 32) rfl (.cons (t := 33) rfl .nil)))))) (.cons (t := 800) rfl (.cons (t := 801) rfl (.cons (t := 802) rfl (.cons (t := 803) rfl (.cons (t := 804) rfl (.cons (t := 805) rfl (.cons (t := 806) rfl (.cons (t := 8) rfl .nil)))))))) rfl ?_
          refine tr_seq ?_
          refine tr_region (fun N9 hN => ?_)
          refine lx (op_move rfl) rfl ?_
          first | refine lx (op_not rfl) rfl ?_ | refine lx (op_not_b rfl) rfl ?_
          refine lx (op_move rfl) rfl ?_
          refine lxg rfl rfl rfl (op_move rfl) rfl ?_
          refine lxg rfl rfl rfl (op_bload (m := 8) rfl rfl ag65 sz65) rfl ?_
          first | refine lx_run rfl rfl rfl (op_callG2 (l := [(Go.Operand.tmp 40), (Go.Operand.tmp 41)]) (add := [(800, ((N5, 100280), blk 73 (prP (doF (a, b) (l[k]'(by omega)).1 (l[k]'(by omega)).2.1 (l[k]'(by omega)).2.2).1 (doF (a, b) (l[k]'(by omega)).1 (l[k]'(by omega)).2.1 (l[k]'(by omega)).2.2).2 (N9, 100420) (N9, 100421) (N9, 100422) (N9, 100423) (N9, 100424) (N9, 100425)))), (801, ((N9, 100420), tail 9 1 ((doF (a, b) (l[k]'(by omega)).1 (l[k]'(by omega)).2.1 (l[k]'(by omega)).2.2).1.s.length * 1))), (802, ((N9, 100421), tail 9 1 ((doF (a, b) (l[k]'(by omega)).1 (l[k]'(by omega)).2.1 (l[k]'(by omega)).2.2).2.s.length * 1))), (803, ((N9, 100422), tail 9 1 ((doF (a, b) (l[k]'(by omega)).1 (l[k]'(by omega)).2.1 (l[k]'(by omega)).2.2).1.g.length * 1))), (804, ((N9, 100423), tail 9 1 ((doF (a, b) (l[k]'(by omega)).1 (l[k]'(by omega)).2.1 (l[k]'(by omega)).2.2).2.g.length * 1))), (805, ((N9, 100424), tail 25 1 ((doF (a, b) (l[k]'(by omega)).1 (l[k]'(by omega)).2.1 (l[k]'(by omega)).2.2).1.n.length * 1))), (806, ((N9, 100425), tail 25 1 ((doF (a, b) (l[k]'(by omega)).1 (l[k]'(by omega)).2.1 (l[k]'(by omega)).2.2).2.n.length * 1)))]) (ks := [100420, 100421, 100422, 100423, 100424, 100425]) (φ := eqP (.bool true)) (.cons (m := 800) rfl (.cons (m := 801) rfl (.cons (m := 802) rfl (.cons (m := 803) rfl (.cons (m := 804) rfl (.cons (m := 805) rfl (.cons (m := 806) rfl .nil))))))) (do_ok w k (N5, 100280) j1 j2 j3 j4 j5 j6 a b hinv (by omega) hnb (l[k]'(by omega)).1 (l[k]'(by omega)).2.1 (l[k]'(by omega)).2.2 hx.1 hx.2.1 hx.2.2) (.cons rfl (.cons rfl .nil)) fn27 rfl rfl rfl (.old rfl (.old rfl (.old rfl (.old rfl (.old rfl (.old rfl (.old rfl .nil))))))) rfl) (dOK_spec rfl) ?_ | refine lx_run rfl rfl rfl (op_callG2 (l := [(Go.Operand.tmp 40), (Go.Operand.tmp 41)]) (add := [(800, ((N5, 100280), blk 73 (prP (doF (a, b) (l[k]'(by omega)).1 (l[k]'(by omega)).2.1 (l[k]'(by omega)).2.2).1 (doF (a, b) (l[k]'(by omega)).1 (l[k]'(by omega)).2.1 (l[k]'(by omega)).2.2).2 (N9, 100420) (N9, 100421) (N9, 100422) (N9, 100423) (N9, 100424) (N9, 100425)))), (801, ((N9, 100420), tail 9 1 ((doF (a, b) (l[k]'(by omega)).1 (l[k]'(by omega)).2.1 (l[k]'(by omega)).2.2).1.s.length * 1))), (802, ((N9, 100421), tail 9 1 ((doF (a, b) (l[k]'(by omega)).1 (l[k]'(by omega)).2.1 (l[k]'(by omega)).2.2).2.s.length * 1))), (803, ((N9, 100422), tail 9 1 ((doF (a, b) (l[k]'(by omega)).1 (l[k]'(by omega)).2.1 (l[k]'(by omega)).2.2).1.g.length * 1))), (804, ((N9, 100423), tail 9 1 ((doF (a, b) (l[k]'(by omega)).1 (l[k]'(by omega)).2.1 (l[k]'(by omega)).2.2).2.g.length * 1))), (805, ((N9, 100424), tail 25 1 ((doF (a, b) (l[k]'(by omega)).1 (l[k]'(by omega)).2.1 (l[k]'(by omega)).2.2).1.n.length * 1))), (806, ((N9, 100425), tail 25 1 ((doF (a, b) (l[k]'(by omega)).1 (l[k]'(by omega)).2.1 (l[k]'(by omega)).2.2).2.n.length * 1)))]) (ks := [100420, 100421, 100422, 100423, 100424, 100425]) (φ := eqP (.bool true)) (.cons (m := 800) rfl (.cons (m := 801) rfl (.cons (m := 802) rfl (.cons (m := 803) rfl (.cons (m := 804) rfl (.cons (m := 805) rfl (.cons (m := 806) rfl .nil))))))) (do_ok w k (N5, 100280) j1 j2 j3 j4 j5 j6 a b hinv (by omega) hnb (l[k]'(by omega)).1 (l[k]'(by omega)).2.1 (l[k]'(by omega)).2.2 hx.1 hx.2.1 hx.2.2) (.ent rfl (by repeat (first | exact Ents.nil | refine Ents.cons ?_ ?_ | refine Ent.tup ?_ | refine Ent.agg ?_ | exact Ent.row _ _ _ _ | exact Ent.nil _ _ | exact Ent.func _ | exact Ent.refl _ | exact Ent.of_eq rfl | refine Ent.cells ?_)) (.ent rfl (by repeat (first | exact Ents.nil | refine Ents.cons ?_ ?_ | refine Ent.tup ?_ | refine Ent.agg ?_ | exact Ent.row _ _ _ _ | exact Ent.nil _ _ | exact Ent.func _ | exact Ent.refl _ | exact Ent.of_eq rfl | refine Ent.cells ?_)) .nil)) fn27 rfl rfl rfl (.old rfl (.old rfl (.old rfl (.old rfl (.old rfl (.old rfl (.old rfl .nil))))))) rfl) (dOK_spec rfl) ?_
          first | refine lxg rfl rfl rfl (op_not rfl) rfl ?_ | refine lxg rfl rfl rfl (op_not_b rfl) rfl ?_
          refine lx (op_pick_f rfl rfl) rfl ?_
          refine lx_end ⟨by kernel_rfl, ?_⟩
          refine pe_then_normal ?_
          refine tr_sub hC (.cons (t := 5) rfl (.cons (t := 6) rfl (.cons (t := 31) rfl (.cons (t := 32) rfl (.cons (t := 33) rfl (.cons (t := 44) rfl .nil)))))) (.cons (t := 800) rfl (.cons (t := 801) rfl (.cons (t := 802) rfl (.cons (t := 803) rfl (.cons (t := 804) rfl (.cons (t := 805) rfl (.cons (t := 806) rfl .nil))))))) rfl ?_
          refine tr_cond_f rfl ?_
          refine tr_skip ?_
          refine pe_block_normal ?_
          refine pe_then_normal ?_
          refine tr_sub hC (.cons (t := 5) rfl (.cons (t := 6) rfl (.cons (t := 31) rfl (.cons (t := 32) rfl (.cons (t := 33) rfl .nil))))) (.cons (t := 800) rfl (.cons (t := 801) rfl (.cons (t := 802) rfl (.cons (t := 803) rfl (.cons (t := 804) rfl (.cons (t := 805) rfl (.cons (t := 806) rfl .nil))))))) rfl ?_
          refine tr_region (fun N11 hN => ?_)
          refine lx (op_add rfl rfl (by omega)) rfl ?_
          refine lx (op_move rfl) rfl ?_
          refine lx_end ⟨by kernel_rfl, ?_⟩
          refine pe_round (⟨(k + 1, (doF (a, b) (l[k]'(by omega)).1 (l[k]'(by omega)).2.1 (l[k]'(by omega)).2.2).1, (doF (a, b) (l[k]'(by omega)).1 (l[k]'(by omega)).2.1 (l[k]'(by omega)).2.2).2, (N9, 100420), (N9, 100421), (N9, 100422), (N9, 100423), (N9, 100424), (N9, 100425)), by dsimp only; omega, hinv2, hnb2⟩) (by dsimp only; omega) (pe_st hC ?_ ?_ rfl)
          · try dsimp only [List.cons_append, List.nil_append]
            first | refine SubF.cons rfl ?_ | (refine SubF.ent rfl ?_ ?_; · repeat (first | exact Ents.nil | refine Ents.cons ?_ ?_ | refine Ent.tup ?_ | refine Ent.agg ?_ | exact Ent.row _ _ _ _ | exact Ent.nil _ _ | exact Ent.func _ | exact Ent.refl _ | exact Ent.of_eq rfl | refine Ent.cells ?_))
            first | refine SubF.cons rfl ?_ | (refine SubF.ent rfl ?_ ?_; · repeat (first | exact Ents.nil | refine Ents.cons ?_ ?_ | refine Ent.tup ?_ | refine Ent.agg ?_ | exact Ent.row _ _ _ _ | exact Ent.nil _ _ | exact Ent.func _ | exact Ent.refl _ | exact Ent.of_eq rfl | refine Ent.cells ?_))
            first | refine SubF.cons rfl ?_ | (refine SubF.ent rfl ?_ ?_; · repeat (first | exact Ents.nil | refine Ents.cons ?_ ?_ | refine Ent.tup ?_ | refine Ent.agg ?_ | exact Ent.row _ _ _ _ | exact Ent.nil _ _ | exact Ent.func _ | exact Ent.refl _ | exact Ent.of_eq rfl | refine Ent.cells ?_))
            first | refine SubF.cons rfl ?_ | (refine SubF.ent rfl ?_ ?_; · repeat (first | exact Ents.nil | refine Ents.cons ?_ ?_ | refine Ent.tup ?_ | refine Ent.agg ?_ | exact Ent.row _ _ _ _ | exact Ent.nil _ _ | exact Ent.func _ | exact Ent.refl _ | exact Ent.of_eq rfl | refine Ent.cells ?_))
            first | refine SubF.cons rfl ?_ | (refine SubF.ent rfl ?_ ?_; · repeat (first | exact Ents.nil | refine Ents.cons ?_ ?_ | refine Ent.tup ?_ | refine Ent.agg ?_ | exact Ent.row _ _ _ _ | exact Ent.nil _ _ | exact Ent.func _ | exact Ent.refl _ | exact Ent.of_eq rfl | refine Ent.cells ?_))
            exact SubF.nil
          · try dsimp only [List.cons_append, List.nil_append]
            repeat (first | exact SubL.nil | refine SubL.cons rfl ?_)
        · (try simp only [Bool.and_eq_true, Bool.or_eq_true, Bool.and_eq_false_iff, Bool.or_eq_false_iff, decide_eq_true_eq, decide_eq_false_iff_not, Bool.not_eq_true', Bool.not_eq_false', List.length_map, ne_eq, Decidable.not_not, Int.not_lt, Int.not_le] at h34)
          obtain ⟨b1, hB1⟩ : ∃ z, z = feed b (framesF a.e) := ⟨_, rfl⟩
          obtain ⟨a2, hA2⟩ : ∃ z, z = feed a (framesF b1.e) := ⟨_, rfl⟩
          obtain ⟨b3, hB3⟩ : ∃ z, z = feed b1 (framesF a2.e) := ⟨_, rfl⟩
          obtain ⟨hc1, hc2, hc3, hc4, hc5, hc6, hc7⟩ := complete hinv (by omega) hB1 hA2 hB3
          have hfl0 := inv_frames hinv
          have hfl1 := inv_frames hc1.swap
          have hfl2 := inv_frames hc2
          have hl3 : ([0, 1, 0] : List Int).length = 3 := rfl
          refine tr_exit ?_
          refine pe_then_exit ?_
          refine pe_then_exit ?_
          refine pe_block_eq ?_
          refine pe_then_normal ?_
          refine tr_sub hC (.cons (t := 5) rfl (.cons (t := 6) rfl .nil)) (.cons (t := 800) rfl (.cons (t := 801) rfl (.cons (t := 802) rfl (.cons (t := 803) rfl (.cons (t := 804) rfl (.cons (t := 805) rfl (.cons (t := 806) rfl .nil))))))) rfl ?_
          refine tr_seq ?_
          refine tr_seq ?_
          refine tr_region (fun N12 hN => ?_)
          refine lx (op_buildSlice (f := ip) (xs := [0, 1, 0]) (l := [(0, (Go.Operand.const (Go.Value.int Go.IntKind.i64 0))), (1, (Go.Operand.const (Go.Value.int Go.IntKind.i64 1))), (2, (Go.Operand.const (Go.Value.int Go.IntKind.i64 0)))]) ze3 rfl rfl (by decide) el68 sz3 ip_len (.cons rfl (.one (by (first | exact One.eq rfl | exact One.mv _ _ _ _ _ | exact One.cl _ _ _ | exact One.map _ | exact One.sl _ _ _ | exact One.row _ _ _ _ | exact One.msl _ _ _ _ | exact One.ptr _ _ | exact One.b _ | exact One.cells _))) (.cons rfl (.one (by (first | exact One.eq rfl | exact One.mv _ _ _ _ _ | exact One.cl _ _ _ | exact One.map _ | exact One.sl _ _ _ | exact One.row _ _ _ _ | exact One.msl _ _ _ _ | exact One.ptr _ _ | exact One.b _ | exact One.cells _))) (.cons rfl (.one (by (first | exact One.eq rfl | exact One.mv _ _ _ _ _ | exact One.cl _ _ _ | exact One.map _ | exact One.sl _ _ _ | exact One.row _ _ _ _ | exact One.msl _ _ _ _ | exact One.ptr _ _ | exact One.b _ | exact One.cells _))) .nil))) rfl (by decide)) rfl ?_
          first | refine lx (op_len rfl el68) rfl ?_ | refine lx (op_len_row rfl el68) rfl ?_ | refine lx (op_len_mv rfl el68) rfl ?_ | refine lx (op_len_nil rfl el68) rfl ?_
          refine lx (op_move rfl) rfl ?_
          refine lx_end ⟨by kernel_rfl, ?_⟩
          refine pe_then_normal ?_
          refine tr_sub hC (.cons (t := 5) rfl (.cons (t := 6) rfl (.cons (t := 46) rfl (.cons (t := 47) rfl (.cons (t := 48) rfl .nil))))) (.cons (t := 800) rfl (.cons (t := 801) rfl (.cons (t := 802) rfl (.cons (t := 803) rfl (.cons (t := 804) rfl (.cons (t := 805) rfl (.cons (t := 806) rfl .nil))))))) rfl ?_
          refine tr_block ?_
          refine tr_loopK (α := {zz : Nat × Side × Side × AL.Id × AL.Id × AL.Id × AL.Id × AL.Id × AL.Id // (zz.1 = 0 ∧ a = zz.2.1 ∧ b = zz.2.2.1) ∨ (zz.1 = 1 ∧ a = zz.2.1 ∧ b1 = zz.2.2.1) ∨ (zz.1 = 2 ∧ a2 = zz.2.1 ∧ b1 = zz.2.2.1) ∨ (zz.1 = 3 ∧ a2 = zz.2.1 ∧ b3 = zz.2.2.1)}) (⟨(0, a, b, j1, j2, j3, j4, j5, j6), .inl ⟨rfl, rfl, rfl⟩⟩) (fun zz => [(48, eqP (.int .i64 (zz.1.1 : Int)))]) (fun zz => [(800, some ((N5, 100280), blk 73 (prP zz.1.2.1 zz.1.2.2.1 zz.1.2.2.2.1 zz.1.2.2.2.2.1 zz.1.2.2.2.2.2.1 zz.1.2.2.2.2.2.2.1 zz.1.2.2.2.2.2.2.2.1 zz.1.2.2.2.2.2.2.2.2))), (801, some (zz.1.2.2.2.1, tail 9 1 (zz.1.2.1.s.length * 1))), (802, some (zz.1.2.2.2.2.1, tail 9 1 (zz.1.2.2.1.s.length * 1))), (803, some (zz.1.2.2.2.2.2.1, tail 9 1 (zz.1.2.1.g.length * 1))), (804, some (zz.1.2.2.2.2.2.2.1, tail 9 1 (zz.1.2.2.1.g.length * 1))), (805, some (zz.1.2.2.2.2.2.2.2.1, tail 25 1 (zz.1.2.1.n.length * 1))), (806, some (zz.1.2.2.2.2.2.2.2.2, tail 25 1 (zz.1.2.2.1.n.length * 1)))]) (fun zz => 3 - zz.1.1) hC (.cons (t := 5) rfl (.cons (t := 6) rfl (.cons (t := 46) rfl (.cons (t := 47) rfl .nil)))) .nil rfl ?_ ?_ (fun zz => ?_)
          · try dsimp only [List.cons_append, List.nil_append]
            first | refine SubF.cons rfl ?_ | (refine SubF.ent rfl ?_ ?_; · repeat (first | exact Ents.nil | refine Ents.cons ?_ ?_ | refine Ent.tup ?_ | refine Ent.agg ?_ | exact Ent.row _ _ _ _ | exact Ent.nil _ _ | exact Ent.func _ | exact Ent.refl _ | exact Ent.of_eq rfl | refine Ent.cells ?_))
            exact SubF.nil
          · try dsimp only [List.cons_append, List.nil_append]
            repeat (first | exact SubL.nil | refine SubL.cons rfl ?_)
          · obtain ⟨⟨t, x, y, q1, q2, q3, q4, q5, q6⟩, hph⟩ := zz
            try dsimp only at hph
            dsimp only [List.cons_append, List.nil_append]
            rcases hph with ⟨rfl, rfl, rfl⟩ | ⟨rfl, rfl, rfl⟩ | ⟨rfl, rfl, rfl⟩ | ⟨rfl, rfl, rfl⟩
            · refine tr_seq ?_
              refine tr_region (fun N13 hN => ?_)
              refine lx (op_lss rfl rfl) rfl ?_
              refine lx_end ⟨by kernel_rfl, ?_⟩
              refine pe_then_normal ?_
              refine tr_sub hC (.cons (t := 5) rfl (.cons (t := 6) rfl (.cons (t := 46) rfl (.cons (t := 47) rfl (.cons (t := 48) rfl (.cons (t := 49) rfl .nil)))))) (.cons (t := 800) rfl (.cons (t := 801) rfl (.cons (t := 802) rfl (.cons (t := 803) rfl (.cons (t := 804) rfl (.cons (t := 805) rfl (.cons (t := 806) rfl .nil))))))) rfl ?_
              refine tr_seq ?_
              refine tr_cond rfl (fun h49 => ?_) (fun h49 => ?_)
              · (try simp only [Bool.and_eq_true, Bool.or_eq_true, Bool.and_eq_false_iff, Bool.or_eq_false_iff, decide_eq_true_eq, decide_eq_false_iff_not, Bool.not_eq_true', Bool.not_eq_false', List.length_map, ne_eq, Decidable.not_not, Int.not_lt, Int.not_le] at h49)
                refine tr_skip ?_
                refine pe_then_normal ?_
                refine tr_sub hC (.cons (t := 5) rfl (.cons (t := 6) rfl (.cons (t := 46) rfl (.cons (t := 47) rfl (.cons (t := 48) rfl .nil))))) (.cons (t := 800) rfl (.cons (t := 801) rfl (.cons (t := 802) rfl (.cons (t := 803) rfl (.cons (t := 804) rfl (.cons (t := 805) rfl (.cons (t := 806) rfl .nil))))))) rfl ?_
                refine tr_seq ?_
                refine tr_block ?_
                refine tr_seq ?_
                refine tr_region (fun N14 hN => ?_)
                refine lx (op_index rfl rfl el68 sz3 (show ((0 : Nat) : Int) = ((0 : Nat) : Int) from rfl) rfl) rfl ?_
                first | refine lx (OpJ.ent (op_load_one rfl ag3 rfl) (show Ent _ (eqP (.int .i64 0)) from (by exact Ent.refl _))) rfl ?_ | refine lx (OpJ.ent (op_bload_one (m := 800) rfl rfl ag3 rfl) (show Ent _ (eqP (.int .i64 0)) from (by exact Ent.refl _))) rfl ?_ | refine lx (OpJ.ent (op_bload_one (m := 801) rfl rfl ag3 rfl) (show Ent _ (eqP (.int .i64 0)) from (by exact Ent.refl _))) rfl ?_ | refine lx (OpJ.ent (op_bload_one (m := 802) rfl rfl ag3 rfl) (show Ent _ (eqP (.int .i64 0)) from (by exact Ent.refl _))) rfl ?_ | refine lx (OpJ.ent (op_bload_one (m := 803) rfl rfl ag3 rfl) (show Ent _ (eqP (.int .i64 0)) from (by exact Ent.refl _))) rfl ?_ | refine lx (OpJ.ent (op_bload_one (m := 804) rfl rfl ag3 rfl) (show Ent _ (eqP (.int .i64 0)) from (by exact Ent.refl _))) rfl ?_ | refine lx (OpJ.ent (op_bload_one (m := 805) rfl rfl ag3 rfl) (show Ent _ (eqP (.int .i64 0)) from (by exact Ent.refl _))) rfl ?_ | refine lx (OpJ.ent (op_bload_one (m := 806) rfl rfl ag3 rfl) (show Ent _ (eqP (.int .i64 0)) from (by exact Ent.refl _))) rfl ?_
                refine lx (op_assign rfl) rfl ?_
                refine lx_end ⟨by kernel_rfl, ?_⟩
                refine pe_then_normal ?_
                refine tr_sub hC (.cons (t := 5) rfl (.cons (t := 6) rfl (.cons (t := 10) rfl (.cons (t := 46) rfl (.cons (t := 47) rfl (.cons (t := 48) rfl .nil)))))) (.cons (t := 800) rfl (.cons (t := 801) rfl (.cons (t := 802) rfl (.cons (t := 803) rfl (.cons (t := 804) rfl (.cons (t := 805) rfl (.cons (t := 806) rfl .nil))))))) rfl ?_
                refine tr_seq ?_
                refine tr_region (fun N15 hN => ?_)
                refine lx (op_move rfl) rfl ?_
                refine lx (op_move rfl) rfl ?_
                first | refine lx (op_nilCheck rfl) rfl ?_ | refine lx (op_nilCheckC rfl) rfl ?_
                refine lx (op_fieldAddr rfl fl73_0 sz69) rfl ?_
                refine lx (op_aindex rfl rfl ar69 sz46 (show (0 : Int) = ((0 : Nat) : Int) from rfl) (by decide)) rfl ?_
                first | refine lx (op_bload (m := 800) rfl rfl ag46 sz46) rfl ?_ | refine lx (op_bload_part (m := 800) (qs := [_, _, _, _, _]) rfl rfl ag46 sz46 rfl rfl) rfl ?_
                first | refine lx (op_call (l := [(Go.Operand.tmp 57)]) (Frames_ok a.e) (.cons rfl .nil) fn24) rfl ?_ | refine lx (op_call (l := [(Go.Operand.tmp 57)]) (Frames_ok a.e) (.ent rfl (by repeat (first | exact Ents.nil | refine Ents.cons ?_ ?_ | refine Ent.tup ?_ | refine Ent.agg ?_ | exact Ent.row _ _ _ _ | exact Ent.nil _ _ | exact Ent.func _ | exact Ent.refl _ | exact Ent.of_eq rfl | refine Ent.cells ?_)) .nil) fn24) rfl ?_
                first | refine lx (op_len rfl el43) rfl ?_ | refine lx (op_len_row rfl el43) rfl ?_ | refine lx (op_len_mv rfl el43) rfl ?_ | refine lx (op_len_nil rfl el43) rfl ?_
                refine lx (op_move rfl) rfl ?_
                refine lx_end ⟨by kernel_rfl, ?_⟩
                refine pe_then_normal ?_
                refine tr_sub hC (.cons (t := 5) rfl (.cons (t := 6) rfl (.cons (t := 10) rfl (.cons (t := 46) rfl (.cons (t := 47) rfl (.cons (t := 48) rfl (.cons (t := 58) rfl (.cons (t := 59) rfl (.cons (t := 60) rfl .nil))))))))) (.cons (t := 800) rfl (.cons (t := 801) rfl (.cons (t := 802) rfl (.cons (t := 803) rfl (.cons (t := 804) rfl (.cons (t := 805) rfl (.cons (t := 806) rfl .nil))))))) rfl ?_
                refine tr_block ?_
                refine tr_loopK (α := {zz : Nat × Side × AL.Id // zz.1 ≤ (framesF a.e).length ∧ zz.2.1 = feed b ((framesF a.e).take zz.1)}) (⟨(0, b, q4), Nat.zero_le _, rfl⟩) (fun zz => [(60, eqP (.int .i64 (zz.1.1 : Int)))]) (fun zz => [(800, some ((N5, 100280), blk 73 (prP a zz.1.2.1 q1 q2 q3 zz.1.2.2 q5 q6))), (801, some (q1, tail 9 1 (a.s.length * 1))), (802, some (q2, tail 9 1 (zz.1.2.1.s.length * 1))), (803, some (q3, tail 9 1 (a.g.length * 1))), (804, some (zz.1.2.2, tail 9 1 (zz.1.2.1.g.length * 1))), (805, some (q5, tail 25 1 (a.n.length * 1))), (806, some (q6, tail 25 1 (zz.1.2.1.n.length * 1)))]) (fun zz => (framesF a.e).length - zz.1.1) hC (.cons (t := 5) rfl (.cons (t := 6) rfl (.cons (t := 10) rfl (.cons (t := 46) rfl (.cons (t := 47) rfl (.cons (t := 48) rfl (.cons (t := 58) rfl (.cons (t := 59) rfl .nil)))))))) .nil rfl ?_ ?_ (fun zz => ?_)
                · try dsimp only [List.cons_append, List.nil_append]
                  first | refine SubF.cons rfl ?_ | (refine SubF.ent rfl ?_ ?_; · repeat (first | exact Ents.nil | refine Ents.cons ?_ ?_ | refine Ent.tup ?_ | refine Ent.agg ?_ | exact Ent.row _ _ _ _ | exact Ent.nil _ _ | exact Ent.func _ | exact Ent.refl _ | exact Ent.of_eq rfl | refine Ent.cells ?_))
                  exact SubF.nil
                · try dsimp only [List.cons_append, List.nil_append]
                  repeat (first | exact SubL.nil | refine SubL.cons rfl ?_)
                · obtain ⟨⟨j, z, i⟩, hj, hz⟩ := zz
                  try dsimp only at hj
                  try dsimp only at hz
                  dsimp only [List.cons_append, List.nil_append]
                  refine tr_seq ?_
                  refine tr_region (fun N16 hN => ?_)
                  refine lx (op_lss rfl rfl) rfl ?_
                  refine lx_end ⟨by kernel_rfl, ?_⟩
                  refine pe_then_normal ?_
                  refine tr_sub hC (.cons (t := 5) rfl (.cons (t := 6) rfl (.cons (t := 10) rfl (.cons (t := 46) rfl (.cons (t := 47) rfl (.cons (t := 48) rfl (.cons (t := 58) rfl (.cons (t := 59) rfl (.cons (t := 60) rfl (.cons (t := 61) rfl .nil)))))))))) (.cons (t := 800) rfl (.cons (t := 801) rfl (.cons (t := 802) rfl (.cons (t := 803) rfl (.cons (t := 804) rfl (.cons (t := 805) rfl (.cons (t := 806) rfl .nil))))))) rfl ?_
                  refine tr_seq ?_
                  refine tr_cond rfl (fun h61 => ?_) (fun h61 => ?_)
                  · (try simp only [Bool.and_eq_true, Bool.or_eq_true, Bool.and_eq_false_iff, Bool.or_eq_false_iff, decide_eq_true_eq, decide_eq_false_iff_not, Bool.not_eq_true', Bool.not_eq_false', List.length_map, ne_eq, Decidable.not_not, Int.not_lt, Int.not_le] at h61)
                    refine tr_skip ?_
                    refine pe_then_normal ?_
                    refine tr_sub hC (.cons (t := 5) rfl (.cons (t := 6) rfl (.cons (t := 10) rfl (.cons (t := 46) rfl (.cons (t := 47) rfl (.cons (t := 48) rfl (.cons (t := 58) rfl (.cons (t := 59) rfl (.cons (t := 60) rfl .nil))))))))) (.cons (t := 800) rfl (.cons (t := 801) rfl (.cons (t := 802) rfl (.cons (t := 803) rfl (.cons (t := 804) rfl (.cons (t := 805) rfl (.cons (t := 806) rfl .nil))))))) rfl ?_
                    refine tr_seq ?_
                    refine tr_block ?_
                    refine tr_seq ?_
                    refine tr_region (fun N17 hN => ?_)
                    refine lx (op_index rfl rfl el43 sz25 rfl (List.getElem?_eq_getElem (by omega : j < (framesF a.e).length))) rfl ?_
                    first | refine lx (op_load_one rfl ag25 rfl) rfl ?_ | refine lx (op_bload_one (m := 800) rfl rfl ag25 rfl) rfl ?_ | refine lx (op_bload_one (m := 801) rfl rfl ag25 rfl) rfl ?_ | refine lx (op_bload_one (m := 802) rfl rfl ag25 rfl) rfl ?_ | refine lx (op_bload_one (m := 803) rfl rfl ag25 rfl) rfl ?_ | refine lx (op_bload_one (m := 804) rfl rfl ag25 rfl) rfl ?_ | refine lx (op_bload_one (m := 805) rfl rfl ag25 rfl) rfl ?_ | refine lx (op_bload_one (m := 806) rfl rfl ag25 rfl) rfl ?_
                    refine lx (op_assign rfl) rfl ?_
                    refine lx_end ⟨by kernel_rfl, ?_⟩
                    refine pe_then_normal ?_
                    refine tr_sub hC (.cons (t := 5) rfl (.cons (t := 6) rfl (.cons (t := 10) rfl (.cons (t := 12) rfl (.cons (t := 46) rfl (.cons (t := 47) rfl (.cons (t := 48) rfl (.cons (t := 58) rfl (.cons (t := 59) rfl (.cons (t := 60) rfl .nil)))))))))) (.cons (t := 800) rfl (.cons (t := 801) rfl (.cons (t := 802) rfl (.cons (t := 803) rfl (.cons (t := 804) rfl (.cons (t := 805) rfl (.cons (t := 806) rfl .nil))))))) rfl ?_
                    refine tr_seq ?_
                    refine tr_region (fun N18 hN => ?_)
                    refine lx (op_move rfl) rfl ?_
                    refine lx (op_move rfl) rfl ?_
                    refine lx (OpJ.ent (op_sub rfl rfl (by omega)) (show Ent _ (eqP (.int .i64 1)) from (by exact Ent.of_eq rfl))) rfl ?_
                    refine lx (op_move rfl) rfl ?_
                    first | refine lx_any rfl (op_callG2 (l := [(Go.Operand.tmp 64), (Go.Operand.tmp 66), (Go.Operand.tmp 67)]) (add := [(800, ((N5, 100280), blk 73 (prP a (rstep z ((framesF a.e)[j]'(by omega))) q1 q2 q3 (N18, 100680) q5 q6))), (801, (q1, tail 9 1 (a.s.length * 1))), (802, (q2, tail 9 1 ((rstep z ((framesF a.e)[j]'(by omega))).s.length * 1))), (803, (q3, tail 9 1 (a.g.length * 1))), (804, ((N18, 100680), tail 9 1 ((rstep z ((framesF a.e)[j]'(by omega))).g.length * 1))), (805, (q5, tail 25 1 (a.n.length * 1))), (806, (q6, tail 25 1 ((rstep z ((framesF a.e)[j]'(by omega))).n.length * 1)))]) (ks := [100680]) (φ := eqP (.bool true)) (.cons (m := 800) rfl (.cons (m := 801) rfl (.cons (m := 802) rfl (.cons (m := 803) rfl (.cons (m := 804) rfl (.cons (m := 805) rfl (.cons (m := 806) rfl .nil))))))) (receive_1 (N5, 100280) q1 q2 q3 i q5 q6 a z ((framesF a.e)[j]'(by omega)) (by rw [hz]; exact feed_recv hinv (by omega) (by omega)) (by rw [hz]; exact feed_g hinv (by omega) (by omega))) (.cons rfl (.cons rfl (.cons rfl .nil))) fn29 rfl rfl rfl (.old rfl (.old rfl (.old rfl (.old rfl (.old rfl (.old rfl (.old rfl .nil))))))) rfl) (dOK_spec rfl) ?_ | refine lx_any rfl (op_callG2 (l := [(Go.Operand.tmp 64), (Go.Operand.tmp 66), (Go.Operand.tmp 67)]) (add := [(800, ((N5, 100280), blk 73 (prP a (rstep z ((framesF a.e)[j]'(by omega))) q1 q2 q3 (N18, 100680) q5 q6))), (801, (q1, tail 9 1 (a.s.length * 1))), (802, (q2, tail 9 1 ((rstep z ((framesF a.e)[j]'(by omega))).s.length * 1))), (803, (q3, tail 9 1 (a.g.length * 1))), (804, ((N18, 100680), tail 9 1 ((rstep z ((framesF a.e)[j]'(by omega))).g.length * 1))), (805, (q5, tail 25 1 (a.n.length * 1))), (806, (q6, tail 25 1 ((rstep z ((framesF a.e)[j]'(by omega))).n.length * 1)))]) (ks := [100680]) (φ := eqP (.bool true)) (.cons (m := 800) rfl (.cons (m := 801) rfl (.cons (m := 802) rfl (.cons (m := 803) rfl (.cons (m := 804) rfl (.cons (m := 805) rfl (.cons (m := 806) rfl .nil))))))) (receive_1 (N5, 100280) q1 q2 q3 i q5 q6 a z ((framesF a.e)[j]'(by omega)) (by rw [hz]; exact feed_recv hinv (by omega) (by omega)) (by rw [hz]; exact feed_g hinv (by omega) (by omega))) (.ent rfl (by repeat (first | exact Ents.nil | refine Ents.cons ?_ ?_ | refine Ent.tup ?_ | refine Ent.agg ?_ | exact Ent.row _ _ _ _ | exact Ent.nil _ _ | exact Ent.func _ | exact Ent.refl _ | exact Ent.of_eq rfl | refine Ent.cells ?_)) (.ent rfl (by repeat (first | exact Ents.nil | refine Ents.cons ?_ ?_ | refine Ent.tup ?_ | refine Ent.agg ?_ | exact Ent.row _ _ _ _ | exact Ent.nil _ _ | exact Ent.func _ | exact Ent.refl _ | exact Ent.of_eq rfl | refine Ent.cells ?_)) (.ent rfl (by repeat (first | exact Ents.nil | refine Ents.cons ?_ ?_ | refine Ent.tup ?_ | refine Ent.agg ?_ | exact Ent.row _ _ _ _ | exact Ent.nil _ _ | exact Ent.func _ | exact Ent.refl _ | exact Ent.of_eq rfl | refine Ent.cells ?_)) .nil))) fn29 rfl rfl rfl (.old rfl (.old rfl (.old rfl (.old rfl (.old rfl (.old rfl (.old rfl .nil))))))) rfl) (dOK_spec rfl) ?_
                    first | refine lx (op_not rfl) rfl ?_ | refine lx (op_not_b rfl) rfl ?_
                    refine lx_end ⟨by kernel_rfl, ?_⟩
                    refine pe_then_normal ?_
                    refine tr_sub hC (.cons (t := 5) rfl (.cons (t := 6) rfl (.cons (t := 10) rfl (.cons (t := 46) rfl (.cons (t := 47) rfl (.cons (t := 48) rfl (.cons (t := 58) rfl (.cons (t := 59) rfl (.cons (t := 60) rfl (.cons (t := 69) rfl .nil)))))))))) (.cons (t := 800) rfl (.cons (t := 801) rfl (.cons (t := 802) rfl (.cons (t := 803) rfl (.cons (t := 804) rfl (.cons (t := 805) rfl (.cons (t := 806) rfl .nil))))))) rfl ?_
                    refine tr_cond_f rfl ?_
                    refine tr_skip ?_
                    refine pe_block_normal ?_
                    refine pe_then_normal ?_
                    refine tr_sub hC (.cons (t := 5) rfl (.cons (t := 6) rfl (.cons (t := 10) rfl (.cons (t := 46) rfl (.cons (t := 47) rfl (.cons (t := 48) rfl (.cons (t := 58) rfl (.cons (t := 59) rfl (.cons (t := 60) rfl .nil))))))))) (.cons (t := 800) rfl (.cons (t := 801) rfl (.cons (t := 802) rfl (.cons (t := 803) rfl (.cons (t := 804) rfl (.cons (t := 805) rfl (.cons (t := 806) rfl .nil))))))) rfl ?_
                    refine tr_region (fun N20 hN => ?_)
                    refine lx (op_add rfl rfl (by omega)) rfl ?_
                    refine lx (op_move rfl) rfl ?_
                    refine lx_end ⟨by kernel_rfl, ?_⟩
                    refine pe_round (⟨(j + 1, rstep z (framesF a.e)[j], (N18, 100680)), by dsimp only; omega, by dsimp only; rw [hz, feed_at (by omega)]⟩) (by dsimp only; omega) (pe_st hC ?_ ?_ rfl)
                    · try dsimp only [List.cons_append, List.nil_append]
                      first | refine SubF.cons rfl ?_ | (refine SubF.ent rfl ?_ ?_; · repeat (first | exact Ents.nil | refine Ents.cons ?_ ?_ | refine Ent.tup ?_ | refine Ent.agg ?_ | exact Ent.row _ _ _ _ | exact Ent.nil _ _ | exact Ent.func _ | exact Ent.refl _ | exact Ent.of_eq rfl | refine Ent.cells ?_))
                      first | refine SubF.cons rfl ?_ | (refine SubF.ent rfl ?_ ?_; · repeat (first | exact Ents.nil | refine Ents.cons ?_ ?_ | refine Ent.tup ?_ | refine Ent.agg ?_ | exact Ent.row _ _ _ _ | exact Ent.nil _ _ | exact Ent.func _ | exact Ent.refl _ | exact Ent.of_eq rfl | refine Ent.cells ?_))
                      first | refine SubF.cons rfl ?_ | (refine SubF.ent rfl ?_ ?_; · repeat (first | exact Ents.nil | refine Ents.cons ?_ ?_ | refine Ent.tup ?_ | refine Ent.agg ?_ | exact Ent.row _ _ _ _ | exact Ent.nil _ _ | exact Ent.func _ | exact Ent.refl _ | exact Ent.of_eq rfl | refine Ent.cells ?_))
                      first | refine SubF.cons rfl ?_ | (refine SubF.ent rfl ?_ ?_; · repeat (first | exact Ents.nil | refine Ents.cons ?_ ?_ | refine Ent.tup ?_ | refine Ent.agg ?_ | exact Ent.row _ _ _ _ | exact Ent.nil _ _ | exact Ent.func _ | exact Ent.refl _ | exact Ent.of_eq rfl | refine Ent.cells ?_))
                      first | refine SubF.cons rfl ?_ | (refine SubF.ent rfl ?_ ?_; · repeat (first | exact Ents.nil | refine Ents.cons ?_ ?_ | refine Ent.tup ?_ | refine Ent.agg ?_ | exact Ent.row _ _ _ _ | exact Ent.nil _ _ | exact Ent.func _ | exact Ent.refl _ | exact Ent.of_eq rfl | refine Ent.cells ?_))
                      first | refine SubF.cons rfl ?_ | (refine SubF.ent rfl ?_ ?_; · repeat (first | exact Ents.nil | refine Ents.cons ?_ ?_ | refine Ent.tup ?_ | refine Ent.agg ?_ | exact Ent.row _ _ _ _ | exact Ent.nil _ _ | exact Ent.func _ | exact Ent.refl _ | exact Ent.of_eq rfl | refine Ent.cells ?_))
                      first | refine SubF.cons rfl ?_ | (refine SubF.ent rfl ?_ ?_; · repeat (first | exact Ents.nil | refine Ents.cons ?_ ?_ | refine Ent.tup ?_ | refine Ent.agg ?_ | exact Ent.row _ _ _ _ | exact Ent.nil _ _ | exact Ent.func _ | exact Ent.refl _ | exact Ent.of_eq rfl | refine Ent.cells ?_))
                      first | refine SubF.cons rfl ?_ | (refine SubF.ent rfl ?_ ?_; · repeat (first | exact Ents.nil | refine Ents.cons ?_ ?_ | refine Ent.tup ?_ | refine Ent.agg ?_ | exact Ent.row _ _ _ _ | exact Ent.nil _ _ | exact Ent.func _ | exact Ent.refl _ | exact Ent.of_eq rfl | refine Ent.cells ?_))
                      first | refine SubF.cons rfl ?_ | (refine SubF.ent rfl ?_ ?_; · repeat (first | exact Ents.nil | refine Ents.cons ?_ ?_ | refine Ent.tup ?_ | refine Ent.agg ?_ | exact Ent.row _ _ _ _ | exact Ent.nil _ _ | exact Ent.func _ | exact Ent.refl _ | exact Ent.of_eq rfl | refine Ent.cells ?_))
                      exact SubF.nil
                    · try dsimp only [List.cons_append, List.nil_append]
                      repeat (first | exact SubL.nil | refine SubL.cons rfl ?_)
                  · (try simp only [Bool.and_eq_true, Bool.or_eq_true, Bool.and_eq_false_iff, Bool.or_eq_false_iff, decide_eq_true_eq, decide_eq_false_iff_not, Bool.not_eq_true', Bool.not_eq_false', List.length_map, ne_eq, Decidable.not_not, Int.not_lt, Int.not_le] at h61)
                    have hz2 : b1 = z := by rw [hB1]; exact (feed_full hz (by omega)).symm
                    refine tr_exit ?_
                    refine pe_then_exit ?_
                    refine pe_then_exit ?_
                    refine pe_block_eq ?_
                    refine pe_block_normal ?_
                    refine pe_then_normal ?_
                    refine tr_sub hC (.cons (t := 5) rfl (.cons (t := 6) rfl (.cons (t := 46) rfl (.cons (t := 47) rfl (.cons (t := 48) rfl .nil))))) (.cons (t := 800) rfl (.cons (t := 801) rfl (.cons (t := 802) rfl (.cons (t := 803) rfl (.cons (t := 804) rfl (.cons (t := 805) rfl (.cons (t := 806) rfl .nil))))))) rfl ?_
                    refine tr_region (fun N21 hN => ?_)
                    refine lx (op_add rfl rfl (by omega)) rfl ?_
                    refine lx (op_move rfl) rfl ?_
                    refine lx_end ⟨by kernel_rfl, ?_⟩
                    refine pe_round (⟨(1, a, z, q1, q2, q3, i, q5, q6), (by dsimp only; exact .inr (.inl ⟨rfl, rfl, hz2⟩))⟩) (by dsimp only; omega) (pe_st hC ?_ ?_ rfl)
                    · try dsimp only [List.cons_append, List.nil_append]
                      first | refine SubF.cons rfl ?_ | (refine SubF.ent rfl ?_ ?_; · repeat (first | exact Ents.nil | refine Ents.cons ?_ ?_ | refine Ent.tup ?_ | refine Ent.agg ?_ | exact Ent.row _ _ _ _ | exact Ent.nil _ _ | exact Ent.func _ | exact Ent.refl _ | exact Ent.of_eq rfl | refine Ent.cells ?_))
                      first | refine SubF.cons rfl ?_ | (refine SubF.ent rfl ?_ ?_; · repeat (first | exact Ents.nil | refine Ents.cons ?_ ?_ | refine Ent.tup ?_ | refine Ent.agg ?_ | exact Ent.row _ _ _ _ | exact Ent.nil _ _ | exact Ent.func _ | exact Ent.refl _ | exact Ent.of_eq rfl | refine Ent.cells ?_))
                      first | refine SubF.cons rfl ?_ | (refine SubF.ent rfl ?_ ?_; · repeat (first | exact Ents.nil | refine Ents.cons ?_ ?_ | refine Ent.tup ?_ | refine Ent.agg ?_ | exact Ent.row _ _ _ _ | exact Ent.nil _ _ | exact Ent.func _ | exact Ent.refl _ | exact Ent.of_eq rfl | refine Ent.cells ?_))
                      first | refine SubF.cons rfl ?_ | (refine SubF.ent rfl ?_ ?_; · repeat (first | exact Ents.nil | refine Ents.cons ?_ ?_ | refine Ent.tup ?_ | refine Ent.agg ?_ | exact Ent.row _ _ _ _ | exact Ent.nil _ _ | exact Ent.func _ | exact Ent.refl _ | exact Ent.of_eq rfl | refine Ent.cells ?_))
                      first | refine SubF.cons rfl ?_ | (refine SubF.ent rfl ?_ ?_; · repeat (first | exact Ents.nil | refine Ents.cons ?_ ?_ | refine Ent.tup ?_ | refine Ent.agg ?_ | exact Ent.row _ _ _ _ | exact Ent.nil _ _ | exact Ent.func _ | exact Ent.refl _ | exact Ent.of_eq rfl | refine Ent.cells ?_))
                      exact SubF.nil
                    · try dsimp only [List.cons_append, List.nil_append]
                      repeat (first | exact SubL.nil | refine SubL.cons rfl ?_)
              · (try simp only [Bool.and_eq_true, Bool.or_eq_true, Bool.and_eq_false_iff, Bool.or_eq_false_iff, decide_eq_true_eq, decide_eq_false_iff_not, Bool.not_eq_true', Bool.not_eq_false', List.length_map, ne_eq, Decidable.not_not, Int.not_lt, Int.not_le] at h49)
                omega
            · refine tr_seq ?_
              refine tr_region (fun N13 hN => ?_)
              refine lx (op_lss rfl rfl) rfl ?_
              refine lx_end ⟨by kernel_rfl, ?_⟩
              refine pe_then_normal ?_
              refine tr_sub hC (.cons (t := 5) rfl (.cons (t := 6) rfl (.cons (t := 46) rfl (.cons (t := 47) rfl (.cons (t := 48) rfl (.cons (t := 49) rfl .nil)))))) (.cons (t := 800) rfl (.cons (t := 801) rfl (.cons (t := 802) rfl (.cons (t := 803) rfl (.cons (t := 804) rfl (.cons (t := 805) rfl (.cons (t := 806) rfl .nil))))))) rfl ?_
              refine tr_seq ?_
              refine tr_cond rfl (fun h49 => ?_) (fun h49 => ?_)
              · (try simp only [Bool.and_eq_true, Bool.or_eq_true, Bool.and_eq_false_iff, Bool.or_eq_false_iff, decide_eq_true_eq, decide_eq_false_iff_not, Bool.not_eq_true', Bool.not_eq_false', List.length_map, ne_eq, Decidable.not_not, Int.not_lt, Int.not_le] at h49)
                refine tr_skip ?_
                refine pe_then_normal ?_
                refine tr_sub hC (.cons (t := 5) rfl (.cons (t := 6) rfl (.cons (t := 46) rfl (.cons (t := 47) rfl (.cons (t := 48) rfl .nil))))) (.cons (t := 800) rfl (.cons (t := 801) rfl (.cons (t := 802) rfl (.cons (t := 803) rfl (.cons (t := 804) rfl (.cons (t := 805) rfl (.cons (t := 806) rfl .nil))))))) rfl ?_
                refine tr_seq ?_
                refine tr_block ?_
                refine tr_seq ?_
                refine tr_region (fun N14 hN => ?_)
                refine lx (op_index rfl rfl el68 sz3 (show ((1 : Nat) : Int) = ((1 : Nat) : Int) from rfl) rfl) rfl ?_
                first | refine lx (OpJ.ent (op_load_one rfl ag3 rfl) (show Ent _ (eqP (.int .i64 1)) from (by exact Ent.refl _))) rfl ?_ | refine lx (OpJ.ent (op_bload_one (m := 800) rfl rfl ag3 rfl) (show Ent _ (eqP (.int .i64 1)) from (by exact Ent.refl _))) rfl ?_ | refine lx (OpJ.ent (op_bload_one (m := 801) rfl rfl ag3 rfl) (show Ent _ (eqP (.int .i64 1)) from (by exact Ent.refl _))) rfl ?_ | refine lx (OpJ.ent (op_bload_one (m := 802) rfl rfl ag3 rfl) (show Ent _ (eqP (.int .i64 1)) from (by exact Ent.refl _))) rfl ?_ | refine lx (OpJ.ent (op_bload_one (m := 803) rfl rfl ag3 rfl) (show Ent _ (eqP (.int .i64 1)) from (by exact Ent.refl _))) rfl ?_ | refine lx (OpJ.ent (op_bload_one (m := 804) rfl rfl ag3 rfl) (show Ent _ (eqP (.int .i64 1)) from (by exact Ent.refl _))) rfl ?_ | refine lx (OpJ.ent (op_bload_one (m := 805) rfl rfl ag3 rfl) (show Ent _ (eqP (.int .i64 1)) from (by exact Ent.refl _))) rfl ?_ | refine lx (OpJ.ent (op_bload_one (m := 806) rfl rfl ag3 rfl) (show Ent _ (eqP (.int .i64 1)) from (by exact Ent.refl _))) rfl ?_
                refine lx (op_assign rfl) rfl ?_
                refine lx_end ⟨by kernel_rfl, ?_⟩
                refine pe_then_normal ?_
                refine tr_sub hC (.cons (t := 5) rfl (.cons (t := 6) rfl (.cons (t := 10) rfl (.cons (t := 46) rfl (.cons (t := 47) rfl (.cons (t := 48) rfl .nil)))))) (.cons (t := 800) rfl (.cons (t := 801) rfl (.cons (t := 802) rfl (.cons (t := 803) rfl (.cons (t := 804) rfl (.cons (t := 805) rfl (.cons (t := 806) rfl .nil))))))) rfl ?_
                refine tr_seq ?_
                refine tr_region (fun N15 hN => ?_)
                refine lx (op_move rfl) rfl ?_
                refine lx (op_move rfl) rfl ?_
                first | refine lx (op_nilCheck rfl) rfl ?_ | refine lx (op_nilCheckC rfl) rfl ?_
                refine lx (op_fieldAddr rfl fl73_0 sz69) rfl ?_
                refine lx (op_aindex rfl rfl ar69 sz46 (show (1 : Int) = ((1 : Nat) : Int) from rfl) (by decide)) rfl ?_
                first | refine lx (op_bload (m := 800) rfl rfl ag46 sz46) rfl ?_ | refine lx (op_bload_part (m := 800) (qs := [_, _, _, _, _]) rfl rfl ag46 sz46 rfl rfl) rfl ?_
                first | refine lx (op_call (l := [(Go.Operand.tmp 57)]) (Frames_ok b1.e) (.cons rfl .nil) fn24) rfl ?_ | refine lx (op_call (l := [(Go.Operand.tmp 57)]) (Frames_ok b1.e) (.ent rfl (by repeat (first | exact Ents.nil | refine Ents.cons ?_ ?_ | refine Ent.tup ?_ | refine Ent.agg ?_ | exact Ent.row _ _ _ _ | exact Ent.nil _ _ | exact Ent.func _ | exact Ent.refl _ | exact Ent.of_eq rfl | refine Ent.cells ?_)) .nil) fn24) rfl ?_
                first | refine lx (op_len rfl el43) rfl ?_ | refine lx (op_len_row rfl el43) rfl ?_ | refine lx (op_len_mv rfl el43) rfl ?_ | refine lx (op_len_nil rfl el43) rfl ?_
                refine lx (op_move rfl) rfl ?_
                refine lx_end ⟨by kernel_rfl, ?_⟩
                refine pe_then_normal ?_
                refine tr_sub hC (.cons (t := 5) rfl (.cons (t := 6) rfl (.cons (t := 10) rfl (.cons (t := 46) rfl (.cons (t := 47) rfl (.cons (t := 48) rfl (.cons (t := 58) rfl (.cons (t := 59) rfl (.cons (t := 60) rfl .nil))))))))) (.cons (t := 800) rfl (.cons (t := 801) rfl (.cons (t := 802) rfl (.cons (t := 803) rfl (.cons (t := 804) rfl (.cons (t := 805) rfl (.cons (t := 806) rfl .nil))))))) rfl ?_
                refine tr_block ?_
                refine tr_loopK (α := {zz : Nat × Side × AL.Id // zz.1 ≤ (framesF b1.e).length ∧ zz.2.1 = feed a ((framesF b1.e).take zz.1)}) (⟨(0, a, q3), Nat.zero_le _, rfl⟩) (fun zz => [(60, eqP (.int .i64 (zz.1.1 : Int)))]) (fun zz => [(800, some ((N5, 100280), blk 73 (prP zz.1.2.1 b1 q1 q2 zz.1.2.2 q4 q5 q6))), (801, some (q1, tail 9 1 (zz.1.2.1.s.length * 1))), (802, some (q2, tail 9 1 (b1.s.length * 1))), (803, some (zz.1.2.2, tail 9 1 (zz.1.2.1.g.length * 1))), (804, some (q4, tail 9 1 (b1.g.length * 1))), (805, some (q5, tail 25 1 (zz.1.2.1.n.length * 1))), (806, some (q6, tail 25 1 (b1.n.length * 1)))]) (fun zz => (framesF b1.e).length - zz.1.1) hC (.cons (t := 5) rfl (.cons (t := 6) rfl (.cons (t := 10) rfl (.cons (t := 46) rfl (.cons (t := 47) rfl (.cons (t := 48) rfl (.cons (t := 58) rfl (.cons (t := 59) rfl .nil)))))))) .nil rfl ?_ ?_ (fun zz => ?_)
                · try dsimp only [List.cons_append, List.nil_append]
                  first | refine SubF.cons rfl ?_ | (refine SubF.ent rfl ?_ ?_; · repeat (first | exact Ents.nil | refine Ents.cons ?_ ?_ | refine Ent.tup ?_ | refine Ent.agg ?_ | exact Ent.row _ _ _ _ | exact Ent.nil _ _ | exact Ent.func _ | exact Ent.refl _ | exact Ent.of_eq rfl | refine Ent.cells ?_))
                  exact SubF.nil
                · try dsimp only [List.cons_append, List.nil_append]
                  repeat (first | exact SubL.nil | refine SubL.cons rfl ?_)
                · obtain ⟨⟨j, z, i⟩, hj, hz⟩ := zz
                  try dsimp only at hj
                  try dsimp only at hz
                  dsimp only [List.cons_append, List.nil_append]
                  refine tr_seq ?_
                  refine tr_region (fun N16 hN => ?_)
                  refine lx (op_lss rfl rfl) rfl ?_
                  refine lx_end ⟨by kernel_rfl, ?_⟩
                  refine pe_then_normal ?_
                  refine tr_sub hC (.cons (t := 5) rfl (.cons (t := 6) rfl (.cons (t := 10) rfl (.cons (t := 46) rfl (.cons (t := 47) rfl (.cons (t := 48) rfl (.cons (t := 58) rfl (.cons (t := 59) rfl (.cons (t := 60) rfl (.cons (t := 61) rfl .nil)))))))))) (.cons (t := 800) rfl (.cons (t := 801) rfl (.cons (t := 802) rfl (.cons (t := 803) rfl (.cons (t := 804) rfl (.cons (t := 805) rfl (.cons (t := 806) rfl .nil))))))) rfl ?_
                  refine tr_seq ?_
                  refine tr_cond rfl (fun h61 => ?_) (fun h61 => ?_)
                  · (try simp only [Bool.and_eq_true, Bool.or_eq_true, Bool.and_eq_false_iff, Bool.or_eq_false_iff, decide_eq_true_eq, decide_eq_false_iff_not, Bool.not_eq_true', Bool.not_eq_false', List.length_map, ne_eq, Decidable.not_not, Int.not_lt, Int.not_le] at h61)
                    refine tr_skip ?_
                    refine pe_then_normal ?_
                    refine tr_sub hC (.cons (t := 5) rfl (.cons (t := 6) rfl (.cons (t := 10) rfl (.cons (t := 46) rfl (.cons (t := 47) rfl (.cons (t := 48) rfl (.cons (t := 58) rfl (.cons (t := 59) rfl (.cons (t := 60) rfl .nil))))))))) (.cons (t := 800) rfl (.cons (t := 801) rfl (.cons (t := 802) rfl (.cons (t := 803) rfl (.cons (t := 804) rfl (.cons (t := 805) rfl (.cons (t := 806) rfl .nil))))))) rfl ?_
                    refine tr_seq ?_
                    refine tr_block ?_
                    refine tr_seq ?_
                    refine tr_region (fun N17 hN => ?_)
                    refine lx (op_index rfl rfl el43 sz25 rfl (List.getElem?_eq_getElem (by omega : j < (framesF b1.e).length))) rfl ?_
                    first | refine lx (op_load_one rfl ag25 rfl) rfl ?_ | refine lx (op_bload_one (m := 800) rfl rfl ag25 rfl) rfl ?_ | refine lx (op_bload_one (m := 801) rfl rfl ag25 rfl) rfl ?_ | refine lx (op_bload_one (m := 802) rfl rfl ag25 rfl) rfl ?_ | refine lx (op_bload_one (m := 803) rfl rfl ag25 rfl) rfl ?_ | refine lx (op_bload_one (m := 804) rfl rfl ag25 rfl) rfl ?_ | refine lx (op_bload_one (m := 805) rfl rfl ag25 rfl) rfl ?_ | refine lx (op_bload_one (m := 806) rfl rfl ag25 rfl) rfl ?_
                    refine lx (op_assign rfl) rfl ?_
                    refine lx_end ⟨by kernel_rfl, ?_⟩
                    refine pe_then_normal ?_
                    refine tr_sub hC (.cons (t := 5) rfl (.cons (t := 6) rfl (.cons (t := 10) rfl (.cons (t := 12) rfl (.cons (t := 46) rfl (.cons (t := 47) rfl (.cons (t := 48) rfl (.cons (t := 58) rfl (.cons (t := 59) rfl (.cons (t := 60) rfl .nil)))))))))) (.cons (t := 800) rfl (.cons (t := 801) rfl (.cons (t := 802) rfl (.cons (t := 803) rfl (.cons (t := 804) rfl (.cons (t := 805) rfl (.cons (t := 806) rfl .nil))))))) rfl ?_
                    refine tr_seq ?_
                    refine tr_region (fun N18 hN => ?_)
                    refine lx (op_move rfl) rfl ?_
                    refine lx (op_move rfl) rfl ?_
                    refine lx (OpJ.ent (op_sub rfl rfl (by omega)) (show Ent _ (eqP (.int .i64 0)) from (by exact Ent.of_eq rfl))) rfl ?_
                    refine lx (op_move rfl) rfl ?_
                    first | refine lx_any rfl (op_callG2 (l := [(Go.Operand.tmp 64), (Go.Operand.tmp 66), (Go.Operand.tmp 67)]) (add := [(800, ((N5, 100280), blk 73 (prP (rstep z ((framesF b1.e)[j]'(by omega))) b1 q1 q2 (N18, 100680) q4 q5 q6))), (801, (q1, tail 9 1 ((rstep z ((framesF b1.e)[j]'(by omega))).s.length * 1))), (802, (q2, tail 9 1 (b1.s.length * 1))), (803, ((N18, 100680), tail 9 1 ((rstep z ((framesF b1.e)[j]'(by omega))).g.length * 1))), (804, (q4, tail 9 1 (b1.g.length * 1))), (805, (q5, tail 25 1 ((rstep z ((framesF b1.e)[j]'(by omega))).n.length * 1))), (806, (q6, tail 25 1 (b1.n.length * 1)))]) (ks := [100680]) (φ := eqP (.bool true)) (.cons (m := 800) rfl (.cons (m := 801) rfl (.cons (m := 802) rfl (.cons (m := 803) rfl (.cons (m := 804) rfl (.cons (m := 805) rfl (.cons (m := 806) rfl .nil))))))) (receive_0 (N5, 100280) q1 q2 i q4 q5 q6 z b1 ((framesF b1.e)[j]'(by omega)) (by rw [hz]; exact feed_recv hc1.swap (by omega) (by omega)) (by rw [hz]; exact feed_g hc1.swap (by omega) (by omega))) (.cons rfl (.cons rfl (.cons rfl .nil))) fn29 rfl rfl rfl (.old rfl (.old rfl (.old rfl (.old rfl (.old rfl (.old rfl (.old rfl .nil))))))) rfl) (dOK_spec rfl) ?_ | refine lx_any rfl (op_callG2 (l := [(Go.Operand.tmp 64), (Go.Operand.tmp 66), (Go.Operand.tmp 67)]) (add := [(800, ((N5, 100280), blk 73 (prP (rstep z ((framesF b1.e)[j]'(by omega))) b1 q1 q2 (N18, 100680) q4 q5 q6))), (801, (q1, tail 9 1 ((rstep z ((framesF b1.e)[j]'(by omega))).s.length * 1))), (802, (q2, tail 9 1 (b1.s.length * 1))), (803, ((N18, 100680), tail 9 1 ((rstep z ((framesF b1.e)[j]'(by omega))).g.length * 1))), (804, (q4, tail 9 1 (b1.g.length * 1))), (805, (q5, tail 25 1 ((rstep z ((framesF b1.e)[j]'(by omega))).n.length * 1))), (806, (q6, tail 25 1 (b1.n.length * 1)))]) (ks := [100680]) (φ := eqP (.bool true)) (.cons (m := 800) rfl (.cons (m := 801) rfl (.cons (m := 802) rfl (.cons (m := 803) rfl (.cons (m := 804) rfl (.cons (m := 805) rfl (.cons (m := 806) rfl .nil))))))) (receive_0 (N5, 100280) q1 q2 i q4 q5 q6 z b1 ((framesF b1.e)[j]'(by omega)) (by rw [hz]; exact feed_recv hc1.swap (by omega) (by omega)) (by rw [hz]; exact feed_g hc1.swap (by omega) (by omega))) (.ent rfl (by repeat (first | exact Ents.nil | refine Ents.cons ?_ ?_ | refine Ent.tup ?_ | refine Ent.agg ?_ | exact Ent.row _ _ _ _ | exact Ent.nil _ _ | exact Ent.func _ | exact Ent.refl _ | exact Ent.of_eq rfl | refine Ent.cells ?_)) (.ent rfl (by repeat (first | exact Ents.nil | refine Ents.cons ?_ ?_ | refine Ent.tup ?_ | refine Ent.agg ?_ | exact Ent.row _ _ _ _ | exact Ent.nil _ _ | exact Ent.func _ | exact Ent.refl _ | exact Ent.of_eq rfl | refine Ent.cells ?_)) (.ent rfl (by repeat (first | exact Ents.nil | refine Ents.cons ?_ ?_ | refine Ent.tup ?_ | refine Ent.agg ?_ | exact Ent.row _ _ _ _ | exact Ent.nil _ _ | exact Ent.func _ | exact Ent.refl _ | exact Ent.of_eq rfl | refine Ent.cells ?_)) .nil))) fn29 rfl rfl rfl (.old rfl (.old rfl (.old rfl (.old rfl (.old rfl (.old rfl (.old rfl .nil))))))) rfl) (dOK_spec rfl) ?_
                    first | refine lx (op_not rfl) rfl ?_ | refine lx (op_not_b rfl) rfl ?_
                    refine lx_end ⟨by kernel_rfl, ?_⟩
                    refine pe_then_normal ?_
                    refine tr_sub hC (.cons (t := 5) rfl (.cons (t := 6) rfl (.cons (t := 10) rfl (.cons (t := 46) rfl (.cons (t := 47) rfl (.cons (t := 48) rfl (.cons (t := 58) rfl (.cons (t := 59) rfl (.cons (t := 60) rfl (.cons (t := 69) rfl .nil)))))))))) (.cons (t := 800) rfl (.cons (t := 801) rfl (.cons (t := 802) rfl (.cons (t := 803) rfl (.cons (t := 804) rfl (.cons (t := 805) rfl (.cons (t := 806) rfl .nil))))))) rfl ?_
                    refine tr_cond_f rfl ?_
                    refine tr_skip ?_
                    refine pe_block_normal ?_
                    refine pe_then_normal ?_
                    refine tr_sub hC (.cons (t := 5) rfl (.cons (t := 6) rfl (.cons (t := 10) rfl (.cons (t := 46) rfl (.cons (t := 47) rfl (.cons (t := 48) rfl (.cons (t := 58) rfl (.cons (t := 59) rfl (.cons (t := 60) rfl .nil))))))))) (.cons (t := 800) rfl (.cons (t := 801) rfl (.cons (t := 802) rfl (.cons (t := 803) rfl (.cons (t := 804) rfl (.cons (t := 805) rfl (.cons (t := 806) rfl .nil))))))) rfl ?_
                    refine tr_region (fun N20 hN => ?_)
                    refine lx (op_add rfl rfl (by omega)) rfl ?_
                    refine lx (op_move rfl) rfl ?_
                    refine lx_end ⟨by kernel_rfl, ?_⟩
                    refine pe_round (⟨(j + 1, rstep z (framesF b1.e)[j], (N18, 100680)), by dsimp only; omega, by dsimp only; rw [hz, feed_at (by omega)]⟩) (by dsimp only; omega) (pe_st hC ?_ ?_ rfl)
                    · try dsimp only [List.cons_append, List.nil_append]
                      first | refine SubF.cons rfl ?_ | (refine SubF.ent rfl ?_ ?_; · repeat (first | exact Ents.nil | refine Ents.cons ?_ ?_ | refine Ent.tup ?_ | refine Ent.agg ?_ | exact Ent.row _ _ _ _ | exact Ent.nil _ _ | exact Ent.func _ | exact Ent.refl _ | exact Ent.of_eq rfl | refine Ent.cells ?_))
                      first | refine SubF.cons rfl ?_ | (refine SubF.ent rfl ?_ ?_; · repeat (first | exact Ents.nil | refine Ents.cons ?_ ?_ | refine Ent.tup ?_ | refine Ent.agg ?_ | exact Ent.row _ _ _ _ | exact Ent.nil _ _ | exact Ent.func _ | exact Ent.refl _ | exact Ent.of_eq rfl | refine Ent.cells ?_))
                      first | refine SubF.cons rfl ?_ | (refine SubF.ent rfl ?_ ?_; · repeat (first | exact Ents.nil | refine Ents.cons ?_ ?_ | refine Ent.tup ?_ | refine Ent.agg ?_ | exact Ent.row _ _ _ _ | exact Ent.nil _ _ | exact Ent.func _ | exact Ent.refl _ | exact Ent.of_eq rfl | refine Ent.cells ?_))
                      first | refine SubF.cons rfl ?_ | (refine SubF.ent rfl ?_ ?_; · repeat (first | exact Ents.nil | refine Ents.cons ?_ ?_ | refine Ent.tup ?_ | refine Ent.agg ?_ | exact Ent.row _ _ _ _ | exact Ent.nil _ _ | exact Ent.func _ | exact Ent.refl _ | exact Ent.of_eq rfl | refine Ent.cells ?_))
                      first | refine SubF.cons rfl ?_ | (refine SubF.ent rfl ?_ ?_; · repeat (first | exact Ents.nil | refine Ents.cons ?_ ?_ | refine Ent.tup ?_ | refine Ent.agg ?_ | exact Ent.row _ _ _ _ | exact Ent.nil _ _ | exact Ent.func _ | exact Ent.refl _ | exact Ent.of_eq rfl | refine Ent.cells ?_))
                      first | refine SubF.cons rfl ?_ | (refine SubF.ent rfl ?_ ?_; · repeat (first | exact Ents.nil | refine Ents.cons ?_ ?_ | refine Ent.tup ?_ | refine Ent.agg ?_ | exact Ent.row _ _ _ _ | exact Ent.nil _ _ | exact Ent.func _ | exact Ent.refl _ | exact Ent.of_eq rfl | refine Ent.cells ?_))
                      first | refine SubF.cons rfl ?_ | (refine SubF.ent rfl ?_ ?_; · repeat (first | exact Ents.nil | refine Ents.cons ?_ ?_ | refine Ent.tup ?_ | refine Ent.agg ?_ | exact Ent.row _ _ _ _ | exact Ent.nil _ _ | exact Ent.func _ | exact Ent.refl _ | exact Ent.of_eq rfl | refine Ent.cells ?_))
                      first | refine SubF.cons rfl ?_ | (refine SubF.ent rfl ?_ ?_; · repeat (first | exact Ents.nil | refine Ents.cons ?_ ?_ | refine Ent.tup ?_ | refine Ent.agg ?_ | exact Ent.row _ _ _ _ | exact Ent.nil _ _ | exact Ent.func _ | exact Ent.refl _ | exact Ent.of_eq rfl | refine Ent.cells ?_))
                      first | refine SubF.cons rfl ?_ | (refine SubF.ent rfl ?_ ?_; · repeat (first | exact Ents.nil | refine Ents.cons ?_ ?_ | refine Ent.tup ?_ | refine Ent.agg ?_ | exact Ent.row _ _ _ _ | exact Ent.nil _ _ | exact Ent.func _ | exact Ent.refl _ | exact Ent.of_eq rfl | refine Ent.cells ?_))
                      exact SubF.nil
                    · try dsimp only [List.cons_append, List.nil_append]
                      repeat (first | exact SubL.nil | refine SubL.cons rfl ?_)
                  · (try simp only [Bool.and_eq_true, Bool.or_eq_true, Bool.and_eq_false_iff, Bool.or_eq_false_iff, decide_eq_true_eq, decide_eq_false_iff_not, Bool.not_eq_true', Bool.not_eq_false', List.length_map, ne_eq, Decidable.not_not, Int.not_lt, Int.not_le] at h61)
                    have hz2 : a2 = z := by rw [hA2]; exact (feed_full hz (by omega)).symm
                    refine tr_exit ?_
                    refine pe_then_exit ?_
                    refine pe_then_exit ?_
                    refine pe_block_eq ?_
                    refine pe_block_normal ?_
                    refine pe_then_normal ?_
                    refine tr_sub hC (.cons (t := 5) rfl (.cons (t := 6) rfl (.cons (t := 46) rfl (.cons (t := 47) rfl (.cons (t := 48) rfl .nil))))) (.cons (t := 800) rfl (.cons (t := 801) rfl (.cons (t := 802) rfl (.cons (t := 803) rfl (.cons (t := 804) rfl (.cons (t := 805) rfl (.cons (t := 806) rfl .nil))))))) rfl ?_
                    refine tr_region (fun N21 hN => ?_)
                    refine lx (op_add rfl rfl (by omega)) rfl ?_
                    refine lx (op_move rfl) rfl ?_
                    refine lx_end ⟨by kernel_rfl, ?_⟩
                    refine pe_round (⟨(2, z, b1, q1, q2, i, q4, q5, q6), (by dsimp only; exact .inr (.inr (.inl ⟨rfl, hz2, rfl⟩)))⟩) (by dsimp only; omega) (pe_st hC ?_ ?_ rfl)
                    · try dsimp only [List.cons_append, List.nil_append]
                      first | refine SubF.cons rfl ?_ | (refine SubF.ent rfl ?_ ?_; · repeat (first | exact Ents.nil | refine Ents.cons ?_ ?_ | refine Ent.tup ?_ | refine Ent.agg ?_ | exact Ent.row _ _ _ _ | exact Ent.nil _ _ | exact Ent.func _ | exact Ent.refl _ | exact Ent.of_eq rfl | refine Ent.cells ?_))
                      first | refine SubF.cons rfl ?_ | (refine SubF.ent rfl ?_ ?_; · repeat (first | exact Ents.nil | refine Ents.cons ?_ ?_ | refine Ent.tup ?_ | refine Ent.agg ?_ | exact Ent.row _ _ _ _ | exact Ent.nil _ _ | exact Ent.func _ | exact Ent.refl _ | exact Ent.of_eq rfl | refine Ent.cells ?_))
                      first | refine SubF.cons rfl ?_ | (refine SubF.ent rfl ?_ ?_; · repeat (first | exact Ents.nil | refine Ents.cons ?_ ?_ | refine Ent.tup ?_ | refine Ent.agg ?_ | exact Ent.row _ _ _ _ | exact Ent.nil _ _ | exact Ent.func _ | exact Ent.refl _ | exact Ent.of_eq rfl | refine Ent.cells ?_))
                      first | refine SubF.cons rfl ?_ | (refine SubF.ent rfl ?_ ?_; · repeat (first | exact Ents.nil | refine Ents.cons ?_ ?_ | refine Ent.tup ?_ | refine Ent.agg ?_ | exact Ent.row _ _ _ _ | exact Ent.nil _ _ | exact Ent.func _ | exact Ent.refl _ | exact Ent.of_eq rfl | refine Ent.cells ?_))
                      first | refine SubF.cons rfl ?_ | (refine SubF.ent rfl ?_ ?_; · repeat (first | exact Ents.nil | refine Ents.cons ?_ ?_ | refine Ent.tup ?_ | refine Ent.agg ?_ | exact Ent.row _ _ _ _ | exact Ent.nil _ _ | exact Ent.func _ | exact Ent.refl _ | exact Ent.of_eq rfl | refine Ent.cells ?_))
                      exact SubF.nil
                    · try dsimp only [List.cons_append, List.nil_append]
                      repeat (first | exact SubL.nil | refine SubL.cons rfl ?_)
              · (try simp only [Bool.and_eq_true, Bool.or_eq_true, Bool.and_eq_false_iff, Bool.or_eq_false_iff, decide_eq_true_eq, decide_eq_false_iff_not, Bool.not_eq_true', Bool.not_eq_false', List.length_map, ne_eq, Decidable.not_not, Int.not_lt, Int.not_le] at h49)
                omega
            · refine tr_seq ?_
              refine tr_region (fun N13 hN => ?_)
              refine lx (op_lss rfl rfl) rfl ?_
              refine lx_end ⟨by kernel_rfl, ?_⟩
              refine pe_then_normal ?_
              refine tr_sub hC (.cons (t := 5) rfl (.cons (t := 6) rfl (.cons (t := 46) rfl (.cons (t := 47) rfl (.cons (t := 48) rfl (.cons (t := 49) rfl .nil)))))) (.cons (t := 800) rfl (.cons (t := 801) rfl (.cons (t := 802) rfl (.cons (t := 803) rfl (.cons (t := 804) rfl (.cons (t := 805) rfl (.cons (t := 806) rfl .nil))))))) rfl ?_
              refine tr_seq ?_
              refine tr_cond rfl (fun h49 => ?_) (fun h49 => ?_)
              · (try simp only [Bool.and_eq_true, Bool.or_eq_true, Bool.and_eq_false_iff, Bool.or_eq_false_iff, decide_eq_true_eq, decide_eq_false_iff_not, Bool.not_eq_true', Bool.not_eq_false', List.length_map, ne_eq, Decidable.not_not, Int.not_lt, Int.not_le] at h49)
                refine tr_skip ?_
                refine pe_then_normal ?_
                refine tr_sub hC (.cons (t := 5) rfl (.cons (t := 6) rfl (.cons (t := 46) rfl (.cons (t := 47) rfl (.cons (t := 48) rfl .nil))))) (.cons (t := 800) rfl (.cons (t := 801) rfl (.cons (t := 802) rfl (.cons (t := 803) rfl (.cons (t := 804) rfl (.cons (t := 805) rfl (.cons (t := 806) rfl .nil))))))) rfl ?_
                refine tr_seq ?_
                refine tr_block ?_
                refine tr_seq ?_
                refine tr_region (fun N14 hN => ?_)
                refine lx (op_index rfl rfl el68 sz3 (show ((2 : Nat) : Int) = ((2 : Nat) : Int) from rfl) rfl) rfl ?_
                first | refine lx (OpJ.ent (op_load_one rfl ag3 rfl) (show Ent _ (eqP (.int .i64 0)) from (by exact Ent.refl _))) rfl ?_ | refine lx (OpJ.ent (op_bload_one (m := 800) rfl rfl ag3 rfl) (show Ent _ (eqP (.int .i64 0)) from (by exact Ent.refl _))) rfl ?_ | refine lx (OpJ.ent (op_bload_one (m := 801) rfl rfl ag3 rfl) (show Ent _ (eqP (.int .i64 0)) from (by exact Ent.refl _))) rfl ?_ | refine lx (OpJ.ent (op_bload_one (m := 802) rfl rfl ag3 rfl) (show Ent _ (eqP (.int .i64 0)) from (by exact Ent.refl _))) rfl ?_ | refine lx (OpJ.ent (op_bload_one (m := 803) rfl rfl ag3 rfl) (show Ent _ (eqP (.int .i64 0)) from (by exact Ent.refl _))) rfl ?_ | refine lx (OpJ.ent (op_bload_one (m := 804) rfl rfl ag3 rfl) (show Ent _ (eqP (.int .i64 0)) from (by exact Ent.refl _))) rfl ?_ | refine lx (OpJ.ent (op_bload_one (m := 805) rfl rfl ag3 rfl) (show Ent _ (eqP (.int .i64 0)) from (by exact Ent.refl _))) rfl ?_ | refine lx (OpJ.ent (op_bload_one (m := 806) rfl rfl ag3 rfl) (show Ent _ (eqP (.int .i64 0)) from (by exact Ent.refl _))) rfl ?_
                refine lx (op_assign rfl) rfl ?_
                refine lx_end ⟨by kernel_rfl, ?_⟩
                refine pe_then_normal ?_
                refine tr_sub hC (.cons (t := 5) rfl (.cons (t := 6) rfl (.cons (t := 10) rfl (.cons (t := 46) rfl (.cons (t := 47) rfl (.cons (t := 48) rfl .nil)))))) (.cons (t := 800) rfl (.cons (t := 801) rfl (.cons (t := 802) rfl (.cons (t := 803) rfl (.cons (t := 804) rfl (.cons (t := 805) rfl (.cons (t := 806) rfl .nil))))))) rfl ?_
                refine tr_seq ?_
                refine tr_region (fun N15 hN => ?_)
                refine lx (op_move rfl) rfl ?_
                refine lx (op_move rfl) rfl ?_
                first | refine lx (op_nilCheck rfl) rfl ?_ | refine lx (op_nilCheckC rfl) rfl ?_
                refine lx (op_fieldAddr rfl fl73_0 sz69) rfl ?_
                refine lx (op_aindex rfl rfl ar69 sz46 (show (0 : Int) = ((0 : Nat) : Int) from rfl) (by decide)) rfl ?_
                first | refine lx (op_bload (m := 800) rfl rfl ag46 sz46) rfl ?_ | refine lx (op_bload_part (m := 800) (qs := [_, _, _, _, _]) rfl rfl ag46 sz46 rfl rfl) rfl ?_
                first | refine lx (op_call (l := [(Go.Operand.tmp 57)]) (Frames_ok a2.e) (.cons rfl .nil) fn24) rfl ?_ | refine lx (op_call (l := [(Go.Operand.tmp 57)]) (Frames_ok a2.e) (.ent rfl (by repeat (first | exact Ents.nil | refine Ents.cons ?_ ?_ | refine Ent.tup ?_ | refine Ent.agg ?_ | exact Ent.row _ _ _ _ | exact Ent.nil _ _ | exact Ent.func _ | exact Ent.refl _ | exact Ent.of_eq rfl | refine Ent.cells ?_)) .nil) fn24) rfl ?_
                first | refine lx (op_len rfl el43) rfl ?_ | refine lx (op_len_row rfl el43) rfl ?_ | refine lx (op_len_mv rfl el43) rfl ?_ | refine lx (op_len_nil rfl el43) rfl ?_
                refine lx (op_move rfl) rfl ?_
                refine lx_end ⟨by kernel_rfl, ?_⟩
                refine pe_then_normal ?_
                refine tr_sub hC (.cons (t := 5) rfl (.cons (t := 6) rfl (.cons (t := 10) rfl (.cons (t := 46) rfl (.cons (t := 47) rfl (.cons (t := 48) rfl (.cons (t := 58) rfl (.cons (t := 59) rfl (.cons (t := 60) rfl .nil))))))))) (.cons (t := 800) rfl (.cons (t := 801) rfl (.cons (t := 802) rfl (.cons (t := 803) rfl (.cons (t := 804) rfl (.cons (t := 805) rfl (.cons (t := 806) rfl .nil))))))) rfl ?_
                refine tr_block ?_
                refine tr_loopK (α := {zz : Nat × Side × AL.Id // zz.1 ≤ (framesF a2.e).length ∧ zz.2.1 = feed b1 ((framesF a2.e).take zz.1)}) (⟨(0, b1, q4), Nat.zero_le _, rfl⟩) (fun zz => [(60, eqP (.int .i64 (zz.1.1 : Int)))]) (fun zz => [(800, some ((N5, 100280), blk 73 (prP a2 zz.1.2.1 q1 q2 q3 zz.1.2.2 q5 q6))), (801, some (q1, tail 9 1 (a2.s.length * 1))), (802, some (q2, tail 9 1 (zz.1.2.1.s.length * 1))), (803, some (q3, tail 9 1 (a2.g.length * 1))), (804, some (zz.1.2.2, tail 9 1 (zz.1.2.1.g.length * 1))), (805, some (q5, tail 25 1 (a2.n.length * 1))), (806, some (q6, tail 25 1 (zz.1.2.1.n.length * 1)))]) (fun zz => (framesF a2.e).length - zz.1.1) hC (.cons (t := 5) rfl (.cons (t := 6) rfl (.cons (t := 10) rfl (.cons (t := 46) rfl (.cons (t := 47) rfl (.cons (t := 48) rfl (.cons (t := 58) rfl (.cons (t := 59) rfl .nil)))))))) .nil rfl ?_ ?_ (fun zz => ?_)
                · try dsimp only [List.cons_append, List.nil_append]
                  first | refine SubF.cons rfl ?_ | (refine SubF.ent rfl ?_ ?_; · repeat (first | exact Ents.nil | refine Ents.cons ?_ ?_ | refine Ent.tup ?_ | refine Ent.agg ?_ | exact Ent.row _ _ _ _ | exact Ent.nil _ _ | exact Ent.func _ | exact Ent.refl _ | exact Ent.of_eq rfl | refine Ent.cells ?_))
                  exact SubF.nil
                · try dsimp only [List.cons_append, List.nil_append]
                  repeat (first | exact SubL.nil | refine SubL.cons rfl ?_)
                · obtain ⟨⟨j, z, i⟩, hj, hz⟩ := zz
                  try dsimp only at hj
                  try dsimp only at hz
                  dsimp only [List.cons_append, List.nil_append]
                  refine tr_seq ?_
                  refine tr_region (fun N16 hN => ?_)
                  refine lx (op_lss rfl rfl) rfl ?_
                  refine lx_end ⟨by kernel_rfl, ?_⟩
                  refine pe_then_normal ?_
                  refine tr_sub hC (.cons (t := 5) rfl (.cons (t := 6) rfl (.cons (t := 10) rfl (.cons (t := 46) rfl (.cons (t := 47) rfl (.cons (t := 48) rfl (.cons (t := 58) rfl (.cons (t := 59) rfl (.cons (t := 60) rfl (.cons (t := 61) rfl .nil)))))))))) (.cons (t := 800) rfl (.cons (t := 801) rfl (.cons (t := 802) rfl (.cons (t := 803) rfl (.cons (t := 804) rfl (.cons (t := 805) rfl (.cons (t := 806) rfl .nil))))))) rfl ?_
                  refine tr_seq ?_
                  refine tr_cond rfl (fun h61 => ?_) (fun h61 => ?_)
                  · (try simp only [Bool.and_eq_true, Bool.or_eq_true, Bool.and_eq_false_iff, Bool.or_eq_false_iff, decide_eq_true_eq, decide_eq_false_iff_not, Bool.not_eq_true', Bool.not_eq_false', List.length_map, ne_eq, Decidable.not_not, Int.not_lt, Int.not_le] at h61)
                    refine tr_skip ?_
                    refine pe_then_normal ?_
                    refine tr_sub hC (.cons (t := 5) rfl (.cons (t := 6) rfl (.cons (t := 10) rfl (.cons (t := 46) rfl (.cons (t := 47) rfl (.cons (t := 48) rfl (.cons (t := 58) rfl (.cons (t := 59) rfl (.cons (t := 60) rfl .nil))))))))) (.cons (t := 800) rfl (.cons (t := 801) rfl (.cons (t := 802) rfl (.cons (t := 803) rfl (.cons (t := 804) rfl (.cons (t := 805) rfl (.cons (t := 806) rfl .nil))))))) rfl ?_
                    refine tr_seq ?_
                    refine tr_block ?_
                    refine tr_seq ?_
                    refine tr_region (fun N17 hN => ?_)
                    refine lx (op_index rfl rfl el43 sz25 rfl (List.getElem?_eq_getElem (by omega : j < (framesF a2.e).length))) rfl ?_
                    first | refine lx (op_load_one rfl ag25 rfl) rfl ?_ | refine lx (op_bload_one (m := 800) rfl rfl ag25 rfl) rfl ?_ | refine lx (op_bload_one (m := 801) rfl rfl ag25 rfl) rfl ?_ | refine lx (op_bload_one (m := 802) rfl rfl ag25 rfl) rfl ?_ | refine lx (op_bload_one (m := 803) rfl rfl ag25 rfl) rfl ?_ | refine lx (op_bload_one (m := 804) rfl rfl ag25 rfl) rfl ?_ | refine lx (op_bload_one (m := 805) rfl rfl ag25 rfl) rfl ?_ | refine lx (op_bload_one (m := 806) rfl rfl ag25 rfl) rfl ?_
                    refine lx (op_assign rfl) rfl ?_
                    refine lx_end ⟨by kernel_rfl, ?_⟩
                    refine pe_then_normal ?_
                    refine tr_sub hC (.cons (t := 5) rfl (.cons (t := 6) rfl (.cons (t := 10) rfl (.cons (t := 12) rfl (.cons (t := 46) rfl (.cons (t := 47) rfl (.cons (t := 48) rfl (.cons (t := 58) rfl (.cons (t := 59) rfl (.cons (t := 60) rfl .nil)))))))))) (.cons (t := 800) rfl (.cons (t := 801) rfl (.cons (t := 802) rfl (.cons (t := 803) rfl (.cons (t := 804) rfl (.cons (t := 805) rfl (.cons (t := 806) rfl .nil))))))) rfl ?_
                    refine tr_seq ?_
                    refine tr_region (fun N18 hN => ?_)
                    refine lx (op_move rfl) rfl ?_
                    refine lx (op_move rfl) rfl ?_
                    refine lx (OpJ.ent (op_sub rfl rfl (by omega)) (show Ent _ (eqP (.int .i64 1)) from (by exact Ent.of_eq rfl))) rfl ?_
                    refine lx (op_move rfl) rfl ?_
                    first | refine lx_any rfl (op_callG2 (l := [(Go.Operand.tmp 64), (Go.Operand.tmp 66), (Go.Operand.tmp 67)]) (add := [(800, ((N5, 100280), blk 73 (prP a2 (rstep z ((framesF a2.e)[j]'(by omega))) q1 q2 q3 (N18, 100680) q5 q6))), (801, (q1, tail 9 1 (a2.s.length * 1))), (802, (q2, tail 9 1 ((rstep z ((framesF a2.e)[j]'(by omega))).s.length * 1))), (803, (q3, tail 9 1 (a2.g.length * 1))), (804, ((N18, 100680), tail 9 1 ((rstep z ((framesF a2.e)[j]'(by omega))).g.length * 1))), (805, (q5, tail 25 1 (a2.n.length * 1))), (806, (q6, tail 25 1 ((rstep z ((framesF a2.e)[j]'(by omega))).n.length * 1)))]) (ks := [100680]) (φ := eqP (.bool true)) (.cons (m := 800) rfl (.cons (m := 801) rfl (.cons (m := 802) rfl (.cons (m := 803) rfl (.cons (m := 804) rfl (.cons (m := 805) rfl (.cons (m := 806) rfl .nil))))))) (receive_1 (N5, 100280) q1 q2 q3 i q5 q6 a2 z ((framesF a2.e)[j]'(by omega)) (by rw [hz]; exact feed_recv hc2 (by omega) (by omega)) (by rw [hz]; exact feed_g hc2 (by omega) (by omega))) (.cons rfl (.cons rfl (.cons rfl .nil))) fn29 rfl rfl rfl (.old rfl (.old rfl (.old rfl (.old rfl (.old rfl (.old rfl (.old rfl .nil))))))) rfl) (dOK_spec rfl) ?_ | refine lx_any rfl (op_callG2 (l := [(Go.Operand.tmp 64), (Go.Operand.tmp 66), (Go.Operand.tmp 67)]) (add := [(800, ((N5, 100280), blk 73 (prP a2 (rstep z ((framesF a2.e)[j]'(by omega))) q1 q2 q3 (N18, 100680) q5 q6))), (801, (q1, tail 9 1 (a2.s.length * 1))), (802, (q2, tail 9 1 ((rstep z ((framesF a2.e)[j]'(by omega))).s.length * 1))), (803, (q3, tail 9 1 (a2.g.length * 1))), (804, ((N18, 100680), tail 9 1 ((rstep z ((framesF a2.e)[j]'(by omega))).g.length * 1))), (805, (q5, tail 25 1 (a2.n.length * 1))), (806, (q6, tail 25 1 ((rstep z ((framesF a2.e)[j]'(by omega))).n.length * 1)))]) (ks := [100680]) (φ := eqP (.bool true)) (.cons (m := 800) rfl (.cons (m := 801) rfl (.cons (m := 802) rfl (.cons (m := 803) rfl (.cons (m := 804) rfl (.cons (m := 805) rfl (.cons (m := 806) rfl .nil))))))) (receive_1 (N5, 100280) q1 q2 q3 i q5 q6 a2 z ((framesF a2.e)[j]'(by omega)) (by rw [hz]; exact feed_recv hc2 (by omega) (by omega)) (by rw [hz]; exact feed_g hc2 (by omega) (by omega))) (.ent rfl (by repeat (first | exact Ents.nil | refine Ents.cons ?_ ?_ | refine Ent.tup ?_ | refine Ent.agg ?_ | exact Ent.row _ _ _ _ | exact Ent.nil _ _ | exact Ent.func _ | exact Ent.refl _ | exact Ent.of_eq rfl | refine Ent.cells ?_)) (.ent rfl (by repeat (first | exact Ents.nil | refine Ents.cons ?_ ?_ | refine Ent.tup ?_ | refine Ent.agg ?_ | exact Ent.row _ _ _ _ | exact Ent.nil _ _ | exact Ent.func _ | exact Ent.refl _ | exact Ent.of_eq rfl | refine Ent.cells ?_)) (.ent rfl (by repeat (first | exact Ents.nil | refine Ents.cons ?_ ?_ | refine Ent.tup ?_ | refine Ent.agg ?_ | exact Ent.row _ _ _ _ | exact Ent.nil _ _ | exact Ent.func _ | exact Ent.refl _ | exact Ent.of_eq rfl | refine Ent.cells ?_)) .nil))) fn29 rfl rfl rfl (.old rfl (.old rfl (.old rfl (.old rfl (.old rfl (.old rfl (.old rfl .nil))))))) rfl) (dOK_spec rfl) ?_
                    first | refine lx (op_not rfl) rfl ?_ | refine lx (op_not_b rfl) rfl ?_
                    refine lx_end ⟨by kernel_rfl, ?_⟩
                    refine pe_then_normal ?_
                    refine tr_sub hC (.cons (t := 5) rfl (.cons (t := 6) rfl (.cons (t := 10) rfl (.cons (t := 46) rfl (.cons (t := 47) rfl (.cons (t := 48) rfl (.cons (t := 58) rfl (.cons (t := 59) rfl (.cons (t := 60) rfl (.cons (t := 69) rfl .nil)))))))))) (.cons (t := 800) rfl (.cons (t := 801) rfl (.cons (t := 802) rfl (.cons (t := 803) rfl (.cons (t := 804) rfl (.cons (t := 805) rfl (.cons (t := 806) rfl .nil))))))) rfl ?_
                    refine tr_cond_f rfl ?_
                    refine tr_skip ?_
                    refine pe_block_normal ?_
                    refine pe_then_normal ?_
                    refine tr_sub hC (.cons (t := 5) rfl (.cons (t := 6) rfl (.cons (t := 10) rfl (.cons (t := 46) rfl (.cons (t := 47) rfl (.cons (t := 48) rfl (.cons (t := 58) rfl (.cons (t := 59) rfl (.cons (t := 60) rfl .nil))))))))) (.cons (t := 800) rfl (.cons (t := 801) rfl (.cons (t := 802) rfl (.cons (t := 803) rfl (.cons (t := 804) rfl (.cons (t := 805) rfl (.cons (t := 806) rfl .nil))))))) rfl ?_
                    refine tr_region (fun N20 hN => ?_)
                    refine lx (op_add rfl rfl (by omega)) rfl ?_
                    refine lx (op_move rfl) rfl ?_
                    refine lx_end ⟨by kernel_rfl, ?_⟩
                    refine pe_round (⟨(j + 1, rstep z (framesF a2.e)[j], (N18, 100680)), by dsimp only; omega, by dsimp only; rw [hz, feed_at (by omega)]⟩) (by dsimp only; omega) (pe_st hC ?_ ?_ rfl)
                    · try dsimp only [List.cons_append, List.nil_append]
                      first | refine SubF.cons rfl ?_ | (refine SubF.ent rfl ?_ ?_; · repeat (first | exact Ents.nil | refine Ents.cons ?_ ?_ | refine Ent.tup ?_ | refine Ent.agg ?_ | exact Ent.row _ _ _ _ | exact Ent.nil _ _ | exact Ent.func _ | exact Ent.refl _ | exact Ent.of_eq rfl | refine Ent.cells ?_))
                      first | refine SubF.cons rfl ?_ | (refine SubF.ent rfl ?_ ?_; · repeat (first | exact Ents.nil | refine Ents.cons ?_ ?_ | refine Ent.tup ?_ | refine Ent.agg ?_ | exact Ent.row _ _ _ _ | exact Ent.nil _ _ | exact Ent.func _ | exact Ent.refl _ | exact Ent.of_eq rfl | refine Ent.cells ?_))
                      first | refine SubF.cons rfl ?_ | (refine SubF.ent rfl ?_ ?_; · repeat (first | exact Ents.nil | refine Ents.cons ?_ ?_ | refine Ent.tup ?_ | refine Ent.agg ?_ | exact Ent.row _ _ _ _ | exact Ent.nil _ _ | exact Ent.func _ | exact Ent.refl _ | exact Ent.of_eq rfl | refine Ent.cells ?_))
                      first | refine SubF.cons rfl ?_ | (refine SubF.ent rfl ?_ ?_; · repeat (first | exact Ents.nil | refine Ents.cons ?_ ?_ | refine Ent.tup ?_ | refine Ent.agg ?_ | exact Ent.row _ _ _ _ | exact Ent.nil _ _ | exact Ent.func _ | exact Ent.refl _ | exact Ent.of_eq rfl | refine Ent.cells ?_))
                      first | refine SubF.cons rfl ?_ | (refine SubF.ent rfl ?_ ?_; · repeat (first | exact Ents.nil | refine Ents.cons ?_ ?_ | refine Ent.tup ?_ | refine Ent.agg ?_ | exact Ent.row _ _ _ _ | exact Ent.nil _ _ | exact Ent.func _ | exact Ent.refl _ | exact Ent.of_eq rfl | refine Ent.cells ?_))
                      first | refine SubF.cons rfl ?_ | (refine SubF.ent rfl ?_ ?_; · repeat (first | exact Ents.nil | refine Ents.cons ?_ ?_ | refine Ent.tup ?_ | refine Ent.agg ?_ | exact Ent.row _ _ _ _ | exact Ent.nil _ _ | exact Ent.func _ | exact Ent.refl _ | exact Ent.of_eq rfl | refine Ent.cells ?_))
                      first | refine SubF.cons rfl ?_ | (refine SubF.ent rfl ?_ ?_; · repeat (first | exact Ents.nil | refine Ents.cons ?_ ?_ | refine Ent.tup ?_ | refine Ent.agg ?_ | exact Ent.row _ _ _ _ | exact Ent.nil _ _ | exact Ent.func _ | exact Ent.refl _ | exact Ent.of_eq rfl | refine Ent.cells ?_))
                      first | refine SubF.cons rfl ?_ | (refine SubF.ent rfl ?_ ?_; · repeat (first | exact Ents.nil | refine Ents.cons ?_ ?_ | refine Ent.tup ?_ | refine Ent.agg ?_ | exact Ent.row _ _ _ _ | exact Ent.nil _ _ | exact Ent.func _ | exact Ent.refl _ | exact Ent.of_eq rfl | refine Ent.cells ?_))
                      first | refine SubF.cons rfl ?_ | (refine SubF.ent rfl ?_ ?_; · repeat (first | exact Ents.nil | refine Ents.cons ?_ ?_ | refine Ent.tup ?_ | refine Ent.agg ?_ | exact Ent.row _ _ _ _ | exact Ent.nil _ _ | exact Ent.func _ | exact Ent.refl _ | exact Ent.of_eq rfl | refine Ent.cells ?_))
                      exact SubF.nil
                    · try dsimp only [List.cons_append, List.nil_append]
                      repeat (first | exact SubL.nil | refine SubL.cons rfl ?_)
                  · (try simp only [Bool.and_eq_true, Bool.or_eq_true, Bool.and_eq_false_iff, Bool.or_eq_false_iff, decide_eq_true_eq, decide_eq_false_iff_not, Bool.not_eq_true', Bool.not_eq_false', List.length_map, ne_eq, Decidable.not_not, Int.not_lt, Int.not_le] at h61)
                    have hz2 : b3 = z := by rw [hB3]; exact (feed_full hz (by omega)).symm
                    refine tr_exit ?_
                    refine pe_then_exit ?_
                    refine pe_then_exit ?_
                    refine pe_block_eq ?_
                    refine pe_block_normal ?_
                    refine pe_then_normal ?_
                    refine tr_sub hC (.cons (t := 5) rfl (.cons (t := 6) rfl (.cons (t := 46) rfl (.cons (t := 47) rfl (.cons (t := 48) rfl .nil))))) (.cons (t := 800) rfl (.cons (t := 801) rfl (.cons (t := 802) rfl (.cons (t := 803) rfl (.cons (t := 804) rfl (.cons (t := 805) rfl (.cons (t := 806) rfl .nil))))))) rfl ?_
                    refine tr_region (fun N21 hN => ?_)
                    refine lx (op_add rfl rfl (by omega)) rfl ?_
                    refine lx (op_move rfl) rfl ?_
                    refine lx_end ⟨by kernel_rfl, ?_⟩
                    refine pe_round (⟨(3, a2, z, q1, q2, q3, i, q5, q6), (by dsimp only; exact .inr (.inr (.inr ⟨rfl, rfl, hz2⟩)))⟩) (by dsimp only; omega) (pe_st hC ?_ ?_ rfl)
                    · try dsimp only [List.cons_append, List.nil_append]
                      first | refine SubF.cons rfl ?_ | (refine SubF.ent rfl ?_ ?_; · repeat (first | exact Ents.nil | refine Ents.cons ?_ ?_ | refine Ent.tup ?_ | refine Ent.agg ?_ | exact Ent.row _ _ _ _ | exact Ent.nil _ _ | exact Ent.func _ | exact Ent.refl _ | exact Ent.of_eq rfl | refine Ent.cells ?_))
                      first | refine SubF.cons rfl ?_ | (refine SubF.ent rfl ?_ ?_; · repeat (first | exact Ents.nil | refine Ents.cons ?_ ?_ | refine Ent.tup ?_ | refine Ent.agg ?_ | exact Ent.row _ _ _ _ | exact Ent.nil _ _ | exact Ent.func _ | exact Ent.refl _ | exact Ent.of_eq rfl | refine Ent.cells ?_))
                      first | refine SubF.cons rfl ?_ | (refine SubF.ent rfl ?_ ?_; · repeat (first | exact Ents.nil | refine Ents.cons ?_ ?_ | refine Ent.tup ?_ | refine Ent.agg ?_ | exact Ent.row _ _ _ _ | exact Ent.nil _ _ | exact Ent.func _ | exact Ent.refl _ | exact Ent.of_eq rfl | refine Ent.cells ?_))
                      first | refine SubF.cons rfl ?_ | (refine SubF.ent rfl ?_ ?_; · repeat (first | exact Ents.nil | refine Ents.cons ?_ ?_ | refine Ent.tup ?_ | refine Ent.agg ?_ | exact Ent.row _ _ _ _ | exact Ent.nil _ _ | exact Ent.func _ | exact Ent.refl _ | exact Ent.of_eq rfl | refine Ent.cells ?_))
                      first | refine SubF.cons rfl ?_ | (refine SubF.ent rfl ?_ ?_; · repeat (first | exact Ents.nil | refine Ents.cons ?_ ?_ | refine Ent.tup ?_ | refine Ent.agg ?_ | exact Ent.row _ _ _ _ | exact Ent.nil _ _ | exact Ent.func _ | exact Ent.refl _ | exact Ent.of_eq rfl | refine Ent.cells ?_))
                      exact SubF.nil
                    · try dsimp only [List.cons_append, List.nil_append]
                      repeat (first | exact SubL.nil | refine SubL.cons rfl ?_)
              · (try simp only [Bool.and_eq_true, Bool.or_eq_true, Bool.and_eq_false_iff, Bool.or_eq_false_iff, decide_eq_true_eq, decide_eq_false_iff_not, Bool.not_eq_true', Bool.not_eq_false', List.length_map, ne_eq, Decidable.not_not, Int.not_lt, Int.not_le] at h49)
                omega
            · refine tr_seq ?_
              refine tr_region (fun N13 hN => ?_)
              refine lx (op_lss rfl rfl) rfl ?_
              refine lx_end ⟨by kernel_rfl, ?_⟩
              refine pe_then_normal ?_
              refine tr_sub hC (.cons (t := 5) rfl (.cons (t := 6) rfl (.cons (t := 46) rfl (.cons (t := 47) rfl (.cons (t := 48) rfl (.cons (t := 49) rfl .nil)))))) (.cons (t := 800) rfl (.cons (t := 801) rfl (.cons (t := 802) rfl (.cons (t := 803) rfl (.cons (t := 804) rfl (.cons (t := 805) rfl (.cons (t := 806) rfl .nil))))))) rfl ?_
              refine tr_seq ?_
              refine tr_cond rfl (fun h49 => ?_) (fun h49 => ?_)
              · (try simp only [Bool.and_eq_true, Bool.or_eq_true, Bool.and_eq_false_iff, Bool.or_eq_false_iff, decide_eq_true_eq, decide_eq_false_iff_not, Bool.not_eq_true', Bool.not_eq_false', List.length_map, ne_eq, Decidable.not_not, Int.not_lt, Int.not_le] at h49)
                omega
              · (try simp only [Bool.and_eq_true, Bool.or_eq_true, Bool.and_eq_false_iff, Bool.or_eq_false_iff, decide_eq_true_eq, decide_eq_false_iff_not, Bool.not_eq_true', Bool.not_eq_false', List.length_map, ne_eq, Decidable.not_not, Int.not_lt, Int.not_le] at h49)
                refine tr_exit ?_
                refine pe_then_exit ?_
                refine pe_then_exit ?_
                refine pe_block_eq ?_
                refine pe_then_normal ?_
                refine tr_sub hC (.cons (t := 5) rfl (.cons (t := 6) rfl .nil)) (.cons (t := 800) rfl (.cons (t := 801) rfl (.cons (t := 802) rfl (.cons (t := 803) rfl (.cons (t := 804) rfl (.cons (t := 805) rfl (.cons (t := 806) rfl .nil))))))) rfl ?_
                refine tr_seq ?_
                refine tr_drawn mixed (fun N22 hN => ?_)
                refine lx (op_move rfl) rfl ?_
                refine lx (op_move rfl) rfl ?_
                refine lxg rfl rfl rfl (op_move rfl) rfl ?_
                first | refine lx_run rfl rfl rfl (op_callG2 (l := [(Go.Operand.tmp 74)]) (add := [(800, ((N5, 100280), blk 73 (prP a2 b3 q1 q2 q3 q4 q5 q6))), (801, (q1, tail 9 1 (a2.s.length * 1))), (802, (q2, tail 9 1 (b3.s.length * 1))), (803, (q3, tail 9 1 (a2.g.length * 1))), (804, (q4, tail 9 1 (b3.g.length * 1))), (805, (q5, tail 25 1 (a2.n.length * 1))), (806, (q6, tail 25 1 (b3.n.length * 1)))]) (ks := []) (φ := eqP (.bool true)) (.cons (m := 800) rfl (.cons (m := 801) rfl (.cons (m := 802) rfl (.cons (m := 803) rfl (.cons (m := 804) rfl (.cons (m := 805) rfl (.cons (m := 806) rfl .nil))))))) (prefix_ok (N5, 100280) q1 q2 q3 q4 q5 q6 a2 b3 ⟨inv_pre hc3, inv_pre hc3.swap⟩ (inv_s hc3 (by omega))) (.cons rfl .nil) fn28 rfl rfl rfl (.old rfl (.old rfl (.old rfl (.old rfl (.old rfl (.old rfl (.old rfl .nil))))))) rfl) (dOK_spec rfl) ?_ | refine lx_run rfl rfl rfl (op_callG2 (l := [(Go.Operand.tmp 74)]) (add := [(800, ((N5, 100280), blk 73 (prP a2 b3 q1 q2 q3 q4 q5 q6))), (801, (q1, tail 9 1 (a2.s.length * 1))), (802, (q2, tail 9 1 (b3.s.length * 1))), (803, (q3, tail 9 1 (a2.g.length * 1))), (804, (q4, tail 9 1 (b3.g.length * 1))), (805, (q5, tail 25 1 (a2.n.length * 1))), (806, (q6, tail 25 1 (b3.n.length * 1)))]) (ks := []) (φ := eqP (.bool true)) (.cons (m := 800) rfl (.cons (m := 801) rfl (.cons (m := 802) rfl (.cons (m := 803) rfl (.cons (m := 804) rfl (.cons (m := 805) rfl (.cons (m := 806) rfl .nil))))))) (prefix_ok (N5, 100280) q1 q2 q3 q4 q5 q6 a2 b3 ⟨inv_pre hc3, inv_pre hc3.swap⟩ (inv_s hc3 (by omega))) (.ent rfl (by repeat (first | exact Ents.nil | refine Ents.cons ?_ ?_ | refine Ent.tup ?_ | refine Ent.agg ?_ | exact Ent.row _ _ _ _ | exact Ent.nil _ _ | exact Ent.func _ | exact Ent.refl _ | exact Ent.of_eq rfl | refine Ent.cells ?_)) .nil) fn28 rfl rfl rfl (.old rfl (.old rfl (.old rfl (.old rfl (.old rfl (.old rfl (.old rfl .nil))))))) rfl) (dOK_spec rfl) ?_
                refine lx (op_pick_t rfl rfl) rfl ?_
                refine lx (op_move rfl) rfl ?_
                refine lxg rfl rfl rfl (op_move rfl) rfl ?_
                first | refine lxg rfl rfl rfl (op_nilCheck rfl) rfl ?_ | refine lxg rfl rfl rfl (op_nilCheckC rfl) rfl ?_
                refine lxg rfl rfl rfl (op_fieldAddr rfl fl73_2 sz70) rfl ?_
                refine lxg rfl rfl rfl (op_aindex rfl rfl ar70 sz38 (show (0 : Int) = ((0 : Nat) : Int) from rfl) (by decide)) rfl ?_
                refine lxg rfl rfl rfl (op_bload_one (m := 800) rfl rfl ag38 rfl) rfl ?_
                first | refine lxg rfl rfl rfl (op_len rfl el38) rfl ?_ | refine lxg rfl rfl rfl (op_len_row rfl el38) rfl ?_ | refine lxg rfl rfl rfl (op_len_mv rfl el38) rfl ?_ | refine lxg rfl rfl rfl (op_len_nil rfl el38) rfl ?_
                refine lxg rfl rfl rfl (op_move rfl) rfl ?_
                first | refine lxg rfl rfl rfl (op_nilCheck rfl) rfl ?_ | refine lxg rfl rfl rfl (op_nilCheckC rfl) rfl ?_
                refine lxg rfl rfl rfl (op_fieldAddr rfl fl73_1 sz70) rfl ?_
                refine lxg rfl rfl rfl (op_aindex rfl rfl ar70 sz38 (show (1 : Int) = ((1 : Nat) : Int) from rfl) (by decide)) rfl ?_
                refine lxg rfl rfl rfl (op_bload_one (m := 800) rfl rfl ag38 rfl) rfl ?_
                first | refine lxg rfl rfl rfl (op_len rfl el38) rfl ?_ | refine lxg rfl rfl rfl (op_len_row rfl el38) rfl ?_ | refine lxg rfl rfl rfl (op_len_mv rfl el38) rfl ?_ | refine lxg rfl rfl rfl (op_len_nil rfl el38) rfl ?_
                refine lxgk rfl rfl rfl (op_eql rfl rfl) (decide_eq_true (by omega)) rfl ?_
                refine lx (op_pick_t rfl rfl) rfl ?_
                refine lx (op_move rfl) rfl ?_
                refine lxg rfl rfl rfl (op_move rfl) rfl ?_
                first | refine lxg rfl rfl rfl (op_nilCheck rfl) rfl ?_ | refine lxg rfl rfl rfl (op_nilCheckC rfl) rfl ?_
                refine lxg rfl rfl rfl (op_fieldAddr rfl fl73_2 sz70) rfl ?_
                refine lxg rfl rfl rfl (op_aindex rfl rfl ar70 sz38 (show (1 : Int) = ((1 : Nat) : Int) from rfl) (by decide)) rfl ?_
                refine lxg rfl rfl rfl (op_bload_one (m := 800) rfl rfl ag38 rfl) rfl ?_
                first | refine lxg rfl rfl rfl (op_len rfl el38) rfl ?_ | refine lxg rfl rfl rfl (op_len_row rfl el38) rfl ?_ | refine lxg rfl rfl rfl (op_len_mv rfl el38) rfl ?_ | refine lxg rfl rfl rfl (op_len_nil rfl el38) rfl ?_
                refine lxg rfl rfl rfl (op_move rfl) rfl ?_
                first | refine lxg rfl rfl rfl (op_nilCheck rfl) rfl ?_ | refine lxg rfl rfl rfl (op_nilCheckC rfl) rfl ?_
                refine lxg rfl rfl rfl (op_fieldAddr rfl fl73_1 sz70) rfl ?_
                refine lxg rfl rfl rfl (op_aindex rfl rfl ar70 sz38 (show (0 : Int) = ((0 : Nat) : Int) from rfl) (by decide)) rfl ?_
                refine lxg rfl rfl rfl (op_bload_one (m := 800) rfl rfl ag38 rfl) rfl ?_
                first | refine lxg rfl rfl rfl (op_len rfl el38) rfl ?_ | refine lxg rfl rfl rfl (op_len_row rfl el38) rfl ?_ | refine lxg rfl rfl rfl (op_len_mv rfl el38) rfl ?_ | refine lxg rfl rfl rfl (op_len_nil rfl el38) rfl ?_
                refine lxgk rfl rfl rfl (op_eql rfl rfl) (decide_eq_true (by omega)) rfl ?_
                refine lx (op_pick_t rfl rfl) rfl ?_
                refine lx (op_move rfl) rfl ?_
                refine lxg rfl rfl rfl (op_move rfl) rfl ?_
                first | refine lxg rfl rfl rfl (op_nilCheck rfl) rfl ?_ | refine lxg rfl rfl rfl (op_nilCheckC rfl) rfl ?_
                refine lxg rfl rfl rfl (op_fieldAddr rfl fl73_0 sz69) rfl ?_
                refine lxg rfl rfl rfl (op_aindex rfl rfl ar69 sz46 (show (0 : Int) = ((0 : Nat) : Int) from rfl) (by decide)) rfl ?_
                refine lxg rfl rfl rfl (op_fieldAddr rfl fl46_2 sz43) rfl ?_
                refine lxg rfl rfl rfl (op_bload_one (m := 800) rfl rfl ag43 rfl) rfl ?_
                first | refine lxg rfl rfl rfl (op_len rfl el43) rfl ?_ | refine lxg rfl rfl rfl (op_len_row rfl el43) rfl ?_ | refine lxg rfl rfl rfl (op_len_mv rfl el43) rfl ?_ | refine lxg rfl rfl rfl (op_len_nil rfl el43) rfl ?_
                refine lxgk rfl rfl rfl (op_eql rfl rfl) (decide_eq_true (by omega)) rfl ?_
                refine lx (op_pick_t rfl rfl) rfl ?_
                refine lx (op_move rfl) rfl ?_
                refine lxg rfl rfl rfl (op_move rfl) rfl ?_
                first | refine lxg rfl rfl rfl (op_nilCheck rfl) rfl ?_ | refine lxg rfl rfl rfl (op_nilCheckC rfl) rfl ?_
                refine lxg rfl rfl rfl (op_fieldAddr rfl fl73_0 sz69) rfl ?_
                refine lxg rfl rfl rfl (op_aindex rfl rfl ar69 sz46 (show (1 : Int) = ((1 : Nat) : Int) from rfl) (by decide)) rfl ?_
                refine lxg rfl rfl rfl (op_fieldAddr rfl fl46_2 sz43) rfl ?_
                refine lxg rfl rfl rfl (op_bload_one (m := 800) rfl rfl ag43 rfl) rfl ?_
                first | refine lxg rfl rfl rfl (op_len rfl el43) rfl ?_ | refine lxg rfl rfl rfl (op_len_row rfl el43) rfl ?_ | refine lxg rfl rfl rfl (op_len_mv rfl el43) rfl ?_ | refine lxg rfl rfl rfl (op_len_nil rfl el43) rfl ?_
                refine lxgk rfl rfl rfl (op_eql rfl rfl) (decide_eq_true (by omega)) rfl ?_
                refine lx (op_pick_t rfl rfl) rfl ?_
                refine lx (op_assign rfl) rfl ?_
                refine lx_end ⟨by kernel_rfl, ?_⟩
                refine pe_then_normal ?_
                refine tr_sub hC (.cons (t := 4) rfl .nil) (.cons (t := 800) rfl (.cons (t := 801) rfl (.cons (t := 802) rfl (.cons (t := 803) rfl (.cons (t := 804) rfl (.cons (t := 805) rfl (.cons (t := 806) rfl .nil))))))) rfl ?_
                refine tr_ret ?_
                refine pe_ret1 rfl hO rfl (.tmp rfl .nil) ?_
                repeat (first | exact Ents.nil | refine Ents.cons ?_ ?_ | refine Ent.tup ?_ | refine Ent.agg ?_ | exact Ent.row _ _ _ _ | exact Ent.nil _ _ | exact Ent.func _ | exact Ent.refl _ | exact Ent.of_eq rfl | refine Ent.cells ?_)
end Go.Proofs.Ytgdhogmghffbaaa
