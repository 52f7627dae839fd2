/- Parts of a proof that share one text: HpWalk16, HpWalk17, HpWalk18, HpWalk19, HpWalk20, AlMkRow, HpLaws, AlArr, HpLaws2. -/
import Derived.Test.YtibcbiamdjmckaaVc
import Derived.Test.YtibcbiamdjmckaaVb
set_option linter.unusedVariables false
set_option linter.unusedSimpArgs false

set_option linter.unusedVariables false
set_option linter.unusedSimpArgs false
namespace Go.Proofs.Ytibcbiamdjmckaa
open Go.AL Go.Ch Go.Hp Go.RowKit
theorem insert_ok (id idv : AL.Id) (xs : List Ob) (i : Nat) (v : Ob) (hi : i ≤ xs.length) (hx : xs.length ≤ 4000000) : FnOK Try.prog 43 [mvP id 10 0 xs.length xs.length, eqP (.int .i64 (i : Int)), rowP idv Ob.ps 10 [v]] [(id, blkX 10 33 (xs.flatMap Ob.ps)), (idv, tail 33 10 (([v] : List Ob).length * 10))] 1 (fun ι => mvP (ι 0) 10 0 (xs.length + 1) (xs.length + 1)) (fun ι => [(ι 0, blkX 10 33 ((insL xs i v).flatMap Ob.ps))]) := by
  have hv1 : ([v] : List Ob).length = 1 := rfl
  refine fn_ownN Try.func43 rfl Try.ntmps43 rfl ?_
  intro σ0 M Rf R hC hO
  simp only [frameOf, tokOf]
  refine tr_seq ?_
  refine tr_region (fun N0 hN => ?_)
  refine lx (op_assign rfl) rfl ?_
  refine lx_end ⟨by kernel_rfl, ?_⟩
  refine pe_then_normal ?_
  refine tr_sub hC (.cons (t := 0) rfl (.cons (t := 1) rfl (.cons (t := 2) rfl .nil))) (.cons (t := 0) rfl (.cons (t := 1) rfl .nil)) rfl ?_
  refine tr_seq ?_
  refine tr_region (fun N1 hN => ?_)
  refine lx (op_move rfl) rfl ?_
  refine lx (op_move rfl) rfl ?_
  refine lx (op_mslice_l rfl rfl el22 sz33 rfl (by omega)) rfl ?_
  refine lx_end ⟨by kernel_rfl, ?_⟩
  refine pe_then_normal ?_
  refine tr_sub hC (.cons (t := 0) rfl (.cons (t := 1) rfl (.cons (t := 2) rfl .nil))) (.cons (t := 0) rfl (.cons (t := 1) rfl .nil)) rfl ?_
  refine tr_seq ?_
  refine tr_region (fun N2 hN => ?_)
  refine lx (op_move rfl) rfl ?_
  first | refine lx (op_len rfl el22) rfl ?_ | refine lx (op_len_row rfl el22) rfl ?_ | refine lx (op_len_mv rfl el22) rfl ?_ | refine lx (op_len_nil rfl el22) rfl ?_
  refine lx (op_assign rfl) rfl ?_
  refine lx_end ⟨by kernel_rfl, ?_⟩
  refine pe_then_normal ?_
  refine tr_sub hC (.cons (t := 0) rfl (.cons (t := 1) rfl (.cons (t := 2) rfl (.cons (t := 7) rfl .nil)))) (.cons (t := 0) rfl (.cons (t := 1) rfl .nil)) rfl ?_
  refine tr_seq ?_
  refine tr_seq ?_
  refine tr_region (fun N3 hN => ?_)
  refine lx (op_move rfl) rfl ?_
  refine lx (op_eql rfl rfl) rfl ?_
  refine lx_end ⟨by kernel_rfl, ?_⟩
  refine pe_then_normal ?_
  refine tr_sub hC (.cons (t := 0) rfl (.cons (t := 1) rfl (.cons (t := 2) rfl (.cons (t := 7) rfl (.cons (t := 16) rfl .nil))))) (.cons (t := 0) rfl (.cons (t := 1) rfl .nil)) rfl ?_
  refine tr_cond rfl (fun h16 => ?_) (fun h16 => ?_)
  · (try simp only [Bool.and_eq_true, Bool.or_eq_true, Bool.and_eq_false_iff, Bool.or_eq_false_iff, decide_eq_true_eq, decide_eq_false_iff_not, Bool.not_eq_true', Bool.not_eq_false', List.length_map, ne_eq, Decidable.not_not, Int.not_lt, Int.not_le] at h16)
    exact absurd h16 (by simp)
  · (try simp only [Bool.and_eq_true, Bool.or_eq_true, Bool.and_eq_false_iff, Bool.or_eq_false_iff, decide_eq_true_eq, decide_eq_false_iff_not, Bool.not_eq_true', Bool.not_eq_false', List.length_map, ne_eq, Decidable.not_not, Int.not_lt, Int.not_le] at h16)
    refine tr_skip ?_
    refine pe_then_normal ?_
    refine tr_sub hC (.cons (t := 0) rfl (.cons (t := 1) rfl (.cons (t := 2) rfl (.cons (t := 7) rfl .nil)))) (.cons (t := 0) rfl (.cons (t := 1) rfl .nil)) rfl ?_
    refine tr_seq ?_
    refine tr_region (fun N5 hN => ?_)
    refine lx (op_move rfl) rfl ?_
    first | refine lx (op_len rfl el22) rfl ?_ | refine lx (op_len_row rfl el22) rfl ?_ | refine lx (op_len_mv rfl el22) rfl ?_ | refine lx (op_len_nil rfl el22) rfl ?_
    refine lx (op_assign rfl) rfl ?_
    refine lx_end ⟨by kernel_rfl, ?_⟩
    refine pe_then_normal ?_
    refine tr_sub hC (.cons (t := 0) rfl (.cons (t := 1) rfl (.cons (t := 2) rfl (.cons (t := 7) rfl (.cons (t := 8) rfl .nil))))) (.cons (t := 0) rfl (.cons (t := 1) rfl .nil)) rfl ?_
    refine tr_seq ?_
    refine tr_seq ?_
    refine tr_region (fun N6 hN => ?_)
    refine lx (op_move rfl) rfl ?_
    refine lx (op_move rfl) rfl ?_
    refine lx (op_eql rfl rfl) rfl ?_
    refine lx_end ⟨by kernel_rfl, ?_⟩
    refine pe_then_normal ?_
    refine tr_sub hC (.cons (t := 0) rfl (.cons (t := 1) rfl (.cons (t := 2) rfl (.cons (t := 7) rfl (.cons (t := 8) rfl (.cons (t := 22) rfl .nil)))))) (.cons (t := 0) rfl (.cons (t := 1) rfl .nil)) rfl ?_
    refine tr_cond rfl (fun h22 => ?_) (fun h22 => ?_)
    · (try simp only [Bool.and_eq_true, Bool.or_eq_true, Bool.and_eq_false_iff, Bool.or_eq_false_iff, decide_eq_true_eq, decide_eq_false_iff_not, Bool.not_eq_true', Bool.not_eq_false', List.length_map, ne_eq, Decidable.not_not, Int.not_lt, Int.not_le] at h22)
      obtain rfl : i = xs.length := by omega
      refine tr_sub hC (.cons (t := 0) rfl (.cons (t := 1) rfl (.ent (t := 2) rfl (Ent.row _ _ _ _) (.cons (t := 7) rfl (.cons (t := 8) rfl (.cons (t := 22) rfl .nil)))))) (.cons (t := 0) rfl (.cons (t := 1) rfl .nil)) rfl ?_
      refine tr_seq ?_
      refine tr_region (fun N7 hN => ?_)
      refine lx (op_move rfl) rfl ?_
      refine lx (op_move rfl) rfl ?_
      refine lxr (op_append_t (m := 0) (m' := 0) (kk := 25) (f := Ob.ps) rfl rfl rfl (.inl rfl) el22 ze33 sz33 by33 rfl (by decide) Ob.len (by simp; omega) (by simp; omega)) rfl ?_
      refine lx (op_assign rfl) rfl ?_
      refine lx_end ⟨by kernel_rfl, ?_⟩
      refine pe_then_normal ?_
      refine tr_sub hC (.cons (t := 6) rfl .nil) (.cons (t := 1) rfl (.cons (t := 0) rfl .nil)) rfl ?_
      refine tr_ret ?_
      refine pe_then_ret ?_
      refine pe_ownS' [0] rfl hO rfl (.tmp rfl .nil) (.cons (m := 0) rfl (RenR.blk _ _ _) .nil) rfl rfl rfl ?_
      intro τ ι hs'
      refine ⟨?_, ?_⟩
      · exact mv_ren' (hs' 0 _ rfl).1 (hs' 0 _ rfl).2 (by first | omega | (simp; done) | (simp; omega)) (by first | omega | (simp; done) | (simp; omega))
      · exact (.moved rfl (by rw [← insL_end]; exact fun b o h => h) .nil)
    · (try simp only [Bool.and_eq_true, Bool.or_eq_true, Bool.and_eq_false_iff, Bool.or_eq_false_iff, decide_eq_true_eq, decide_eq_false_iff_not, Bool.not_eq_true', Bool.not_eq_false', List.length_map, ne_eq, Decidable.not_not, Int.not_lt, Int.not_le] at h22)
      have hlt : i < xs.length := by omega
      refine tr_skip ?_
      refine pe_then_normal ?_
      refine tr_sub hC (.cons (t := 0) rfl (.cons (t := 1) rfl (.cons (t := 2) rfl (.cons (t := 7) rfl (.cons (t := 8) rfl .nil))))) (.cons (t := 0) rfl (.cons (t := 1) rfl .nil)) rfl ?_
      refine tr_room2 0 700 rfl (fun z hz1 hz2 hz3 => ?_)
      refine tr_seq ?_
      refine tr_seq ?_
      refine tr_region (fun N8 hN => ?_)
      refine lx (op_move rfl) rfl ?_
      refine lx (op_move rfl) rfl ?_
      refine lx (op_add rfl rfl (by omega)) rfl ?_
      refine lx (op_move rfl) rfl ?_
      refine lx (op_cap_z 700 rfl rfl el22) rfl ?_
      refine lx (op_gtr rfl rfl) rfl ?_
      refine lx_end ⟨by kernel_rfl, ?_⟩
      refine pe_then_normal ?_
      refine tr_sub hC (.cons (t := 0) rfl (.cons (t := 1) rfl (.cons (t := 2) rfl (.cons (t := 7) rfl (.cons (t := 8) rfl (.cons (t := 31) rfl (.cons (t := 700) rfl .nil))))))) (.cons (t := 0) rfl (.cons (t := 1) rfl .nil)) rfl ?_
      refine tr_cond rfl (fun h31 => ?_) (fun h31 => ?_)
      · (try simp only [Bool.and_eq_true, Bool.or_eq_true, Bool.and_eq_false_iff, Bool.or_eq_false_iff, decide_eq_true_eq, decide_eq_false_iff_not, Bool.not_eq_true', Bool.not_eq_false', List.length_map, ne_eq, Decidable.not_not, Int.not_lt, Int.not_le] at h31)
        have hgr : z < xs.length + 1 := by omega
        refine tr_seq ?_
        refine tr_region (fun N9 hN => ?_)
        refine lx (op_move rfl) rfl ?_
        refine lx (op_move rfl) rfl ?_
        refine lx (op_mslice_h rfl rfl el22 sz33 rfl (by omega)) rfl ?_
        refine lx (op_move rfl) rfl ?_
        refine lx (op_move rfl) rfl ?_
        refine lx (op_add rfl rfl (by omega)) rfl ?_
        refine lx (op_move rfl) rfl ?_
        refine lx (op_sub rfl rfl (by omega)) rfl ?_
        refine lxn (op_append_zeros_t (m := 0) (m' := 40) (kk := 40) (u := 700) (f := Ob.ps) (cz := xs.length + 1 - i) ob0 rfl rfl (by omega) (by omega) rfl (by omega) rfl (by first | exact hC.low _ (by decide) | rfl) (by omega) Ob.len (by repeat (first | exact Ents.nil | refine Ents.cons ?_ ?_ | refine Ent.tup ?_ | refine Ent.agg ?_ | exact Ent.row _ _ _ _ | exact Ent.nil _ _ | exact Ent.func _ | exact Ent.refl _ | exact Ent.of_eq rfl | refine Ent.cells ?_)) el22 ik3 ze33 sz33 by33 rfl rfl rfl (by omega) (by omega)) rfl ?_
        refine lx (op_assign rfl) rfl ?_
        refine lx_end ⟨by kernel_rfl, ?_⟩
        refine pe_then_normal ?_
        refine tr_sub hC (.cons (t := 0) rfl (.cons (t := 1) rfl (.cons (t := 2) rfl (.cons (t := 7) rfl (.cons (t := 9) rfl (.cons (t := 700) rfl .nil)))))) (.cons (t := 0) rfl (.cons (t := 1) rfl (.cons (t := 40) rfl .nil))) rfl ?_
        refine tr_sub hC (.cons (t := 0) rfl (.cons (t := 1) rfl (.ent (t := 2) rfl (Ent.row _ _ _ _) (.cons (t := 7) rfl (.cons (t := 9) rfl (.cons (t := 700) rfl .nil)))))) (.cons (t := 0) rfl (.cons (t := 1) rfl (.cons (t := 40) rfl .nil))) rfl ?_
        refine tr_seq ?_
        refine tr_region (fun N10 hN => ?_)
        refine lx (op_move rfl) rfl ?_
        refine lx (op_move rfl) rfl ?_
        refine lx (op_mslice_l rfl rfl el22 sz33 rfl (by omega)) rfl ?_
        refine lx (op_move rfl) rfl ?_
        refine lxr (op_copy_sl (m := 40) (f := Ob.ps) rfl rfl rfl el22 sz33 (by decide) Ob.len (by simp) (by simp; omega) (by first | omega | (simp [spl]; omega))) rfl ?_
        refine lx_end ⟨by kernel_rfl, ?_⟩
        refine pe_then_normal ?_
        refine tr_sub hC (.cons (t := 0) rfl (.cons (t := 1) rfl (.cons (t := 7) rfl (.cons (t := 9) rfl (.cons (t := 700) rfl .nil))))) (.cons (t := 0) rfl (.cons (t := 1) rfl (.cons (t := 40) rfl .nil))) rfl ?_
        refine tr_seq ?_
        refine tr_drawn mixed (fun N11 hN => ?_)
        refine lx (op_move rfl) rfl ?_
        refine lx (op_move rfl) rfl ?_
        refine lx (op_move rfl) rfl ?_
        refine lx (op_add rfl rfl (by omega)) rfl ?_
        refine lx (op_mslice_l rfl rfl el22 sz33 (lo := i + 1) (by omega) (by omega)) rfl ?_
        refine lx (op_move rfl) rfl ?_
        refine lx (op_move rfl) rfl ?_
        refine lx (op_mslice_l rfl rfl el22 sz33 rfl (by omega)) rfl ?_
        refine lxr (op_copy_two (m := 40) (m2 := 0) (f := Ob.ps) (cnt := xs.length - i) rfl rfl rfl rfl el22 sz33 (by decide) Ob.len (by omega) (by show min _ _ = _; omega) (by simp [spl]; omega) (by omega)) rfl ?_
        refine lx_end ⟨by kernel_rfl, ?_⟩
        refine pe_then_normal ?_
        refine tr_sub hC (.cons (t := 9) rfl (.cons (t := 700) rfl .nil)) (.cons (t := 0) rfl (.cons (t := 1) rfl (.cons (t := 40) rfl .nil))) rfl ?_
        refine tr_seq ?_
        refine tr_region (fun N12 hN => ?_)
        refine lx (op_move rfl) rfl ?_
        refine lx (op_assign rfl) rfl ?_
        refine lx_end ⟨by kernel_rfl, ?_⟩
        refine pe_then_normal ?_
        refine tr_sub hC (.cons (t := 6) rfl (.cons (t := 700) rfl .nil)) (.cons (t := 0) rfl (.cons (t := 1) rfl (.cons (t := 40) rfl .nil))) rfl ?_
        refine tr_ret ?_
        refine pe_then_ret ?_
        refine pe_ownS' [40] rfl hO rfl (.tmp rfl .nil) (.cons (m := 40) rfl (RenR.blk _ _ _) .nil) rfl rfl rfl ?_
        intro τ ι hs'
        refine ⟨?_, ?_⟩
        · exact mv_ren' (hs' 0 _ rfl).1 (hs' 0 _ rfl).2 (by first | omega | (simp; done) | (simp; omega)) (by first | omega | (simp; done) | (simp; omega))
        · exact (.moved rfl (by rw [← insL_grow2 (d := ob0) hlt rfl]; exact fun b o h => h) .nil)
      · (try simp only [Bool.and_eq_true, Bool.or_eq_true, Bool.and_eq_false_iff, Bool.or_eq_false_iff, decide_eq_true_eq, decide_eq_false_iff_not, Bool.not_eq_true', Bool.not_eq_false', List.length_map, ne_eq, Decidable.not_not, Int.not_lt, Int.not_le] at h31)
        have hro : xs.length + 1 ≤ z := by omega
        refine tr_skip ?_
        refine pe_then_normal ?_
        refine tr_sub hC (.cons (t := 0) rfl (.cons (t := 1) rfl (.cons (t := 2) rfl (.cons (t := 7) rfl (.cons (t := 8) rfl (.cons (t := 700) rfl .nil)))))) (.cons (t := 0) rfl (.cons (t := 1) rfl .nil)) rfl ?_
        refine tr_seq ?_
        refine tr_region (fun N13 hN => ?_)
        refine lx (op_move rfl) rfl ?_
        refine lx (op_move rfl) rfl ?_
        refine lx (op_move rfl) rfl ?_
        refine lx (op_add rfl rfl (by omega)) rfl ?_
        refine lx (op_mslice_xh (hi := xs.length + 1) rfl rfl el22 sz33 (by omega) (by omega)) rfl ?_
        refine lx (op_assign rfl) rfl ?_
        refine lx_end ⟨by kernel_rfl, ?_⟩
        refine pe_then_normal ?_
        refine tr_sub hC (.cons (t := 0) rfl (.cons (t := 1) rfl (.cons (t := 2) rfl (.cons (t := 7) rfl (.cons (t := 8) rfl (.cons (t := 700) rfl .nil)))))) (.cons (t := 0) rfl (.cons (t := 1) rfl .nil)) rfl ?_
        refine tr_seq ?_
        refine tr_seq ?_
        refine tr_region (fun N14 hN => ?_)
        refine lx (op_move rfl) rfl ?_
        refine lx (op_move rfl) rfl ?_
        refine lx (op_move rfl) rfl ?_
        refine lx (op_move rfl) rfl ?_
        refine lx (op_add rfl rfl (by omega)) rfl ?_
        refine lx (op_mslice_l rfl rfl el22 sz33 (lo := i + 1) (by omega) (by omega)) rfl ?_
        refine lx (op_overlaps (tS := 22) (tR := 4) (ma := 1) (mb := 0) Try.func59 ⟨⟨rfl, rfl⟩, by kernel_rfl⟩ (by kernel_rfl) rfl rfl rfl rfl rfl rfl (by omega) (by decide) el22 sz33) rfl ?_
        first | refine lx (op_not rfl) rfl ?_ | refine lx (op_not_b rfl) rfl ?_
        refine lx_end ⟨by kernel_rfl, ?_⟩
        refine pe_then_normal ?_
        refine tr_sub hC (.cons (t := 0) rfl (.cons (t := 1) rfl (.cons (t := 2) rfl (.cons (t := 7) rfl (.cons (t := 8) rfl (.cons (t := 68) rfl (.cons (t := 700) rfl .nil))))))) (.cons (t := 0) rfl (.cons (t := 1) rfl .nil)) rfl ?_
        refine tr_cond rfl (fun h68 => ?_) (fun h68 => ?_)
        · (try simp only [Bool.and_eq_true, Bool.or_eq_true, Bool.and_eq_false_iff, Bool.or_eq_false_iff, decide_eq_true_eq, decide_eq_false_iff_not, Bool.not_eq_true', Bool.not_eq_false', List.length_map, ne_eq, Decidable.not_not, Int.not_lt, Int.not_le] at h68)
          refine tr_seq ?_
          refine tr_drawn mixed (fun N15 hN => ?_)
          refine lx (op_move rfl) rfl ?_
          refine lx (op_move rfl) rfl ?_
          refine lx (op_move rfl) rfl ?_
          refine lx (op_add rfl rfl (by omega)) rfl ?_
          refine lx (op_mslice_l rfl rfl el22 sz33 (lo := i + 1) (by omega) (by omega)) rfl ?_
          refine lx (op_move rfl) rfl ?_
          refine lx (op_move rfl) rfl ?_
          refine lx (op_mslice_l rfl rfl el22 sz33 rfl (by omega)) rfl ?_
          refine lxr (op_copy_in (m := 0) (f := Ob.ps) (cnt := xs.length - i) rfl rfl rfl el22 sz33 (by decide) Ob.len (by omega) (by show min _ _ = _; omega) (by omega) (by omega)) rfl ?_
          refine lx_end ⟨by kernel_rfl, ?_⟩
          refine pe_then_normal ?_
          refine tr_sub hC (.cons (t := 0) rfl (.cons (t := 1) rfl (.cons (t := 2) rfl (.cons (t := 700) rfl .nil)))) (.cons (t := 0) rfl (.cons (t := 1) rfl .nil)) rfl ?_
          refine tr_sub hC (.cons (t := 0) rfl (.cons (t := 1) rfl (.ent (t := 2) rfl (Ent.row _ _ _ _) (.cons (t := 700) rfl .nil)))) (.cons (t := 0) rfl (.cons (t := 1) rfl .nil)) rfl ?_
          refine tr_seq ?_
          refine tr_region (fun N16 hN => ?_)
          refine lx (op_move rfl) rfl ?_
          refine lx (op_move rfl) rfl ?_
          refine lx (op_mslice_l rfl rfl el22 sz33 rfl (by omega)) rfl ?_
          refine lx (op_move rfl) rfl ?_
          refine lxr (op_copy_sl (m := 0) (f := Ob.ps) rfl rfl rfl el22 sz33 (by decide) Ob.len (by simp) (by simp; omega) (by first | omega | (simp [spl]; omega))) rfl ?_
          refine lx_end ⟨by kernel_rfl, ?_⟩
          refine pe_then_normal ?_
          refine tr_sub hC (.cons (t := 0) rfl (.cons (t := 700) rfl .nil)) (.cons (t := 0) rfl (.cons (t := 1) rfl .nil)) rfl ?_
          refine tr_seq ?_
          refine tr_region (fun N17 hN => ?_)
          refine lx (op_move rfl) rfl ?_
          refine lx (op_assign rfl) rfl ?_
          refine lx_end ⟨by kernel_rfl, ?_⟩
          refine pe_then_normal ?_
          refine tr_sub hC (.cons (t := 6) rfl (.cons (t := 700) rfl .nil)) (.cons (t := 0) rfl (.cons (t := 1) rfl .nil)) rfl ?_
          refine tr_ret ?_
          refine pe_then_ret ?_
          refine pe_ownS' [0] rfl hO rfl (.tmp rfl .nil) (.cons (m := 0) rfl (RenR.blk _ _ _) .nil) rfl rfl rfl ?_
          intro τ ι hs'
          refine ⟨?_, ?_⟩
          · exact mv_ren' (hs' 0 _ rfl).1 (hs' 0 _ rfl).2 (by first | omega | (simp; done) | (simp; omega)) (by first | omega | (simp; done) | (simp; omega))
          · exact (.moved rfl (by rw [← insL_in2 hlt]; exact fun b o h => h) .nil)
        · exact absurd h68 (by decide)
end Go.Proofs.Ytibcbiamdjmckaa


set_option linter.unusedVariables false
set_option linter.unusedSimpArgs false
namespace Go.Proofs.Ytibcbiamdjmckaa
open Go.AL Go.Ch Go.Hp Go.RowKit
theorem fn40 : fnB Try.prog 40 = true := by kernel_rfl
theorem fn43 : fnB Try.prog 43 = true := by kernel_rfl
theorem Put_own (m : Mc) (o : Ob) (hb : Bd 4000000 m) (ho : BdO 4000000 o) (hs : Srt m.objects) : FnOK Try.prog 24 [aggP m.ps, aggP o.ps] [] 1 (fun ι => aggP (mcG { m with objects := putF o m.objects } (ι 0))) (fun ι => [(ι 0, blkX 4 70 (m.gors.flatMap Gr.ps))]) := by
  refine fn_ownN Try.func24 rfl Try.ntmps24 rfl ?_
  intro σ0 M Rf R hC hO
  simp only [frameOf, tokOf]
  refine tr_seq ?_
  refine tr_region (fun N0 hN => ?_)
  refine lxn (op_box (m := 2) (k := 2) rfl (.agg rfl) (by first | exact hC.low _ (by decide) | rfl)) rfl ?_
  refine lxn (op_box (m := 3) (k := 3) rfl (.agg rfl) (by first | exact hC.low _ (by decide) | rfl)) rfl ?_
  refine lxn (op_alloc (m := 4) (k := 4) (ps := [eqP (.slice none 0 0), eqP (.slice none 0 0), eqP (.slice none 0 0), eqP (.slice none 0 0)]) ze29 rfl rfl (by first | exact hC.low _ (by decide) | rfl)) rfl ?_
  refine lx_end ⟨by kernel_rfl, ?_⟩
  refine pe_then_normal ?_
  refine tr_sub hC (.cons (t := 2) rfl (.cons (t := 3) rfl (.cons (t := 4) rfl .nil))) (.cons (t := 2) rfl (.cons (t := 3) rfl (.cons (t := 4) rfl .nil))) rfl ?_
  refine tr_seq ?_
  refine tr_region (fun N1 hN => ?_)
  refine lx (op_bload (m := 2) rfl rfl ag29 sz29) rfl ?_
  first | refine lx_any rfl (op_callG2 (l := [(Go.Operand.tmp 8)]) (add := [(601, ((N1, 100090), blkX 10 33 (m.objects.flatMap Ob.ps))), (602, ((N1, 100091), blkX 4 70 (m.gors.flatMap Gr.ps)))]) (ks := [100090, 100091]) (φ := aggP ([mvP (N1, 100090) 10 0 m.objects.length m.objects.length, slP Sy.ps 6 m.syncs, mvP (N1, 100091) 4 0 m.gors.length m.gors.length, slP ip 1 m.output])) .nil (copied_own m hb) (.cons rfl .nil) fn40 rfl rfl rfl (.new (by first | exact hC.low _ (by decide) | rfl) (.new (by first | exact hC.low _ (by decide) | rfl) .nil)) rfl) (dOK_spec rfl) ?_ | refine lx_any rfl (op_callG2 (l := [(Go.Operand.tmp 8)]) (add := [(601, ((N1, 100090), blkX 10 33 (m.objects.flatMap Ob.ps))), (602, ((N1, 100091), blkX 4 70 (m.gors.flatMap Gr.ps)))]) (ks := [100090, 100091]) (φ := aggP ([mvP (N1, 100090) 10 0 m.objects.length m.objects.length, slP Sy.ps 6 m.syncs, mvP (N1, 100091) 4 0 m.gors.length m.gors.length, slP ip 1 m.output])) .nil (copied_own m hb) (.ent rfl (by repeat (first | exact Ents.nil | refine Ents.cons ?_ ?_ | refine Ent.tup ?_ | refine Ent.agg ?_ | exact Ent.row _ _ _ _ | exact Ent.nil _ _ | exact Ent.func _ | exact Ent.refl _ | exact Ent.of_eq rfl | refine Ent.cells ?_)) .nil) fn40 rfl rfl rfl (.new (by first | exact hC.low _ (by decide) | rfl) (.new (by first | exact hC.low _ (by decide) | rfl) .nil)) rfl) (dOK_spec rfl) ?_
  refine lxn (op_alloc (m := 5) (k := 5) (ps := [eqP (.slice none 0 0), eqP (.slice none 0 0), eqP (.slice none 0 0), eqP (.slice none 0 0)]) ze29 rfl rfl (by first | exact hC.low _ (by decide) | rfl)) rfl ?_
  refine lxr (op_store_all (m := 5) rfl rfl rfl (.agg rfl) sz29 rfl) rfl ?_
  refine lx_end ⟨by kernel_rfl, ?_⟩
  refine pe_then_normal ?_
  refine tr_sub hC (.cons (t := 3) rfl (.cons (t := 4) rfl (.cons (t := 5) rfl .nil))) (.cons (t := 3) rfl (.cons (t := 4) rfl (.cons (t := 601) rfl (.cons (t := 602) rfl (.cons (t := 5) rfl .nil))))) rfl ?_
  refine tr_seq ?_
  refine tr_region (fun N2 hN => ?_)
  refine lx (op_fieldAddr rfl fl29_0 sz22) rfl ?_
  refine lx (op_bload_one (m := 5) rfl rfl ag22 rfl) rfl ?_
  refine lx (op_fieldAddr rfl fl33_0 sz3) rfl ?_
  refine lx (op_bload_one (m := 3) rfl rfl ag3 rfl) rfl ?_
  first | refine lx_any rfl (op_callG2 (l := [(Go.Operand.tmp 12), (Go.Operand.tmp 14)]) (add := [(601, ((N1, 100090), blkX 10 33 (m.objects.flatMap Ob.ps)))]) (ks := []) (φ := tupP [eqP (.int .i64 (pos m.objects o.id : Int)), eqP (.bool (fnd m.objects o.id))]) (.cons (m := 601) rfl .nil) (search_own (N1, 100090) m.objects o.id hs hb.objects) (.cons rfl (.cons rfl .nil)) fn41 rfl rfl rfl (.old rfl .nil) rfl) (dOK_spec rfl) ?_ | refine lx_any rfl (op_callG2 (l := [(Go.Operand.tmp 12), (Go.Operand.tmp 14)]) (add := [(601, ((N1, 100090), blkX 10 33 (m.objects.flatMap Ob.ps)))]) (ks := []) (φ := tupP [eqP (.int .i64 (pos m.objects o.id : Int)), eqP (.bool (fnd m.objects o.id))]) (.cons (m := 601) rfl .nil) (search_own (N1, 100090) m.objects o.id hs hb.objects) (.ent rfl (by repeat (first | exact Ents.nil | refine Ents.cons ?_ ?_ | refine Ent.tup ?_ | refine Ent.agg ?_ | exact Ent.row _ _ _ _ | exact Ent.nil _ _ | exact Ent.func _ | exact Ent.refl _ | exact Ent.of_eq rfl | refine Ent.cells ?_)) (.ent rfl (by repeat (first | exact Ents.nil | refine Ents.cons ?_ ?_ | refine Ent.tup ?_ | refine Ent.agg ?_ | exact Ent.row _ _ _ _ | exact Ent.nil _ _ | exact Ent.func _ | exact Ent.refl _ | exact Ent.of_eq rfl | refine Ent.cells ?_)) .nil)) fn41 rfl rfl rfl (.old rfl .nil) rfl) (dOK_spec rfl) ?_
  refine lx (op_move rfl) rfl ?_
  refine lx (op_extract rfl rfl) rfl ?_
  refine lx (op_extract rfl rfl) rfl ?_
  refine lx (op_assign rfl) rfl ?_
  refine lx (op_assign rfl) rfl ?_
  refine lx_end ⟨by kernel_rfl, ?_⟩
  refine pe_then_normal ?_
  refine tr_sub hC (.cons (t := 3) rfl (.cons (t := 4) rfl (.cons (t := 5) rfl (.cons (t := 6) rfl (.cons (t := 7) rfl .nil))))) (.cons (t := 3) rfl (.cons (t := 4) rfl (.cons (t := 602) rfl (.cons (t := 5) rfl (.cons (t := 601) rfl .nil))))) rfl ?_
  refine tr_seq ?_
  refine tr_seq ?_
  refine tr_region (fun N3 hN => ?_)
  refine lx (op_move rfl) rfl ?_
  refine lx_end ⟨by kernel_rfl, ?_⟩
  refine pe_then_normal ?_
  refine tr_sub hC (.cons (t := 3) rfl (.cons (t := 4) rfl (.cons (t := 5) rfl (.cons (t := 6) rfl (.cons (t := 18) rfl .nil))))) (.cons (t := 3) rfl (.cons (t := 4) rfl (.cons (t := 602) rfl (.cons (t := 5) rfl (.cons (t := 601) rfl .nil))))) rfl ?_
  refine tr_cond rfl (fun h18 => ?_) (fun h18 => ?_)
  · (try simp only [Bool.and_eq_true, Bool.or_eq_true, Bool.and_eq_false_iff, Bool.or_eq_false_iff, decide_eq_true_eq, decide_eq_false_iff_not, Bool.not_eq_true', Bool.not_eq_false', List.length_map, ne_eq, Decidable.not_not, Int.not_lt, Int.not_le] at h18)
    have hp := put_set h18
    obtain ⟨hpl, o1, ho1, hoid⟩ := fnd_pos h18 hs
    refine tr_drawn mixed (fun N4 hN => ?_)
    refine lx (op_fieldAddr rfl fl29_0 sz22) rfl ?_
    refine lx (op_bload_one (m := 5) rfl rfl ag22 rfl) rfl ?_
    refine lx (op_move rfl) rfl ?_
    refine lx (op_bload (m := 3) rfl rfl ag33 sz33) rfl ?_
    first | refine lx (op_call (l := [(Go.Operand.tmp 22)]) (own_ok o ho) (.cons rfl .nil) fn42) rfl ?_ | refine lx (op_call (l := [(Go.Operand.tmp 22)]) (own_ok o ho) (.ent rfl (by repeat (first | exact Ents.nil | refine Ents.cons ?_ ?_ | refine Ent.tup ?_ | refine Ent.agg ?_ | exact Ent.row _ _ _ _ | exact Ent.nil _ _ | exact Ent.func _ | exact Ent.refl _ | exact Ent.of_eq rfl | refine Ent.cells ?_)) .nil) fn42) rfl ?_
    refine lx (op_index_mv rfl rfl el22 sz33 rfl hpl) rfl ?_
    refine lxr (op_tstore (m := 601) (j := (pos m.objects o.id)) (fo := 0) (z' := o) rfl rfl rfl (.agg rfl) sz33 rfl Ob.len (by omega) ho1 rfl rfl) rfl ?_
    refine lx_end ⟨by kernel_rfl, ?_⟩
    refine pe_then_normal ?_
    refine tr_sub hC (.cons (t := 4) rfl (.cons (t := 5) rfl .nil)) (.cons (t := 4) rfl (.cons (t := 602) rfl (.cons (t := 5) rfl (.cons (t := 601) rfl .nil)))) rfl ?_
    refine tr_bound 0 (m := 601) rfl ?_
    refine tr_freeze (m := 601) rfl (.ent (t := 0) rfl FEnt.frz_bound (.cons (t := 4) rfl (.cons (t := 5) rfl .nil))) ?_
    refine tr_thaw (t := 0) (n := 5) (qs' := [slP Ob.ps 10 (putF o m.objects), slP Sy.ps 6 m.syncs, mvP (N1, 100091) 4 0 m.gors.length m.gors.length, slP ip 1 m.output]) rfl (.cons (t := 4) rfl (.cons (t := 5) rfl .nil)) rfl (.cons (FEnt.mv (by rw [hp]; first | (rw [List.length_set]; done) | rw [insL_len pos_le]) ⟨[], by rw [hp]; simp⟩ Ob.len) (.cons (.of (Ent.refl _)) (.cons (.of (Ent.refl _)) (.cons (.of (Ent.refl _)) .nil)))) ?_
    refine tr_seq ?_
    refine tr_region (fun N6 hN => ?_)
    refine lx (op_bload (m := 5) rfl rfl ag29 sz29) rfl ?_
    refine lxr (op_store_all (m := 4) rfl rfl rfl (.agg rfl) sz29 rfl) rfl ?_
    refine lx_end ⟨by kernel_rfl, ?_⟩
    refine pe_then_normal ?_
    refine tr_sub hC (.cons (t := 4) rfl .nil) (.cons (t := 4) rfl (.cons (t := 602) rfl .nil)) rfl ?_
    refine tr_ret ?_
    refine pe_ownS' [602] rfl hO rfl (.cell (m := 4) rfl rfl ag29 sz29 .nil) (.cons (m := 602) rfl (RenR.blk _ _ _) .nil) rfl rfl rfl ?_
    intro τ ι hs'
    refine ⟨?_, ?_⟩
    · exact aggP_at (.cons (ent_at (Ent.refl _)) (.cons (ent_at (Ent.refl _)) (.cons (mv_ren (hs' 0 _ rfl).1 (hs' 0 _ rfl).2) (.cons (ent_at (Ent.refl _)) .nil))))
    · exact (.moved rfl (fun b o h => h) .nil)
  · (try simp only [Bool.and_eq_true, Bool.or_eq_true, Bool.and_eq_false_iff, Bool.or_eq_false_iff, decide_eq_true_eq, decide_eq_false_iff_not, Bool.not_eq_true', Bool.not_eq_false', List.length_map, ne_eq, Decidable.not_not, Int.not_lt, Int.not_le] at h18)
    have hp := put_ins h18
    refine tr_drawn mixed (fun N5 hN => ?_)
    refine lx (op_fieldAddr rfl fl29_0 sz22) rfl ?_
    refine lx (op_bload_one (m := 5) rfl rfl ag22 rfl) rfl ?_
    refine lx (op_move rfl) rfl ?_
    refine lx (op_bload (m := 3) rfl rfl ag33 sz33) rfl ?_
    first | refine lx (op_call (l := [(Go.Operand.tmp 28)]) (own_ok o ho) (.cons rfl .nil) fn42) rfl ?_ | refine lx (op_call (l := [(Go.Operand.tmp 28)]) (own_ok o ho) (.ent rfl (by repeat (first | exact Ents.nil | refine Ents.cons ?_ ?_ | refine Ent.tup ?_ | refine Ent.agg ?_ | exact Ent.row _ _ _ _ | exact Ent.nil _ _ | exact Ent.func _ | exact Ent.refl _ | exact Ent.of_eq rfl | refine Ent.cells ?_)) .nil) fn42) rfl ?_
    refine lxn (op_buildRow (m' := 30) (kk := 30) (f := Ob.ps) (xs := [o]) (l := [(0, (Go.Operand.tmp 29))]) ze33 rfl rfl (by decide) el22 sz33 Ob.len (.cons rfl (.agg rfl) .nil) rfl (by decide) (by first | exact hC.low _ (by decide) | rfl)) rfl ?_
    first | refine lx_any rfl (op_callG2 (l := [(Go.Operand.tmp 26), (Go.Operand.tmp 27), (Go.Operand.tmp 30)]) (add := [(601, ((N5, 100310), blkX 10 33 ((insL m.objects (pos m.objects o.id) o).flatMap Ob.ps)))]) (ks := [100310]) (φ := mvP (N5, 100310) 10 0 (m.objects.length + 1) (m.objects.length + 1)) (.cons (m := 601) rfl (.cons (m := 30) rfl .nil)) (insert_ok (N1, 100090) (N5, 30) m.objects (pos m.objects o.id) o pos_le hb.objects) (.cons rfl (.cons rfl (.cons rfl .nil))) fn43 rfl rfl rfl (.old rfl .nil) rfl) (dOK_spec rfl) ?_ | refine lx_any rfl (op_callG2 (l := [(Go.Operand.tmp 26), (Go.Operand.tmp 27), (Go.Operand.tmp 30)]) (add := [(601, ((N5, 100310), blkX 10 33 ((insL m.objects (pos m.objects o.id) o).flatMap Ob.ps)))]) (ks := [100310]) (φ := mvP (N5, 100310) 10 0 (m.objects.length + 1) (m.objects.length + 1)) (.cons (m := 601) rfl (.cons (m := 30) rfl .nil)) (insert_ok (N1, 100090) (N5, 30) m.objects (pos m.objects o.id) o pos_le hb.objects) (.ent rfl (by repeat (first | exact Ents.nil | refine Ents.cons ?_ ?_ | refine Ent.tup ?_ | refine Ent.agg ?_ | exact Ent.row _ _ _ _ | exact Ent.nil _ _ | exact Ent.func _ | exact Ent.refl _ | exact Ent.of_eq rfl | refine Ent.cells ?_)) (.ent rfl (by repeat (first | exact Ents.nil | refine Ents.cons ?_ ?_ | refine Ent.tup ?_ | refine Ent.agg ?_ | exact Ent.row _ _ _ _ | exact Ent.nil _ _ | exact Ent.func _ | exact Ent.refl _ | exact Ent.of_eq rfl | refine Ent.cells ?_)) (.ent rfl (by repeat (first | exact Ents.nil | refine Ents.cons ?_ ?_ | refine Ent.tup ?_ | refine Ent.agg ?_ | exact Ent.row _ _ _ _ | exact Ent.nil _ _ | exact Ent.func _ | exact Ent.refl _ | exact Ent.of_eq rfl | refine Ent.cells ?_)) .nil))) fn43 rfl rfl rfl (.old rfl .nil) rfl) (dOK_spec rfl) ?_
    refine lx (op_fieldAddr rfl fl29_0 sz22) rfl ?_
    refine lxr (op_store (m := 5) (rs := [_, _, _, _]) rfl rfl rfl (.one (by (first | exact One.eq rfl | exact One.mv _ _ _ _ _ | exact One.cl _ _ _ | exact One.map _ | exact One.sl _ _ _ | exact One.row _ _ _ _ | exact One.msl _ _ _ _ | exact One.ptr _ _ | exact One.b _ | exact One.cells _))) sz22 rfl rfl rfl) rfl ?_
    refine lx_end ⟨by kernel_rfl, ?_⟩
    refine pe_then_normal ?_
    refine tr_sub hC (.cons (t := 4) rfl (.cons (t := 5) rfl .nil)) (.cons (t := 4) rfl (.cons (t := 602) rfl (.cons (t := 5) rfl (.cons (t := 601) rfl .nil)))) rfl ?_
    refine tr_bound 0 (m := 601) rfl ?_
    refine tr_freeze (m := 601) rfl (.ent (t := 0) rfl FEnt.frz_bound (.cons (t := 4) rfl (.cons (t := 5) rfl .nil))) ?_
    refine tr_thaw (t := 0) (n := 5) (qs' := [slP Ob.ps 10 (putF o m.objects), slP Sy.ps 6 m.syncs, mvP (N1, 100091) 4 0 m.gors.length m.gors.length, slP ip 1 m.output]) rfl (.cons (t := 4) rfl (.cons (t := 5) rfl .nil)) rfl (.cons (FEnt.mv (by rw [hp]; first | (rw [List.length_set]; done) | rw [insL_len pos_le]) ⟨[], by rw [hp]; simp⟩ Ob.len) (.cons (.of (Ent.refl _)) (.cons (.of (Ent.refl _)) (.cons (.of (Ent.refl _)) .nil)))) ?_
    refine tr_seq ?_
    refine tr_region (fun N6 hN => ?_)
    refine lx (op_bload (m := 5) rfl rfl ag29 sz29) rfl ?_
    refine lxr (op_store_all (m := 4) rfl rfl rfl (.agg rfl) sz29 rfl) rfl ?_
    refine lx_end ⟨by kernel_rfl, ?_⟩
    refine pe_then_normal ?_
    refine tr_sub hC (.cons (t := 4) rfl .nil) (.cons (t := 4) rfl (.cons (t := 602) rfl .nil)) rfl ?_
    refine tr_ret ?_
    refine pe_ownS' [602] rfl hO rfl (.cell (m := 4) rfl rfl ag29 sz29 .nil) (.cons (m := 602) rfl (RenR.blk _ _ _) .nil) rfl rfl rfl ?_
    intro τ ι hs'
    refine ⟨?_, ?_⟩
    · exact aggP_at (.cons (ent_at (Ent.refl _)) (.cons (ent_at (Ent.refl _)) (.cons (mv_ren (hs' 0 _ rfl).1 (hs' 0 _ rfl).2) (.cons (ent_at (Ent.refl _)) .nil))))
    · exact (.moved rfl (fun b o h => h) .nil)
end Go.Proofs.Ytibcbiamdjmckaa


set_option linter.unusedVariables false
set_option linter.unusedSimpArgs false
namespace Go.Proofs.Ytibcbiamdjmckaa
open Go.AL Go.Ch Go.Hp Go.RowKit
theorem fn24 : fnB Try.prog 24 = true := by kernel_rfl
theorem Alloc_ok (m : Mc) (x : Int) (o : Ob) (hb : Bd 4000000 m) (ho : BdO 4000000 o) (hs : Srt m.objects) : FnP Try.prog 16 [aggP m.ps, eqP (.int .i64 x), aggP o.ps] (tupP [aggP (allocF putF m x o).1.ps, eqP (.int .i64 (allocF putF m x o).2.1), eqP (.int .i64 (allocF putF m x o).2.2)]) := by
  refine fn_pure' Try.func16 rfl Try.ntmps16 rfl ?_
  intro σ0 M ex Rf R hC hO
  simp only [frameOf, tokOf]
  refine tr_seq ?_
  refine tr_region (fun N0 hN => ?_)
  refine lxn (op_box (m := 3) (k := 3) rfl (.agg rfl) (by first | exact hC.low _ (by decide) | rfl)) rfl ?_
  refine lxn (op_box (m := 5) (k := 5) rfl (.agg rfl) (by first | exact hC.low _ (by decide) | rfl)) rfl ?_
  refine lxn (op_alloc (m := 6) (k := 6) (ps := [eqP (.slice none 0 0), eqP (.slice none 0 0), eqP (.slice none 0 0), eqP (.slice none 0 0)]) ze29 rfl rfl (by first | exact hC.low _ (by decide) | rfl)) rfl ?_
  refine lx (op_assign rfl) rfl ?_
  refine lx (op_assign rfl) rfl ?_
  refine lx_end ⟨by kernel_rfl, ?_⟩
  refine pe_then_normal ?_
  refine tr_sub hC (.cons (t := 1) rfl (.cons (t := 3) rfl (.cons (t := 5) rfl (.cons (t := 6) rfl .nil)))) (.cons (t := 3) rfl (.cons (t := 5) rfl (.cons (t := 6) rfl .nil))) rfl ?_
  refine tr_seq ?_
  refine tr_seq ?_
  refine tr_region (fun N1 hN => ?_)
  refine lx (op_move rfl) rfl ?_
  refine lx (op_lss rfl rfl) rfl ?_
  refine lx (op_move rfl) rfl ?_
  refine lxs rfl rfl rfl guard_eq (.cons (t := 1) rfl (fun _ => Ent.refl _) .nil) (op_move rfl) rfl ?_
  refine lxs rfl rfl rfl guard_eq (.cons (t := 14) rfl (fun h => entW h) .nil) (op_geq rfl rfl) rfl ?_
  refine lx (op_pick_or rfl rfl) rfl ?_
  refine lx (op_move rfl) rfl ?_
  refine lxs rfl rfl rfl guard_eq (.cons (t := 1) rfl (fun _ => Ent.refl _) .nil) (op_move rfl) rfl ?_
  refine lxs rfl rfl rfl guard_eq (.cons (t := 3) rfl (fun _ => Ent.refl _) .nil) (op_fieldAddr rfl fl29_2 sz26) rfl ?_
  refine lxs rfl rfl rfl guard_eq (.cons (t := 19) rfl (fun h => entW h) .nil) (op_bload_one (m := 3) rfl rfl ag26 rfl) rfl ?_
  first | refine lxs rfl rfl rfl guard_eq (.cons (t := 20) rfl (fun h => entW h) .nil) (op_len rfl el26) rfl ?_ | refine lxs rfl rfl rfl guard_eq (.cons (t := 20) rfl (fun h => entW h) .nil) (op_len_row rfl el26) rfl ?_ | refine lxs rfl rfl rfl guard_eq (.cons (t := 20) rfl (fun h => entW h) .nil) (op_len_mv rfl el26) rfl ?_ | refine lxs rfl rfl rfl guard_eq (.cons (t := 20) rfl (fun h => entW h) .nil) (op_len_nil rfl el26) rfl ?_
  refine lxs rfl rfl rfl guard_eq (.cons (t := 18) rfl (fun h => entW h) (.cons (t := 21) rfl (fun h => entW h) .nil)) (op_geq rfl rfl) rfl ?_
  refine lx (op_pick_or rfl rfl) rfl ?_
  refine lx_end ⟨by kernel_rfl, ?_⟩
  refine pe_then_normal ?_
  refine tr_sub hC (.cons (t := 1) rfl (.cons (t := 3) rfl (.cons (t := 5) rfl (.cons (t := 6) rfl (.cons (t := 23) rfl .nil))))) (.cons (t := 3) rfl (.cons (t := 5) rfl (.cons (t := 6) rfl .nil))) rfl ?_
  refine tr_cond rfl (fun h23 => ?_) (fun h23 => ?_)
  · (try simp only [Bool.and_eq_true, Bool.or_eq_true, Bool.and_eq_false_iff, Bool.or_eq_false_iff, decide_eq_true_eq, decide_eq_false_iff_not, Bool.not_eq_true', Bool.not_eq_false', List.length_map, ne_eq, Decidable.not_not, Int.not_lt, Int.not_le] at h23)
    have h := alloc_1 (put := putF) (m := m) (g := x) (o := o) (by omega)
    refine tr_seq ?_
    refine tr_region (fun N2 hN => ?_)
    refine lx (op_build (qs := [_, _, _, _]) (parts := []) ze29 rfl rfl fs29 .nil rfl rfl) rfl ?_
    refine lxr (op_store_all (m := 6) rfl rfl rfl (.agg rfl) sz29 rfl) rfl ?_
    refine lx (op_assign rfl) rfl ?_
    refine lx (op_assign rfl) rfl ?_
    refine lx_end ⟨by kernel_rfl, ?_⟩
    refine pe_then_normal ?_
    refine tr_sub hC (.cons (t := 6) rfl (.cons (t := 7) rfl (.cons (t := 8) rfl .nil))) (.cons (t := 6) rfl .nil) rfl ?_
    refine tr_ret ?_
    refine pe_then_ret ?_
    refine pe_retN (rs := [.cell 6 29, .tmp 7, .tmp 8]) rfl rfl hO rfl (.cell (m := 6) rfl rfl ag29 sz29 (.tmp rfl (.tmp rfl .nil))) ?_
    rw [h]
    repeat (first | exact Ents.nil | refine Ents.cons ?_ ?_ | refine Ent.tup ?_ | refine Ent.agg ?_ | exact Ent.row _ _ _ _ | exact Ent.nil _ _ | exact Ent.func _ | exact Ent.refl _ | exact Ent.of_eq rfl | refine Ent.cells ?_)
  · (try simp only [Bool.and_eq_true, Bool.or_eq_true, Bool.and_eq_false_iff, Bool.or_eq_false_iff, decide_eq_true_eq, decide_eq_false_iff_not, Bool.not_eq_true', Bool.not_eq_false', List.length_map, ne_eq, Decidable.not_not, Int.not_lt, Int.not_le] at h23)
    have hx : 0 ≤ x ∧ x < (m.gors.length : Int) ∧ x < 8 := by omega
    obtain ⟨gr, hgr⟩ : ∃ gr, m.gors[x.toNat]? = some gr := ⟨_, List.getElem?_eq_getElem (by omega)⟩
    refine tr_skip ?_
    refine pe_then_normal ?_
    refine tr_sub hC (.cons (t := 1) rfl (.cons (t := 3) rfl (.cons (t := 5) rfl (.cons (t := 6) rfl .nil)))) (.cons (t := 3) rfl (.cons (t := 5) rfl (.cons (t := 6) rfl .nil))) rfl ?_
    refine tr_seq ?_
    refine tr_region (fun N3 hN => ?_)
    refine lx (op_fieldAddr rfl fl29_2 sz26) rfl ?_
    refine lx (op_bload_one (m := 3) rfl rfl ag26 rfl) rfl ?_
    refine lx (op_move rfl) rfl ?_
    refine lx (op_index rfl rfl el26 sz70 (by omega : x = ((x.toNat : Nat) : Int)) hgr) rfl ?_
    first | refine lx (op_fieldAddr rfl fl70_2 sz3) rfl ?_ | refine lx (op_fieldCells rfl fl70_2 sz3) rfl ?_
    first | refine lx (op_load_one rfl ag3 rfl) rfl ?_ | refine lx (op_bload_one (m := 3) rfl rfl ag3 rfl) rfl ?_ | refine lx (op_bload_one (m := 5) rfl rfl ag3 rfl) rfl ?_ | refine lx (op_bload_one (m := 6) rfl rfl ag3 rfl) rfl ?_
    refine lx (op_assign rfl) rfl ?_
    refine lx_end ⟨by kernel_rfl, ?_⟩
    refine pe_then_normal ?_
    refine tr_sub hC (.cons (t := 1) rfl (.cons (t := 3) rfl (.cons (t := 5) rfl (.cons (t := 6) rfl (.cons (t := 9) rfl .nil))))) (.cons (t := 3) rfl (.cons (t := 5) rfl (.cons (t := 6) rfl .nil))) rfl ?_
    refine tr_seq ?_
    refine tr_seq ?_
    refine tr_region (fun N4 hN => ?_)
    refine lx (op_move rfl) rfl ?_
    refine lx (op_lss rfl rfl) rfl ?_
    refine lx (op_move rfl) rfl ?_
    refine lxs rfl rfl rfl guard_eq (.cons (t := 9) rfl (fun _ => Ent.refl _) .nil) (op_move rfl) rfl ?_
    refine lxs rfl rfl rfl guard_eq (.cons (t := 34) rfl (fun h => entW h) .nil) (op_geq rfl rfl) rfl ?_
    refine lx (op_pick_or rfl rfl) rfl ?_
    refine lx_end ⟨by kernel_rfl, ?_⟩
    refine pe_then_normal ?_
    refine tr_sub hC (.cons (t := 1) rfl (.cons (t := 3) rfl (.cons (t := 5) rfl (.cons (t := 6) rfl (.cons (t := 9) rfl (.cons (t := 36) rfl .nil)))))) (.cons (t := 3) rfl (.cons (t := 5) rfl (.cons (t := 6) rfl .nil))) rfl ?_
    refine tr_cond rfl (fun h36 => ?_) (fun h36 => ?_)
    · (try simp only [Bool.and_eq_true, Bool.or_eq_true, Bool.and_eq_false_iff, Bool.or_eq_false_iff, decide_eq_true_eq, decide_eq_false_iff_not, Bool.not_eq_true', Bool.not_eq_false', List.length_map, ne_eq, Decidable.not_not, Int.not_lt, Int.not_le] at h36)
      have h := alloc_2 (put := putF) (o := o) (by omega) hgr (by omega)
      refine tr_seq ?_
      refine tr_region (fun N5 hN => ?_)
      refine lx (op_build (qs := [_, _, _, _]) (parts := []) ze29 rfl rfl fs29 .nil rfl rfl) rfl ?_
      refine lxr (op_store_all (m := 6) rfl rfl rfl (.agg rfl) sz29 rfl) rfl ?_
      refine lx (op_assign rfl) rfl ?_
      refine lx (op_assign rfl) rfl ?_
      refine lx_end ⟨by kernel_rfl, ?_⟩
      refine pe_then_normal ?_
      refine tr_sub hC (.cons (t := 6) rfl (.cons (t := 7) rfl (.cons (t := 8) rfl .nil))) (.cons (t := 6) rfl .nil) rfl ?_
      refine tr_ret ?_
      refine pe_then_ret ?_
      refine pe_retN (rs := [.cell 6 29, .tmp 7, .tmp 8]) rfl rfl hO rfl (.cell (m := 6) rfl rfl ag29 sz29 (.tmp rfl (.tmp rfl .nil))) ?_
      rw [h]
      repeat (first | exact Ents.nil | refine Ents.cons ?_ ?_ | refine Ent.tup ?_ | refine Ent.agg ?_ | exact Ent.row _ _ _ _ | exact Ent.nil _ _ | exact Ent.func _ | exact Ent.refl _ | exact Ent.of_eq rfl | refine Ent.cells ?_)
    · (try simp only [Bool.and_eq_true, Bool.or_eq_true, Bool.and_eq_false_iff, Bool.or_eq_false_iff, decide_eq_true_eq, decide_eq_false_iff_not, Bool.not_eq_true', Bool.not_eq_false', List.length_map, ne_eq, Decidable.not_not, Int.not_lt, Int.not_le] at h36)
      have h := alloc_3 (put := putF) (o := o) (by omega) hgr (by omega)
      refine tr_skip ?_
      refine pe_then_normal ?_
      refine tr_sub hC (.cons (t := 1) rfl (.cons (t := 3) rfl (.cons (t := 5) rfl (.cons (t := 6) rfl (.cons (t := 9) rfl .nil))))) (.cons (t := 3) rfl (.cons (t := 5) rfl (.cons (t := 6) rfl .nil))) rfl ?_
      refine tr_seq ?_
      refine tr_region (fun N6 hN => ?_)
      refine lx (op_move rfl) rfl ?_
      refine lx (op_add rfl rfl (by omega)) rfl ?_
      refine lx (op_move rfl) rfl ?_
      refine lx (op_mul rfl rfl (by omega)) rfl ?_
      refine lx (op_add rfl rfl (by omega)) rfl ?_
      refine lx (op_fieldAddr rfl fl33_0 sz3) rfl ?_
      refine lxr (op_store (m := 5) (rs := [_, _, _, _, _, _, _, _, _, _]) rfl rfl rfl (.one (by (first | exact One.eq rfl | exact One.mv _ _ _ _ _ | exact One.cl _ _ _ | exact One.map _ | exact One.sl _ _ _ | exact One.row _ _ _ _ | exact One.msl _ _ _ _ | exact One.ptr _ _ | exact One.b _ | exact One.cells _))) sz3 rfl rfl rfl) rfl ?_
      refine lx_end ⟨by kernel_rfl, ?_⟩
      refine pe_then_normal ?_
      refine tr_sub hC (.cons (t := 1) rfl (.cons (t := 3) rfl (.cons (t := 5) rfl (.cons (t := 6) rfl .nil)))) (.cons (t := 3) rfl (.cons (t := 5) rfl (.cons (t := 6) rfl .nil))) rfl ?_
      refine tr_seq ?_
      refine tr_region (fun N7 hN => ?_)
      refine lx (op_bload (m := 3) rfl rfl ag29 sz29) rfl ?_
      refine lx (op_bload (m := 5) rfl rfl ag33 sz33) rfl ?_
      first | refine lx_any rfl (op_callG2 (l := [(Go.Operand.tmp 44), (Go.Operand.tmp 45)]) (add := [(601, ((N7, 100460), blkX 4 70 (m.gors.flatMap Gr.ps)))]) (ks := [100460]) (φ := aggP (mcG { m with objects := putF { o with id := nid x gr.allocs } m.objects } (N7, 100460))) .nil (Put_own m { o with id := nid x gr.allocs } hb ⟨ho.cells, ho.queue, ho.senders, ho.receivers⟩ hs) (.cons rfl (.cons rfl .nil)) fn24 rfl rfl rfl (.new (by first | exact hC.low _ (by decide) | rfl) .nil) rfl) (dOK_spec rfl) ?_ | refine lx_any rfl (op_callG2 (l := [(Go.Operand.tmp 44), (Go.Operand.tmp 45)]) (add := [(601, ((N7, 100460), blkX 4 70 (m.gors.flatMap Gr.ps)))]) (ks := [100460]) (φ := aggP (mcG { m with objects := putF { o with id := nid x gr.allocs } m.objects } (N7, 100460))) .nil (Put_own m { o with id := nid x gr.allocs } hb ⟨ho.cells, ho.queue, ho.senders, ho.receivers⟩ hs) (.ent rfl (by repeat (first | exact Ents.nil | refine Ents.cons ?_ ?_ | refine Ent.tup ?_ | refine Ent.agg ?_ | exact Ent.row _ _ _ _ | exact Ent.nil _ _ | exact Ent.func _ | exact Ent.refl _ | exact Ent.of_eq rfl | refine Ent.cells ?_)) (.ent rfl (by repeat (first | exact Ents.nil | refine Ents.cons ?_ ?_ | refine Ent.tup ?_ | refine Ent.agg ?_ | exact Ent.row _ _ _ _ | exact Ent.nil _ _ | exact Ent.func _ | exact Ent.refl _ | exact Ent.of_eq rfl | refine Ent.cells ?_)) .nil)) fn24 rfl rfl rfl (.new (by first | exact hC.low _ (by decide) | rfl) .nil) rfl) (dOK_spec rfl) ?_
      refine lxn (op_alloc (m := 10) (k := 10) (ps := [eqP (.slice none 0 0), eqP (.slice none 0 0), eqP (.slice none 0 0), eqP (.slice none 0 0)]) ze29 rfl rfl (by first | exact hC.low _ (by decide) | rfl)) rfl ?_
      refine lxr (op_store_all (m := 10) rfl rfl rfl (.agg rfl) sz29 rfl) rfl ?_
      refine lx_end ⟨by kernel_rfl, ?_⟩
      refine pe_then_normal ?_
      refine tr_sub hC (.cons (t := 1) rfl (.cons (t := 5) rfl (.cons (t := 6) rfl (.cons (t := 10) rfl .nil)))) (.cons (t := 5) rfl (.cons (t := 6) rfl (.cons (t := 601) rfl (.cons (t := 10) rfl .nil)))) rfl ?_
      refine tr_seq ?_
      refine tr_region (fun N8 hN => ?_)
      refine lx (op_fieldAddr rfl fl29_2 sz26) rfl ?_
      refine lx (op_bload_one (m := 10) rfl rfl ag26 rfl) rfl ?_
      refine lx (op_move rfl) rfl ?_
      refine lx (op_index_mv rfl rfl el26 sz70 (by omega : x = ((x.toNat : Nat) : Int)) (show x.toNat < m.gors.length by omega)) rfl ?_
      refine lx (op_fieldAddr rfl fl70_2 sz3) rfl ?_
      refine lx (op_tload_one (m := 601) (j := x.toNat) (fo := 2) rfl rfl ag3 Gr.len (by omega) hgr rfl) rfl ?_
      refine lx (op_add rfl rfl (by omega)) rfl ?_
      refine lx (op_index_mv rfl rfl el26 sz70 (by omega : x = ((x.toNat : Nat) : Int)) (show x.toNat < m.gors.length by omega)) rfl ?_
      refine lx (op_fieldAddr rfl fl70_2 sz3) rfl ?_
      refine lxr (op_tstore (m := 601) (j := x.toNat) (fo := 2) (z' := { gr with allocs := gr.allocs + 1 }) rfl rfl rfl (.one (by (first | exact One.eq rfl | exact One.mv _ _ _ _ _ | exact One.cl _ _ _ | exact One.map _ | exact One.sl _ _ _ | exact One.row _ _ _ _ | exact One.msl _ _ _ _ | exact One.ptr _ _ | exact One.b _ | exact One.cells _))) sz3 rfl Gr.len (by omega) hgr rfl rfl) rfl ?_
      refine lx_end ⟨by kernel_rfl, ?_⟩
      refine pe_then_normal ?_
      refine tr_sub hC (.cons (t := 5) rfl (.cons (t := 6) rfl (.cons (t := 10) rfl .nil))) (.cons (t := 5) rfl (.cons (t := 6) rfl (.cons (t := 601) rfl (.cons (t := 10) rfl .nil)))) rfl ?_
      refine tr_bound 0 (m := 601) rfl ?_
      refine tr_freeze (m := 601) rfl (.ent (t := 0) rfl FEnt.frz_bound (.cons (t := 5) rfl (.cons (t := 6) rfl (.cons (t := 10) rfl .nil)))) ?_
      refine tr_thaw (t := 0) (n := 10) (qs' := Mc.ps ({ m with objects := putF { o with id := nid x gr.allocs } m.objects, gors := m.gors.set x.toNat { gr with allocs := gr.allocs + 1 } })) rfl (.cons (t := 5) rfl (.cons (t := 6) rfl (.cons (t := 10) rfl .nil))) rfl (.cons (.of (Ent.refl _)) (.cons (.of (Ent.refl _)) (.cons (FEnt.mv (by simp) ⟨[], by simp⟩ Gr.len) (.cons (.of (Ent.refl _)) .nil)))) ?_
      refine tr_seq ?_
      refine tr_drawn mixed (fun N9 hN => ?_)
      refine lx (op_bload (m := 10) rfl rfl ag29 sz29) rfl ?_
      refine lx (op_fieldAddr rfl fl33_0 sz3) rfl ?_
      refine lx (op_bload_one (m := 5) rfl rfl ag3 rfl) rfl ?_
      refine lxr (op_store_all (m := 6) rfl rfl rfl (.agg rfl) sz29 rfl) rfl ?_
      refine lx (op_assign rfl) rfl ?_
      refine lx (op_assign rfl) rfl ?_
      refine lx_end ⟨by kernel_rfl, ?_⟩
      refine pe_then_normal ?_
      refine tr_sub hC (.cons (t := 6) rfl (.cons (t := 7) rfl (.cons (t := 8) rfl .nil))) (.cons (t := 6) rfl .nil) rfl ?_
      refine tr_ret ?_
      refine pe_retN (rs := [.cell 6 29, .tmp 7, .tmp 8]) rfl rfl hO rfl (.cell (m := 6) rfl rfl ag29 sz29 (.tmp rfl (.tmp rfl .nil))) ?_
      rw [h]
      repeat (first | exact Ents.nil | refine Ents.cons ?_ ?_ | refine Ent.tup ?_ | refine Ent.agg ?_ | exact Ent.row _ _ _ _ | exact Ent.nil _ _ | exact Ent.func _ | exact Ent.refl _ | exact Ent.of_eq rfl | refine Ent.cells ?_)
end Go.Proofs.Ytibcbiamdjmckaa


set_option linter.unusedVariables false
set_option linter.unusedSimpArgs false
namespace Go.Proofs.Ytibcbiamdjmckaa
open Go.AL Go.Ch Go.Hp Go.RowKit
set_option maxHeartbeats 4000000 in
theorem copied_cell (m : Mc) (hb : Bd 4000000 m) (i : Nat) (hi : i < m.objects.length) : FnOK Try.prog 40 [aggP m.ps] [] 2 (fun ι => aggP ([mvP (ι 0) 10 0 m.objects.length m.objects.length, slP Sy.ps 6 m.syncs, slP Gr.ps 4 m.gors, slP ip 1 m.output])) (fun ι => [(ι 0, blkX 10 33 ((selL m.objects i (ι 1)).flatMap obE)), (ι 1, blkX 3 41 (m.objects[i].cells.flatMap vp))]) := by
  have hbo := hb.objects
  have hbs := hb.syncs
  have hbg := hb.gors
  have hbt := hb.output
  refine fn_ownN Try.func40 rfl Try.ntmps40 rfl ?_
  intro σ0 M Rf R hC hO
  simp only [frameOf, tokOf]
  refine tr_seq ?_
  refine tr_region (fun N0 hN => ?_)
  refine lxn (op_box (m := 1) (k := 1) rfl (.agg rfl) (by first | exact hC.low _ (by decide) | rfl)) rfl ?_
  refine lxn (op_alloc (m := 2) (k := 2) (ps := [eqP (.slice none 0 0), eqP (.slice none 0 0), eqP (.slice none 0 0), eqP (.slice none 0 0)]) ze29 rfl rfl (by first | exact hC.low _ (by decide) | rfl)) rfl ?_
  refine lx_end ⟨by kernel_rfl, ?_⟩
  refine pe_then_normal ?_
  refine tr_sub hC (.cons (t := 1) rfl (.cons (t := 2) rfl .nil)) (.cons (t := 1) rfl (.cons (t := 2) rfl .nil)) rfl ?_
  refine tr_seq ?_
  refine tr_region (fun N1 hN => ?_)
  refine lx (op_fieldAddr rfl fl29_3 sz27) rfl ?_
  refine lx (op_bload_one (m := 1) rfl rfl ag27 rfl) rfl ?_
  first | refine lx (op_call (l := [(Go.Operand.tmp 15)]) (icl m.output hbt) (.cons rfl .nil) fn51) rfl ?_ | refine lx (op_call (l := [(Go.Operand.tmp 15)]) (icl m.output hbt) (.ent rfl (by repeat (first | exact Ents.nil | refine Ents.cons ?_ ?_ | refine Ent.tup ?_ | refine Ent.agg ?_ | exact Ent.row _ _ _ _ | exact Ent.nil _ _ | exact Ent.func _ | exact Ent.refl _ | exact Ent.of_eq rfl | refine Ent.cells ?_)) .nil) fn51) rfl ?_
  refine lx (op_build (qs := [_, _, _, _]) (parts := [(3, (Go.Operand.tmp 16))]) ze29 rfl rfl fs29 (.cons rfl (.one (by (first | exact One.eq rfl | exact One.mv _ _ _ _ _ | exact One.cl _ _ _ | exact One.map _ | exact One.sl _ _ _ | exact One.row _ _ _ _ | exact One.msl _ _ _ _ | exact One.ptr _ _ | exact One.b _ | exact One.cells _))) fl29_3 sz27 rfl .nil) rfl rfl) rfl ?_
  refine lxn (op_alloc (m := 3) (k := 3) (ps := [eqP (.slice none 0 0), eqP (.slice none 0 0), eqP (.slice none 0 0), eqP (.slice none 0 0)]) ze29 rfl rfl (by first | exact hC.low _ (by decide) | rfl)) rfl ?_
  refine lxr (op_store_all (m := 3) rfl rfl rfl (.agg rfl) sz29 rfl) rfl ?_
  refine lx_end ⟨by kernel_rfl, ?_⟩
  refine pe_then_normal ?_
  refine tr_sub hC (.cons (t := 1) rfl (.cons (t := 2) rfl (.cons (t := 3) rfl .nil))) (.cons (t := 1) rfl (.cons (t := 2) rfl (.cons (t := 3) rfl .nil))) rfl ?_
  refine tr_seq ?_
  refine tr_seq ?_
  refine tr_region (fun N2 hN => ?_)
  refine lx (op_fieldAddr rfl fl29_0 sz22) rfl ?_
  refine lx (op_bload_one (m := 1) rfl rfl ag22 rfl) rfl ?_
  first | refine lx (op_len rfl el22) rfl ?_ | refine lx (op_len_row rfl el22) rfl ?_ | refine lx (op_len_mv rfl el22) rfl ?_ | refine lx (op_len_nil rfl el22) rfl ?_
  refine lx (op_move rfl) rfl ?_
  refine lx_end ⟨by kernel_rfl, ?_⟩
  refine pe_then_normal ?_
  refine tr_sub hC (.cons (t := 1) rfl (.cons (t := 2) rfl (.cons (t := 3) rfl (.cons (t := 19) rfl (.cons (t := 20) rfl (.cons (t := 21) rfl .nil)))))) (.cons (t := 1) rfl (.cons (t := 2) rfl (.cons (t := 3) rfl .nil))) rfl ?_
  refine tr_block ?_
  refine tr_nilboxM 10 33 3 0 600 rfl rfl (by first | exact hC.low _ (by decide) | rfl) (fun idN => ?_)
  try dsimp only [List.set]
  refine tr_dummy 3 41 605 (by first | exact hC.low _ (by decide) | rfl) (fun idC => ?_)
  refine tr_loopK (α := {zz : Nat × (List (Ob × Option AL.Id)) × AL.Id × AL.Id × (List V) // zz.1 ≤ m.objects.length ∧ zz.2.1 = selL (m.objects.take zz.1) i zz.2.2.2.1 ∧ zz.2.2.2.2 = selC m.objects i zz.1}) (⟨(0, [], idN, idC, []), Nat.zero_le _, rfl, by unfold selC; rw [if_neg (by omega)]⟩) (fun zz => [(21, eqP (.int .i64 (zz.1.1 : Int)))]) (fun zz => [(3, some ((N1, 3), blk 29 [mvP zz.1.2.2.1 10 0 zz.1.2.1.length zz.1.2.1.length, eqP (.slice none 0 0), eqP (.slice none 0 0), slP ip 1 m.output])), (600, some (zz.1.2.2.1, blkX 10 33 (zz.1.2.1.flatMap obE))), (605, some (zz.1.2.2.2.1, blkX 3 41 (zz.1.2.2.2.2.flatMap vp)))]) (fun zz => m.objects.length - zz.1.1) hC (.cons (t := 1) rfl (.cons (t := 2) rfl (.cons (t := 3) rfl (.cons (t := 19) rfl (.cons (t := 20) rfl .nil))))) (.cons (t := 1) rfl (.cons (t := 2) rfl .nil)) rfl ?_ ?_ (fun zz => ?_)
  · try dsimp only [List.cons_append, List.nil_append]
    first | refine SubF.cons rfl ?_ | (refine SubF.ent rfl ?_ ?_; · repeat (first | exact Ents.nil | refine Ents.cons ?_ ?_ | refine Ent.tup ?_ | refine Ent.agg ?_ | exact Ent.row _ _ _ _ | exact Ent.nil _ _ | exact Ent.func _ | exact Ent.refl _ | exact Ent.of_eq rfl | refine Ent.cells ?_))
    exact SubF.nil
  · try dsimp only [List.cons_append, List.nil_append]
    repeat (first | exact SubL.nil | refine SubL.cons rfl ?_)
  · obtain ⟨⟨k, xs, io, ic, cs⟩, hk1, hxs, hcs⟩ := zz
    try dsimp only at hk1
    try dsimp only at hxs
    try dsimp only at hcs
    dsimp only [List.cons_append, List.nil_append]
    refine tr_seq ?_
    refine tr_region (fun N3 hN => ?_)
    refine lx (op_lss rfl rfl) rfl ?_
    refine lx_end ⟨by kernel_rfl, ?_⟩
    refine pe_then_normal ?_
    refine tr_sub hC (.cons (t := 1) rfl (.cons (t := 2) rfl (.cons (t := 3) rfl (.cons (t := 19) rfl (.cons (t := 20) rfl (.cons (t := 21) rfl (.cons (t := 22) rfl .nil))))))) (.cons (t := 3) rfl (.cons (t := 600) rfl (.cons (t := 605) rfl (.cons (t := 1) rfl (.cons (t := 2) rfl .nil))))) rfl ?_
    refine tr_seq ?_
    refine tr_cond rfl (fun h22 => ?_) (fun h22 => ?_)
    · (try simp only [Bool.and_eq_true, Bool.or_eq_true, Bool.and_eq_false_iff, Bool.or_eq_false_iff, decide_eq_true_eq, decide_eq_false_iff_not, Bool.not_eq_true', Bool.not_eq_false', List.length_map, ne_eq, Decidable.not_not, Int.not_lt, Int.not_le] at h22)
      have hbk := hb.object _ (List.getElem_mem (by omega : k < m.objects.length))
      have hxl : xs.length ≤ k := by rw [hxs, selL_len, List.length_take]; omega
      refine tr_skip ?_
      refine pe_then_normal ?_
      refine tr_sub hC (.cons (t := 1) rfl (.cons (t := 2) rfl (.cons (t := 3) rfl (.cons (t := 19) rfl (.cons (t := 20) rfl (.cons (t := 21) rfl .nil)))))) (.cons (t := 3) rfl (.cons (t := 600) rfl (.cons (t := 605) rfl (.cons (t := 1) rfl (.cons (t := 2) rfl .nil))))) rfl ?_
      refine tr_seq ?_
      refine tr_block ?_
      refine tr_seq ?_
      refine tr_region (fun N4 hN => ?_)
      refine lx (op_index rfl rfl el22 sz33 rfl (List.getElem?_eq_getElem (by omega : k < m.objects.length))) rfl ?_
      first | refine lx (op_load_all rfl ag33 sz33) rfl ?_ | refine lx (op_load_agg rfl ag33 sz33 rfl) rfl ?_ | refine lx (op_bload (m := 3) rfl rfl ag33 sz33) rfl ?_ | refine lx (op_bload (m := 600) rfl rfl ag33 sz33) rfl ?_ | refine lx (op_bload (m := 605) rfl rfl ag33 sz33) rfl ?_ | refine lx (op_bload (m := 1) rfl rfl ag33 sz33) rfl ?_ | refine lx (op_bload (m := 2) rfl rfl ag33 sz33) rfl ?_ | refine lx (op_bload_part (m := 3) (qs := [_, _, _, _, _, _, _, _, _, _]) rfl rfl ag33 sz33 rfl rfl) rfl ?_ | refine lx (op_bload_part (m := 600) (qs := [_, _, _, _, _, _, _, _, _, _]) rfl rfl ag33 sz33 rfl rfl) rfl ?_ | refine lx (op_bload_part (m := 605) (qs := [_, _, _, _, _, _, _, _, _, _]) rfl rfl ag33 sz33 rfl rfl) rfl ?_ | refine lx (op_bload_part (m := 1) (qs := [_, _, _, _, _, _, _, _, _, _]) rfl rfl ag33 sz33 rfl rfl) rfl ?_ | refine lx (op_bload_part (m := 2) (qs := [_, _, _, _, _, _, _, _, _, _]) rfl rfl ag33 sz33 rfl rfl) rfl ?_
      refine lxn (op_alloc (m := 5) (k := 5) (ps := [eqP (.int .i64 0), eqP (.slice none 0 0), eqP (.bool false), eqP (.int .i64 0), eqP (.slice none 0 0), eqP (.bool false), eqP (.int .i64 0), eqP (.int .i64 0), eqP (.slice none 0 0), eqP (.slice none 0 0)]) ze33 rfl rfl (by first | exact hC.low _ (by decide) | rfl)) rfl ?_
      refine lxr (op_store_all (m := 5) rfl rfl rfl (.agg rfl) sz33 rfl) rfl ?_
      refine lx_end ⟨by kernel_rfl, ?_⟩
      refine pe_then_normal ?_
      refine tr_sub hC (.cons (t := 1) rfl (.cons (t := 2) rfl (.cons (t := 3) rfl (.cons (t := 5) rfl (.cons (t := 19) rfl (.cons (t := 20) rfl (.cons (t := 21) rfl .nil))))))) (.cons (t := 3) rfl (.cons (t := 600) rfl (.cons (t := 605) rfl (.cons (t := 1) rfl (.cons (t := 2) rfl (.cons (t := 5) rfl .nil)))))) rfl ?_
      by_cases hki : k = i
      · refine tr_sub hC (.cons (t := 1) rfl (.cons (t := 2) rfl (.cons (t := 3) rfl (.cons (t := 5) rfl (.cons (t := 19) rfl (.cons (t := 20) rfl (.cons (t := 21) rfl .nil))))))) (.cons (t := 3) rfl (.cons (t := 600) rfl (.cons (t := 1) rfl (.cons (t := 2) rfl (.cons (t := 5) rfl .nil))))) rfl ?_
        refine tr_drawn mixed (fun N5 hN => ?_)
        refine lx (op_fieldAddr rfl fl29_0 sz22) rfl ?_
        refine lx (op_bload_one (m := 3) rfl rfl ag22 rfl) rfl ?_
        refine lx (op_bload (m := 5) rfl rfl ag33 sz33) rfl ?_
        first | refine lx_any rfl (op_callG2 (l := [(Go.Operand.tmp 27)]) (add := [(605, ((N5, 100280), blkX 3 41 (m.objects[k].cells.flatMap vp)))]) (ks := [100280]) (φ := aggP (obCs m.objects[k] (N5, 100280))) .nil (own_own m.objects[k] hbk) (.cons rfl .nil) fn42 rfl rfl rfl (.new (by first | exact hC.low _ (by decide) | rfl) .nil) rfl) (dOK_spec rfl) ?_ | refine lx_any rfl (op_callG2 (l := [(Go.Operand.tmp 27)]) (add := [(605, ((N5, 100280), blkX 3 41 (m.objects[k].cells.flatMap vp)))]) (ks := [100280]) (φ := aggP (obCs m.objects[k] (N5, 100280))) .nil (own_own m.objects[k] hbk) (.ent rfl (by repeat (first | exact Ents.nil | refine Ents.cons ?_ ?_ | refine Ent.tup ?_ | refine Ent.agg ?_ | exact Ent.row _ _ _ _ | exact Ent.nil _ _ | exact Ent.func _ | exact Ent.refl _ | exact Ent.of_eq rfl | refine Ent.cells ?_)) .nil) fn42 rfl rfl rfl (.new (by first | exact hC.low _ (by decide) | rfl) .nil) rfl) (dOK_spec rfl) ?_
        refine lx (op_buildSlice (f := obE) (xs := [(m.objects[k], some (N5, 100280))]) (l := [(0, (Go.Operand.tmp 28))]) ze33 rfl rfl (by decide) el22 sz33 obE_len (.cons rfl (.agg rfl) .nil) rfl (by decide)) rfl ?_
        refine lxr (op_append_t (m := 600) (m' := 600) (kk := 30) (f := obE) rfl rfl rfl (.inl rfl) el22 ze33 sz33 by33 rfl (by decide) obE_len (by rw [List.length_singleton]; omega) (by rw [List.length_singleton]; omega)) rfl ?_
        refine lx (op_fieldAddr rfl fl29_0 sz22) rfl ?_
        refine lxr (op_store (m := 3) (rs := [_, _, _, _]) rfl rfl rfl (.one (by (first | exact One.eq rfl | exact One.mv _ _ _ _ _ | exact One.cl _ _ _ | exact One.map _ | exact One.sl _ _ _ | exact One.row _ _ _ _ | exact One.msl _ _ _ _ | exact One.ptr _ _ | exact One.b _ | exact One.cells _))) sz22 rfl rfl rfl) rfl ?_
        refine lx_end ⟨by kernel_rfl, ?_⟩
        refine pe_block_normal ?_
        refine pe_then_normal ?_
        refine tr_sub hC (.cons (t := 1) rfl (.cons (t := 2) rfl (.cons (t := 3) rfl (.cons (t := 19) rfl (.cons (t := 20) rfl (.cons (t := 21) rfl .nil)))))) (.cons (t := 3) rfl (.cons (t := 1) rfl (.cons (t := 2) rfl (.cons (t := 605) rfl (.cons (t := 600) rfl .nil))))) rfl ?_
        refine tr_region (fun N6 hN => ?_)
        refine lx (op_add rfl rfl (by omega)) rfl ?_
        refine lx (op_move rfl) rfl ?_
        refine lx_end ⟨by kernel_rfl, ?_⟩
        refine pe_round (⟨(k + 1, xs ++ [(m.objects[k], some (N5, 100280))], (N5, 30), (N5, 100280), m.objects[k].cells), by dsimp only; omega, by dsimp only; rw [hxs, selL_hit (id := ic) (by omega : k < m.objects.length) hki], by dsimp only; rw [selC_hit (by omega) hki]⟩) (by dsimp only; omega) (pe_st hC ?_ ?_ rfl)
        · try dsimp only [List.cons_append, List.nil_append]
          first | refine SubF.cons rfl ?_ | (refine SubF.ent rfl ?_ ?_; · repeat (first | exact Ents.nil | refine Ents.cons ?_ ?_ | refine Ent.tup ?_ | refine Ent.agg ?_ | exact Ent.row _ _ _ _ | exact Ent.nil _ _ | exact Ent.func _ | exact Ent.refl _ | exact Ent.of_eq rfl | refine Ent.cells ?_))
          first | refine SubF.cons rfl ?_ | (refine SubF.ent rfl ?_ ?_; · repeat (first | exact Ents.nil | refine Ents.cons ?_ ?_ | refine Ent.tup ?_ | refine Ent.agg ?_ | exact Ent.row _ _ _ _ | exact Ent.nil _ _ | exact Ent.func _ | exact Ent.refl _ | exact Ent.of_eq rfl | refine Ent.cells ?_))
          first | refine SubF.cons rfl ?_ | (refine SubF.ent rfl ?_ ?_; · repeat (first | exact Ents.nil | refine Ents.cons ?_ ?_ | refine Ent.tup ?_ | refine Ent.agg ?_ | exact Ent.row _ _ _ _ | exact Ent.nil _ _ | exact Ent.func _ | exact Ent.refl _ | exact Ent.of_eq rfl | refine Ent.cells ?_))
          first | refine SubF.cons rfl ?_ | (refine SubF.ent rfl ?_ ?_; · repeat (first | exact Ents.nil | refine Ents.cons ?_ ?_ | refine Ent.tup ?_ | refine Ent.agg ?_ | exact Ent.row _ _ _ _ | exact Ent.nil _ _ | exact Ent.func _ | exact Ent.refl _ | exact Ent.of_eq rfl | refine Ent.cells ?_))
          first | refine SubF.cons rfl ?_ | (refine SubF.ent rfl ?_ ?_; · repeat (first | exact Ents.nil | refine Ents.cons ?_ ?_ | refine Ent.tup ?_ | refine Ent.agg ?_ | exact Ent.row _ _ _ _ | exact Ent.nil _ _ | exact Ent.func _ | exact Ent.refl _ | exact Ent.of_eq rfl | refine Ent.cells ?_))
          first | refine SubF.cons rfl ?_ | (refine SubF.ent rfl ?_ ?_; · repeat (first | exact Ents.nil | refine Ents.cons ?_ ?_ | refine Ent.tup ?_ | refine Ent.agg ?_ | exact Ent.row _ _ _ _ | exact Ent.nil _ _ | exact Ent.func _ | exact Ent.refl _ | exact Ent.of_eq rfl | refine Ent.cells ?_))
          exact SubF.nil
        · try dsimp only [List.cons_append, List.nil_append]
          repeat (first | exact SubL.nil | refine SubL.cons rfl ?_)
      · refine tr_drawn mixed (fun N5 hN => ?_)
        refine lx (op_fieldAddr rfl fl29_0 sz22) rfl ?_
        refine lx (op_bload_one (m := 3) rfl rfl ag22 rfl) rfl ?_
        refine lx (op_bload (m := 5) rfl rfl ag33 sz33) rfl ?_
        first | refine lx (op_call (l := [(Go.Operand.tmp 27)]) (own_ok m.objects[k] hbk) (.cons rfl .nil) fn42) rfl ?_ | refine lx (op_call (l := [(Go.Operand.tmp 27)]) (own_ok m.objects[k] hbk) (.ent rfl (by repeat (first | exact Ents.nil | refine Ents.cons ?_ ?_ | refine Ent.tup ?_ | refine Ent.agg ?_ | exact Ent.row _ _ _ _ | exact Ent.nil _ _ | exact Ent.func _ | exact Ent.refl _ | exact Ent.of_eq rfl | refine Ent.cells ?_)) .nil) fn42) rfl ?_
        refine lx (op_buildSlice (f := obE) (xs := [(m.objects[k], none)]) (l := [(0, (Go.Operand.tmp 28))]) ze33 rfl rfl (by decide) el22 sz33 obE_len (.cons rfl (.agg rfl) .nil) rfl (by decide)) rfl ?_
        refine lxr (op_append_t (m := 600) (m' := 600) (kk := 30) (f := obE) rfl rfl rfl (.inl rfl) el22 ze33 sz33 by33 rfl (by decide) obE_len (by rw [List.length_singleton]; omega) (by rw [List.length_singleton]; omega)) rfl ?_
        refine lx (op_fieldAddr rfl fl29_0 sz22) rfl ?_
        refine lxr (op_store (m := 3) (rs := [_, _, _, _]) rfl rfl rfl (.one (by (first | exact One.eq rfl | exact One.mv _ _ _ _ _ | exact One.cl _ _ _ | exact One.map _ | exact One.sl _ _ _ | exact One.row _ _ _ _ | exact One.msl _ _ _ _ | exact One.ptr _ _ | exact One.b _ | exact One.cells _))) sz22 rfl rfl rfl) rfl ?_
        refine lx_end ⟨by kernel_rfl, ?_⟩
        refine pe_block_normal ?_
        refine pe_then_normal ?_
        refine tr_sub hC (.cons (t := 1) rfl (.cons (t := 2) rfl (.cons (t := 3) rfl (.cons (t := 19) rfl (.cons (t := 20) rfl (.cons (t := 21) rfl .nil)))))) (.cons (t := 3) rfl (.cons (t := 605) rfl (.cons (t := 1) rfl (.cons (t := 2) rfl (.cons (t := 600) rfl .nil))))) rfl ?_
        refine tr_region (fun N6 hN => ?_)
        refine lx (op_add rfl rfl (by omega)) rfl ?_
        refine lx (op_move rfl) rfl ?_
        refine lx_end ⟨by kernel_rfl, ?_⟩
        refine pe_round (⟨(k + 1, xs ++ [(m.objects[k], none)], (N5, 30), ic, cs), by dsimp only; omega, by dsimp only; rw [hxs, selL_ne (by omega : k < m.objects.length) hki], by dsimp only; rw [hcs, selC_ne hki]⟩) (by dsimp only; omega) (pe_st hC ?_ ?_ rfl)
        · try dsimp only [List.cons_append, List.nil_append]
          first | refine SubF.cons rfl ?_ | (refine SubF.ent rfl ?_ ?_; · repeat (first | exact Ents.nil | refine Ents.cons ?_ ?_ | refine Ent.tup ?_ | refine Ent.agg ?_ | exact Ent.row _ _ _ _ | exact Ent.nil _ _ | exact Ent.func _ | exact Ent.refl _ | exact Ent.of_eq rfl | refine Ent.cells ?_))
          first | refine SubF.cons rfl ?_ | (refine SubF.ent rfl ?_ ?_; · repeat (first | exact Ents.nil | refine Ents.cons ?_ ?_ | refine Ent.tup ?_ | refine Ent.agg ?_ | exact Ent.row _ _ _ _ | exact Ent.nil _ _ | exact Ent.func _ | exact Ent.refl _ | exact Ent.of_eq rfl | refine Ent.cells ?_))
          first | refine SubF.cons rfl ?_ | (refine SubF.ent rfl ?_ ?_; · repeat (first | exact Ents.nil | refine Ents.cons ?_ ?_ | refine Ent.tup ?_ | refine Ent.agg ?_ | exact Ent.row _ _ _ _ | exact Ent.nil _ _ | exact Ent.func _ | exact Ent.refl _ | exact Ent.of_eq rfl | refine Ent.cells ?_))
          first | refine SubF.cons rfl ?_ | (refine SubF.ent rfl ?_ ?_; · repeat (first | exact Ents.nil | refine Ents.cons ?_ ?_ | refine Ent.tup ?_ | refine Ent.agg ?_ | exact Ent.row _ _ _ _ | exact Ent.nil _ _ | exact Ent.func _ | exact Ent.refl _ | exact Ent.of_eq rfl | refine Ent.cells ?_))
          first | refine SubF.cons rfl ?_ | (refine SubF.ent rfl ?_ ?_; · repeat (first | exact Ents.nil | refine Ents.cons ?_ ?_ | refine Ent.tup ?_ | refine Ent.agg ?_ | exact Ent.row _ _ _ _ | exact Ent.nil _ _ | exact Ent.func _ | exact Ent.refl _ | exact Ent.of_eq rfl | refine Ent.cells ?_))
          first | refine SubF.cons rfl ?_ | (refine SubF.ent rfl ?_ ?_; · repeat (first | exact Ents.nil | refine Ents.cons ?_ ?_ | refine Ent.tup ?_ | refine Ent.agg ?_ | exact Ent.row _ _ _ _ | exact Ent.nil _ _ | exact Ent.func _ | exact Ent.refl _ | exact Ent.of_eq rfl | refine Ent.cells ?_))
          exact SubF.nil
        · try dsimp only [List.cons_append, List.nil_append]
          repeat (first | exact SubL.nil | refine SubL.cons rfl ?_)
    · (try simp only [Bool.and_eq_true, Bool.or_eq_true, Bool.and_eq_false_iff, Bool.or_eq_false_iff, decide_eq_true_eq, decide_eq_false_iff_not, Bool.not_eq_true', Bool.not_eq_false', List.length_map, ne_eq, Decidable.not_not, Int.not_lt, Int.not_le] at h22)
      have hfin : xs = selL m.objects i ic := by rw [hxs, List.take_of_length_le (by omega)]
      have hcf : cs = m.objects[i].cells := by rw [hcs, selC_end hi (by omega)]
      have hxf : xs.length = m.objects.length := by rw [hfin, selL_len]
      clear hxs hcs
      subst hfin hcf
      rw [hxf]
      refine tr_exit ?_
      refine pe_then_exit ?_
      refine pe_then_exit ?_
      refine pe_block_eq ?_
      refine pe_then_normal ?_
      refine tr_sub hC (.cons (t := 1) rfl (.cons (t := 2) rfl (.cons (t := 3) rfl .nil))) (.cons (t := 3) rfl (.cons (t := 600) rfl (.cons (t := 605) rfl (.cons (t := 1) rfl (.cons (t := 2) rfl .nil))))) rfl ?_
      refine tr_seq ?_
      refine tr_seq ?_
      refine tr_region (fun N7 hN => ?_)
      refine lx (op_fieldAddr rfl fl29_1 sz25) rfl ?_
      refine lx (op_bload_one (m := 1) rfl rfl ag25 rfl) rfl ?_
      first | refine lx (op_len rfl el25) rfl ?_ | refine lx (op_len_row rfl el25) rfl ?_ | refine lx (op_len_mv rfl el25) rfl ?_ | refine lx (op_len_nil rfl el25) rfl ?_
      refine lx (op_move rfl) rfl ?_
      refine lx_end ⟨by kernel_rfl, ?_⟩
      refine pe_then_normal ?_
      refine tr_sub hC (.cons (t := 1) rfl (.cons (t := 2) rfl (.cons (t := 3) rfl (.cons (t := 34) rfl (.cons (t := 35) rfl (.cons (t := 36) rfl .nil)))))) (.cons (t := 3) rfl (.cons (t := 600) rfl (.cons (t := 605) rfl (.cons (t := 1) rfl (.cons (t := 2) rfl .nil))))) rfl ?_
      refine tr_block ?_
      refine tr_nilbox Sy.ps 6 67 3 1 601 rfl rfl (by first | exact hC.low _ (by decide) | rfl) (fun idN => ?_)
      try dsimp only [List.set]
      refine tr_loopK (α := {zz : Nat × (List Sy) × AL.Id // zz.1 ≤ m.syncs.length ∧ zz.2.1 = m.syncs.take zz.1}) (⟨(0, [], idN), Nat.zero_le _, rfl⟩) (fun zz => [(36, eqP (.int .i64 (zz.1.1 : Int)))]) (fun zz => [(3, some ((N1, 3), blk 29 [mvP io 10 0 m.objects.length m.objects.length, rowP zz.1.2.2 Sy.ps 6 zz.1.2.1, eqP (.slice none 0 0), slP ip 1 m.output])), (601, some (zz.1.2.2, tail 67 6 (zz.1.2.1.length * 6)))]) (fun zz => m.syncs.length - zz.1.1) hC (.cons (t := 1) rfl (.cons (t := 2) rfl (.cons (t := 3) rfl (.cons (t := 34) rfl (.cons (t := 35) rfl .nil))))) (.cons (t := 600) rfl (.cons (t := 605) rfl (.cons (t := 1) rfl (.cons (t := 2) rfl .nil)))) rfl ?_ ?_ (fun zz => ?_)
      · try dsimp only [List.cons_append, List.nil_append]
        first | refine SubF.cons rfl ?_ | (refine SubF.ent rfl ?_ ?_; · repeat (first | exact Ents.nil | refine Ents.cons ?_ ?_ | refine Ent.tup ?_ | refine Ent.agg ?_ | exact Ent.row _ _ _ _ | exact Ent.nil _ _ | exact Ent.func _ | exact Ent.refl _ | exact Ent.of_eq rfl | refine Ent.cells ?_))
        exact SubF.nil
      · try dsimp only [List.cons_append, List.nil_append]
        repeat (first | exact SubL.nil | refine SubL.cons rfl ?_)
      · obtain ⟨⟨k, xs, i⟩, hk1, hxs⟩ := zz
        try dsimp only at hk1
        try dsimp only at hxs
        dsimp only [List.cons_append, List.nil_append]
        refine tr_seq ?_
        refine tr_region (fun N8 hN => ?_)
        refine lx (op_lss rfl rfl) rfl ?_
        refine lx_end ⟨by kernel_rfl, ?_⟩
        refine pe_then_normal ?_
        refine tr_sub hC (.cons (t := 1) rfl (.cons (t := 2) rfl (.cons (t := 3) rfl (.cons (t := 34) rfl (.cons (t := 35) rfl (.cons (t := 36) rfl (.cons (t := 37) rfl .nil))))))) (.cons (t := 3) rfl (.cons (t := 601) rfl (.cons (t := 600) rfl (.cons (t := 605) rfl (.cons (t := 1) rfl (.cons (t := 2) rfl .nil)))))) rfl ?_
        refine tr_seq ?_
        refine tr_cond rfl (fun h37 => ?_) (fun h37 => ?_)
        · (try simp only [Bool.and_eq_true, Bool.or_eq_true, Bool.and_eq_false_iff, Bool.or_eq_false_iff, decide_eq_true_eq, decide_eq_false_iff_not, Bool.not_eq_true', Bool.not_eq_false', List.length_map, ne_eq, Decidable.not_not, Int.not_lt, Int.not_le] at h37)
          have hbk := hb.readers _ (List.getElem_mem (by omega : k < m.syncs.length))
          have hxl : xs.length ≤ k := by rw [hxs, List.length_take]; omega
          refine tr_skip ?_
          refine pe_then_normal ?_
          refine tr_sub hC (.cons (t := 1) rfl (.cons (t := 2) rfl (.cons (t := 3) rfl (.cons (t := 34) rfl (.cons (t := 35) rfl (.cons (t := 36) rfl .nil)))))) (.cons (t := 3) rfl (.cons (t := 601) rfl (.cons (t := 600) rfl (.cons (t := 605) rfl (.cons (t := 1) rfl (.cons (t := 2) rfl .nil)))))) rfl ?_
          refine tr_seq ?_
          refine tr_block ?_
          refine tr_seq ?_
          refine tr_region (fun N9 hN => ?_)
          refine lx (op_index rfl rfl el25 sz67 rfl (List.getElem?_eq_getElem (by omega : k < m.syncs.length))) rfl ?_
          first | refine lx (op_load_all rfl ag67 sz67) rfl ?_ | refine lx (op_load_agg rfl ag67 sz67 rfl) rfl ?_ | refine lx (op_bload (m := 3) rfl rfl ag67 sz67) rfl ?_ | refine lx (op_bload (m := 601) rfl rfl ag67 sz67) rfl ?_ | refine lx (op_bload (m := 600) rfl rfl ag67 sz67) rfl ?_ | refine lx (op_bload (m := 605) rfl rfl ag67 sz67) rfl ?_ | refine lx (op_bload (m := 1) rfl rfl ag67 sz67) rfl ?_ | refine lx (op_bload (m := 2) rfl rfl ag67 sz67) rfl ?_ | refine lx (op_bload_part (m := 3) (qs := [_, _, _, _, _, _]) rfl rfl ag67 sz67 rfl rfl) rfl ?_ | refine lx (op_bload_part (m := 601) (qs := [_, _, _, _, _, _]) rfl rfl ag67 sz67 rfl rfl) rfl ?_ | refine lx (op_bload_part (m := 600) (qs := [_, _, _, _, _, _]) rfl rfl ag67 sz67 rfl rfl) rfl ?_ | refine lx (op_bload_part (m := 605) (qs := [_, _, _, _, _, _]) rfl rfl ag67 sz67 rfl rfl) rfl ?_ | refine lx (op_bload_part (m := 1) (qs := [_, _, _, _, _, _]) rfl rfl ag67 sz67 rfl rfl) rfl ?_ | refine lx (op_bload_part (m := 2) (qs := [_, _, _, _, _, _]) rfl rfl ag67 sz67 rfl rfl) rfl ?_
          refine lxn (op_alloc (m := 7) (k := 7) (ps := [eqP (.int .i64 0), eqP (.int .i64 0), eqP (.int .i64 0), eqP (.int .i64 0), eqP (.slice none 0 0), eqP (.int .i64 0)]) ze67 rfl rfl (by first | exact hC.low _ (by decide) | rfl)) rfl ?_
          refine lxr (op_store_all (m := 7) rfl rfl rfl (.agg rfl) sz67 rfl) rfl ?_
          refine lx_end ⟨by kernel_rfl, ?_⟩
          refine pe_then_normal ?_
          refine tr_sub hC (.cons (t := 1) rfl (.cons (t := 2) rfl (.cons (t := 3) rfl (.cons (t := 7) rfl (.cons (t := 34) rfl (.cons (t := 35) rfl (.cons (t := 36) rfl .nil))))))) (.cons (t := 3) rfl (.cons (t := 601) rfl (.cons (t := 600) rfl (.cons (t := 605) rfl (.cons (t := 1) rfl (.cons (t := 2) rfl (.cons (t := 7) rfl .nil))))))) rfl ?_
          refine tr_seq ?_
          refine tr_region (fun N10 hN => ?_)
          refine lx (op_fieldAddr rfl fl67_4 sz27) rfl ?_
          refine lx (op_bload_one (m := 7) rfl rfl ag27 rfl) rfl ?_
          first | refine lx (op_call (l := [(Go.Operand.tmp 41)]) (icl m.syncs[k].readers hbk) (.cons rfl .nil) fn51) rfl ?_ | refine lx (op_call (l := [(Go.Operand.tmp 41)]) (icl m.syncs[k].readers hbk) (.ent rfl (by repeat (first | exact Ents.nil | refine Ents.cons ?_ ?_ | refine Ent.tup ?_ | refine Ent.agg ?_ | exact Ent.row _ _ _ _ | exact Ent.nil _ _ | exact Ent.func _ | exact Ent.refl _ | exact Ent.of_eq rfl | refine Ent.cells ?_)) .nil) fn51) rfl ?_
          refine lx (op_fieldAddr rfl fl67_4 sz27) rfl ?_
          refine lxr (op_store (m := 7) (rs := [_, _, _, _, _, _]) rfl rfl rfl (.one (by (first | exact One.eq rfl | exact One.mv _ _ _ _ _ | exact One.cl _ _ _ | exact One.map _ | exact One.sl _ _ _ | exact One.row _ _ _ _ | exact One.msl _ _ _ _ | exact One.ptr _ _ | exact One.b _ | exact One.cells _))) sz27 rfl rfl rfl) rfl ?_
          refine lx_end ⟨by kernel_rfl, ?_⟩
          refine pe_then_normal ?_
          refine tr_sub hC (.cons (t := 1) rfl (.cons (t := 2) rfl (.cons (t := 3) rfl (.cons (t := 7) rfl (.cons (t := 34) rfl (.cons (t := 35) rfl (.cons (t := 36) rfl .nil))))))) (.cons (t := 3) rfl (.cons (t := 601) rfl (.cons (t := 600) rfl (.cons (t := 605) rfl (.cons (t := 1) rfl (.cons (t := 2) rfl (.cons (t := 7) rfl .nil))))))) rfl ?_
          refine tr_region (fun N11 hN => ?_)
          refine lx (op_fieldAddr rfl fl29_1 sz25) rfl ?_
          refine lx (op_bload_one (m := 3) rfl rfl ag25 rfl) rfl ?_
          refine lx (op_bload (m := 7) rfl rfl ag67 sz67) rfl ?_
          refine lx (op_buildSlice (f := Sy.ps) (xs := [m.syncs[k]]) (l := [(0, (Go.Operand.tmp 46))]) ze67 rfl rfl (by decide) el25 sz67 Sy.len (.cons rfl (.agg rfl) .nil) rfl (by decide)) rfl ?_
          refine lxr (op_append (m := 601) (m' := 601) (kk := 48) rfl rfl rfl (.inl rfl) el25 ze67 sz67 by67 rfl Sy.len (by rw [List.length_singleton]; omega) (by rw [List.length_singleton]; omega)) rfl ?_
          refine lx (op_fieldAddr rfl fl29_1 sz25) rfl ?_
          refine lxr (op_store (m := 3) (rs := [_, _, _, _]) rfl rfl rfl (.one (by (first | exact One.eq rfl | exact One.mv _ _ _ _ _ | exact One.cl _ _ _ | exact One.map _ | exact One.sl _ _ _ | exact One.row _ _ _ _ | exact One.msl _ _ _ _ | exact One.ptr _ _ | exact One.b _ | exact One.cells _))) sz25 rfl rfl rfl) rfl ?_
          refine lx_end ⟨by kernel_rfl, ?_⟩
          refine pe_block_normal ?_
          refine pe_then_normal ?_
          refine tr_sub hC (.cons (t := 1) rfl (.cons (t := 2) rfl (.cons (t := 3) rfl (.cons (t := 34) rfl (.cons (t := 35) rfl (.cons (t := 36) rfl .nil)))))) (.cons (t := 3) rfl (.cons (t := 600) rfl (.cons (t := 605) rfl (.cons (t := 1) rfl (.cons (t := 2) rfl (.cons (t := 601) rfl .nil)))))) rfl ?_
          refine tr_region (fun N12 hN => ?_)
          refine lx (op_add rfl rfl (by omega)) rfl ?_
          refine lx (op_move rfl) rfl ?_
          refine lx_end ⟨by kernel_rfl, ?_⟩
          refine pe_round (⟨(k + 1, xs ++ [m.syncs[k]], (N11, 48)), by dsimp only; omega, by dsimp only; rw [hxs, take_at (by omega : k < m.syncs.length)]⟩) (by dsimp only; omega) (pe_st hC ?_ ?_ rfl)
          · try dsimp only [List.cons_append, List.nil_append]
            first | refine SubF.cons rfl ?_ | (refine SubF.ent rfl ?_ ?_; · repeat (first | exact Ents.nil | refine Ents.cons ?_ ?_ | refine Ent.tup ?_ | refine Ent.agg ?_ | exact Ent.row _ _ _ _ | exact Ent.nil _ _ | exact Ent.func _ | exact Ent.refl _ | exact Ent.of_eq rfl | refine Ent.cells ?_))
            first | refine SubF.cons rfl ?_ | (refine SubF.ent rfl ?_ ?_; · repeat (first | exact Ents.nil | refine Ents.cons ?_ ?_ | refine Ent.tup ?_ | refine Ent.agg ?_ | exact Ent.row _ _ _ _ | exact Ent.nil _ _ | exact Ent.func _ | exact Ent.refl _ | exact Ent.of_eq rfl | refine Ent.cells ?_))
            first | refine SubF.cons rfl ?_ | (refine SubF.ent rfl ?_ ?_; · repeat (first | exact Ents.nil | refine Ents.cons ?_ ?_ | refine Ent.tup ?_ | refine Ent.agg ?_ | exact Ent.row _ _ _ _ | exact Ent.nil _ _ | exact Ent.func _ | exact Ent.refl _ | exact Ent.of_eq rfl | refine Ent.cells ?_))
            first | refine SubF.cons rfl ?_ | (refine SubF.ent rfl ?_ ?_; · repeat (first | exact Ents.nil | refine Ents.cons ?_ ?_ | refine Ent.tup ?_ | refine Ent.agg ?_ | exact Ent.row _ _ _ _ | exact Ent.nil _ _ | exact Ent.func _ | exact Ent.refl _ | exact Ent.of_eq rfl | refine Ent.cells ?_))
            first | refine SubF.cons rfl ?_ | (refine SubF.ent rfl ?_ ?_; · repeat (first | exact Ents.nil | refine Ents.cons ?_ ?_ | refine Ent.tup ?_ | refine Ent.agg ?_ | exact Ent.row _ _ _ _ | exact Ent.nil _ _ | exact Ent.func _ | exact Ent.refl _ | exact Ent.of_eq rfl | refine Ent.cells ?_))
            first | refine SubF.cons rfl ?_ | (refine SubF.ent rfl ?_ ?_; · repeat (first | exact Ents.nil | refine Ents.cons ?_ ?_ | refine Ent.tup ?_ | refine Ent.agg ?_ | exact Ent.row _ _ _ _ | exact Ent.nil _ _ | exact Ent.func _ | exact Ent.refl _ | exact Ent.of_eq rfl | refine Ent.cells ?_))
            exact SubF.nil
          · try dsimp only [List.cons_append, List.nil_append]
            repeat (first | exact SubL.nil | refine SubL.cons rfl ?_)
        · (try simp only [Bool.and_eq_true, Bool.or_eq_true, Bool.and_eq_false_iff, Bool.or_eq_false_iff, decide_eq_true_eq, decide_eq_false_iff_not, Bool.not_eq_true', Bool.not_eq_false', List.length_map, ne_eq, Decidable.not_not, Int.not_lt, Int.not_le] at h37)
          have hfin : xs = m.syncs := by rw [hxs, List.take_of_length_le (by omega)]
          refine tr_exit ?_
          refine pe_then_exit ?_
          refine pe_then_exit ?_
          refine pe_block_eq ?_
          refine pe_then_normal ?_
          refine tr_sub hC (.cons (t := 1) rfl (.cons (t := 2) rfl (.cons (t := 3) rfl .nil))) (.cons (t := 3) rfl (.cons (t := 601) rfl (.cons (t := 600) rfl (.cons (t := 605) rfl (.cons (t := 1) rfl (.cons (t := 2) rfl .nil)))))) rfl ?_
          refine tr_weakTok (m := 3) (qs := [mvP io 10 0 m.objects.length m.objects.length, slP Sy.ps 6 m.syncs, eqP (.slice none 0 0), slP ip 1 m.output]) rfl ?_ ?_
          · repeat (first | exact Ents.nil | refine Ents.cons ?_ ?_ | exact Ent.refl _ | exact Ent.row _ _ _ _ | exact Ent.nil _ _ | exact Ent.trans (Ent.row _ _ _ _) (Ent.of_eq (by rw [hfin])))
          refine tr_seq ?_
          refine tr_seq ?_
          refine tr_region (fun N13 hN => ?_)
          refine lx (op_fieldAddr rfl fl29_2 sz26) rfl ?_
          refine lx (op_bload_one (m := 1) rfl rfl ag26 rfl) rfl ?_
          first | refine lx (op_len rfl el26) rfl ?_ | refine lx (op_len_row rfl el26) rfl ?_ | refine lx (op_len_mv rfl el26) rfl ?_ | refine lx (op_len_nil rfl el26) rfl ?_
          refine lx (op_move rfl) rfl ?_
          refine lx_end ⟨by kernel_rfl, ?_⟩
          refine pe_then_normal ?_
          refine tr_sub hC (.cons (t := 2) rfl (.cons (t := 3) rfl (.cons (t := 52) rfl (.cons (t := 53) rfl (.cons (t := 54) rfl .nil))))) (.cons (t := 3) rfl (.cons (t := 601) rfl (.cons (t := 600) rfl (.cons (t := 605) rfl (.cons (t := 2) rfl .nil))))) rfl ?_
          refine tr_block ?_
          refine tr_nilbox Gr.ps 4 70 3 2 604 rfl rfl (by first | exact hC.low _ (by decide) | rfl) (fun idN => ?_)
          try dsimp only [List.set]
          refine tr_loopK (α := {zz : Nat × (List Gr) × AL.Id // zz.1 ≤ m.gors.length ∧ zz.2.1 = m.gors.take zz.1}) (⟨(0, [], idN), Nat.zero_le _, rfl⟩) (fun zz => [(54, eqP (.int .i64 (zz.1.1 : Int)))]) (fun zz => [(3, some ((N1, 3), blk 29 [mvP io 10 0 m.objects.length m.objects.length, slP Sy.ps 6 m.syncs, rowP zz.1.2.2 Gr.ps 4 zz.1.2.1, slP ip 1 m.output])), (604, some (zz.1.2.2, tail 70 4 (zz.1.2.1.length * 4)))]) (fun zz => m.gors.length - zz.1.1) hC (.cons (t := 2) rfl (.cons (t := 3) rfl (.cons (t := 52) rfl (.cons (t := 53) rfl .nil)))) (.cons (t := 601) rfl (.cons (t := 600) rfl (.cons (t := 605) rfl (.cons (t := 2) rfl .nil)))) rfl ?_ ?_ (fun zz => ?_)
          · try dsimp only [List.cons_append, List.nil_append]
            first | refine SubF.cons rfl ?_ | (refine SubF.ent rfl ?_ ?_; · repeat (first | exact Ents.nil | refine Ents.cons ?_ ?_ | refine Ent.tup ?_ | refine Ent.agg ?_ | exact Ent.row _ _ _ _ | exact Ent.nil _ _ | exact Ent.func _ | exact Ent.refl _ | exact Ent.of_eq rfl | refine Ent.cells ?_))
            exact SubF.nil
          · try dsimp only [List.cons_append, List.nil_append]
            repeat (first | exact SubL.nil | refine SubL.cons rfl ?_)
          · obtain ⟨⟨k, xs, i⟩, hk1, hxs⟩ := zz
            try dsimp only at hk1
            try dsimp only at hxs
            dsimp only [List.cons_append, List.nil_append]
            refine tr_seq ?_
            refine tr_region (fun N14 hN => ?_)
            refine lx (op_lss rfl rfl) rfl ?_
            refine lx_end ⟨by kernel_rfl, ?_⟩
            refine pe_then_normal ?_
            refine tr_sub hC (.cons (t := 2) rfl (.cons (t := 3) rfl (.cons (t := 52) rfl (.cons (t := 53) rfl (.cons (t := 54) rfl (.cons (t := 55) rfl .nil)))))) (.cons (t := 3) rfl (.cons (t := 604) rfl (.cons (t := 601) rfl (.cons (t := 600) rfl (.cons (t := 605) rfl (.cons (t := 2) rfl .nil)))))) rfl ?_
            refine tr_seq ?_
            refine tr_cond rfl (fun h55 => ?_) (fun h55 => ?_)
            · (try simp only [Bool.and_eq_true, Bool.or_eq_true, Bool.and_eq_false_iff, Bool.or_eq_false_iff, decide_eq_true_eq, decide_eq_false_iff_not, Bool.not_eq_true', Bool.not_eq_false', List.length_map, ne_eq, Decidable.not_not, Int.not_lt, Int.not_le] at h55)
              have hbk := hb.gor _ (List.getElem_mem (by omega : k < m.gors.length))
              have hxl : xs.length ≤ k := by rw [hxs, List.length_take]; omega
              have hbfr := hbk.frames
              refine tr_skip ?_
              refine pe_then_normal ?_
              refine tr_sub hC (.cons (t := 2) rfl (.cons (t := 3) rfl (.cons (t := 52) rfl (.cons (t := 53) rfl (.cons (t := 54) rfl .nil))))) (.cons (t := 3) rfl (.cons (t := 604) rfl (.cons (t := 601) rfl (.cons (t := 600) rfl (.cons (t := 605) rfl (.cons (t := 2) rfl .nil)))))) rfl ?_
              refine tr_seq ?_
              refine tr_block ?_
              refine tr_seq ?_
              refine tr_region (fun N15 hN => ?_)
              refine lx (op_index rfl rfl el26 sz70 rfl (List.getElem?_eq_getElem (by omega : k < m.gors.length))) rfl ?_
              first | refine lx (op_load_all rfl ag70 sz70) rfl ?_ | refine lx (op_load_agg rfl ag70 sz70 rfl) rfl ?_ | refine lx (op_bload (m := 3) rfl rfl ag70 sz70) rfl ?_ | refine lx (op_bload (m := 604) rfl rfl ag70 sz70) rfl ?_ | refine lx (op_bload (m := 601) rfl rfl ag70 sz70) rfl ?_ | refine lx (op_bload (m := 600) rfl rfl ag70 sz70) rfl ?_ | refine lx (op_bload (m := 605) rfl rfl ag70 sz70) rfl ?_ | refine lx (op_bload (m := 2) rfl rfl ag70 sz70) rfl ?_ | refine lx (op_bload_part (m := 3) (qs := [_, _, _, _]) rfl rfl ag70 sz70 rfl rfl) rfl ?_ | refine lx (op_bload_part (m := 604) (qs := [_, _, _, _]) rfl rfl ag70 sz70 rfl rfl) rfl ?_ | refine lx (op_bload_part (m := 601) (qs := [_, _, _, _]) rfl rfl ag70 sz70 rfl rfl) rfl ?_ | refine lx (op_bload_part (m := 600) (qs := [_, _, _, _]) rfl rfl ag70 sz70 rfl rfl) rfl ?_ | refine lx (op_bload_part (m := 605) (qs := [_, _, _, _]) rfl rfl ag70 sz70 rfl rfl) rfl ?_ | refine lx (op_bload_part (m := 2) (qs := [_, _, _, _]) rfl rfl ag70 sz70 rfl rfl) rfl ?_
              refine lxn (op_alloc (m := 9) (k := 9) (ps := [eqP (.int .i64 0), eqP (.int .i64 0), eqP (.int .i64 0), eqP (.slice none 0 0)]) ze70 rfl rfl (by first | exact hC.low _ (by decide) | rfl)) rfl ?_
              refine lxr (op_store_all (m := 9) rfl rfl rfl (.agg rfl) sz70 rfl) rfl ?_
              refine lx_end ⟨by kernel_rfl, ?_⟩
              refine pe_then_normal ?_
              refine tr_sub hC (.cons (t := 2) rfl (.cons (t := 3) rfl (.cons (t := 9) rfl (.cons (t := 52) rfl (.cons (t := 53) rfl (.cons (t := 54) rfl .nil)))))) (.cons (t := 3) rfl (.cons (t := 604) rfl (.cons (t := 601) rfl (.cons (t := 600) rfl (.cons (t := 605) rfl (.cons (t := 2) rfl (.cons (t := 9) rfl .nil))))))) rfl ?_
              refine tr_seq ?_
              refine tr_region (fun N16 hN => ?_)
              refine lx (op_fieldAddr rfl fl70_3 sz68) rfl ?_
              refine lx (op_bload_one (m := 9) rfl rfl ag68 rfl) rfl ?_
              first | refine lx_any rfl (op_callG2 (l := [(Go.Operand.tmp 59)]) (add := [(602, ((N16, 100600), blkX 9 92 (m.gors[k].frames.flatMap Fm.ps)))]) (ks := [100600]) (φ := mvP (N16, 100600) 9 0 m.gors[k].frames.length m.gors[k].frames.length) .nil (fcl m.gors[k].frames hbk.frames) (.cons rfl .nil) fn52 rfl rfl rfl (.new (by first | exact hC.low _ (by decide) | rfl) .nil) rfl) (dOK_spec rfl) ?_ | refine lx_any rfl (op_callG2 (l := [(Go.Operand.tmp 59)]) (add := [(602, ((N16, 100600), blkX 9 92 (m.gors[k].frames.flatMap Fm.ps)))]) (ks := [100600]) (φ := mvP (N16, 100600) 9 0 m.gors[k].frames.length m.gors[k].frames.length) .nil (fcl m.gors[k].frames hbk.frames) (.ent rfl (by repeat (first | exact Ents.nil | refine Ents.cons ?_ ?_ | refine Ent.tup ?_ | refine Ent.agg ?_ | exact Ent.row _ _ _ _ | exact Ent.nil _ _ | exact Ent.func _ | exact Ent.refl _ | exact Ent.of_eq rfl | refine Ent.cells ?_)) .nil) fn52 rfl rfl rfl (.new (by first | exact hC.low _ (by decide) | rfl) .nil) rfl) (dOK_spec rfl) ?_
              refine lx (op_assign rfl) rfl ?_
              refine lx_end ⟨by kernel_rfl, ?_⟩
              refine pe_then_normal ?_
              refine tr_sub hC (.cons (t := 2) rfl (.cons (t := 3) rfl (.cons (t := 9) rfl (.cons (t := 10) rfl (.cons (t := 52) rfl (.cons (t := 53) rfl (.cons (t := 54) rfl .nil))))))) (.cons (t := 3) rfl (.cons (t := 604) rfl (.cons (t := 601) rfl (.cons (t := 600) rfl (.cons (t := 605) rfl (.cons (t := 2) rfl (.cons (t := 9) rfl (.cons (t := 602) rfl .nil)))))))) rfl ?_
              refine tr_seq ?_
              refine tr_seq ?_
              refine tr_region (fun N17 hN => ?_)
              refine lx (op_move rfl) rfl ?_
              first | refine lx (op_len rfl el68) rfl ?_ | refine lx (op_len_row rfl el68) rfl ?_ | refine lx (op_len_mv rfl el68) rfl ?_ | refine lx (op_len_nil rfl el68) rfl ?_
              refine lx (op_move rfl) rfl ?_
              refine lx_end ⟨by kernel_rfl, ?_⟩
              refine pe_then_normal ?_
              refine tr_sub hC (.cons (t := 2) rfl (.cons (t := 3) rfl (.cons (t := 9) rfl (.cons (t := 10) rfl (.cons (t := 52) rfl (.cons (t := 53) rfl (.cons (t := 54) rfl (.cons (t := 62) rfl (.cons (t := 63) rfl .nil))))))))) (.cons (t := 3) rfl (.cons (t := 604) rfl (.cons (t := 601) rfl (.cons (t := 600) rfl (.cons (t := 605) rfl (.cons (t := 2) rfl (.cons (t := 9) rfl (.cons (t := 602) rfl .nil)))))))) rfl ?_
              refine tr_block ?_
              refine tr_loopK (α := {zz : Nat // zz ≤ m.gors[k].frames.length}) (⟨(0), Nat.zero_le _⟩) (fun zz => [(63, eqP (.int .i64 (zz.1 : Int)))]) (fun zz => []) (fun zz => m.gors[k].frames.length - zz.1) hC (.cons (t := 2) rfl (.cons (t := 3) rfl (.cons (t := 9) rfl (.cons (t := 10) rfl (.cons (t := 52) rfl (.cons (t := 53) rfl (.cons (t := 54) rfl (.cons (t := 62) rfl .nil)))))))) (.cons (t := 3) rfl (.cons (t := 604) rfl (.cons (t := 601) rfl (.cons (t := 600) rfl (.cons (t := 605) rfl (.cons (t := 2) rfl (.cons (t := 9) rfl (.cons (t := 602) rfl .nil)))))))) rfl ?_ ?_ (fun zz => ?_)
              · try dsimp only [List.cons_append, List.nil_append]
                first | refine SubF.cons rfl ?_ | (refine SubF.ent rfl ?_ ?_; · repeat (first | exact Ents.nil | refine Ents.cons ?_ ?_ | refine Ent.tup ?_ | refine Ent.agg ?_ | exact Ent.row _ _ _ _ | exact Ent.nil _ _ | exact Ent.func _ | exact Ent.refl _ | exact Ent.of_eq rfl | refine Ent.cells ?_))
                exact SubF.nil
              · try dsimp only [List.cons_append, List.nil_append]
                repeat (first | exact SubL.nil | refine SubL.cons rfl ?_)
              · obtain ⟨j, hj1⟩ := zz
                dsimp only [List.cons_append, List.nil_append]
                refine tr_seq ?_
                refine tr_region (fun N18 hN => ?_)
                refine lx (op_lss rfl rfl) rfl ?_
                refine lx_end ⟨by kernel_rfl, ?_⟩
                refine pe_then_normal ?_
                refine tr_sub hC (.cons (t := 2) rfl (.cons (t := 3) rfl (.cons (t := 9) rfl (.cons (t := 10) rfl (.cons (t := 52) rfl (.cons (t := 53) rfl (.cons (t := 54) rfl (.cons (t := 62) rfl (.cons (t := 63) rfl (.cons (t := 64) rfl .nil)))))))))) (.cons (t := 3) rfl (.cons (t := 604) rfl (.cons (t := 601) rfl (.cons (t := 600) rfl (.cons (t := 605) rfl (.cons (t := 2) rfl (.cons (t := 9) rfl (.cons (t := 602) rfl .nil)))))))) rfl ?_
                refine tr_seq ?_
                refine tr_cond rfl (fun h64 => ?_) (fun h64 => ?_)
                · (try simp only [Bool.and_eq_true, Bool.or_eq_true, Bool.and_eq_false_iff, Bool.or_eq_false_iff, decide_eq_true_eq, decide_eq_false_iff_not, Bool.not_eq_true', Bool.not_eq_false', List.length_map, ne_eq, Decidable.not_not, Int.not_lt, Int.not_le] at h64)
                  have hbf := hbk.each _ (List.getElem_mem (by omega : j < m.gors[k].frames.length))
                  have hbd := hbf.defers
                  refine tr_skip ?_
                  refine pe_then_normal ?_
                  refine tr_sub hC (.cons (t := 2) rfl (.cons (t := 3) rfl (.cons (t := 9) rfl (.cons (t := 10) rfl (.cons (t := 52) rfl (.cons (t := 53) rfl (.cons (t := 54) rfl (.cons (t := 62) rfl (.cons (t := 63) rfl .nil))))))))) (.cons (t := 3) rfl (.cons (t := 604) rfl (.cons (t := 601) rfl (.cons (t := 600) rfl (.cons (t := 605) rfl (.cons (t := 2) rfl (.cons (t := 9) rfl (.cons (t := 602) rfl .nil)))))))) rfl ?_
                  refine tr_seq ?_
                  refine tr_block ?_
                  refine tr_seq ?_
                  refine tr_region (fun N19 hN => ?_)
                  refine lx (op_move rfl) rfl ?_
                  refine lx (op_assign rfl) rfl ?_
                  refine lx_end ⟨by kernel_rfl, ?_⟩
                  refine pe_then_normal ?_
                  refine tr_sub hC (.cons (t := 2) rfl (.cons (t := 3) rfl (.cons (t := 9) rfl (.cons (t := 10) rfl (.cons (t := 11) rfl (.cons (t := 52) rfl (.cons (t := 53) rfl (.cons (t := 54) rfl (.cons (t := 62) rfl (.cons (t := 63) rfl .nil)))))))))) (.cons (t := 3) rfl (.cons (t := 604) rfl (.cons (t := 601) rfl (.cons (t := 600) rfl (.cons (t := 605) rfl (.cons (t := 2) rfl (.cons (t := 9) rfl (.cons (t := 602) rfl .nil)))))))) rfl ?_
                  refine tr_seq ?_
                  refine tr_region (fun N20 hN => ?_)
                  refine lx (op_move rfl) rfl ?_
                  refine lx (op_move rfl) rfl ?_
                  refine lx (op_move rfl) rfl ?_
                  refine lx (op_move rfl) rfl ?_
                  refine lx (op_index_mv rfl rfl el68 sz92 rfl (by omega)) rfl ?_
                  refine lx (op_fieldAddr rfl fl92_2 sz30) rfl ?_
                  refine lx (op_tload_one (m := 602) (j := j) (fo := 2) rfl rfl ag30 Fm.len (by omega) (List.getElem?_eq_getElem (by omega : j < m.gors[k].frames.length)) rfl) rfl ?_
                  first | refine lx (op_call (l := [(Go.Operand.tmp 72)]) (vcl m.gors[k].frames[j].regs hbf.regs) (.cons rfl .nil) fn53) rfl ?_ | refine lx (op_call (l := [(Go.Operand.tmp 72)]) (vcl m.gors[k].frames[j].regs hbf.regs) (.ent rfl (by repeat (first | exact Ents.nil | refine Ents.cons ?_ ?_ | refine Ent.tup ?_ | refine Ent.agg ?_ | exact Ent.row _ _ _ _ | exact Ent.nil _ _ | exact Ent.func _ | exact Ent.refl _ | exact Ent.of_eq rfl | refine Ent.cells ?_)) .nil) fn53) rfl ?_
                  refine lx (op_index_mv rfl rfl el68 sz92 rfl (by omega)) rfl ?_
                  refine lx (op_fieldAddr rfl fl92_2 sz30) rfl ?_
                  refine lxr (op_tstore_id (m := 602) (j := j) (fo := 2) (z := m.gors[k].frames[j]) rfl rfl rfl (.one (by (first | exact One.eq rfl | exact One.mv _ _ _ _ _ | exact One.cl _ _ _ | exact One.map _ | exact One.sl _ _ _ | exact One.row _ _ _ _ | exact One.msl _ _ _ _ | exact One.ptr _ _ | exact One.b _ | exact One.cells _))) sz30 rfl Fm.len (by omega) (List.getElem?_eq_getElem (by omega : j < m.gors[k].frames.length)) rfl rfl) rfl ?_
                  refine lx_end ⟨by kernel_rfl, ?_⟩
                  refine pe_then_normal ?_
                  refine tr_sub hC (.cons (t := 2) rfl (.cons (t := 3) rfl (.cons (t := 9) rfl (.cons (t := 10) rfl (.cons (t := 11) rfl (.cons (t := 52) rfl (.cons (t := 53) rfl (.cons (t := 54) rfl (.cons (t := 62) rfl (.cons (t := 63) rfl .nil)))))))))) (.cons (t := 3) rfl (.cons (t := 604) rfl (.cons (t := 601) rfl (.cons (t := 600) rfl (.cons (t := 605) rfl (.cons (t := 2) rfl (.cons (t := 9) rfl (.cons (t := 602) rfl .nil)))))))) rfl ?_
                  refine tr_seq ?_
                  refine tr_region (fun N21 hN => ?_)
                  refine lx (op_move rfl) rfl ?_
                  refine lx (op_move rfl) rfl ?_
                  refine lx (op_index_mv rfl rfl el68 sz92 rfl (by omega)) rfl ?_
                  refine lx (op_fieldAddr rfl fl92_4 sz90) rfl ?_
                  refine lx (op_tload_one (m := 602) (j := j) (fo := 4) rfl rfl ag90 Fm.len (by omega) (List.getElem?_eq_getElem (by omega : j < m.gors[k].frames.length)) rfl) rfl ?_
                  first | refine lx_any rfl (op_callG2 (l := [(Go.Operand.tmp 80)]) (add := [(603, ((N21, 100810), blkX 2 94 (m.gors[k].frames[j].defers.flatMap Df.ps)))]) (ks := [100810]) (φ := mvP (N21, 100810) 2 0 m.gors[k].frames[j].defers.length m.gors[k].frames[j].defers.length) .nil (dcl m.gors[k].frames[j].defers hbf.defers) (.cons rfl .nil) fn54 rfl rfl rfl (.new (by first | exact hC.low _ (by decide) | rfl) .nil) rfl) (dOK_spec rfl) ?_ | refine lx_any rfl (op_callG2 (l := [(Go.Operand.tmp 80)]) (add := [(603, ((N21, 100810), blkX 2 94 (m.gors[k].frames[j].defers.flatMap Df.ps)))]) (ks := [100810]) (φ := mvP (N21, 100810) 2 0 m.gors[k].frames[j].defers.length m.gors[k].frames[j].defers.length) .nil (dcl m.gors[k].frames[j].defers hbf.defers) (.ent rfl (by repeat (first | exact Ents.nil | refine Ents.cons ?_ ?_ | refine Ent.tup ?_ | refine Ent.agg ?_ | exact Ent.row _ _ _ _ | exact Ent.nil _ _ | exact Ent.func _ | exact Ent.refl _ | exact Ent.of_eq rfl | refine Ent.cells ?_)) .nil) fn54 rfl rfl rfl (.new (by first | exact hC.low _ (by decide) | rfl) .nil) rfl) (dOK_spec rfl) ?_
                  refine lx (op_assign rfl) rfl ?_
                  refine lx_end ⟨by kernel_rfl, ?_⟩
                  refine pe_then_normal ?_
                  refine tr_sub hC (.cons (t := 2) rfl (.cons (t := 3) rfl (.cons (t := 9) rfl (.cons (t := 10) rfl (.cons (t := 11) rfl (.cons (t := 12) rfl (.cons (t := 52) rfl (.cons (t := 53) rfl (.cons (t := 54) rfl (.cons (t := 62) rfl (.cons (t := 63) rfl .nil))))))))))) (.cons (t := 3) rfl (.cons (t := 604) rfl (.cons (t := 601) rfl (.cons (t := 600) rfl (.cons (t := 605) rfl (.cons (t := 2) rfl (.cons (t := 9) rfl (.cons (t := 602) rfl (.cons (t := 603) rfl .nil))))))))) rfl ?_
                  refine tr_seq ?_
                  refine tr_seq ?_
                  refine tr_region (fun N22 hN => ?_)
                  refine lx (op_move rfl) rfl ?_
                  first | refine lx (op_len rfl el90) rfl ?_ | refine lx (op_len_row rfl el90) rfl ?_ | refine lx (op_len_mv rfl el90) rfl ?_ | refine lx (op_len_nil rfl el90) rfl ?_
                  refine lx (op_move rfl) rfl ?_
                  refine lx_end ⟨by kernel_rfl, ?_⟩
                  refine pe_then_normal ?_
                  refine tr_sub hC (.cons (t := 2) rfl (.cons (t := 3) rfl (.cons (t := 9) rfl (.cons (t := 10) rfl (.cons (t := 11) rfl (.cons (t := 12) rfl (.cons (t := 52) rfl (.cons (t := 53) rfl (.cons (t := 54) rfl (.cons (t := 62) rfl (.cons (t := 63) rfl (.cons (t := 83) rfl (.cons (t := 84) rfl .nil))))))))))))) (.cons (t := 3) rfl (.cons (t := 604) rfl (.cons (t := 601) rfl (.cons (t := 600) rfl (.cons (t := 605) rfl (.cons (t := 2) rfl (.cons (t := 9) rfl (.cons (t := 602) rfl (.cons (t := 603) rfl .nil))))))))) rfl ?_
                  refine tr_block ?_
                  refine tr_loopK (α := {zz : Nat // zz ≤ m.gors[k].frames[j].defers.length}) (⟨(0), Nat.zero_le _⟩) (fun zz => [(84, eqP (.int .i64 (zz.1 : Int)))]) (fun zz => []) (fun zz => m.gors[k].frames[j].defers.length - zz.1) hC (.cons (t := 2) rfl (.cons (t := 3) rfl (.cons (t := 9) rfl (.cons (t := 10) rfl (.cons (t := 11) rfl (.cons (t := 12) rfl (.cons (t := 52) rfl (.cons (t := 53) rfl (.cons (t := 54) rfl (.cons (t := 62) rfl (.cons (t := 63) rfl (.cons (t := 83) rfl .nil)))))))))))) (.cons (t := 3) rfl (.cons (t := 604) rfl (.cons (t := 601) rfl (.cons (t := 600) rfl (.cons (t := 605) rfl (.cons (t := 2) rfl (.cons (t := 9) rfl (.cons (t := 602) rfl (.cons (t := 603) rfl .nil))))))))) rfl ?_ ?_ (fun zz => ?_)
                  · try dsimp only [List.cons_append, List.nil_append]
                    first | refine SubF.cons rfl ?_ | (refine SubF.ent rfl ?_ ?_; · repeat (first | exact Ents.nil | refine Ents.cons ?_ ?_ | refine Ent.tup ?_ | refine Ent.agg ?_ | exact Ent.row _ _ _ _ | exact Ent.nil _ _ | exact Ent.func _ | exact Ent.refl _ | exact Ent.of_eq rfl | refine Ent.cells ?_))
                    exact SubF.nil
                  · try dsimp only [List.cons_append, List.nil_append]
                    repeat (first | exact SubL.nil | refine SubL.cons rfl ?_)
                  · obtain ⟨q, hq1⟩ := zz
                    dsimp only [List.cons_append, List.nil_append]
                    refine tr_seq ?_
                    refine tr_region (fun N23 hN => ?_)
                    refine lx (op_lss rfl rfl) rfl ?_
                    refine lx_end ⟨by kernel_rfl, ?_⟩
                    refine pe_then_normal ?_
                    refine tr_sub hC (.cons (t := 2) rfl (.cons (t := 3) rfl (.cons (t := 9) rfl (.cons (t := 10) rfl (.cons (t := 11) rfl (.cons (t := 12) rfl (.cons (t := 52) rfl (.cons (t := 53) rfl (.cons (t := 54) rfl (.cons (t := 62) rfl (.cons (t := 63) rfl (.cons (t := 83) rfl (.cons (t := 84) rfl (.cons (t := 85) rfl .nil)))))))))))))) (.cons (t := 3) rfl (.cons (t := 604) rfl (.cons (t := 601) rfl (.cons (t := 600) rfl (.cons (t := 605) rfl (.cons (t := 2) rfl (.cons (t := 9) rfl (.cons (t := 602) rfl (.cons (t := 603) rfl .nil))))))))) rfl ?_
                    refine tr_seq ?_
                    refine tr_cond rfl (fun h85 => ?_) (fun h85 => ?_)
                    · (try simp only [Bool.and_eq_true, Bool.or_eq_true, Bool.and_eq_false_iff, Bool.or_eq_false_iff, decide_eq_true_eq, decide_eq_false_iff_not, Bool.not_eq_true', Bool.not_eq_false', List.length_map, ne_eq, Decidable.not_not, Int.not_lt, Int.not_le] at h85)
                      refine tr_skip ?_
                      refine pe_then_normal ?_
                      refine tr_sub hC (.cons (t := 2) rfl (.cons (t := 3) rfl (.cons (t := 9) rfl (.cons (t := 10) rfl (.cons (t := 11) rfl (.cons (t := 12) rfl (.cons (t := 52) rfl (.cons (t := 53) rfl (.cons (t := 54) rfl (.cons (t := 62) rfl (.cons (t := 63) rfl (.cons (t := 83) rfl (.cons (t := 84) rfl .nil))))))))))))) (.cons (t := 3) rfl (.cons (t := 604) rfl (.cons (t := 601) rfl (.cons (t := 600) rfl (.cons (t := 605) rfl (.cons (t := 2) rfl (.cons (t := 9) rfl (.cons (t := 602) rfl (.cons (t := 603) rfl .nil))))))))) rfl ?_
                      refine tr_seq ?_
                      refine tr_block ?_
                      refine tr_seq ?_
                      refine tr_region (fun N24 hN => ?_)
                      refine lx (op_move rfl) rfl ?_
                      refine lx (op_assign rfl) rfl ?_
                      refine lx_end ⟨by kernel_rfl, ?_⟩
                      refine pe_then_normal ?_
                      refine tr_sub hC (.cons (t := 2) rfl (.cons (t := 3) rfl (.cons (t := 9) rfl (.cons (t := 10) rfl (.cons (t := 11) rfl (.cons (t := 12) rfl (.cons (t := 13) rfl (.cons (t := 52) rfl (.cons (t := 53) rfl (.cons (t := 54) rfl (.cons (t := 62) rfl (.cons (t := 63) rfl (.cons (t := 83) rfl (.cons (t := 84) rfl .nil)))))))))))))) (.cons (t := 3) rfl (.cons (t := 604) rfl (.cons (t := 601) rfl (.cons (t := 600) rfl (.cons (t := 605) rfl (.cons (t := 2) rfl (.cons (t := 9) rfl (.cons (t := 602) rfl (.cons (t := 603) rfl .nil))))))))) rfl ?_
                      refine tr_region (fun N25 hN => ?_)
                      refine lx (op_move rfl) rfl ?_
                      refine lx (op_move rfl) rfl ?_
                      refine lx (op_move rfl) rfl ?_
                      refine lx (op_move rfl) rfl ?_
                      refine lx (op_index_mv rfl rfl el90 sz94 rfl (by omega)) rfl ?_
                      refine lx (op_fieldAddr rfl fl94_1 sz30) rfl ?_
                      refine lx (op_tload_one (m := 603) (j := q) (fo := 1) rfl rfl ag30 Df.len (by omega) (List.getElem?_eq_getElem (by omega : q < m.gors[k].frames[j].defers.length)) rfl) rfl ?_
                      first | refine lx (op_call (l := [(Go.Operand.tmp 93)]) (vcl m.gors[k].frames[j].defers[q].args (hbf.args _ (List.getElem_mem ..))) (.cons rfl .nil) fn53) rfl ?_ | refine lx (op_call (l := [(Go.Operand.tmp 93)]) (vcl m.gors[k].frames[j].defers[q].args (hbf.args _ (List.getElem_mem ..))) (.ent rfl (by repeat (first | exact Ents.nil | refine Ents.cons ?_ ?_ | refine Ent.tup ?_ | refine Ent.agg ?_ | exact Ent.row _ _ _ _ | exact Ent.nil _ _ | exact Ent.func _ | exact Ent.refl _ | exact Ent.of_eq rfl | refine Ent.cells ?_)) .nil) fn53) rfl ?_
                      refine lx (op_index_mv rfl rfl el90 sz94 rfl (by omega)) rfl ?_
                      refine lx (op_fieldAddr rfl fl94_1 sz30) rfl ?_
                      refine lxr (op_tstore_id (m := 603) (j := q) (fo := 1) (z := m.gors[k].frames[j].defers[q]) rfl rfl rfl (.one (by (first | exact One.eq rfl | exact One.mv _ _ _ _ _ | exact One.cl _ _ _ | exact One.map _ | exact One.sl _ _ _ | exact One.row _ _ _ _ | exact One.msl _ _ _ _ | exact One.ptr _ _ | exact One.b _ | exact One.cells _))) sz30 rfl Df.len (by omega) (List.getElem?_eq_getElem (by omega : q < m.gors[k].frames[j].defers.length)) rfl rfl) rfl ?_
                      refine lx_end ⟨by kernel_rfl, ?_⟩
                      refine pe_block_normal ?_
                      refine pe_then_normal ?_
                      refine tr_sub hC (.cons (t := 2) rfl (.cons (t := 3) rfl (.cons (t := 9) rfl (.cons (t := 10) rfl (.cons (t := 11) rfl (.cons (t := 12) rfl (.cons (t := 52) rfl (.cons (t := 53) rfl (.cons (t := 54) rfl (.cons (t := 62) rfl (.cons (t := 63) rfl (.cons (t := 83) rfl (.cons (t := 84) rfl .nil))))))))))))) (.cons (t := 3) rfl (.cons (t := 604) rfl (.cons (t := 601) rfl (.cons (t := 600) rfl (.cons (t := 605) rfl (.cons (t := 2) rfl (.cons (t := 9) rfl (.cons (t := 602) rfl (.cons (t := 603) rfl .nil))))))))) rfl ?_
                      refine tr_region (fun N26 hN => ?_)
                      refine lx (op_add rfl rfl (by omega)) rfl ?_
                      refine lx (op_move rfl) rfl ?_
                      refine lx_end ⟨by kernel_rfl, ?_⟩
                      refine pe_round (⟨(q + 1), by omega⟩) (by dsimp only; omega) (pe_st hC ?_ ?_ rfl)
                      · try dsimp only [List.cons_append, List.nil_append]
                        first | refine SubF.cons rfl ?_ | (refine SubF.ent rfl ?_ ?_; · repeat (first | exact Ents.nil | refine Ents.cons ?_ ?_ | refine Ent.tup ?_ | refine Ent.agg ?_ | exact Ent.row _ _ _ _ | exact Ent.nil _ _ | exact Ent.func _ | exact Ent.refl _ | exact Ent.of_eq rfl | refine Ent.cells ?_))
                        first | refine SubF.cons rfl ?_ | (refine SubF.ent rfl ?_ ?_; · repeat (first | exact Ents.nil | refine Ents.cons ?_ ?_ | refine Ent.tup ?_ | refine Ent.agg ?_ | exact Ent.row _ _ _ _ | exact Ent.nil _ _ | exact Ent.func _ | exact Ent.refl _ | exact Ent.of_eq rfl | refine Ent.cells ?_))
                        first | refine SubF.cons rfl ?_ | (refine SubF.ent rfl ?_ ?_; · repeat (first | exact Ents.nil | refine Ents.cons ?_ ?_ | refine Ent.tup ?_ | refine Ent.agg ?_ | exact Ent.row _ _ _ _ | exact Ent.nil _ _ | exact Ent.func _ | exact Ent.refl _ | exact Ent.of_eq rfl | refine Ent.cells ?_))
                        first | refine SubF.cons rfl ?_ | (refine SubF.ent rfl ?_ ?_; · repeat (first | exact Ents.nil | refine Ents.cons ?_ ?_ | refine Ent.tup ?_ | refine Ent.agg ?_ | exact Ent.row _ _ _ _ | exact Ent.nil _ _ | exact Ent.func _ | exact Ent.refl _ | exact Ent.of_eq rfl | refine Ent.cells ?_))
                        first | refine SubF.cons rfl ?_ | (refine SubF.ent rfl ?_ ?_; · repeat (first | exact Ents.nil | refine Ents.cons ?_ ?_ | refine Ent.tup ?_ | refine Ent.agg ?_ | exact Ent.row _ _ _ _ | exact Ent.nil _ _ | exact Ent.func _ | exact Ent.refl _ | exact Ent.of_eq rfl | refine Ent.cells ?_))
                        first | refine SubF.cons rfl ?_ | (refine SubF.ent rfl ?_ ?_; · repeat (first | exact Ents.nil | refine Ents.cons ?_ ?_ | refine Ent.tup ?_ | refine Ent.agg ?_ | exact Ent.row _ _ _ _ | exact Ent.nil _ _ | exact Ent.func _ | exact Ent.refl _ | exact Ent.of_eq rfl | refine Ent.cells ?_))
                        first | refine SubF.cons rfl ?_ | (refine SubF.ent rfl ?_ ?_; · repeat (first | exact Ents.nil | refine Ents.cons ?_ ?_ | refine Ent.tup ?_ | refine Ent.agg ?_ | exact Ent.row _ _ _ _ | exact Ent.nil _ _ | exact Ent.func _ | exact Ent.refl _ | exact Ent.of_eq rfl | refine Ent.cells ?_))
                        first | refine SubF.cons rfl ?_ | (refine SubF.ent rfl ?_ ?_; · repeat (first | exact Ents.nil | refine Ents.cons ?_ ?_ | refine Ent.tup ?_ | refine Ent.agg ?_ | exact Ent.row _ _ _ _ | exact Ent.nil _ _ | exact Ent.func _ | exact Ent.refl _ | exact Ent.of_eq rfl | refine Ent.cells ?_))
                        first | refine SubF.cons rfl ?_ | (refine SubF.ent rfl ?_ ?_; · repeat (first | exact Ents.nil | refine Ents.cons ?_ ?_ | refine Ent.tup ?_ | refine Ent.agg ?_ | exact Ent.row _ _ _ _ | exact Ent.nil _ _ | exact Ent.func _ | exact Ent.refl _ | exact Ent.of_eq rfl | refine Ent.cells ?_))
                        first | refine SubF.cons rfl ?_ | (refine SubF.ent rfl ?_ ?_; · repeat (first | exact Ents.nil | refine Ents.cons ?_ ?_ | refine Ent.tup ?_ | refine Ent.agg ?_ | exact Ent.row _ _ _ _ | exact Ent.nil _ _ | exact Ent.func _ | exact Ent.refl _ | exact Ent.of_eq rfl | refine Ent.cells ?_))
                        first | refine SubF.cons rfl ?_ | (refine SubF.ent rfl ?_ ?_; · repeat (first | exact Ents.nil | refine Ents.cons ?_ ?_ | refine Ent.tup ?_ | refine Ent.agg ?_ | exact Ent.row _ _ _ _ | exact Ent.nil _ _ | exact Ent.func _ | exact Ent.refl _ | exact Ent.of_eq rfl | refine Ent.cells ?_))
                        first | refine SubF.cons rfl ?_ | (refine SubF.ent rfl ?_ ?_; · repeat (first | exact Ents.nil | refine Ents.cons ?_ ?_ | refine Ent.tup ?_ | refine Ent.agg ?_ | exact Ent.row _ _ _ _ | exact Ent.nil _ _ | exact Ent.func _ | exact Ent.refl _ | exact Ent.of_eq rfl | refine Ent.cells ?_))
                        first | refine SubF.cons rfl ?_ | (refine SubF.ent rfl ?_ ?_; · repeat (first | exact Ents.nil | refine Ents.cons ?_ ?_ | refine Ent.tup ?_ | refine Ent.agg ?_ | exact Ent.row _ _ _ _ | exact Ent.nil _ _ | exact Ent.func _ | exact Ent.refl _ | exact Ent.of_eq rfl | refine Ent.cells ?_))
                        exact SubF.nil
                      · try dsimp only [List.cons_append, List.nil_append]
                        repeat (first | exact SubL.nil | refine SubL.cons rfl ?_)
                    · (try simp only [Bool.and_eq_true, Bool.or_eq_true, Bool.and_eq_false_iff, Bool.or_eq_false_iff, decide_eq_true_eq, decide_eq_false_iff_not, Bool.not_eq_true', Bool.not_eq_false', List.length_map, ne_eq, Decidable.not_not, Int.not_lt, Int.not_le] at h85)
                      refine tr_exit ?_
                      refine pe_then_exit ?_
                      refine pe_then_exit ?_
                      refine pe_block_eq ?_
                      refine pe_then_normal ?_
                      refine tr_sub hC (.cons (t := 2) rfl (.cons (t := 3) rfl (.cons (t := 9) rfl (.cons (t := 10) rfl (.cons (t := 11) rfl (.cons (t := 12) rfl (.cons (t := 52) rfl (.cons (t := 53) rfl (.cons (t := 54) rfl (.cons (t := 62) rfl (.cons (t := 63) rfl .nil))))))))))) (.cons (t := 3) rfl (.cons (t := 604) rfl (.cons (t := 601) rfl (.cons (t := 600) rfl (.cons (t := 605) rfl (.cons (t := 2) rfl (.cons (t := 9) rfl (.cons (t := 602) rfl (.cons (t := 603) rfl .nil))))))))) rfl ?_
                      refine tr_freeze (m := 603) rfl (.cons (t := 2) rfl (.cons (t := 3) rfl (.cons (t := 9) rfl (.cons (t := 10) rfl (.cons (t := 11) rfl (.ent (t := 12) rfl (FEnt.mv (xs := m.gors[k].frames[j].defers) (f := Df.ps) rfl ⟨[], by simp⟩ Df.len) (.cons (t := 52) rfl (.cons (t := 53) rfl (.cons (t := 54) rfl (.cons (t := 62) rfl (.cons (t := 63) rfl .nil))))))))))) ?_
                      try dsimp only
                      refine tr_region (fun N27 hN => ?_)
                      refine lx (op_move rfl) rfl ?_
                      refine lx (op_move rfl) rfl ?_
                      refine lx (op_move rfl) rfl ?_
                      refine lx (op_index_mv rfl rfl el68 sz92 rfl (by omega)) rfl ?_
                      refine lx (op_fieldAddr rfl fl92_4 sz90) rfl ?_
                      refine lxr (op_tstore_id (m := 602) (j := j) (fo := 4) (z := m.gors[k].frames[j]) rfl rfl rfl (.one (by (first | exact One.eq rfl | exact One.mv _ _ _ _ _ | exact One.cl _ _ _ | exact One.map _ | exact One.sl _ _ _ | exact One.row _ _ _ _ | exact One.msl _ _ _ _ | exact One.ptr _ _ | exact One.b _ | exact One.cells _))) sz90 rfl Fm.len (by omega) (List.getElem?_eq_getElem (by omega : j < m.gors[k].frames.length)) rfl rfl) rfl ?_
                      refine lx_end ⟨by kernel_rfl, ?_⟩
                      refine pe_block_normal ?_
                      refine pe_then_normal ?_
                      refine tr_sub hC (.cons (t := 2) rfl (.cons (t := 3) rfl (.cons (t := 9) rfl (.cons (t := 10) rfl (.cons (t := 52) rfl (.cons (t := 53) rfl (.cons (t := 54) rfl (.cons (t := 62) rfl (.cons (t := 63) rfl .nil))))))))) (.cons (t := 3) rfl (.cons (t := 604) rfl (.cons (t := 601) rfl (.cons (t := 600) rfl (.cons (t := 605) rfl (.cons (t := 2) rfl (.cons (t := 9) rfl (.cons (t := 602) rfl .nil)))))))) rfl ?_
                      refine tr_region (fun N28 hN => ?_)
                      refine lx (op_add rfl rfl (by omega)) rfl ?_
                      refine lx (op_move rfl) rfl ?_
                      refine lx_end ⟨by kernel_rfl, ?_⟩
                      refine pe_round (⟨(j + 1), by omega⟩) (by dsimp only; omega) (pe_st hC ?_ ?_ rfl)
                      · try dsimp only [List.cons_append, List.nil_append]
                        first | refine SubF.cons rfl ?_ | (refine SubF.ent rfl ?_ ?_; · repeat (first | exact Ents.nil | refine Ents.cons ?_ ?_ | refine Ent.tup ?_ | refine Ent.agg ?_ | exact Ent.row _ _ _ _ | exact Ent.nil _ _ | exact Ent.func _ | exact Ent.refl _ | exact Ent.of_eq rfl | refine Ent.cells ?_))
                        first | refine SubF.cons rfl ?_ | (refine SubF.ent rfl ?_ ?_; · repeat (first | exact Ents.nil | refine Ents.cons ?_ ?_ | refine Ent.tup ?_ | refine Ent.agg ?_ | exact Ent.row _ _ _ _ | exact Ent.nil _ _ | exact Ent.func _ | exact Ent.refl _ | exact Ent.of_eq rfl | refine Ent.cells ?_))
                        first | refine SubF.cons rfl ?_ | (refine SubF.ent rfl ?_ ?_; · repeat (first | exact Ents.nil | refine Ents.cons ?_ ?_ | refine Ent.tup ?_ | refine Ent.agg ?_ | exact Ent.row _ _ _ _ | exact Ent.nil _ _ | exact Ent.func _ | exact Ent.refl _ | exact Ent.of_eq rfl | refine Ent.cells ?_))
                        first | refine SubF.cons rfl ?_ | (refine SubF.ent rfl ?_ ?_; · repeat (first | exact Ents.nil | refine Ents.cons ?_ ?_ | refine Ent.tup ?_ | refine Ent.agg ?_ | exact Ent.row _ _ _ _ | exact Ent.nil _ _ | exact Ent.func _ | exact Ent.refl _ | exact Ent.of_eq rfl | refine Ent.cells ?_))
                        first | refine SubF.cons rfl ?_ | (refine SubF.ent rfl ?_ ?_; · repeat (first | exact Ents.nil | refine Ents.cons ?_ ?_ | refine Ent.tup ?_ | refine Ent.agg ?_ | exact Ent.row _ _ _ _ | exact Ent.nil _ _ | exact Ent.func _ | exact Ent.refl _ | exact Ent.of_eq rfl | refine Ent.cells ?_))
                        first | refine SubF.cons rfl ?_ | (refine SubF.ent rfl ?_ ?_; · repeat (first | exact Ents.nil | refine Ents.cons ?_ ?_ | refine Ent.tup ?_ | refine Ent.agg ?_ | exact Ent.row _ _ _ _ | exact Ent.nil _ _ | exact Ent.func _ | exact Ent.refl _ | exact Ent.of_eq rfl | refine Ent.cells ?_))
                        first | refine SubF.cons rfl ?_ | (refine SubF.ent rfl ?_ ?_; · repeat (first | exact Ents.nil | refine Ents.cons ?_ ?_ | refine Ent.tup ?_ | refine Ent.agg ?_ | exact Ent.row _ _ _ _ | exact Ent.nil _ _ | exact Ent.func _ | exact Ent.refl _ | exact Ent.of_eq rfl | refine Ent.cells ?_))
                        first | refine SubF.cons rfl ?_ | (refine SubF.ent rfl ?_ ?_; · repeat (first | exact Ents.nil | refine Ents.cons ?_ ?_ | refine Ent.tup ?_ | refine Ent.agg ?_ | exact Ent.row _ _ _ _ | exact Ent.nil _ _ | exact Ent.func _ | exact Ent.refl _ | exact Ent.of_eq rfl | refine Ent.cells ?_))
                        first | refine SubF.cons rfl ?_ | (refine SubF.ent rfl ?_ ?_; · repeat (first | exact Ents.nil | refine Ents.cons ?_ ?_ | refine Ent.tup ?_ | refine Ent.agg ?_ | exact Ent.row _ _ _ _ | exact Ent.nil _ _ | exact Ent.func _ | exact Ent.refl _ | exact Ent.of_eq rfl | refine Ent.cells ?_))
                        exact SubF.nil
                      · try dsimp only [List.cons_append, List.nil_append]
                        repeat (first | exact SubL.nil | refine SubL.cons rfl ?_)
                · (try simp only [Bool.and_eq_true, Bool.or_eq_true, Bool.and_eq_false_iff, Bool.or_eq_false_iff, decide_eq_true_eq, decide_eq_false_iff_not, Bool.not_eq_true', Bool.not_eq_false', List.length_map, ne_eq, Decidable.not_not, Int.not_lt, Int.not_le] at h64)
                  refine tr_exit ?_
                  refine pe_then_exit ?_
                  refine pe_then_exit ?_
                  refine pe_block_eq ?_
                  refine pe_then_normal ?_
                  refine tr_sub hC (.cons (t := 2) rfl (.cons (t := 3) rfl (.cons (t := 9) rfl (.cons (t := 10) rfl (.cons (t := 52) rfl (.cons (t := 53) rfl (.cons (t := 54) rfl .nil))))))) (.cons (t := 3) rfl (.cons (t := 604) rfl (.cons (t := 601) rfl (.cons (t := 600) rfl (.cons (t := 605) rfl (.cons (t := 2) rfl (.cons (t := 9) rfl (.cons (t := 602) rfl .nil)))))))) rfl ?_
                  refine tr_freeze (m := 602) rfl (.cons (t := 2) rfl (.cons (t := 3) rfl (.cons (t := 9) rfl (.ent (t := 10) rfl (FEnt.mv (xs := m.gors[k].frames) (f := Fm.ps) rfl ⟨[], by simp⟩ Fm.len) (.cons (t := 52) rfl (.cons (t := 53) rfl (.cons (t := 54) rfl .nil))))))) ?_
                  try dsimp only
                  refine tr_seq ?_
                  refine tr_region (fun N29 hN => ?_)
                  refine lx (op_move rfl) rfl ?_
                  refine lx (op_fieldAddr rfl fl70_3 sz68) rfl ?_
                  refine lxr (op_store (m := 9) (rs := [_, _, _, _]) rfl rfl rfl (.one (by (first | exact One.eq rfl | exact One.mv _ _ _ _ _ | exact One.cl _ _ _ | exact One.map _ | exact One.sl _ _ _ | exact One.row _ _ _ _ | exact One.msl _ _ _ _ | exact One.ptr _ _ | exact One.b _ | exact One.cells _))) sz68 rfl rfl rfl) rfl ?_
                  refine lx_end ⟨by kernel_rfl, ?_⟩
                  refine pe_then_normal ?_
                  refine tr_sub hC (.cons (t := 2) rfl (.cons (t := 3) rfl (.cons (t := 9) rfl (.cons (t := 52) rfl (.cons (t := 53) rfl (.cons (t := 54) rfl .nil)))))) (.cons (t := 3) rfl (.cons (t := 604) rfl (.cons (t := 601) rfl (.cons (t := 600) rfl (.cons (t := 605) rfl (.cons (t := 2) rfl (.cons (t := 9) rfl .nil))))))) rfl ?_
                  refine tr_region (fun N30 hN => ?_)
                  refine lx (op_fieldAddr rfl fl29_2 sz26) rfl ?_
                  refine lx (op_bload_one (m := 3) rfl rfl ag26 rfl) rfl ?_
                  refine lx (op_bload (m := 9) rfl rfl ag70 sz70) rfl ?_
                  refine lx (op_buildSlice (f := Gr.ps) (xs := [m.gors[k]]) (l := [(0, (Go.Operand.tmp 108))]) ze70 rfl rfl (by decide) el26 sz70 Gr.len (.cons rfl (.agg rfl) .nil) rfl (by decide)) rfl ?_
                  refine lxr (op_append (m := 604) (m' := 604) (kk := 110) rfl rfl rfl (.inl rfl) el26 ze70 sz70 by70 rfl Gr.len (by rw [List.length_singleton]; omega) (by rw [List.length_singleton]; omega)) rfl ?_
                  refine lx (op_fieldAddr rfl fl29_2 sz26) rfl ?_
                  refine lxr (op_store (m := 3) (rs := [_, _, _, _]) rfl rfl rfl (.one (by (first | exact One.eq rfl | exact One.mv _ _ _ _ _ | exact One.cl _ _ _ | exact One.map _ | exact One.sl _ _ _ | exact One.row _ _ _ _ | exact One.msl _ _ _ _ | exact One.ptr _ _ | exact One.b _ | exact One.cells _))) sz26 rfl rfl rfl) rfl ?_
                  refine lx_end ⟨by kernel_rfl, ?_⟩
                  refine pe_block_normal ?_
                  refine pe_then_normal ?_
                  refine tr_sub hC (.cons (t := 2) rfl (.cons (t := 3) rfl (.cons (t := 52) rfl (.cons (t := 53) rfl (.cons (t := 54) rfl .nil))))) (.cons (t := 3) rfl (.cons (t := 601) rfl (.cons (t := 600) rfl (.cons (t := 605) rfl (.cons (t := 2) rfl (.cons (t := 604) rfl .nil)))))) rfl ?_
                  refine tr_region (fun N31 hN => ?_)
                  refine lx (op_add rfl rfl (by omega)) rfl ?_
                  refine lx (op_move rfl) rfl ?_
                  refine lx_end ⟨by kernel_rfl, ?_⟩
                  refine pe_round (⟨(k + 1, xs ++ [m.gors[k]], (N30, 110)), by dsimp only; omega, by dsimp only; rw [hxs, take_at (by omega : k < m.gors.length)]⟩) (by dsimp only; omega) (pe_st hC ?_ ?_ rfl)
                  · try dsimp only [List.cons_append, List.nil_append]
                    first | refine SubF.cons rfl ?_ | (refine SubF.ent rfl ?_ ?_; · repeat (first | exact Ents.nil | refine Ents.cons ?_ ?_ | refine Ent.tup ?_ | refine Ent.agg ?_ | exact Ent.row _ _ _ _ | exact Ent.nil _ _ | exact Ent.func _ | exact Ent.refl _ | exact Ent.of_eq rfl | refine Ent.cells ?_))
                    first | refine SubF.cons rfl ?_ | (refine SubF.ent rfl ?_ ?_; · repeat (first | exact Ents.nil | refine Ents.cons ?_ ?_ | refine Ent.tup ?_ | refine Ent.agg ?_ | exact Ent.row _ _ _ _ | exact Ent.nil _ _ | exact Ent.func _ | exact Ent.refl _ | exact Ent.of_eq rfl | refine Ent.cells ?_))
                    first | refine SubF.cons rfl ?_ | (refine SubF.ent rfl ?_ ?_; · repeat (first | exact Ents.nil | refine Ents.cons ?_ ?_ | refine Ent.tup ?_ | refine Ent.agg ?_ | exact Ent.row _ _ _ _ | exact Ent.nil _ _ | exact Ent.func _ | exact Ent.refl _ | exact Ent.of_eq rfl | refine Ent.cells ?_))
                    first | refine SubF.cons rfl ?_ | (refine SubF.ent rfl ?_ ?_; · repeat (first | exact Ents.nil | refine Ents.cons ?_ ?_ | refine Ent.tup ?_ | refine Ent.agg ?_ | exact Ent.row _ _ _ _ | exact Ent.nil _ _ | exact Ent.func _ | exact Ent.refl _ | exact Ent.of_eq rfl | refine Ent.cells ?_))
                    first | refine SubF.cons rfl ?_ | (refine SubF.ent rfl ?_ ?_; · repeat (first | exact Ents.nil | refine Ents.cons ?_ ?_ | refine Ent.tup ?_ | refine Ent.agg ?_ | exact Ent.row _ _ _ _ | exact Ent.nil _ _ | exact Ent.func _ | exact Ent.refl _ | exact Ent.of_eq rfl | refine Ent.cells ?_))
                    exact SubF.nil
                  · try dsimp only [List.cons_append, List.nil_append]
                    repeat (first | exact SubL.nil | refine SubL.cons rfl ?_)
            · (try simp only [Bool.and_eq_true, Bool.or_eq_true, Bool.and_eq_false_iff, Bool.or_eq_false_iff, decide_eq_true_eq, decide_eq_false_iff_not, Bool.not_eq_true', Bool.not_eq_false', List.length_map, ne_eq, Decidable.not_not, Int.not_lt, Int.not_le] at h55)
              have hfin : xs = m.gors := by rw [hxs, List.take_of_length_le (by omega)]
              refine tr_exit ?_
              refine pe_then_exit ?_
              refine pe_then_exit ?_
              refine pe_block_eq ?_
              refine pe_then_normal ?_
              refine tr_sub hC (.cons (t := 2) rfl (.cons (t := 3) rfl .nil)) (.cons (t := 3) rfl (.cons (t := 604) rfl (.cons (t := 601) rfl (.cons (t := 600) rfl (.cons (t := 605) rfl (.cons (t := 2) rfl .nil)))))) rfl ?_
              refine tr_weakTok (m := 3) (qs := [mvP io 10 0 m.objects.length m.objects.length, slP Sy.ps 6 m.syncs, slP Gr.ps 4 m.gors, slP ip 1 m.output]) rfl ?_ ?_
              · repeat (first | exact Ents.nil | refine Ents.cons ?_ ?_ | exact Ent.refl _ | exact Ent.row _ _ _ _ | exact Ent.nil _ _ | exact Ent.trans (Ent.row _ _ _ _) (Ent.of_eq (by rw [hfin])))
              refine tr_seq ?_
              refine tr_region (fun N32 hN => ?_)
              refine lx (op_bload (m := 3) rfl rfl ag29 sz29) rfl ?_
              refine lxr (op_store_all (m := 2) rfl rfl rfl (.agg rfl) sz29 rfl) rfl ?_
              refine lx_end ⟨by kernel_rfl, ?_⟩
              refine pe_then_normal ?_
              refine tr_sub hC (.cons (t := 2) rfl .nil) (.cons (t := 604) rfl (.cons (t := 601) rfl (.cons (t := 600) rfl (.cons (t := 605) rfl (.cons (t := 2) rfl .nil))))) rfl ?_
              refine tr_ret ?_
              refine pe_ownS' [600, 605] rfl hO rfl (.cell (m := 2) rfl rfl ag29 sz29 .nil) (.cons (m := 600) rfl (RenR.blk _ _ _) (.cons (m := 605) rfl (RenR.blk _ _ _) .nil)) rfl rfl rfl ?_
              intro τ ι hs'
              refine ⟨?_, ?_⟩
              · exact aggP_at (.cons (mv_ren (hs' 0 _ rfl).1 (hs' 0 _ rfl).2) (.cons (ent_at (Ent.refl _)) (.cons (ent_at (Ent.refl _)) (.cons (ent_at (Ent.refl _)) .nil))))
              · exact (.moved rfl (blk_ents (selL_ren (hs' 1 _ rfl).1 (hs' 1 _ rfl).2)) (.moved rfl (fun b o h => h) .nil))
end Go.Proofs.Ytibcbiamdjmckaa


set_option linter.unusedVariables false
set_option linter.unusedSimpArgs false
namespace Go.Proofs.Ytibcbiamdjmckaa
open Go.AL Go.Ch Go.Hp Go.RowKit
theorem Store_ok (m : Mc) (r v : V) (hb : Bd 4000000 m) (hs : Srt m.objects) : FnP Try.prog 21 [aggP m.ps, aggP (vp r), aggP (vp v)] (tupP [aggP (storeF m r v).1.ps, eqP (.int .i64 (storeF m r v).2)]) := by
  refine fn_pure' Try.func21 rfl Try.ntmps21 rfl ?_
  intro σ0 M ex Rf R hC hO
  simp only [frameOf, tokOf]
  refine tr_seq ?_
  refine tr_region (fun N0 hN => ?_)
  refine lxn (op_box (m := 3) (k := 3) rfl (.agg rfl) (by first | exact hC.low _ (by decide) | rfl)) rfl ?_
  refine lxn (op_box (m := 4) (k := 4) rfl (.agg rfl) (by first | exact hC.low _ (by decide) | rfl)) rfl ?_
  refine lxn (op_box (m := 5) (k := 5) rfl (.agg rfl) (by first | exact hC.low _ (by decide) | rfl)) rfl ?_
  refine lxn (op_alloc (m := 6) (k := 6) (ps := [eqP (.slice none 0 0), eqP (.slice none 0 0), eqP (.slice none 0 0), eqP (.slice none 0 0)]) ze29 rfl rfl (by first | exact hC.low _ (by decide) | rfl)) rfl ?_
  refine lx (op_assign rfl) rfl ?_
  refine lx_end ⟨by kernel_rfl, ?_⟩
  refine pe_then_normal ?_
  refine tr_sub hC (.cons (t := 3) rfl (.cons (t := 4) rfl (.cons (t := 5) rfl (.cons (t := 6) rfl .nil)))) (.cons (t := 3) rfl (.cons (t := 4) rfl (.cons (t := 5) rfl (.cons (t := 6) rfl .nil)))) rfl ?_
  refine tr_seq ?_
  refine tr_region (fun N1 hN => ?_)
  refine lx (op_bload (m := 3) rfl rfl ag29 sz29) rfl ?_
  refine lx (op_bload (m := 4) rfl rfl ag41 sz41) rfl ?_
  first | refine lx (op_call (l := [(Go.Operand.tmp 12), (Go.Operand.tmp 13)]) (cell_ok m hb hs r) (.cons rfl (.cons rfl .nil)) fn38) rfl ?_ | refine lx (op_call (l := [(Go.Operand.tmp 12), (Go.Operand.tmp 13)]) (cell_ok m hb hs r) (.ent rfl (by repeat (first | exact Ents.nil | refine Ents.cons ?_ ?_ | refine Ent.tup ?_ | refine Ent.agg ?_ | exact Ent.row _ _ _ _ | exact Ent.nil _ _ | exact Ent.func _ | exact Ent.refl _ | exact Ent.of_eq rfl | refine Ent.cells ?_)) (.ent rfl (by repeat (first | exact Ents.nil | refine Ents.cons ?_ ?_ | refine Ent.tup ?_ | refine Ent.agg ?_ | exact Ent.row _ _ _ _ | exact Ent.nil _ _ | exact Ent.func _ | exact Ent.refl _ | exact Ent.of_eq rfl | refine Ent.cells ?_)) .nil)) fn38) rfl ?_
  refine lx (op_move rfl) rfl ?_
  refine lx (op_extract rfl rfl) rfl ?_
  refine lx (op_extract rfl rfl) rfl ?_
  refine lx (op_assign rfl) rfl ?_
  refine lx (op_assign rfl) rfl ?_
  refine lx_end ⟨by kernel_rfl, ?_⟩
  refine pe_then_normal ?_
  refine tr_sub hC (.cons (t := 3) rfl (.cons (t := 4) rfl (.cons (t := 5) rfl (.cons (t := 6) rfl (.cons (t := 8) rfl (.cons (t := 9) rfl .nil)))))) (.cons (t := 3) rfl (.cons (t := 4) rfl (.cons (t := 5) rfl (.cons (t := 6) rfl .nil)))) rfl ?_
  refine tr_seq ?_
  refine tr_seq ?_
  refine tr_region (fun N2 hN => ?_)
  refine lx (op_move rfl) rfl ?_
  refine lx (op_neq rfl rfl) rfl ?_
  refine lx_end ⟨by kernel_rfl, ?_⟩
  refine pe_then_normal ?_
  refine tr_sub hC (.cons (t := 3) rfl (.cons (t := 4) rfl (.cons (t := 5) rfl (.cons (t := 6) rfl (.cons (t := 8) rfl (.cons (t := 9) rfl (.cons (t := 18) rfl .nil))))))) (.cons (t := 3) rfl (.cons (t := 4) rfl (.cons (t := 5) rfl (.cons (t := 6) rfl .nil)))) rfl ?_
  refine tr_cond rfl (fun h18 => ?_) (fun h18 => ?_)
  · (try simp only [Bool.and_eq_true, Bool.or_eq_true, Bool.and_eq_false_iff, Bool.or_eq_false_iff, decide_eq_true_eq, decide_eq_false_iff_not, Bool.not_eq_true', Bool.not_eq_false', List.length_map, ne_eq, Decidable.not_not, Int.not_lt, Int.not_le] at h18)
    have h := store_n (m := m) (r := r) (v := v) h18
    refine tr_seq ?_
    refine tr_region (fun N3 hN => ?_)
    refine lx (op_build (qs := [_, _, _, _]) (parts := []) ze29 rfl rfl fs29 .nil rfl rfl) rfl ?_
    refine lx (op_move rfl) rfl ?_
    refine lxr (op_store_all (m := 6) rfl rfl rfl (.agg rfl) sz29 rfl) rfl ?_
    refine lx (op_assign rfl) rfl ?_
    refine lx_end ⟨by kernel_rfl, ?_⟩
    refine pe_then_normal ?_
    refine tr_sub hC (.cons (t := 6) rfl (.cons (t := 7) rfl .nil)) (.cons (t := 6) rfl .nil) rfl ?_
    refine tr_ret ?_
    refine pe_then_ret ?_
    refine pe_retN (rs := [.cell 6 29, .tmp 7]) rfl rfl hO rfl (.cell (m := 6) rfl rfl ag29 sz29 (.tmp rfl .nil)) ?_
    rw [h]
    repeat (first | exact Ents.nil | refine Ents.cons ?_ ?_ | refine Ent.tup ?_ | refine Ent.agg ?_ | exact Ent.row _ _ _ _ | exact Ent.nil _ _ | exact Ent.func _ | exact Ent.refl _ | exact Ent.of_eq rfl | refine Ent.cells ?_)
  · (try simp only [Bool.and_eq_true, Bool.or_eq_true, Bool.and_eq_false_iff, Bool.or_eq_false_iff, decide_eq_true_eq, decide_eq_false_iff_not, Bool.not_eq_true', Bool.not_eq_false', List.length_map, ne_eq, Decidable.not_not, Int.not_lt, Int.not_le] at h18)
    obtain ⟨hkd, hfd, h1, hch, ho1, ho2⟩ := cell_inv h18
    obtain ⟨hpl, o, ho, hoid⟩ := fnd_pos hfd hs
    rw [List.getElem?_eq_getElem hpl] at ho2 hch
    simp only [Option.getD_some] at ho2 hch
    have hof : r.off.toNat < (m.objects[(pos m.objects r.n)]'hpl).cells.length := by omega
    have h := store_y (v := v) h18
    rw [List.getElem?_eq_getElem hpl] at h
    simp only [Option.getD_some] at h
    refine tr_skip ?_
    refine pe_then_normal ?_
    refine tr_sub hC (.cons (t := 3) rfl (.cons (t := 4) rfl (.cons (t := 5) rfl (.cons (t := 6) rfl (.cons (t := 8) rfl .nil))))) (.cons (t := 3) rfl (.cons (t := 4) rfl (.cons (t := 5) rfl (.cons (t := 6) rfl .nil)))) rfl ?_
    refine tr_seq ?_
    refine tr_region (fun N4 hN => ?_)
    refine lx (op_bload (m := 3) rfl rfl ag29 sz29) rfl ?_
    first | refine lx_any rfl (op_callG2 (l := [(Go.Operand.tmp 21)]) (add := [(601, ((N4, 100220), blkX 10 33 ((selL m.objects (pos m.objects r.n) (N4, 100221)).flatMap obE))), (605, ((N4, 100221), blkX 3 41 ((m.objects[(pos m.objects r.n)]'hpl).cells.flatMap vp)))]) (ks := [100220, 100221]) (φ := aggP ([mvP (N4, 100220) 10 0 m.objects.length m.objects.length, slP Sy.ps 6 m.syncs, slP Gr.ps 4 m.gors, slP ip 1 m.output])) .nil (copied_cell m hb (pos m.objects r.n) hpl) (.cons rfl .nil) fn40 rfl rfl rfl (.new (by first | exact hC.low _ (by decide) | rfl) (.new (by first | exact hC.low _ (by decide) | rfl) .nil)) rfl) (dOK_spec rfl) ?_ | refine lx_any rfl (op_callG2 (l := [(Go.Operand.tmp 21)]) (add := [(601, ((N4, 100220), blkX 10 33 ((selL m.objects (pos m.objects r.n) (N4, 100221)).flatMap obE))), (605, ((N4, 100221), blkX 3 41 ((m.objects[(pos m.objects r.n)]'hpl).cells.flatMap vp)))]) (ks := [100220, 100221]) (φ := aggP ([mvP (N4, 100220) 10 0 m.objects.length m.objects.length, slP Sy.ps 6 m.syncs, slP Gr.ps 4 m.gors, slP ip 1 m.output])) .nil (copied_cell m hb (pos m.objects r.n) hpl) (.ent rfl (by repeat (first | exact Ents.nil | refine Ents.cons ?_ ?_ | refine Ent.tup ?_ | refine Ent.agg ?_ | exact Ent.row _ _ _ _ | exact Ent.nil _ _ | exact Ent.func _ | exact Ent.refl _ | exact Ent.of_eq rfl | refine Ent.cells ?_)) .nil) fn40 rfl rfl rfl (.new (by first | exact hC.low _ (by decide) | rfl) (.new (by first | exact hC.low _ (by decide) | rfl) .nil)) rfl) (dOK_spec rfl) ?_
    refine lxn (op_alloc (m := 10) (k := 10) (ps := [eqP (.slice none 0 0), eqP (.slice none 0 0), eqP (.slice none 0 0), eqP (.slice none 0 0)]) ze29 rfl rfl (by first | exact hC.low _ (by decide) | rfl)) rfl ?_
    refine lxr (op_store_all (m := 10) rfl rfl rfl (.agg rfl) sz29 rfl) rfl ?_
    refine lx_end ⟨by kernel_rfl, ?_⟩
    refine pe_then_normal ?_
    refine tr_sub hC (.cons (t := 4) rfl (.cons (t := 5) rfl (.cons (t := 6) rfl (.cons (t := 8) rfl (.cons (t := 10) rfl .nil))))) (.cons (t := 4) rfl (.cons (t := 5) rfl (.cons (t := 6) rfl (.cons (t := 601) rfl (.cons (t := 605) rfl (.cons (t := 10) rfl .nil)))))) rfl ?_
    refine tr_seq ?_
    refine tr_drawn mixed (fun N5 hN => ?_)
    refine lx (op_fieldAddr rfl fl29_0 sz22) rfl ?_
    refine lx (op_bload_one (m := 10) rfl rfl ag22 rfl) rfl ?_
    refine lx (op_move rfl) rfl ?_
    refine lx (op_index_mv rfl rfl el22 sz33 h1 hpl) rfl ?_
    refine lx (op_fieldAddr rfl fl33_1 sz30) rfl ?_
    refine lx (op_tload_one (m := 601) (j := (pos m.objects r.n)) (fo := 1) rfl rfl ag30 obE_len (by omega) (selL_at hpl) rfl) rfl ?_
    refine lx (op_fieldAddr rfl fl41_2 sz3) rfl ?_
    refine lx (op_bload_one (m := 4) rfl rfl ag3 rfl) rfl ?_
    refine lx (op_bload (m := 5) rfl rfl ag41 sz41) rfl ?_
    refine lx (op_index_mv rfl rfl el30 sz41 (by omega : r.off = ((r.off.toNat : Nat) : Int)) hof) rfl ?_
    refine lxr (op_tstore (m := 605) (j := r.off.toNat) (fo := 0) (z' := v) rfl rfl rfl (.agg rfl) sz41 rfl vp_len (by omega) (List.getElem?_eq_getElem hof) rfl rfl) rfl ?_
    refine lx_end ⟨by kernel_rfl, ?_⟩
    refine pe_then_normal ?_
    refine tr_sub hC (.cons (t := 6) rfl (.cons (t := 10) rfl .nil)) (.cons (t := 6) rfl (.cons (t := 601) rfl (.cons (t := 605) rfl (.cons (t := 10) rfl .nil)))) rfl ?_
    refine tr_bound 0 (m := 605) rfl ?_
    refine tr_freeze (m := 605) rfl (.ent (t := 0) rfl FEnt.frz_bound (.cons (t := 6) rfl (.cons (t := 10) rfl .nil))) ?_
    refine tr_thaw (t := 0) (n := 601) (qs' := (m.objects.set (pos m.objects r.n) (setC (m.objects[(pos m.objects r.n)]'hpl) r v)).flatMap Ob.ps) rfl (.cons (t := 6) rfl (.cons (t := 10) rfl .nil)) rfl (selL_seal hpl (List.getElem?_eq_getElem hpl) rfl) ?_
    refine tr_bound 1 (m := 601) rfl ?_
    refine tr_freeze (m := 601) rfl (.ent (t := 1) rfl FEnt.frz_bound (.cons (t := 6) rfl (.cons (t := 10) rfl .nil))) ?_
    refine tr_thaw (t := 1) (n := 10) (qs' := [slP Ob.ps 10 (m.objects.set (pos m.objects r.n) (setC (m.objects[(pos m.objects r.n)]'hpl) r v)), slP Sy.ps 6 m.syncs, slP Gr.ps 4 m.gors, slP ip 1 m.output]) rfl (.cons (t := 6) rfl (.cons (t := 10) rfl .nil)) rfl (.cons (FEnt.mv (by simp) ⟨[], by simp⟩ Ob.len) (.cons (.of (Ent.refl _)) (.cons (.of (Ent.refl _)) (.cons (.of (Ent.refl _)) .nil)))) ?_
    refine tr_seq ?_
    refine tr_region (fun N6 hN => ?_)
    refine lx (op_bload (m := 10) rfl rfl ag29 sz29) rfl ?_
    refine lxr (op_store_all (m := 6) rfl rfl rfl (.agg rfl) sz29 rfl) rfl ?_
    refine lx (op_assign rfl) rfl ?_
    refine lx_end ⟨by kernel_rfl, ?_⟩
    refine pe_then_normal ?_
    refine tr_sub hC (.cons (t := 6) rfl (.cons (t := 7) rfl .nil)) (.cons (t := 6) rfl .nil) rfl ?_
    refine tr_ret ?_
    refine pe_retN (rs := [.cell 6 29, .tmp 7]) rfl rfl hO rfl (.cell (m := 6) rfl rfl ag29 sz29 (.tmp rfl .nil)) ?_
    rw [h]
    repeat (first | exact Ents.nil | refine Ents.cons ?_ ?_ | refine Ent.tup ?_ | refine Ent.agg ?_ | exact Ent.row _ _ _ _ | exact Ent.nil _ _ | exact Ent.func _ | exact Ent.refl _ | exact Ent.of_eq rfl | refine Ent.cells ?_)
end Go.Proofs.Ytibcbiamdjmckaa


namespace Go.AL
open Go.RowKit
section
variable {P : Program} {n N : Nat} {F : Fr} {R : Toks} {d : Option Nat} {T : TypeId} {pos : String} {after : Array Edge} {α : Type} {f : α → List Pred} {k bytes : Nat} {t e : TypeId}
theorem op_makeRow {lx cx : Operand} {l : Nat} {li ci : Int} {lk ck : IntKind} {m' kk : Nat} {z : Value} (z0 : α) (hl : opd F lx = some (eqP (.int lk li))) (hc : opd F cx = some (eqP (.int ck ci))) (hli : li = (l : Int)) (hci : ci = (l : Int)) (hm' : R m' = none)
    (ht : elemB P t = some e) (hz : zeroB P e = some (some z)) (hs : sizeB P e = some k) (hby : bytesB P e = some bytes) (hz0 : Ents (z.cells.toList.map eqP) (f z0)) (hk : ∀ z, (f z).length = k) (hk0 : Nat.blt 0 k = true) (h1 : z.cells.toList.all Value.oneCell' = true)
    (hc1 : bytes * l ≤ 281474976710656) (hc2 : l ≤ maxLen) :
    OpJ P n N F R ⟨d, .makeSlice t lx cx, T, pos, after, none⟩ ⟨rdo lx (eqP (.int lk li)) ++ rdo cx (eqP (.int ck ci)), [], [], [(m', ((N, kk), tail e k ((List.replicate l z0).length * k)))], [kk], rowP (N, kk) f k (List.replicate l z0)⟩ where
  loc := by
    intro σ W R a K hm h2 h3 h4 h5 h6 h7 h8 h9 Q
    have hid := h8 kk (by simp)
    have hRm' : R m' = none := by have h := h7 (m', ((N, kk), tail e k ((List.replicate l z0).length * k))) (by simp); simpa using h
    have e1 : a.eval lx = .int lk li := holds_of hl fun w hw => h4 w (List.mem_append_left _ hw)
    have e2 : a.eval cx = .int ck ci := holds_of hc fun w hw => h4 w (List.mem_append_right _ hw)
    have hk0 : 0 < k := Nat.le_of_ble_eq_true hk0
    subst hli hci
    obtain ⟨i, hi, hiz, his, hib⟩ := info_of hz hs hby
    have hzsz : z.cells.size = k := by have := hz0.length; rw [hk] at this; simpa using this
    have h63 : ((l : Nat) : Int) ≤ 9223372036854775807 := by unfold maxLen at hc2; omega
    have hbb : (i.bytes : Int) * ((l : Nat) : Int) ≤ 281474976710656 := by
      rw [hib]
      have h : ((bytes * l : Nat) : Int) ≤ 281474976710656 := by omega
      rwa [Int.natCast_mul] at h
    have hr := run_make (P := P) W t e i z (elem_of ht) hi hiz lk ck (l : Int) (l : Int) (by omega) (by omega) hbb h63
    rw [Int.toNat_natCast, his] at hr
    have hcells : (madeCells z.cells (l * k)).toList = (List.replicate l z.cells.toList).flatten := by
      simp only [madeCells, Array.toList_map, Array.toList_range]
      rw [← flatten_replicate_range hzsz hk0]
    have hflat : (List.replicate l (z.cells.toList.map eqP)).flatten = ((List.replicate l z.cells.toList).flatten).map eqP := by simp [List.map_flatten]
    have hvs0 : Vs σ (List.replicate l (z.cells.toList.map eqP)).flatten (madeCells z.cells (l * k)).toList := by
      rw [hcells, hflat]
      refine Vs.eqs ?_
      rw [List.all_eq_true] at h1 ⊢
      intro u hu
      obtain ⟨q, hq, huq⟩ := List.mem_flatten.1 hu
      rw [List.mem_replicate] at hq
      exact h1 u (by rw [← hq.2]; exact huq)
    have hvs : Vs σ ((List.replicate l z0).flatMap f) (madeCells z.cells (l * k)).toList := by
      rw [← flatten_rep]
      exact hvs0.ents (Ents.rep hz0 l)
    obtain ⟨hmod, hrow⟩ := hm.rowNew (e := e) (xs := List.replicate l z0) (rest := []) hid hRm' hk hvs (cap := l) (by rw [List.append_nil, hvs.1, flatMap_len hk, List.length_replicate]) (by rw [List.length_replicate]; exact Nat.le_refl _) hc2 _ rfl
    refine wp_value (v := .slice (some ⟨W.heap.size, 0, none⟩) l l) (W' := W.alloc (.cells (madeCells z.cells (l * k)) e)) ?_ (h9 _ _ _ (le_bindC hid) (fun q _ hq => bind_ne _ _ _ _ _ (hq kk (by simp))) (by
      have e3 : ((madeCells z.cells (l * k)).toList ++ []).toArray = madeCells z.cells (l * k) := by simp
      rw [e3] at hmod
      exact hmod.congr (updR_new ..)) (by rw [List.length_replicate] at hrow; exact hrow))
    simp only [execOp, e1, e2, Sem.run_bind, hr, Result.andThen_ok, Sem.run_pure]
  rd := rd_app (rd_of hl) (rd_of hc)
  use := by simp
  del := by simp
  add := by simpa using hm'
end
end Go.AL


set_option linter.unusedVariables false
set_option linter.unusedSimpArgs false
namespace Go.Proofs.Ytibcbiamdjmckaa
open Go.AL Go.Ch Go.Hp Go.RowKit
theorem fn12 : fnB Try.prog 12 = true := by kernel_rfl
theorem fn13 : fnB Try.prog 13 = true := by kernel_rfl
theorem fn16 : fnB Try.prog 16 = true := by kernel_rfl
theorem fn19 : fnB Try.prog 19 = true := by kernel_rfl
theorem fn21 : fnB Try.prog 21 = true := by kernel_rfl
theorem fn25 : fnB Try.prog 25 = true := by kernel_rfl
abbrev gr0 : Gr := ⟨0, 0, 0, []⟩
abbrev aM0 : Mc := ⟨[{ ob0 with cells := List.replicate 2 v0 }], [], List.replicate 3 gr0, []⟩
abbrev aO1 : Ob := { ob0 with cells := List.replicate 1 v0 }
abbrev aM1 : Mc := ⟨[{ ob0 with cells := [v0, v0] }, { ob0 with id := 3, cells := [v0] }], [], [gr0, gr0, { gr0 with allocs := 1 }], []⟩
abbrev aM2 : Mc := ⟨[{ ob0 with cells := [v0, v0] }, { ob0 with id := 3, cells := [⟨0, 7, 0⟩] }], [], [gr0, gr0, { gr0 with allocs := 1 }], []⟩
theorem aB0 : Bd 4000000 aM0 := bd_of (Nat.le_of_ble_eq_true rfl)
theorem aB1 : Bd 4000000 aM1 := bd_of (Nat.le_of_ble_eq_true rfl)
theorem aB2 : Bd 4000000 aM2 := bd_of (Nat.le_of_ble_eq_true rfl)
theorem aS0 : Srt aM0.objects := valid_srt (by decide)
theorem aS1 : Srt aM1.objects := valid_srt (by decide)
theorem aS2 : Srt aM2.objects := valid_srt (by decide)
theorem Alloc_a : FnP Try.prog 16 [aggP aM0.ps, eqP (.int .i64 2), aggP aO1.ps] (tupP [aggP aM1.ps, eqP (.int .i64 3), eqP (.int .i64 0)]) := by
  have := Alloc_ok aM0 2 aO1 aB0 (bdO_of (Nat.le_of_ble_eq_true rfl)) aS0
  rwa [show allocF putF aM0 2 aO1 = (aM1, 3, 0) by decide] at this
theorem Load_a {m : Mc} (r : V) {a : V} {f : Int} (hb : Bd 4000000 m) (hs : Srt m.objects) (h : loadF m.objects r = (a, f)) : FnP Try.prog 19 [aggP m.ps, aggP (vp r)] (tupP [aggP (vp a), eqP (.int .i64 f)]) := by
  have := Load_ok m hb hs r
  rwa [h] at this
theorem Store_a : FnP Try.prog 21 [aggP aM1.ps, aggP (vp ⟨2, 3, 0⟩), aggP (vp ⟨0, 7, 0⟩)] (tupP [aggP aM2.ps, eqP (.int .i64 0)]) := by
  have := Store_ok aM1 ⟨2, 3, 0⟩ ⟨0, 7, 0⟩ aB1 aS1
  rwa [show storeF aM1 ⟨2, 3, 0⟩ ⟨0, 7, 0⟩ = (aM2, 0) by decide] at this
theorem bdO_obs {xs : List Ob} {n : Nat} {m : Mc} (hb : Bd n m) (hn : n ≤ 9223372036854775807) (h : xs = m.objects) : xs.length ≤ 9223372036854775807 ∧ ∀ o ∈ xs, BdO 9223372036854775807 o := by
  subst h
  exact ⟨Nat.le_trans hb.objects hn, fun o ho => (hb.object o ho).mono hn⟩
theorem awake_ok  : FnP Try.prog 12 [] (eqP (.bool true)) := by
  refine fn_pure' Try.func12 rfl Try.ntmps12 rfl ?_
  intro σ0 M ex Rf R hC hO
  simp only [frameOf, tokOf]
  refine tr_seq ?_
  refine tr_region (fun N0 hN => ?_)
  refine lx (op_assign rfl) rfl ?_
  refine lx_end ⟨by kernel_rfl, ?_⟩
  refine pe_then_normal ?_
  refine tr_sub hC .nil .nil rfl ?_
  refine tr_seq ?_
  refine tr_drawn mixed (fun N1 hN => ?_)
  refine lxn (OpJ.ent (op_makeRow (m' := 13) (kk := 13) (f := vp) (l := 2) v0 rfl rfl (by rfl) (by rfl) (by first | exact hC.low _ (by decide) | rfl) el30 ze41 sz41 by41 (by repeat (first | exact Ents.nil | refine Ents.cons ?_ ?_ | refine Ent.tup ?_ | refine Ent.agg ?_ | exact Ent.row _ _ _ _ | exact Ent.nil _ _ | exact Ent.func _ | exact Ent.refl _ | exact Ent.of_eq rfl | refine Ent.cells ?_)) vp_len rfl rfl (by decide) (by decide)) (Ent.row _ _ _ _)) rfl ?_
  refine lx (OpJ.ent (op_build (qs := [_, _, _, _, _, _, _, _, _, _]) (parts := [(1, (Go.Operand.tmp 13))]) ze33 rfl rfl fs33 (.cons rfl (.one (by (first | exact One.eq rfl | exact One.mv _ _ _ _ _ | exact One.cl _ _ _ | exact One.map _ | exact One.sl _ _ _ | exact One.row _ _ _ _ | exact One.msl _ _ _ _ | exact One.ptr _ _ | exact One.b _ | exact One.cells _))) fl33_1 sz30 rfl .nil) rfl rfl) (show Ent _ (aggP (Ob.ps { ob0 with cells := List.replicate 2 v0 })) from (by repeat (first | exact Ents.nil | refine Ents.cons ?_ ?_ | refine Ent.tup ?_ | refine Ent.agg ?_ | exact Ent.row _ _ _ _ | exact Ent.nil _ _ | exact Ent.func _ | exact Ent.refl _ | exact Ent.of_eq rfl | refine Ent.cells ?_)))) rfl ?_
  refine lx (op_buildSlice (f := Ob.ps) (xs := [{ ob0 with cells := List.replicate 2 v0 }]) (l := [(0, (Go.Operand.tmp 14))]) ze33 rfl rfl (by decide) el22 sz33 Ob.len (.cons rfl (.agg rfl) .nil) rfl (by decide)) rfl ?_
  refine lxn (OpJ.ent (op_makeRow (m' := 16) (kk := 16) (f := Gr.ps) (l := 3) gr0 rfl rfl (by rfl) (by rfl) (by first | exact hC.low _ (by decide) | rfl) el26 ze70 sz70 by70 (by repeat (first | exact Ents.nil | refine Ents.cons ?_ ?_ | refine Ent.tup ?_ | refine Ent.agg ?_ | exact Ent.row _ _ _ _ | exact Ent.nil _ _ | exact Ent.func _ | exact Ent.refl _ | exact Ent.of_eq rfl | refine Ent.cells ?_)) Gr.len rfl rfl (by decide) (by decide)) (Ent.row _ _ _ _)) rfl ?_
  refine lx (OpJ.ent (op_build (qs := [_, _, _, _]) (parts := [(0, (Go.Operand.tmp 15)), (2, (Go.Operand.tmp 16))]) ze29 rfl rfl fs29 (.cons rfl (.one (by (first | exact One.eq rfl | exact One.mv _ _ _ _ _ | exact One.cl _ _ _ | exact One.map _ | exact One.sl _ _ _ | exact One.row _ _ _ _ | exact One.msl _ _ _ _ | exact One.ptr _ _ | exact One.b _ | exact One.cells _))) fl29_0 sz22 rfl (.cons rfl (.one (by (first | exact One.eq rfl | exact One.mv _ _ _ _ _ | exact One.cl _ _ _ | exact One.map _ | exact One.sl _ _ _ | exact One.row _ _ _ _ | exact One.msl _ _ _ _ | exact One.ptr _ _ | exact One.b _ | exact One.cells _))) fl29_2 sz26 rfl .nil)) rfl rfl) (show Ent _ (aggP aM0.ps) from (by repeat (first | exact Ents.nil | refine Ents.cons ?_ ?_ | refine Ent.tup ?_ | refine Ent.agg ?_ | exact Ent.row _ _ _ _ | exact Ent.nil _ _ | exact Ent.func _ | exact Ent.refl _ | exact Ent.of_eq rfl | refine Ent.cells ?_)))) rfl ?_
  refine lxn (op_alloc (m := 1) (k := 1) (ps := [eqP (.slice none 0 0), eqP (.slice none 0 0), eqP (.slice none 0 0), eqP (.slice none 0 0)]) ze29 rfl rfl (by first | exact hC.low _ (by decide) | rfl)) rfl ?_
  refine lxr (op_store_all (m := 1) rfl rfl rfl (.agg rfl) sz29 rfl) rfl ?_
  refine lx_end ⟨by kernel_rfl, ?_⟩
  refine pe_then_normal ?_
  refine tr_sub hC (.cons (t := 1) rfl .nil) (.cons (t := 1) rfl .nil) rfl ?_
  refine tr_seq ?_
  refine tr_drawn mixed (fun N2 hN => ?_)
  refine lx (op_bload (m := 1) rfl rfl ag29 sz29) rfl ?_
  refine lxn (OpJ.ent (op_makeRow (m' := 20) (kk := 20) (f := vp) (l := 1) v0 rfl rfl (by rfl) (by rfl) (by first | exact hC.low _ (by decide) | rfl) el30 ze41 sz41 by41 (by repeat (first | exact Ents.nil | refine Ents.cons ?_ ?_ | refine Ent.tup ?_ | refine Ent.agg ?_ | exact Ent.row _ _ _ _ | exact Ent.nil _ _ | exact Ent.func _ | exact Ent.refl _ | exact Ent.of_eq rfl | refine Ent.cells ?_)) vp_len rfl rfl (by decide) (by decide)) (Ent.row _ _ _ _)) rfl ?_
  refine lx (OpJ.ent (op_build (qs := [_, _, _, _, _, _, _, _, _, _]) (parts := [(1, (Go.Operand.tmp 20))]) ze33 rfl rfl fs33 (.cons rfl (.one (by (first | exact One.eq rfl | exact One.mv _ _ _ _ _ | exact One.cl _ _ _ | exact One.map _ | exact One.sl _ _ _ | exact One.row _ _ _ _ | exact One.msl _ _ _ _ | exact One.ptr _ _ | exact One.b _ | exact One.cells _))) fl33_1 sz30 rfl .nil) rfl rfl) (show Ent _ (aggP aO1.ps) from (by repeat (first | exact Ents.nil | refine Ents.cons ?_ ?_ | refine Ent.tup ?_ | refine Ent.agg ?_ | exact Ent.row _ _ _ _ | exact Ent.nil _ _ | exact Ent.func _ | exact Ent.refl _ | exact Ent.of_eq rfl | refine Ent.cells ?_)))) rfl ?_
  first | refine lx (op_call (l := [(Go.Operand.tmp 19), (Go.Operand.const (Go.Value.int Go.IntKind.i64 2)), (Go.Operand.tmp 21)]) (Alloc_a) (.cons rfl (.cons rfl (.cons rfl .nil))) fn16) rfl ?_ | refine lx (op_call (l := [(Go.Operand.tmp 19), (Go.Operand.const (Go.Value.int Go.IntKind.i64 2)), (Go.Operand.tmp 21)]) (Alloc_a) (.ent rfl (by repeat (first | exact Ents.nil | refine Ents.cons ?_ ?_ | refine Ent.tup ?_ | refine Ent.agg ?_ | exact Ent.row _ _ _ _ | exact Ent.nil _ _ | exact Ent.func _ | exact Ent.refl _ | exact Ent.of_eq rfl | refine Ent.cells ?_)) (.ent rfl (by repeat (first | exact Ents.nil | refine Ents.cons ?_ ?_ | refine Ent.tup ?_ | refine Ent.agg ?_ | exact Ent.row _ _ _ _ | exact Ent.nil _ _ | exact Ent.func _ | exact Ent.refl _ | exact Ent.of_eq rfl | refine Ent.cells ?_)) (.ent rfl (by repeat (first | exact Ents.nil | refine Ents.cons ?_ ?_ | refine Ent.tup ?_ | refine Ent.agg ?_ | exact Ent.row _ _ _ _ | exact Ent.nil _ _ | exact Ent.func _ | exact Ent.refl _ | exact Ent.of_eq rfl | refine Ent.cells ?_)) .nil))) fn16) rfl ?_
  refine lx (op_move rfl) rfl ?_
  refine lx (op_extract rfl rfl) rfl ?_
  refine lx (op_extract rfl rfl) rfl ?_
  refine lx (op_extract rfl rfl) rfl ?_
  refine lxn (op_alloc (m := 2) (k := 2) (ps := [eqP (.slice none 0 0), eqP (.slice none 0 0), eqP (.slice none 0 0), eqP (.slice none 0 0)]) ze29 rfl rfl (by first | exact hC.low _ (by decide) | rfl)) rfl ?_
  refine lxr (op_store_all (m := 2) rfl rfl rfl (.agg rfl) sz29 rfl) rfl ?_
  refine lx (op_assign rfl) rfl ?_
  refine lx (op_assign rfl) rfl ?_
  refine lx_end ⟨by kernel_rfl, ?_⟩
  refine pe_then_normal ?_
  refine tr_sub hC (.cons (t := 2) rfl (.cons (t := 3) rfl (.cons (t := 4) rfl .nil))) (.cons (t := 2) rfl .nil) rfl ?_
  refine tr_seq ?_
  refine tr_region (fun N3 hN => ?_)
  refine lx (op_bload (m := 2) rfl rfl ag29 sz29) rfl ?_
  refine lx (op_build (qs := [_, _, _]) (parts := [(0, (Go.Operand.const (Go.Value.int Go.IntKind.i64 2))), (2, (Go.Operand.const (Go.Value.int Go.IntKind.i64 2)))]) ze41 rfl rfl fs41 (.cons rfl (.one (by (first | exact One.eq rfl | exact One.mv _ _ _ _ _ | exact One.cl _ _ _ | exact One.map _ | exact One.sl _ _ _ | exact One.row _ _ _ _ | exact One.msl _ _ _ _ | exact One.ptr _ _ | exact One.b _ | exact One.cells _))) fl41_0 sz3 rfl (.cons rfl (.one (by (first | exact One.eq rfl | exact One.mv _ _ _ _ _ | exact One.cl _ _ _ | exact One.map _ | exact One.sl _ _ _ | exact One.row _ _ _ _ | exact One.msl _ _ _ _ | exact One.ptr _ _ | exact One.b _ | exact One.cells _))) fl41_2 sz3 rfl .nil)) rfl rfl) rfl ?_
  first | refine lx (op_call (l := [(Go.Operand.tmp 27), (Go.Operand.tmp 28)]) (Load_a (m := aM1) ⟨2, 0, 2⟩ (a := v0) (f := 2) aB1 aS1 (by decide)) (.cons rfl (.cons rfl .nil)) fn19) rfl ?_ | refine lx (op_call (l := [(Go.Operand.tmp 27), (Go.Operand.tmp 28)]) (Load_a (m := aM1) ⟨2, 0, 2⟩ (a := v0) (f := 2) aB1 aS1 (by decide)) (.ent rfl (by repeat (first | exact Ents.nil | refine Ents.cons ?_ ?_ | refine Ent.tup ?_ | refine Ent.agg ?_ | exact Ent.row _ _ _ _ | exact Ent.nil _ _ | exact Ent.func _ | exact Ent.refl _ | exact Ent.of_eq rfl | refine Ent.cells ?_)) (.ent rfl (by repeat (first | exact Ents.nil | refine Ents.cons ?_ ?_ | refine Ent.tup ?_ | refine Ent.agg ?_ | exact Ent.row _ _ _ _ | exact Ent.nil _ _ | exact Ent.func _ | exact Ent.refl _ | exact Ent.of_eq rfl | refine Ent.cells ?_)) .nil)) fn19) rfl ?_
  refine lx (op_move rfl) rfl ?_
  refine lx (op_extract rfl rfl) rfl ?_
  refine lx (op_extract rfl rfl) rfl ?_
  refine lxn (op_alloc (m := 5) (k := 5) (ps := [eqP (.int .i64 0), eqP (.int .i64 0), eqP (.int .i64 0)]) ze41 rfl rfl (by first | exact hC.low _ (by decide) | rfl)) rfl ?_
  refine lxr (op_store_all (m := 5) rfl rfl rfl (.agg rfl) sz41 rfl) rfl ?_
  refine lx (op_assign rfl) rfl ?_
  refine lx_end ⟨by kernel_rfl, ?_⟩
  refine pe_then_normal ?_
  refine tr_sub hC (.cons (t := 2) rfl (.cons (t := 3) rfl (.cons (t := 4) rfl (.cons (t := 6) rfl .nil)))) (.cons (t := 2) rfl .nil) rfl ?_
  refine tr_seq ?_
  refine tr_region (fun N4 hN => ?_)
  refine lx (op_bload (m := 2) rfl rfl ag29 sz29) rfl ?_
  refine lx (op_build (qs := [_, _, _]) (parts := []) ze41 rfl rfl fs41 .nil rfl rfl) rfl ?_
  first | refine lx (op_call (l := [(Go.Operand.tmp 33), (Go.Operand.tmp 34)]) (Load_a (m := aM1) v0 (a := v0) (f := 1) aB1 aS1 (by decide)) (.cons rfl (.cons rfl .nil)) fn19) rfl ?_ | refine lx (op_call (l := [(Go.Operand.tmp 33), (Go.Operand.tmp 34)]) (Load_a (m := aM1) v0 (a := v0) (f := 1) aB1 aS1 (by decide)) (.ent rfl (by repeat (first | exact Ents.nil | refine Ents.cons ?_ ?_ | refine Ent.tup ?_ | refine Ent.agg ?_ | exact Ent.row _ _ _ _ | exact Ent.nil _ _ | exact Ent.func _ | exact Ent.refl _ | exact Ent.of_eq rfl | refine Ent.cells ?_)) (.ent rfl (by repeat (first | exact Ents.nil | refine Ents.cons ?_ ?_ | refine Ent.tup ?_ | refine Ent.agg ?_ | exact Ent.row _ _ _ _ | exact Ent.nil _ _ | exact Ent.func _ | exact Ent.refl _ | exact Ent.of_eq rfl | refine Ent.cells ?_)) .nil)) fn19) rfl ?_
  refine lx (op_move rfl) rfl ?_
  refine lx (op_extract rfl rfl) rfl ?_
  refine lx (op_extract rfl rfl) rfl ?_
  refine lxn (op_alloc (m := 7) (k := 7) (ps := [eqP (.int .i64 0), eqP (.int .i64 0), eqP (.int .i64 0)]) ze41 rfl rfl (by first | exact hC.low _ (by decide) | rfl)) rfl ?_
  refine lxr (op_store_all (m := 7) rfl rfl rfl (.agg rfl) sz41 rfl) rfl ?_
  refine lx (op_assign rfl) rfl ?_
  refine lx_end ⟨by kernel_rfl, ?_⟩
  refine pe_then_normal ?_
  refine tr_sub hC (.cons (t := 2) rfl (.cons (t := 3) rfl (.cons (t := 4) rfl (.cons (t := 6) rfl (.cons (t := 8) rfl .nil))))) (.cons (t := 2) rfl .nil) rfl ?_
  refine tr_seq ?_
  refine tr_region (fun N5 hN => ?_)
  refine lx (op_bload (m := 2) rfl rfl ag29 sz29) rfl ?_
  refine lx (op_build (qs := [_, _, _]) (parts := [(0, (Go.Operand.const (Go.Value.int Go.IntKind.i64 2))), (1, (Go.Operand.const (Go.Value.int Go.IntKind.i64 3)))]) ze41 rfl rfl fs41 (.cons rfl (.one (by (first | exact One.eq rfl | exact One.mv _ _ _ _ _ | exact One.cl _ _ _ | exact One.map _ | exact One.sl _ _ _ | exact One.row _ _ _ _ | exact One.msl _ _ _ _ | exact One.ptr _ _ | exact One.b _ | exact One.cells _))) fl41_0 sz3 rfl (.cons rfl (.one (by (first | exact One.eq rfl | exact One.mv _ _ _ _ _ | exact One.cl _ _ _ | exact One.map _ | exact One.sl _ _ _ | exact One.row _ _ _ _ | exact One.msl _ _ _ _ | exact One.ptr _ _ | exact One.b _ | exact One.cells _))) fl41_1 sz3 rfl .nil)) rfl rfl) rfl ?_
  refine lx (op_build (qs := [_, _, _]) (parts := [(1, (Go.Operand.const (Go.Value.int Go.IntKind.i64 7)))]) ze41 rfl rfl fs41 (.cons rfl (.one (by (first | exact One.eq rfl | exact One.mv _ _ _ _ _ | exact One.cl _ _ _ | exact One.map _ | exact One.sl _ _ _ | exact One.row _ _ _ _ | exact One.msl _ _ _ _ | exact One.ptr _ _ | exact One.b _ | exact One.cells _))) fl41_1 sz3 rfl .nil) rfl rfl) rfl ?_
  first | refine lx (op_call (l := [(Go.Operand.tmp 39), (Go.Operand.tmp 40), (Go.Operand.tmp 41)]) (Store_a) (.cons rfl (.cons rfl (.cons rfl .nil))) fn21) rfl ?_ | refine lx (op_call (l := [(Go.Operand.tmp 39), (Go.Operand.tmp 40), (Go.Operand.tmp 41)]) (Store_a) (.ent rfl (by repeat (first | exact Ents.nil | refine Ents.cons ?_ ?_ | refine Ent.tup ?_ | refine Ent.agg ?_ | exact Ent.row _ _ _ _ | exact Ent.nil _ _ | exact Ent.func _ | exact Ent.refl _ | exact Ent.of_eq rfl | refine Ent.cells ?_)) (.ent rfl (by repeat (first | exact Ents.nil | refine Ents.cons ?_ ?_ | refine Ent.tup ?_ | refine Ent.agg ?_ | exact Ent.row _ _ _ _ | exact Ent.nil _ _ | exact Ent.func _ | exact Ent.refl _ | exact Ent.of_eq rfl | refine Ent.cells ?_)) (.ent rfl (by repeat (first | exact Ents.nil | refine Ents.cons ?_ ?_ | refine Ent.tup ?_ | refine Ent.agg ?_ | exact Ent.row _ _ _ _ | exact Ent.nil _ _ | exact Ent.func _ | exact Ent.refl _ | exact Ent.of_eq rfl | refine Ent.cells ?_)) .nil))) fn21) rfl ?_
  refine lx (op_move rfl) rfl ?_
  refine lx (op_extract rfl rfl) rfl ?_
  refine lx (op_extract rfl rfl) rfl ?_
  refine lxn (op_alloc (m := 9) (k := 9) (ps := [eqP (.slice none 0 0), eqP (.slice none 0 0), eqP (.slice none 0 0), eqP (.slice none 0 0)]) ze29 rfl rfl (by first | exact hC.low _ (by decide) | rfl)) rfl ?_
  refine lxr (op_store_all (m := 9) rfl rfl rfl (.agg rfl) sz29 rfl) rfl ?_
  refine lx (op_assign rfl) rfl ?_
  refine lx_end ⟨by kernel_rfl, ?_⟩
  refine pe_then_normal ?_
  refine tr_sub hC (.cons (t := 3) rfl (.cons (t := 4) rfl (.cons (t := 6) rfl (.cons (t := 8) rfl (.cons (t := 9) rfl (.cons (t := 10) rfl .nil)))))) (.cons (t := 9) rfl .nil) rfl ?_
  refine tr_seq ?_
  refine tr_region (fun N6 hN => ?_)
  refine lx (op_bload (m := 9) rfl rfl ag29 sz29) rfl ?_
  refine lx (op_build (qs := [_, _, _]) (parts := [(0, (Go.Operand.const (Go.Value.int Go.IntKind.i64 2))), (1, (Go.Operand.const (Go.Value.int Go.IntKind.i64 3)))]) ze41 rfl rfl fs41 (.cons rfl (.one (by (first | exact One.eq rfl | exact One.mv _ _ _ _ _ | exact One.cl _ _ _ | exact One.map _ | exact One.sl _ _ _ | exact One.row _ _ _ _ | exact One.msl _ _ _ _ | exact One.ptr _ _ | exact One.b _ | exact One.cells _))) fl41_0 sz3 rfl (.cons rfl (.one (by (first | exact One.eq rfl | exact One.mv _ _ _ _ _ | exact One.cl _ _ _ | exact One.map _ | exact One.sl _ _ _ | exact One.row _ _ _ _ | exact One.msl _ _ _ _ | exact One.ptr _ _ | exact One.b _ | exact One.cells _))) fl41_1 sz3 rfl .nil)) rfl rfl) rfl ?_
  first | refine lx (op_call (l := [(Go.Operand.tmp 46), (Go.Operand.tmp 47)]) (Load_a (m := aM2) ⟨2, 3, 0⟩ (a := ⟨0, 7, 0⟩) (f := 0) aB2 aS2 (by decide)) (.cons rfl (.cons rfl .nil)) fn19) rfl ?_ | refine lx (op_call (l := [(Go.Operand.tmp 46), (Go.Operand.tmp 47)]) (Load_a (m := aM2) ⟨2, 3, 0⟩ (a := ⟨0, 7, 0⟩) (f := 0) aB2 aS2 (by decide)) (.ent rfl (by repeat (first | exact Ents.nil | refine Ents.cons ?_ ?_ | refine Ent.tup ?_ | refine Ent.agg ?_ | exact Ent.row _ _ _ _ | exact Ent.nil _ _ | exact Ent.func _ | exact Ent.refl _ | exact Ent.of_eq rfl | refine Ent.cells ?_)) (.ent rfl (by repeat (first | exact Ents.nil | refine Ents.cons ?_ ?_ | refine Ent.tup ?_ | refine Ent.agg ?_ | exact Ent.row _ _ _ _ | exact Ent.nil _ _ | exact Ent.func _ | exact Ent.refl _ | exact Ent.of_eq rfl | refine Ent.cells ?_)) .nil)) fn19) rfl ?_
  refine lx (op_move rfl) rfl ?_
  refine lx (op_extract rfl rfl) rfl ?_
  refine lx (op_extract rfl rfl) rfl ?_
  refine lxn (op_alloc (m := 11) (k := 11) (ps := [eqP (.int .i64 0), eqP (.int .i64 0), eqP (.int .i64 0)]) ze41 rfl rfl (by first | exact hC.low _ (by decide) | rfl)) rfl ?_
  refine lxr (op_store_all (m := 11) rfl rfl rfl (.agg rfl) sz41 rfl) rfl ?_
  refine lx (op_assign rfl) rfl ?_
  refine lx_end ⟨by kernel_rfl, ?_⟩
  refine pe_then_normal ?_
  refine tr_sub hC (.cons (t := 3) rfl (.cons (t := 4) rfl (.cons (t := 6) rfl (.cons (t := 8) rfl (.cons (t := 9) rfl (.cons (t := 10) rfl (.cons (t := 11) rfl (.cons (t := 12) rfl .nil)))))))) (.cons (t := 9) rfl (.cons (t := 11) rfl .nil)) rfl ?_
  refine tr_seq ?_
  refine tr_region (fun N7 hN => ?_)
  refine lx (op_move rfl) rfl ?_
  refine lx (op_eql rfl rfl) rfl ?_
  refine lx (op_move rfl) rfl ?_
  refine lxs rfl rfl rfl guard_eq (.cons (t := 3) rfl (fun _ => Ent.refl _) .nil) (op_move rfl) rfl ?_
  refine lxs rfl rfl rfl guard_eq (.cons (t := 54) rfl (fun h => entW h) .nil) (op_eql rfl rfl) rfl ?_
  refine lx (op_pick_and rfl rfl) rfl ?_
  refine lx (op_move rfl) rfl ?_
  refine lxs rfl rfl rfl guard_eq (.cons (t := 6) rfl (fun _ => Ent.refl _) .nil) (op_move rfl) rfl ?_
  refine lxs rfl rfl rfl guard_eq (.cons (t := 58) rfl (fun h => entW h) .nil) (op_eql rfl rfl) rfl ?_
  refine lx (op_pick_and rfl rfl) rfl ?_
  refine lx (op_move rfl) rfl ?_
  refine lxs rfl rfl rfl guard_eq (.cons (t := 8) rfl (fun _ => Ent.refl _) .nil) (op_move rfl) rfl ?_
  refine lxs rfl rfl rfl guard_eq (.cons (t := 62) rfl (fun h => entW h) .nil) (op_eql rfl rfl) rfl ?_
  refine lx (op_pick_and rfl rfl) rfl ?_
  refine lx (op_move rfl) rfl ?_
  refine lxs rfl rfl rfl guard_eq (.cons (t := 10) rfl (fun _ => Ent.refl _) .nil) (op_move rfl) rfl ?_
  refine lxs rfl rfl rfl guard_eq (.cons (t := 66) rfl (fun h => entW h) .nil) (op_eql rfl rfl) rfl ?_
  refine lx (op_pick_and rfl rfl) rfl ?_
  refine lx (op_move rfl) rfl ?_
  refine lxs rfl rfl rfl guard_eq (.cons (t := 12) rfl (fun _ => Ent.refl _) .nil) (op_move rfl) rfl ?_
  refine lxs rfl rfl rfl guard_eq (.cons (t := 70) rfl (fun h => entW h) .nil) (op_eql rfl rfl) rfl ?_
  refine lx (op_pick_and rfl rfl) rfl ?_
  refine lx (op_move rfl) rfl ?_
  refine lxs rfl rfl rfl guard_eq (.cons (t := 11) rfl (fun _ => Ent.refl _) .nil) (op_bload (m := 11) rfl rfl ag41 sz41) rfl ?_
  refine lxs rfl rfl rfl guard_eq .nil (op_build (qs := [_, _, _]) (parts := [(1, (Go.Operand.const (Go.Value.int Go.IntKind.i64 7)))]) ze41 rfl rfl fs41 (.cons rfl (.one (by (first | exact One.eq rfl | exact One.mv _ _ _ _ _ | exact One.cl _ _ _ | exact One.map _ | exact One.sl _ _ _ | exact One.row _ _ _ _ | exact One.msl _ _ _ _ | exact One.ptr _ _ | exact One.b _ | exact One.cells _))) fl41_1 sz3 rfl .nil) rfl rfl) rfl ?_
  refine lxs rfl rfl rfl guard_eq (.cons (t := 74) rfl (fun h => entW h) (.cons (t := 75) rfl (fun h => entW h) .nil)) (op_eql_agg rfl rfl (eqV ⟨0, 7, 0⟩ ⟨0, 7, 0⟩)) rfl ?_
  refine lx (op_pick_and rfl rfl) rfl ?_
  refine lx (op_move rfl) rfl ?_
  refine lxs rfl rfl rfl guard_eq (.cons (t := 9) rfl (fun _ => Ent.refl _) .nil) (op_fieldAddr rfl fl29_0 sz22) rfl ?_
  refine lxs rfl rfl rfl guard_eq (.cons (t := 79) rfl (fun h => entW h) .nil) (op_bload_one (m := 9) rfl rfl ag22 rfl) rfl ?_
  first | refine lxs rfl rfl rfl guard_eq (.cons (t := 80) rfl (fun h => entW h) .nil) (op_call (l := [(Go.Operand.tmp 80)]) (Valid_ok aM2.objects (bdO_obs aB2 (by decide) rfl).1 (bdO_obs aB2 (by decide) rfl).2) (.cons rfl .nil) fn13) rfl ?_ | refine lxs rfl rfl rfl guard_eq (.cons (t := 80) rfl (fun h => entW h) .nil) (op_call (l := [(Go.Operand.tmp 80)]) (Valid_ok aM2.objects (bdO_obs aB2 (by decide) rfl).1 (bdO_obs aB2 (by decide) rfl).2) (.ent rfl (by repeat (first | exact Ents.nil | refine Ents.cons ?_ ?_ | refine Ent.tup ?_ | refine Ent.agg ?_ | exact Ent.row _ _ _ _ | exact Ent.nil _ _ | exact Ent.func _ | exact Ent.refl _ | exact Ent.of_eq rfl | refine Ent.cells ?_)) .nil) fn13) rfl ?_
  refine lx (op_pick_and rfl rfl) rfl ?_
  refine lx (op_assign rfl) rfl ?_
  refine lx_end ⟨by kernel_rfl, ?_⟩
  refine pe_then_normal ?_
  refine tr_sub hC (.cons (t := 0) rfl .nil) .nil rfl ?_
  refine tr_ret ?_
  refine pe_ret1 rfl hO rfl (.tmp rfl .nil) ?_
  exact entB (by decide)
end Go.Proofs.Ytibcbiamdjmckaa


namespace Go.AL
open Go.RowKit
section
variable {P : Program} {n N : Nat} {F : Fr} {R : Toks} {d : Option Nat} {T Ty : TypeId} {pos : String} {after : Array Edge}
end
end Go.AL


set_option linter.unusedVariables false
set_option linter.unusedSimpArgs false
namespace Go.Proofs.Ytibcbiamdjmckaa
open Go.AL Go.Ch Go.Hp Go.RowKit
theorem ag5 : aggB Try.prog 5 = some false := by kernel_rfl
theorem ar61 : arrB Try.prog 61 = some (8, 3) := by kernel_rfl
theorem el60 : elemB Try.prog 60 = some 5 := by kernel_rfl
theorem sz5 : sizeB Try.prog 5 = some 1 := by kernel_rfl
theorem us5 : (Try.prog.underlying 5).isSome = true := by kernel_rfl
theorem ze61 : zeroB Try.prog 61 = some (some (.agg #[.int .i64 0, .int .i64 0, .int .i64 0, .int .i64 0, .int .i64 0, .int .i64 0, .int .i64 0, .int .i64 0])) := by kernel_rfl
theorem law_distinct (l : List Int) (hb : ∀ x ∈ l, 0 ≤ x ∧ x ≤ 255) : FnP Try.prog 11 [slP u8p 1 l] (eqP (.bool true)) := by
  refine fn_pure' Try.func11 rfl Try.ntmps11 rfl ?_
  intro σ0 M ex Rf R hC hO
  simp only [frameOf, tokOf]
  refine tr_seq ?_
  refine tr_region (fun N0 hN => ?_)
  refine lx (op_assign rfl) rfl ?_
  refine lx_end ⟨by kernel_rfl, ?_⟩
  refine pe_then_normal ?_
  refine tr_sub hC (.cons (t := 0) rfl .nil) .nil rfl ?_
  refine tr_seq ?_
  refine tr_seq ?_
  refine tr_region (fun N1 hN => ?_)
  first | refine lx (op_call (l := []) (awake_ok) .nil fn12) rfl ?_ | refine lx (op_call (l := []) (awake_ok) .nil fn12) rfl ?_
  first | refine lx (op_not rfl) rfl ?_ | refine lx (op_not_b rfl) rfl ?_
  refine lx (op_move rfl) rfl ?_
  refine lxs rfl rfl rfl guard_eq (.cons (t := 0) rfl (fun _ => Ent.refl _) .nil) (op_move rfl) rfl ?_
  first | refine lxs rfl rfl rfl guard_eq (.cons (t := 15) rfl (fun h => entW h) .nil) (op_len rfl el60) rfl ?_ | refine lxs rfl rfl rfl guard_eq (.cons (t := 15) rfl (fun h => entW h) .nil) (op_len_row rfl el60) rfl ?_ | refine lxs rfl rfl rfl guard_eq (.cons (t := 15) rfl (fun h => entW h) .nil) (op_len_mv rfl el60) rfl ?_ | refine lxs rfl rfl rfl guard_eq (.cons (t := 15) rfl (fun h => entW h) .nil) (op_len_nil rfl el60) rfl ?_
  refine lxs rfl rfl rfl guard_eq (.cons (t := 16) rfl (fun h => entW h) .nil) (op_gtr rfl rfl) rfl ?_
  refine lx (op_pick_or rfl rfl) rfl ?_
  refine lx_end ⟨by kernel_rfl, ?_⟩
  refine pe_then_normal ?_
  refine tr_sub hC (.cons (t := 0) rfl (.cons (t := 18) rfl .nil)) .nil rfl ?_
  refine tr_cond rfl (fun h18 => ?_) (fun h18 => ?_)
  · (try simp only [Bool.and_eq_true, Bool.or_eq_true, Bool.and_eq_false_iff, Bool.or_eq_false_iff, decide_eq_true_eq, decide_eq_false_iff_not, Bool.not_eq_true', Bool.not_eq_false', List.length_map, ne_eq, Decidable.not_not, Int.not_lt, Int.not_le] at h18)
    refine tr_seq ?_
    refine tr_region (fun N2 hN => ?_)
    first | refine lx (op_call (l := []) (awake_ok) .nil fn12) rfl ?_ | refine lx (op_call (l := []) (awake_ok) .nil fn12) rfl ?_
    refine lx (op_assign rfl) rfl ?_
    refine lx_end ⟨by kernel_rfl, ?_⟩
    refine pe_then_normal ?_
    refine tr_sub hC (.cons (t := 2) rfl .nil) .nil rfl ?_
    refine tr_ret ?_
    refine pe_then_ret ?_
    refine pe_ret1 rfl hO rfl (.tmp rfl .nil) ?_
    repeat (first | exact Ents.nil | refine Ents.cons ?_ ?_ | refine Ent.tup ?_ | refine Ent.agg ?_ | exact Ent.row _ _ _ _ | exact Ent.nil _ _ | exact Ent.func _ | exact Ent.refl _ | exact Ent.of_eq rfl | refine Ent.cells ?_)
  · have hl : l.length ≤ 40 := by
      simp at h18
      omega
    refine tr_skip ?_
    refine pe_then_normal ?_
    refine tr_sub hC (.cons (t := 0) rfl .nil) .nil rfl ?_
    refine tr_seq ?_
    refine tr_region (fun N3 hN => ?_)
    refine lx (OpJ.ent (op_build (qs := [_, _, _, _, _, _, _, _, _, _]) (parts := []) ze33 rfl rfl fs33 .nil rfl rfl) (show Ent _ (aggP ob0.ps) from (by repeat (first | exact Ents.nil | refine Ents.cons ?_ ?_ | refine Ent.tup ?_ | refine Ent.agg ?_ | exact Ent.row _ _ _ _ | exact Ent.nil _ _ | exact Ent.func _ | exact Ent.refl _ | exact Ent.of_eq rfl | refine Ent.cells ?_)))) rfl ?_
    refine lx (op_buildSlice (f := Ob.ps) (xs := [ob0]) (l := [(0, (Go.Operand.tmp 20))]) ze33 rfl rfl (by decide) el22 sz33 Ob.len (.cons rfl (.agg rfl) .nil) rfl (by decide)) rfl ?_
    refine lxn (OpJ.ent (op_makeRow (m' := 22) (kk := 22) (f := Gr.ps) (l := 8) gz rfl rfl (by rfl) (by rfl) (by first | exact hC.low _ (by decide) | rfl) el26 ze70 sz70 by70 (by repeat (first | exact Ents.nil | refine Ents.cons ?_ ?_ | refine Ent.tup ?_ | refine Ent.agg ?_ | exact Ent.row _ _ _ _ | exact Ent.nil _ _ | exact Ent.func _ | exact Ent.refl _ | exact Ent.of_eq rfl | refine Ent.cells ?_)) Gr.len rfl rfl (by decide) (by decide)) (Ent.row _ _ _ _)) rfl ?_
    refine lx (OpJ.ent (op_build (qs := [_, _, _, _]) (parts := [(0, (Go.Operand.tmp 21)), (2, (Go.Operand.tmp 22))]) ze29 rfl rfl fs29 (.cons rfl (.one (by (first | exact One.eq rfl | exact One.mv _ _ _ _ _ | exact One.cl _ _ _ | exact One.map _ | exact One.sl _ _ _ | exact One.row _ _ _ _ | exact One.msl _ _ _ _ | exact One.ptr _ _ | exact One.b _ | exact One.cells _))) fl29_0 sz22 rfl (.cons rfl (.one (by (first | exact One.eq rfl | exact One.mv _ _ _ _ _ | exact One.cl _ _ _ | exact One.map _ | exact One.sl _ _ _ | exact One.row _ _ _ _ | exact One.msl _ _ _ _ | exact One.ptr _ _ | exact One.b _ | exact One.cells _))) fl29_2 sz26 rfl .nil)) rfl rfl) (show Ent _ (aggP dM0.ps) from (by repeat (first | exact Ents.nil | refine Ents.cons ?_ ?_ | refine Ent.tup ?_ | refine Ent.agg ?_ | exact Ent.row _ _ _ _ | exact Ent.nil _ _ | exact Ent.func _ | exact Ent.refl _ | exact Ent.of_eq rfl | refine Ent.cells ?_)))) rfl ?_
    refine lxn (op_alloc (m := 3) (k := 3) (ps := [eqP (.slice none 0 0), eqP (.slice none 0 0), eqP (.slice none 0 0), eqP (.slice none 0 0)]) ze29 rfl rfl (by first | exact hC.low _ (by decide) | rfl)) rfl ?_
    refine lxr (op_store_all (m := 3) rfl rfl rfl (.agg rfl) sz29 rfl) rfl ?_
    refine lx_end ⟨by kernel_rfl, ?_⟩
    refine pe_then_normal ?_
    refine tr_sub hC (.cons (t := 0) rfl (.cons (t := 3) rfl .nil)) (.cons (t := 3) rfl .nil) rfl ?_
    refine tr_seq ?_
    refine tr_region (fun N4 hN => ?_)
    refine lxn (op_alloc (m := 4) (k := 4) (ps := [eqP (.int .i64 0), eqP (.int .i64 0), eqP (.int .i64 0), eqP (.int .i64 0), eqP (.int .i64 0), eqP (.int .i64 0), eqP (.int .i64 0), eqP (.int .i64 0)]) ze61 rfl rfl (by first | exact hC.low _ (by decide) | rfl)) rfl ?_
    refine lx_end ⟨by kernel_rfl, ?_⟩
    refine pe_then_normal ?_
    refine tr_sub hC (.cons (t := 0) rfl (.cons (t := 3) rfl (.cons (t := 4) rfl .nil))) (.cons (t := 3) rfl (.cons (t := 4) rfl .nil)) rfl ?_
    refine tr_seq ?_
    refine tr_seq ?_
    refine tr_region (fun N5 hN => ?_)
    refine lx (op_assign rfl) rfl ?_
    refine lx_end ⟨by kernel_rfl, ?_⟩
    refine pe_then_normal ?_
    refine tr_sub hC (.cons (t := 0) rfl (.cons (t := 3) rfl (.cons (t := 4) rfl (.cons (t := 5) rfl .nil)))) (.cons (t := 3) rfl (.cons (t := 4) rfl .nil)) rfl ?_
    refine tr_block ?_
    refine tr_loopK (α := {zz : Nat × (List Int) × Mc // zz.1 ≤ l.length ∧ Di zz.1 zz.2.1 zz.2.2}) (⟨(0, List.replicate 8 0, dM0), Nat.zero_le _, di_0⟩) (fun zz => [(5, eqP (.int .i64 (zz.1.1 : Int)))]) (fun zz => [(3, some ((N3, 3), blk 29 zz.1.2.2.ps)), (4, some ((N4, 4), blk 61 (zz.1.2.1.flatMap ip)))]) (fun zz => l.length - zz.1.1) hC (.cons (t := 0) rfl (.cons (t := 3) rfl (.cons (t := 4) rfl .nil))) .nil rfl ?_ ?_ (fun zz => ?_)
    · try dsimp only [List.cons_append, List.nil_append]
      first | refine SubF.cons rfl ?_ | (refine SubF.ent rfl ?_ ?_; · repeat (first | exact Ents.nil | refine Ents.cons ?_ ?_ | refine Ent.tup ?_ | refine Ent.agg ?_ | exact Ent.row _ _ _ _ | exact Ent.nil _ _ | exact Ent.func _ | exact Ent.refl _ | exact Ent.of_eq rfl | refine Ent.cells ?_))
      exact SubF.nil
    · try dsimp only [List.cons_append, List.nil_append]
      repeat (first | exact SubL.nil | refine SubL.cons rfl ?_)
    · obtain ⟨⟨k, cs, m⟩, hk1, hD⟩ := zz
      try dsimp only at hk1
      try dsimp only at hD
      dsimp only [List.cons_append, List.nil_append]
      refine tr_seq ?_
      refine tr_seq ?_
      refine tr_region (fun N6 hN => ?_)
      refine lx (op_move rfl) rfl ?_
      refine lx (op_move rfl) rfl ?_
      first | refine lx (op_len rfl el60) rfl ?_ | refine lx (op_len_row rfl el60) rfl ?_ | refine lx (op_len_mv rfl el60) rfl ?_ | refine lx (op_len_nil rfl el60) rfl ?_
      refine lx (op_lss rfl rfl) rfl ?_
      refine lx_end ⟨by kernel_rfl, ?_⟩
      refine pe_then_normal ?_
      refine tr_sub hC (.cons (t := 0) rfl (.cons (t := 3) rfl (.cons (t := 4) rfl (.cons (t := 5) rfl (.cons (t := 27) rfl .nil))))) (.cons (t := 3) rfl (.cons (t := 4) rfl .nil)) rfl ?_
      refine tr_cond rfl (fun h27 => ?_) (fun h27 => ?_)
      · (try simp only [Bool.and_eq_true, Bool.or_eq_true, Bool.and_eq_false_iff, Bool.or_eq_false_iff, decide_eq_true_eq, decide_eq_false_iff_not, Bool.not_eq_true', Bool.not_eq_false', List.length_map, ne_eq, Decidable.not_not, Int.not_lt, Int.not_le] at h27)
        have hg := dI_in (hb l[k] (List.getElem_mem ..))
        have hcl := hD.len8
        have hb4 : Bd 4000000 m := (di_bd hD (by omega)).mono (by decide)
        have hcb := hD.cb (cs[(dI l[k]).toNat]'(by omega)) (List.getElem_mem ..)
        obtain ⟨hs1, hs2, hs3, hs4⟩ := di_step hD hg (by omega) (List.getElem?_eq_getElem (by omega : (dI l[k]).toNat < cs.length))
        refine tr_skip ?_
        refine pe_then_normal ?_
        refine tr_sub hC (.cons (t := 0) rfl (.cons (t := 3) rfl (.cons (t := 4) rfl (.cons (t := 5) rfl .nil)))) (.cons (t := 3) rfl (.cons (t := 4) rfl .nil)) rfl ?_
        refine tr_seq ?_
        refine tr_block ?_
        refine tr_seq ?_
        refine tr_region (fun N8 hN => ?_)
        refine lx (op_move rfl) rfl ?_
        refine lx (op_move rfl) rfl ?_
        refine lx (op_index rfl rfl el60 sz5 rfl (List.getElem?_eq_getElem (by omega : k < l.length))) rfl ?_
        first | refine lx (op_load_one rfl ag5 rfl) rfl ?_ | refine lx (op_bload_one (m := 3) rfl rfl ag5 rfl) rfl ?_ | refine lx (op_bload_one (m := 4) rfl rfl ag5 rfl) rfl ?_
        refine lx (op_convert rfl us5 ik3) rfl ?_
        refine lx (OpJ.ent (op_rem rfl rfl rfl) (show Ent _ (eqP (.int .i64 (dI l[k]))) from (by repeat (first | exact Ents.nil | refine Ents.cons ?_ ?_ | refine Ent.tup ?_ | refine Ent.agg ?_ | exact Ent.row _ _ _ _ | exact Ent.nil _ _ | exact Ent.func _ | exact Ent.refl _ | exact Ent.of_eq rfl | refine Ent.cells ?_)))) rfl ?_
        refine lx (op_assign rfl) rfl ?_
        refine lx_end ⟨by kernel_rfl, ?_⟩
        refine pe_then_normal ?_
        refine tr_sub hC (.cons (t := 0) rfl (.cons (t := 3) rfl (.cons (t := 4) rfl (.cons (t := 5) rfl (.cons (t := 6) rfl .nil))))) (.cons (t := 3) rfl (.cons (t := 4) rfl .nil)) rfl ?_
        refine tr_seq ?_
        refine tr_drawn mixed (fun N9 hN => ?_)
        refine lx (op_bload (m := 3) rfl rfl ag29 sz29) rfl ?_
        refine lx (op_move rfl) rfl ?_
        refine lx (op_add rfl rfl (by omega)) rfl ?_
        refine lx (op_move rfl) rfl ?_
        refine lx (op_aindex rfl rfl ar61 sz3 (by omega : dI l[k] = (((dI l[k]).toNat : Nat) : Int)) (by omega)) rfl ?_
        refine lx (op_tload_one (m := 4) (j := (dI l[k]).toNat) (fo := 0) rfl rfl ag3 ip_len (by omega) (List.getElem?_eq_getElem (by omega : (dI l[k]).toNat < cs.length)) rfl) rfl ?_
        refine lx (op_mul rfl rfl (by omega)) rfl ?_
        refine lx (op_add rfl rfl (by omega)) rfl ?_
        first | refine lx (op_call (l := [(Go.Operand.tmp 37), (Go.Operand.tmp 44)]) (Find_ok m hb4 hD.srt _) (.cons rfl (.cons rfl .nil)) fn25) rfl ?_ | refine lx (op_call (l := [(Go.Operand.tmp 37), (Go.Operand.tmp 44)]) (Find_ok m hb4 hD.srt _) (.ent rfl (by repeat (first | exact Ents.nil | refine Ents.cons ?_ ?_ | refine Ent.tup ?_ | refine Ent.agg ?_ | exact Ent.row _ _ _ _ | exact Ent.nil _ _ | exact Ent.func _ | exact Ent.refl _ | exact Ent.of_eq rfl | refine Ent.cells ?_)) (.ent rfl (by repeat (first | exact Ents.nil | refine Ents.cons ?_ ?_ | refine Ent.tup ?_ | refine Ent.agg ?_ | exact Ent.row _ _ _ _ | exact Ent.nil _ _ | exact Ent.func _ | exact Ent.refl _ | exact Ent.of_eq rfl | refine Ent.cells ?_)) .nil)) fn25) rfl ?_
        refine lx (op_move rfl) rfl ?_
        refine lx (op_extract rfl rfl) rfl ?_
        refine lx (op_extract rfl rfl) rfl ?_
        refine lxn (op_alloc (m := 7) (k := 7) (ps := [eqP (.int .i64 0), eqP (.slice none 0 0), eqP (.bool false), eqP (.int .i64 0), eqP (.slice none 0 0), eqP (.bool false), eqP (.int .i64 0), eqP (.int .i64 0), eqP (.slice none 0 0), eqP (.slice none 0 0)]) ze33 rfl rfl (by first | exact hC.low _ (by decide) | rfl)) rfl ?_
        refine lxr (op_store_all (m := 7) rfl rfl rfl (.agg rfl) sz33 rfl) rfl ?_
        refine lx (op_assign rfl) rfl ?_
        refine lx_end ⟨by kernel_rfl, ?_⟩
        refine pe_then_normal ?_
        refine tr_sub hC (.cons (t := 0) rfl (.cons (t := 3) rfl (.cons (t := 4) rfl (.cons (t := 5) rfl (.cons (t := 6) rfl (.cons (t := 8) rfl .nil)))))) (.cons (t := 3) rfl (.cons (t := 4) rfl .nil)) rfl ?_
        refine tr_seq ?_
        refine tr_region (fun N10 hN => ?_)
        refine lx (op_bload (m := 3) rfl rfl ag29 sz29) rfl ?_
        refine lx (op_move rfl) rfl ?_
        refine lx (op_move rfl) rfl ?_
        refine lx (op_build (qs := [_, _, _]) (parts := [(1, (Go.Operand.tmp 51))]) ze41 rfl rfl fs41 (.cons rfl (.one (by (first | exact One.eq rfl | exact One.mv _ _ _ _ _ | exact One.cl _ _ _ | exact One.map _ | exact One.sl _ _ _ | exact One.row _ _ _ _ | exact One.msl _ _ _ _ | exact One.ptr _ _ | exact One.b _ | exact One.cells _))) fl41_1 sz3 rfl .nil) rfl rfl) rfl ?_
        refine lx (op_buildSlice (f := vp) (xs := [⟨0, (k : Int), 0⟩]) (l := [(0, (Go.Operand.tmp 52))]) ze41 rfl rfl (by decide) el30 sz41 vp_len (.cons rfl (.agg rfl) .nil) rfl (by decide)) rfl ?_
        refine lx (OpJ.ent (op_build (qs := [_, _, _, _, _, _, _, _, _, _]) (parts := [(1, (Go.Operand.tmp 53))]) ze33 rfl rfl fs33 (.cons rfl (.one (by (first | exact One.eq rfl | exact One.mv _ _ _ _ _ | exact One.cl _ _ _ | exact One.map _ | exact One.sl _ _ _ | exact One.row _ _ _ _ | exact One.msl _ _ _ _ | exact One.ptr _ _ | exact One.b _ | exact One.cells _))) fl33_1 sz30 rfl .nil) rfl rfl) (show Ent _ (aggP (Ob.ps (dO k))) from (by repeat (first | exact Ents.nil | refine Ents.cons ?_ ?_ | refine Ent.tup ?_ | refine Ent.agg ?_ | exact Ent.row _ _ _ _ | exact Ent.nil _ _ | exact Ent.func _ | exact Ent.refl _ | exact Ent.of_eq rfl | refine Ent.cells ?_)))) rfl ?_
        first | refine lx (op_call (l := [(Go.Operand.tmp 49), (Go.Operand.tmp 50), (Go.Operand.tmp 54)]) (Alloc_ok m (dI l[k]) (dO k) hb4 ⟨Nat.le_of_ble_eq_true rfl, Nat.zero_le _, Nat.zero_le _, Nat.zero_le _⟩ hD.srt) (.cons rfl (.cons rfl (.cons rfl .nil))) fn16) rfl ?_ | refine lx (op_call (l := [(Go.Operand.tmp 49), (Go.Operand.tmp 50), (Go.Operand.tmp 54)]) (Alloc_ok m (dI l[k]) (dO k) hb4 ⟨Nat.le_of_ble_eq_true rfl, Nat.zero_le _, Nat.zero_le _, Nat.zero_le _⟩ hD.srt) (.ent rfl (by repeat (first | exact Ents.nil | refine Ents.cons ?_ ?_ | refine Ent.tup ?_ | refine Ent.agg ?_ | exact Ent.row _ _ _ _ | exact Ent.nil _ _ | exact Ent.func _ | exact Ent.refl _ | exact Ent.of_eq rfl | refine Ent.cells ?_)) (.ent rfl (by repeat (first | exact Ents.nil | refine Ents.cons ?_ ?_ | refine Ent.tup ?_ | refine Ent.agg ?_ | exact Ent.row _ _ _ _ | exact Ent.nil _ _ | exact Ent.func _ | exact Ent.refl _ | exact Ent.of_eq rfl | refine Ent.cells ?_)) (.ent rfl (by repeat (first | exact Ents.nil | refine Ents.cons ?_ ?_ | refine Ent.tup ?_ | refine Ent.agg ?_ | exact Ent.row _ _ _ _ | exact Ent.nil _ _ | exact Ent.func _ | exact Ent.refl _ | exact Ent.of_eq rfl | refine Ent.cells ?_)) .nil))) fn16) rfl ?_
        refine lx (op_move rfl) rfl ?_
        refine lx (op_extract rfl rfl) rfl ?_
        refine lx (op_extract rfl rfl) rfl ?_
        refine lx (op_extract rfl rfl) rfl ?_
        refine lxn (op_alloc (m := 9) (k := 9) (ps := [eqP (.slice none 0 0), eqP (.slice none 0 0), eqP (.slice none 0 0), eqP (.slice none 0 0)]) ze29 rfl rfl (by first | exact hC.low _ (by decide) | rfl)) rfl ?_
        refine lxr (op_store_all (m := 9) rfl rfl rfl (.agg rfl) sz29 rfl) rfl ?_
        refine lx (op_assign rfl) rfl ?_
        refine lx (op_assign rfl) rfl ?_
        refine lx_end ⟨by kernel_rfl, ?_⟩
        refine pe_then_normal ?_
        refine tr_sub hC (.cons (t := 0) rfl (.cons (t := 3) rfl (.cons (t := 4) rfl (.cons (t := 5) rfl (.cons (t := 6) rfl (.cons (t := 8) rfl (.cons (t := 9) rfl (.cons (t := 10) rfl (.cons (t := 11) rfl .nil))))))))) (.cons (t := 3) rfl (.cons (t := 4) rfl (.cons (t := 9) rfl .nil))) rfl ?_
        refine tr_seq ?_
        refine tr_seq ?_
        refine tr_region (fun N11 hN => ?_)
        refine lx (op_move rfl) rfl ?_
        refine lx (op_move rfl) rfl ?_
        refine lxs rfl rfl rfl guard_eq (.cons (t := 11) rfl (fun _ => Ent.refl _) .nil) (op_move rfl) rfl ?_
        refine lxs rfl rfl rfl guard_eq (.cons (t := 61) rfl (fun h => entW h) .nil) (op_neq rfl rfl) rfl ?_
        refine lx (op_pick_or rfl rfl) rfl ?_
        refine lx (op_move rfl) rfl ?_
        refine lxs rfl rfl rfl guard_eq (.cons (t := 10) rfl (fun _ => Ent.refl _) .nil) (op_move rfl) rfl ?_
        refine lxs rfl rfl rfl guard_eq (.cons (t := 6) rfl (fun _ => Ent.refl _) .nil) (op_move rfl) rfl ?_
        refine lxs rfl rfl rfl guard_eq (.cons (t := 66) rfl (fun h => entW h) .nil) (op_add rfl rfl (by omega)) rfl ?_
        refine lxs rfl rfl rfl guard_eq (.cons (t := 6) rfl (fun _ => Ent.refl _) .nil) (op_move rfl) rfl ?_
        refine lxs rfl rfl rfl guard_eq (.cons (t := 4) rfl (fun _ => Ent.refl _) (.cons (t := 68) rfl (fun h => entW h) .nil)) (op_aindex rfl rfl ar61 sz3 (by omega : dI l[k] = (((dI l[k]).toNat : Nat) : Int)) (by omega)) rfl ?_
        refine lxs rfl rfl rfl guard_eq (.cons (t := 69) rfl (fun h => entW h) .nil) (op_tload_one (m := 4) (j := (dI l[k]).toNat) (fo := 0) rfl rfl ag3 ip_len (by omega) (List.getElem?_eq_getElem (by omega : (dI l[k]).toNat < cs.length)) rfl) rfl ?_
        refine lxs rfl rfl rfl guard_eq (.cons (t := 70) rfl (fun h => entW h) .nil) (op_mul rfl rfl (by omega)) rfl ?_
        refine lxs rfl rfl rfl guard_eq (.cons (t := 67) rfl (fun h => entW h) (.cons (t := 71) rfl (fun h => entW h) .nil)) (op_add rfl rfl (by omega)) rfl ?_
        refine lxs rfl rfl rfl guard_eq (.cons (t := 65) rfl (fun h => entW h) (.cons (t := 72) rfl (fun h => entW h) .nil)) (op_neq rfl rfl) rfl ?_
        refine lx (op_pick_or rfl rfl) rfl ?_
        refine lx (op_move rfl) rfl ?_
        refine lxs rfl rfl rfl guard_eq (.cons (t := 9) rfl (fun _ => Ent.refl _) .nil) (op_fieldAddr rfl fl29_0 sz22) rfl ?_
        refine lxs rfl rfl rfl guard_eq (.cons (t := 76) rfl (fun h => entW h) .nil) (op_bload_one (m := 9) rfl rfl ag22 rfl) rfl ?_
        first | refine lxs rfl rfl rfl guard_eq (.cons (t := 77) rfl (fun h => entW h) .nil) (op_len rfl el22) rfl ?_ | refine lxs rfl rfl rfl guard_eq (.cons (t := 77) rfl (fun h => entW h) .nil) (op_len_row rfl el22) rfl ?_ | refine lxs rfl rfl rfl guard_eq (.cons (t := 77) rfl (fun h => entW h) .nil) (op_len_mv rfl el22) rfl ?_ | refine lxs rfl rfl rfl guard_eq (.cons (t := 77) rfl (fun h => entW h) .nil) (op_len_nil rfl el22) rfl ?_
        refine lxs rfl rfl rfl guard_eq (.cons (t := 5) rfl (fun _ => Ent.refl _) .nil) (op_move rfl) rfl ?_
        refine lxs rfl rfl rfl guard_eq (.cons (t := 79) rfl (fun h => entW h) .nil) (op_add rfl rfl (by omega)) rfl ?_
        refine lxs rfl rfl rfl guard_eq (.cons (t := 78) rfl (fun h => entW h) (.cons (t := 80) rfl (fun h => entW h) .nil)) (op_neq rfl rfl) rfl ?_
        refine lx (op_pick_or rfl rfl) rfl ?_
        refine lx_end ⟨by kernel_rfl, ?_⟩
        refine pe_then_normal ?_
        refine tr_sub hC (.cons (t := 0) rfl (.cons (t := 3) rfl (.cons (t := 4) rfl (.cons (t := 5) rfl (.cons (t := 6) rfl (.cons (t := 9) rfl (.cons (t := 82) rfl .nil))))))) (.cons (t := 3) rfl (.cons (t := 4) rfl (.cons (t := 9) rfl .nil))) rfl ?_
        refine tr_cond rfl (fun h82 => ?_) (fun h82 => ?_)
        · simp [hs1, hs2, hs3] at h82
        · (try simp only [Bool.and_eq_true, Bool.or_eq_true, Bool.and_eq_false_iff, Bool.or_eq_false_iff, decide_eq_true_eq, decide_eq_false_iff_not, Bool.not_eq_true', Bool.not_eq_false', List.length_map, ne_eq, Decidable.not_not, Int.not_lt, Int.not_le] at h82)
          refine tr_skip ?_
          refine pe_then_normal ?_
          refine tr_sub hC (.cons (t := 0) rfl (.cons (t := 3) rfl (.cons (t := 4) rfl (.cons (t := 5) rfl (.cons (t := 6) rfl (.cons (t := 9) rfl .nil)))))) (.cons (t := 3) rfl (.cons (t := 4) rfl (.cons (t := 9) rfl .nil))) rfl ?_
          refine tr_seq ?_
          refine tr_region (fun N13 hN => ?_)
          refine lx (op_move rfl) rfl ?_
          refine lx (op_aindex rfl rfl ar61 sz3 (by omega : dI l[k] = (((dI l[k]).toNat : Nat) : Int)) (by omega)) rfl ?_
          refine lx (op_tload_one (m := 4) (j := (dI l[k]).toNat) (fo := 0) rfl rfl ag3 ip_len (by omega) (List.getElem?_eq_getElem (by omega : (dI l[k]).toNat < cs.length)) rfl) rfl ?_
          refine lx (op_add rfl rfl (by omega)) rfl ?_
          refine lx (op_aindex rfl rfl ar61 sz3 (by omega : dI l[k] = (((dI l[k]).toNat : Nat) : Int)) (by omega)) rfl ?_
          refine lxr (op_tstore (m := 4) (j := (dI l[k]).toNat) (fo := 0) (z' := ((cs[(dI l[k]).toNat]'(by omega)) + 1)) rfl rfl rfl (.one (by (first | exact One.eq rfl | exact One.mv _ _ _ _ _ | exact One.cl _ _ _ | exact One.map _ | exact One.sl _ _ _ | exact One.row _ _ _ _ | exact One.msl _ _ _ _ | exact One.ptr _ _ | exact One.b _ | exact One.cells _))) sz3 rfl ip_len (by omega) (List.getElem?_eq_getElem (by omega : (dI l[k]).toNat < cs.length)) rfl rfl) rfl ?_
          refine lx_end ⟨by kernel_rfl, ?_⟩
          refine pe_then_normal ?_
          refine tr_sub hC (.cons (t := 0) rfl (.cons (t := 3) rfl (.cons (t := 4) rfl (.cons (t := 5) rfl (.cons (t := 9) rfl .nil))))) (.cons (t := 3) rfl (.cons (t := 4) rfl (.cons (t := 9) rfl .nil))) rfl ?_
          refine tr_region (fun N14 hN => ?_)
          refine lx (op_bload (m := 9) rfl rfl ag29 sz29) rfl ?_
          refine lxr (op_store_all (m := 3) rfl rfl rfl (.agg rfl) sz29 rfl) rfl ?_
          refine lx_end ⟨by kernel_rfl, ?_⟩
          refine pe_block_normal ?_
          refine pe_then_normal ?_
          refine tr_sub hC (.cons (t := 0) rfl (.cons (t := 3) rfl (.cons (t := 4) rfl (.cons (t := 5) rfl .nil)))) (.cons (t := 3) rfl (.cons (t := 4) rfl .nil)) rfl ?_
          refine tr_region (fun N7 hN => ?_)
          refine lx (op_move rfl) rfl ?_
          refine lx (op_add rfl rfl (by omega)) rfl ?_
          refine lx (op_assign rfl) rfl ?_
          refine lx_end ⟨by kernel_rfl, ?_⟩
          refine pe_round (⟨(k + 1, cs.set (dI l[k]).toNat ((cs[(dI l[k]).toNat]'(by omega)) + 1), (allocF putF m (dI l[k]) (dO k)).1), by dsimp only; omega, hs4⟩) (by dsimp only; omega) (pe_st hC ?_ ?_ rfl)
          · try dsimp only [List.cons_append, List.nil_append]
            first | refine SubF.cons rfl ?_ | (refine SubF.ent rfl ?_ ?_; · repeat (first | exact Ents.nil | refine Ents.cons ?_ ?_ | refine Ent.tup ?_ | refine Ent.agg ?_ | exact Ent.row _ _ _ _ | exact Ent.nil _ _ | exact Ent.func _ | exact Ent.refl _ | exact Ent.of_eq rfl | refine Ent.cells ?_))
            first | refine SubF.cons rfl ?_ | (refine SubF.ent rfl ?_ ?_; · repeat (first | exact Ents.nil | refine Ents.cons ?_ ?_ | refine Ent.tup ?_ | refine Ent.agg ?_ | exact Ent.row _ _ _ _ | exact Ent.nil _ _ | exact Ent.func _ | exact Ent.refl _ | exact Ent.of_eq rfl | refine Ent.cells ?_))
            first | refine SubF.cons rfl ?_ | (refine SubF.ent rfl ?_ ?_; · repeat (first | exact Ents.nil | refine Ents.cons ?_ ?_ | refine Ent.tup ?_ | refine Ent.agg ?_ | exact Ent.row _ _ _ _ | exact Ent.nil _ _ | exact Ent.func _ | exact Ent.refl _ | exact Ent.of_eq rfl | refine Ent.cells ?_))
            first | refine SubF.cons rfl ?_ | (refine SubF.ent rfl ?_ ?_; · repeat (first | exact Ents.nil | refine Ents.cons ?_ ?_ | refine Ent.tup ?_ | refine Ent.agg ?_ | exact Ent.row _ _ _ _ | exact Ent.nil _ _ | exact Ent.func _ | exact Ent.refl _ | exact Ent.of_eq rfl | refine Ent.cells ?_))
            exact SubF.nil
          · try dsimp only [List.cons_append, List.nil_append]
            repeat (first | exact SubL.nil | refine SubL.cons rfl ?_)
      · (try simp only [Bool.and_eq_true, Bool.or_eq_true, Bool.and_eq_false_iff, Bool.or_eq_false_iff, decide_eq_true_eq, decide_eq_false_iff_not, Bool.not_eq_true', Bool.not_eq_false', List.length_map, ne_eq, Decidable.not_not, Int.not_lt, Int.not_le] at h27)
        have hfin : validF m.objects = true := valid_iff.2 ⟨hD.srt, hD.ok⟩
        refine tr_exit ?_
        refine pe_then_exit ?_
        refine pe_then_exit ?_
        refine pe_block_eq ?_
        refine pe_then_normal ?_
        refine tr_sub hC (.cons (t := 3) rfl .nil) (.cons (t := 3) rfl .nil) rfl ?_
        refine tr_seq ?_
        refine tr_region (fun N15 hN => ?_)
        refine lx (op_fieldAddr rfl fl29_0 sz22) rfl ?_
        refine lx (op_bload_one (m := 3) rfl rfl ag22 rfl) rfl ?_
        first | refine lx (op_call (l := [(Go.Operand.tmp 90)]) (Valid_ok m.objects (bdO_obs (di_bd hD (by omega)) (by decide) rfl).1 (bdO_obs (di_bd hD (by omega)) (by decide) rfl).2) (.cons rfl .nil) fn13) rfl ?_ | refine lx (op_call (l := [(Go.Operand.tmp 90)]) (Valid_ok m.objects (bdO_obs (di_bd hD (by omega)) (by decide) rfl).1 (bdO_obs (di_bd hD (by omega)) (by decide) rfl).2) (.ent rfl (by repeat (first | exact Ents.nil | refine Ents.cons ?_ ?_ | refine Ent.tup ?_ | refine Ent.agg ?_ | exact Ent.row _ _ _ _ | exact Ent.nil _ _ | exact Ent.func _ | exact Ent.refl _ | exact Ent.of_eq rfl | refine Ent.cells ?_)) .nil) fn13) rfl ?_
        refine lx (op_assign rfl) rfl ?_
        refine lx_end ⟨by kernel_rfl, ?_⟩
        refine pe_then_normal ?_
        refine tr_sub hC (.cons (t := 2) rfl .nil) .nil rfl ?_
        refine tr_ret ?_
        refine pe_ret1 rfl hO rfl (.tmp rfl .nil) ?_
        exact entB hfin
end Go.Proofs.Ytibcbiamdjmckaa
