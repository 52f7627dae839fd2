/- Walk of the plays of layer 17 -/
import Derived.Test.YtagjjeofdcgcmaaChLaws2
import Derived.Test.YtagjjeofdcgcmaaChFifo
import Derived.Test.YtagjjeofdcgcmaaAlArr
set_option linter.unusedVariables false
set_option linter.unusedSimpArgs false
namespace Go.Proofs.Ytagjjeofdcgcmaa
open Go.AL Go.Ch Go.RowKit
theorem ag5 : aggB Try.prog 5 = some false := by kernel_rfl
theorem ar68 : arrB Try.prog 68 = some (8, 4) := by kernel_rfl
theorem by3 : bytesB Try.prog 3 = some 8 := by kernel_rfl
theorem el47 : elemB Try.prog 47 = some 70 := by kernel_rfl
theorem el48 : elemB Try.prog 48 = some 3 := by kernel_rfl
theorem fl70_0 : fldB Try.prog 70 0 = some (0, 5) := by kernel_rfl
theorem fl70_1 : fldB Try.prog 70 1 = some (1, 5) := by kernel_rfl
theorem fl70_2 : fldB Try.prog 70 2 = some (2, 3) := by kernel_rfl
theorem sz5 : sizeB Try.prog 5 = some 1 := by kernel_rfl
theorem sz68 : sizeB Try.prog 68 = some 8 := by kernel_rfl
theorem sz70 : sizeB Try.prog 70 = some 3 := by kernel_rfl
theorem us5 : (Try.prog.underlying 5).isSome = true := by kernel_rfl
theorem ze3 : zeroB Try.prog 3 = some (some (.int .i64 0)) := by kernel_rfl
theorem ze68 : zeroB Try.prog 68 = some (some (.agg #[.bool false, .bool false, .bool false, .bool false, .bool false, .bool false, .bool false, .bool false])) := by kernel_rfl
set_option maxHeartbeats 4000000 in
theorem play_ok (c : Int) (l : List Actn) (h0 : 0 ≤ c ∧ c ≤ 64) (hl : l.length ≤ 60) (hb : ∀ a ∈ l, Byt a) : FnP Try.prog 30 [eqP (.int .i64 c), slP actp 3 l] (tupP [slP ip 1 (playF c l).sent, slP ip 1 (playF c l).rcd, eqP (.bool true)]) := by
  refine fn_pure' Try.func30 rfl Try.ntmps30 rfl ?_
  intro σ0 M ex Rf R hC hO
  simp only [frameOf, tokOf]
  refine tr_seq ?_
  refine tr_region (fun N0 hN => ?_)
  refine lx (op_assign rfl) rfl ?_
  refine lx (op_assign rfl) rfl ?_
  refine lx (op_assign rfl) rfl ?_
  refine lx_end ⟨by kernel_rfl, ?_⟩
  refine pe_then_normal ?_
  refine tr_sub hC (.cons (t := 0) rfl (.cons (t := 1) rfl .nil)) .nil rfl ?_
  refine tr_seq ?_
  refine tr_region (fun N1 hN => ?_)
  refine lx (op_move rfl) rfl ?_
  first | refine lx (op_call (l := [(Go.Operand.tmp 18)]) (New_ok c) (.cons rfl .nil) fn12) rfl ?_ | refine lx (op_call (l := [(Go.Operand.tmp 18)]) (New_ok c) (.ent rfl (by repeat (first | exact Ents.nil | refine Ents.cons ?_ ?_ | refine Ent.tup ?_ | refine Ent.agg ?_ | exact Ent.row _ _ _ _ | exact Ent.nil _ _ | exact Ent.func _ | exact Ent.refl _ | exact Ent.of_eq rfl | refine Ent.cells ?_)) .nil) fn12) rfl ?_
  refine lx (op_move rfl) rfl ?_
  refine lx (op_extract rfl rfl) rfl ?_
  refine lx (op_extract rfl rfl) rfl ?_
  refine lxn (op_alloc (m := 7) (k := 7) (ps := [eqP (.int .i64 0), eqP (.slice none 0 0), eqP (.bool false), eqP (.int .i64 0), eqP (.slice none 0 0), eqP (.bool false), eqP (.int .i64 0), eqP (.int .i64 0), eqP (.slice none 0 0), eqP (.slice none 0 0)]) ze28 rfl rfl (by first | exact hC.low _ (by decide) | rfl)) rfl ?_
  refine lxr (op_store_all (m := 7) rfl rfl rfl (.agg rfl) sz28 rfl) rfl ?_
  refine lx (op_assign rfl) rfl ?_
  refine lx_end ⟨by kernel_rfl, ?_⟩
  refine pe_then_normal ?_
  refine tr_sub hC (.cons (t := 0) rfl (.cons (t := 1) rfl (.cons (t := 7) rfl (.cons (t := 8) rfl .nil)))) (.cons (t := 7) rfl .nil) rfl ?_
  refine tr_seq ?_
  refine tr_seq ?_
  refine tr_region (fun N2 hN => ?_)
  refine lx (op_move rfl) rfl ?_
  refine lx (op_neq rfl rfl) rfl ?_
  refine lx_end ⟨by kernel_rfl, ?_⟩
  refine pe_then_normal ?_
  refine tr_sub hC (.cons (t := 0) rfl (.cons (t := 1) rfl (.cons (t := 7) rfl (.cons (t := 23) rfl .nil)))) (.cons (t := 7) rfl .nil) rfl ?_
  refine tr_cond rfl (fun h23 => ?_) (fun h23 => ?_)
  · (try simp only [Bool.and_eq_true, Bool.or_eq_true, Bool.and_eq_false_iff, Bool.or_eq_false_iff, decide_eq_true_eq, decide_eq_false_iff_not, Bool.not_eq_true', Bool.not_eq_false', List.length_map, ne_eq, Decidable.not_not, Int.not_lt, Int.not_le] at h23)
    exact absurd (by unfold newF; rw [if_neg (by omega)]) h23
  · (try simp only [Bool.and_eq_true, Bool.or_eq_true, Bool.and_eq_false_iff, Bool.or_eq_false_iff, decide_eq_true_eq, decide_eq_false_iff_not, Bool.not_eq_true', Bool.not_eq_false', List.length_map, ne_eq, Decidable.not_not, Int.not_lt, Int.not_le] at h23)
    refine tr_skip ?_
    refine pe_then_normal ?_
    refine tr_sub hC (.cons (t := 0) rfl (.cons (t := 1) rfl (.cons (t := 7) rfl .nil))) (.cons (t := 7) rfl .nil) rfl ?_
    refine tr_seq ?_
    refine tr_region (fun N4 hN => ?_)
    refine lx (op_assign rfl) rfl ?_
    refine lx (op_assign rfl) rfl ?_
    refine lx_end ⟨by kernel_rfl, ?_⟩
    refine pe_then_normal ?_
    refine tr_sub hC (.cons (t := 0) rfl (.cons (t := 1) rfl (.cons (t := 7) rfl (.cons (t := 9) rfl (.cons (t := 10) rfl .nil))))) (.cons (t := 7) rfl .nil) rfl ?_
    refine tr_seq ?_
    refine tr_region (fun N5 hN => ?_)
    refine lx (op_assign rfl) rfl ?_
    refine lx_end ⟨by kernel_rfl, ?_⟩
    refine pe_then_normal ?_
    refine tr_sub hC (.cons (t := 0) rfl (.cons (t := 1) rfl (.cons (t := 7) rfl (.cons (t := 9) rfl (.cons (t := 10) rfl (.cons (t := 11) rfl .nil)))))) (.cons (t := 7) rfl .nil) rfl ?_
    refine tr_seq ?_
    refine tr_region (fun N6 hN => ?_)
    refine lxn (op_alloc (m := 12) (k := 12) (ps := [eqP (.bool false), eqP (.bool false), eqP (.bool false), eqP (.bool false), eqP (.bool false), eqP (.bool false), eqP (.bool false), eqP (.bool false)]) ze68 rfl rfl (by first | exact hC.low _ (by decide) | rfl)) rfl ?_
    refine lx_end ⟨by kernel_rfl, ?_⟩
    refine pe_then_normal ?_
    refine tr_sub hC (.cons (t := 0) rfl (.cons (t := 1) rfl (.cons (t := 7) rfl (.cons (t := 9) rfl (.cons (t := 10) rfl (.cons (t := 11) rfl (.cons (t := 12) rfl .nil))))))) (.cons (t := 7) rfl (.cons (t := 12) rfl .nil)) rfl ?_
    refine tr_seq ?_
    refine tr_seq ?_
    refine tr_region (fun N7 hN => ?_)
    refine lx (op_assign rfl) rfl ?_
    refine lx_end ⟨by kernel_rfl, ?_⟩
    refine pe_then_normal ?_
    refine tr_sub hC (.cons (t := 0) rfl (.cons (t := 1) rfl (.cons (t := 7) rfl (.cons (t := 9) rfl (.cons (t := 10) rfl (.cons (t := 11) rfl (.cons (t := 12) rfl (.cons (t := 13) rfl .nil)))))))) (.cons (t := 7) rfl (.cons (t := 12) rfl .nil)) rfl ?_
    refine tr_block ?_
    refine tr_nilrow ip 1 3 9 600 rfl (by first | exact hC.low _ (by decide) | rfl) (fun idN => ?_)
    refine tr_nilrow ip 1 3 10 601 rfl (by first | exact hC.low _ (by decide) | rfl) (fun idM => ?_)
    refine tr_loopK (α := {zz : Nat × Ob × (List Int) × (List Int) × Bool × (List Bool) × AL.Id × AL.Id // zz.1 ≤ l.length ∧ (⟨zz.2.1, zz.2.2.1, zz.2.2.2.1, zz.2.2.2.2.1, zz.2.2.2.2.2.1⟩ : St) = (l.take zz.1).foldl stepF (st0 c)}) (⟨(0, (newF c).1, [], [], false, List.replicate 8 false, idN, idM), Nat.zero_le _, rfl⟩) (fun zz => [(9, rowP zz.1.2.2.2.2.2.2.1 ip 1 zz.1.2.2.1), (10, rowP zz.1.2.2.2.2.2.2.2 ip 1 zz.1.2.2.2.1), (11, eqP (.bool zz.1.2.2.2.2.1)), (13, eqP (.int .i64 (zz.1.1 : Int)))]) (fun zz => [(7, some ((N1, 7), blk 28 zz.1.2.1.ps)), (12, some ((N6, 12), blk 68 (zz.1.2.2.2.2.2.1.flatMap bp))), (600, some (zz.1.2.2.2.2.2.2.1, tail 3 1 (zz.1.2.2.1.length * 1))), (601, some (zz.1.2.2.2.2.2.2.2, tail 3 1 (zz.1.2.2.2.1.length * 1)))]) (fun zz => l.length - zz.1.1) hC (.cons (t := 0) rfl (.cons (t := 1) rfl (.cons (t := 7) rfl (.cons (t := 12) rfl .nil)))) .nil rfl ?_ ?_ (fun zz => ?_)
    · try dsimp only [List.cons_append, List.nil_append]
      first | refine SubF.cons rfl ?_ | (refine SubF.ent rfl ?_ ?_; · repeat (first | exact Ents.nil | refine Ents.cons ?_ ?_ | refine Ent.tup ?_ | refine Ent.agg ?_ | exact Ent.row _ _ _ _ | exact Ent.nil _ _ | exact Ent.func _ | exact Ent.refl _ | exact Ent.of_eq rfl | refine Ent.cells ?_))
      first | refine SubF.cons rfl ?_ | (refine SubF.ent rfl ?_ ?_; · repeat (first | exact Ents.nil | refine Ents.cons ?_ ?_ | refine Ent.tup ?_ | refine Ent.agg ?_ | exact Ent.row _ _ _ _ | exact Ent.nil _ _ | exact Ent.func _ | exact Ent.refl _ | exact Ent.of_eq rfl | refine Ent.cells ?_))
      first | refine SubF.cons rfl ?_ | (refine SubF.ent rfl ?_ ?_; · repeat (first | exact Ents.nil | refine Ents.cons ?_ ?_ | refine Ent.tup ?_ | refine Ent.agg ?_ | exact Ent.row _ _ _ _ | exact Ent.nil _ _ | exact Ent.func _ | exact Ent.refl _ | exact Ent.of_eq rfl | refine Ent.cells ?_))
      first | refine SubF.cons rfl ?_ | (refine SubF.ent rfl ?_ ?_; · repeat (first | exact Ents.nil | refine Ents.cons ?_ ?_ | refine Ent.tup ?_ | refine Ent.agg ?_ | exact Ent.row _ _ _ _ | exact Ent.nil _ _ | exact Ent.func _ | exact Ent.refl _ | exact Ent.of_eq rfl | refine Ent.cells ?_))
      exact SubF.nil
    · try dsimp only [List.cons_append, List.nil_append]
      repeat (first | exact SubL.nil | refine SubL.cons rfl ?_)
    · obtain ⟨⟨k, o, sent, rcd, cl, ws, i, j⟩, hk1, hk2⟩ := zz
      try dsimp only at hk1
      try dsimp only at hk2
      dsimp only [List.cons_append, List.nil_append]
      refine tr_seq ?_
      refine tr_seq ?_
      refine tr_region (fun N8 hN => ?_)
      refine lx (op_move rfl) rfl ?_
      refine lx (op_move rfl) rfl ?_
      first | refine lx (op_len rfl el47) rfl ?_ | refine lx (op_len_row rfl el47) rfl ?_ | refine lx (op_len_mv rfl el47) rfl ?_ | refine lx (op_len_nil rfl el47) rfl ?_
      refine lx (op_lss rfl rfl) rfl ?_
      refine lx_end ⟨by kernel_rfl, ?_⟩
      refine pe_then_normal ?_
      refine tr_sub hC (.cons (t := 0) rfl (.cons (t := 1) rfl (.cons (t := 7) rfl (.cons (t := 9) rfl (.cons (t := 10) rfl (.cons (t := 11) rfl (.cons (t := 12) rfl (.cons (t := 13) rfl (.cons (t := 27) rfl .nil))))))))) (.cons (t := 7) rfl (.cons (t := 12) rfl (.cons (t := 600) rfl (.cons (t := 601) rfl .nil)))) rfl ?_
      refine tr_cond rfl (fun h27 => ?_) (fun h27 => ?_)
      · (try simp only [Bool.and_eq_true, Bool.or_eq_true, Bool.and_eq_false_iff, Bool.or_eq_false_iff, decide_eq_true_eq, decide_eq_false_iff_not, Bool.not_eq_true', Bool.not_eq_false', List.length_map, ne_eq, Decidable.not_not, Int.not_lt, Int.not_le] at h27)
        have hp : Pl c k ⟨o, sent, rcd, cl, ws⟩ := hk2 ▸ pl_fold h0 hl hb k hk1
        have hg := gI_in (hb l[k] (List.getElem_mem ..))
        have hwl := hp.wl
        have hfew := hp.few
        simp only at hwl hfew
        refine tr_skip ?_
        refine pe_then_normal ?_
        refine tr_sub hC (.cons (t := 0) rfl (.cons (t := 1) rfl (.cons (t := 7) rfl (.cons (t := 9) rfl (.cons (t := 10) rfl (.cons (t := 11) rfl (.cons (t := 12) rfl (.cons (t := 13) rfl .nil)))))))) (.cons (t := 7) rfl (.cons (t := 12) rfl (.cons (t := 600) rfl (.cons (t := 601) rfl .nil)))) rfl ?_
        refine tr_seq ?_
        refine tr_block ?_
        refine tr_seq ?_
        refine tr_region (fun N10 hN => ?_)
        refine lx (op_move rfl) rfl ?_
        refine lx (op_move rfl) rfl ?_
        refine lx (op_index rfl rfl el47 sz70 rfl (List.getElem?_eq_getElem (by omega : k < l.length))) rfl ?_
        first | refine lx (op_fieldAddr rfl fl70_1 sz5) rfl ?_ | refine lx (op_fieldCells rfl fl70_1 sz5) rfl ?_
        first | refine lx (op_load_one rfl ag5 rfl) rfl ?_ | refine lx (op_bload_one (m := 7) rfl rfl ag5 rfl) rfl ?_ | refine lx (op_bload_one (m := 12) rfl rfl ag5 rfl) rfl ?_ | refine lx (op_bload_one (m := 600) rfl rfl ag5 rfl) rfl ?_ | refine lx (op_bload_one (m := 601) rfl rfl ag5 rfl) rfl ?_
        refine lx (op_rem rfl rfl rfl) rfl ?_
        refine lx (op_convert rfl us5 ik3) rfl ?_
        refine lx (op_assign rfl) rfl ?_
        refine lx_end ⟨by kernel_rfl, ?_⟩
        refine pe_then_normal ?_
        refine tr_sub hC (.cons (t := 0) rfl (.cons (t := 1) rfl (.cons (t := 7) rfl (.cons (t := 9) rfl (.cons (t := 10) rfl (.cons (t := 11) rfl (.cons (t := 12) rfl (.cons (t := 13) rfl (.cons (t := 14) rfl .nil))))))))) (.cons (t := 7) rfl (.cons (t := 12) rfl (.cons (t := 600) rfl (.cons (t := 601) rfl .nil)))) rfl ?_
        refine tr_seq ?_
        refine tr_seq ?_
        refine tr_region (fun N11 hN => ?_)
        refine lx (op_move rfl) rfl ?_
        refine lx (op_aindex rfl rfl ar68 sz4 (by omega : gI l[k] = (((gI l[k]).toNat : Nat) : Int)) (by omega)) rfl ?_
        refine lx (op_tload_one (m := 12) (j := (gI l[k]).toNat) (fo := 0) rfl rfl ag4 bp_len (by omega) (List.getElem?_eq_getElem (by omega : (gI l[k]).toNat < ws.length)) rfl) rfl ?_
        refine lx_end ⟨by kernel_rfl, ?_⟩
        refine pe_then_normal ?_
        refine tr_sub hC (.cons (t := 0) rfl (.cons (t := 1) rfl (.cons (t := 7) rfl (.cons (t := 9) rfl (.cons (t := 10) rfl (.cons (t := 11) rfl (.cons (t := 12) rfl (.cons (t := 13) rfl (.cons (t := 14) rfl (.cons (t := 39) rfl .nil)))))))))) (.cons (t := 7) rfl (.cons (t := 12) rfl (.cons (t := 600) rfl (.cons (t := 601) rfl .nil)))) rfl ?_
        refine tr_cond rfl (fun h39 => ?_) (fun h39 => ?_)
        · (try simp only [Bool.and_eq_true, Bool.or_eq_true, Bool.and_eq_false_iff, Bool.or_eq_false_iff, decide_eq_true_eq, decide_eq_false_iff_not, Bool.not_eq_true', Bool.not_eq_false', List.length_map, ne_eq, Decidable.not_not, Int.not_lt, Int.not_le] at h39)
          have hws : ws[(gI l[k]).toNat]? = some true := by rw [List.getElem?_eq_getElem (by omega), h39]
          refine tr_exit ?_
          refine pe_then_exit ?_
          refine pe_block_eq ?_
          refine pe_then_normal ?_
          refine tr_sub hC (.cons (t := 0) rfl (.cons (t := 1) rfl (.cons (t := 7) rfl (.cons (t := 9) rfl (.cons (t := 10) rfl (.cons (t := 11) rfl (.cons (t := 12) rfl (.cons (t := 13) rfl .nil)))))))) (.cons (t := 7) rfl (.cons (t := 12) rfl (.cons (t := 600) rfl (.cons (t := 601) rfl .nil)))) rfl ?_
          refine tr_region (fun N9 hN => ?_)
          refine lx (op_move rfl) rfl ?_
          refine lx (op_add rfl rfl (by omega)) rfl ?_
          refine lx (op_assign rfl) rfl ?_
          refine lx_end ⟨by kernel_rfl, ?_⟩
          refine pe_round (⟨(k + 1, o, sent, rcd, cl, ws, i, j), by dsimp only; omega, by dsimp only; rw [← fold_step (by omega) hk2]; simp [stepF, hws]⟩) (by dsimp only; omega) (pe_st hC ?_ ?_ rfl)
          · try dsimp only [List.cons_append, List.nil_append]
            first | refine SubF.cons rfl ?_ | (refine SubF.ent rfl ?_ ?_; · repeat (first | exact Ents.nil | refine Ents.cons ?_ ?_ | refine Ent.tup ?_ | refine Ent.agg ?_ | exact Ent.row _ _ _ _ | exact Ent.nil _ _ | exact Ent.func _ | exact Ent.refl _ | exact Ent.of_eq rfl | refine Ent.cells ?_))
            first | refine SubF.cons rfl ?_ | (refine SubF.ent rfl ?_ ?_; · repeat (first | exact Ents.nil | refine Ents.cons ?_ ?_ | refine Ent.tup ?_ | refine Ent.agg ?_ | exact Ent.row _ _ _ _ | exact Ent.nil _ _ | exact Ent.func _ | exact Ent.refl _ | exact Ent.of_eq rfl | refine Ent.cells ?_))
            first | refine SubF.cons rfl ?_ | (refine SubF.ent rfl ?_ ?_; · repeat (first | exact Ents.nil | refine Ents.cons ?_ ?_ | refine Ent.tup ?_ | refine Ent.agg ?_ | exact Ent.row _ _ _ _ | exact Ent.nil _ _ | exact Ent.func _ | exact Ent.refl _ | exact Ent.of_eq rfl | refine Ent.cells ?_))
            first | refine SubF.cons rfl ?_ | (refine SubF.ent rfl ?_ ?_; · repeat (first | exact Ents.nil | refine Ents.cons ?_ ?_ | refine Ent.tup ?_ | refine Ent.agg ?_ | exact Ent.row _ _ _ _ | exact Ent.nil _ _ | exact Ent.func _ | exact Ent.refl _ | exact Ent.of_eq rfl | refine Ent.cells ?_))
            first | refine SubF.cons rfl ?_ | (refine SubF.ent rfl ?_ ?_; · repeat (first | exact Ents.nil | refine Ents.cons ?_ ?_ | refine Ent.tup ?_ | refine Ent.agg ?_ | exact Ent.row _ _ _ _ | exact Ent.nil _ _ | exact Ent.func _ | exact Ent.refl _ | exact Ent.of_eq rfl | refine Ent.cells ?_))
            first | refine SubF.cons rfl ?_ | (refine SubF.ent rfl ?_ ?_; · repeat (first | exact Ents.nil | refine Ents.cons ?_ ?_ | refine Ent.tup ?_ | refine Ent.agg ?_ | exact Ent.row _ _ _ _ | exact Ent.nil _ _ | exact Ent.func _ | exact Ent.refl _ | exact Ent.of_eq rfl | refine Ent.cells ?_))
            first | refine SubF.cons rfl ?_ | (refine SubF.ent rfl ?_ ?_; · repeat (first | exact Ents.nil | refine Ents.cons ?_ ?_ | refine Ent.tup ?_ | refine Ent.agg ?_ | exact Ent.row _ _ _ _ | exact Ent.nil _ _ | exact Ent.func _ | exact Ent.refl _ | exact Ent.of_eq rfl | refine Ent.cells ?_))
            first | refine SubF.cons rfl ?_ | (refine SubF.ent rfl ?_ ?_; · repeat (first | exact Ents.nil | refine Ents.cons ?_ ?_ | refine Ent.tup ?_ | refine Ent.agg ?_ | exact Ent.row _ _ _ _ | exact Ent.nil _ _ | exact Ent.func _ | exact Ent.refl _ | exact Ent.of_eq rfl | refine Ent.cells ?_))
            exact SubF.nil
          · try dsimp only [List.cons_append, List.nil_append]
            repeat (first | exact SubL.nil | refine SubL.cons rfl ?_)
        · (try simp only [Bool.and_eq_true, Bool.or_eq_true, Bool.and_eq_false_iff, Bool.or_eq_false_iff, decide_eq_true_eq, decide_eq_false_iff_not, Bool.not_eq_true', Bool.not_eq_false', List.length_map, ne_eq, Decidable.not_not, Int.not_lt, Int.not_le] at h39)
          have hws : ws[(gI l[k]).toNat]? = some false := by rw [List.getElem?_eq_getElem (by omega), h39]
          have hnw : ¬ ws[(gI l[k]).toNat]?.getD false = true := by rw [hws]; simp
          have hsm := hp.small (by omega)
          have hcap : 0 ≤ o.cap := by have := hp.cp; simp only at this; omega
          have hque := hp.vd.h1.2.2.2.2.1
          have hsf := snd_facts (a := l[k]) hp
          have hrf := rcv_facts (a := l[k]) hp
          have hcf := cls_facts hp
          simp only at hsf hrf hcf hque hsm
          refine tr_skip ?_
          refine pe_then_normal ?_
          refine tr_sub hC (.cons (t := 0) rfl (.cons (t := 1) rfl (.cons (t := 7) rfl (.cons (t := 9) rfl (.cons (t := 10) rfl (.cons (t := 11) rfl (.cons (t := 12) rfl (.cons (t := 13) rfl (.cons (t := 14) rfl .nil))))))))) (.cons (t := 7) rfl (.cons (t := 12) rfl (.cons (t := 600) rfl (.cons (t := 601) rfl .nil)))) rfl ?_
          refine tr_seq ?_
          refine tr_region (fun N12 hN => ?_)
          refine lx (op_move rfl) rfl ?_
          refine lx (op_build (qs := [_, _, _, _, _]) (parts := [(0, (Go.Operand.tmp 40)), (1, (Go.Operand.const (Go.Value.int Go.IntKind.i64 (-1))))]) ze33 rfl rfl fs33 (.cons rfl (.one (by (first | exact One.eq rfl | exact One.mv _ _ _ _ _ | exact One.cl _ _ _ | exact One.map _ | exact One.sl _ _ _ | exact One.row _ _ _ _ | exact One.msl _ _ _ _ | exact One.ptr _ _ | exact One.b _ | exact One.cells _))) fl33_0 sz3 rfl (.cons rfl (.one (by (first | exact One.eq rfl | exact One.mv _ _ _ _ _ | exact One.cl _ _ _ | exact One.map _ | exact One.sl _ _ _ | exact One.row _ _ _ _ | exact One.msl _ _ _ _ | exact One.ptr _ _ | exact One.b _ | exact One.cells _))) fl33_1 sz3 rfl .nil)) rfl rfl) rfl ?_
          refine lxn (op_alloc (m := 15) (k := 15) (ps := [eqP (.int .i64 0), eqP (.int .i64 0), eqP (.int .i64 0), eqP (.int .i64 0), eqP (.int .i64 0)]) ze33 rfl rfl (by first | exact hC.low _ (by decide) | rfl)) rfl ?_
          refine lxr (op_store_all (m := 15) rfl rfl rfl (.agg rfl) sz33 rfl) rfl ?_
          refine lx_end ⟨by kernel_rfl, ?_⟩
          refine pe_then_normal ?_
          refine tr_sub hC (.cons (t := 0) rfl (.cons (t := 1) rfl (.cons (t := 7) rfl (.cons (t := 9) rfl (.cons (t := 10) rfl (.cons (t := 11) rfl (.cons (t := 12) rfl (.cons (t := 13) rfl (.cons (t := 14) rfl (.cons (t := 15) rfl .nil)))))))))) (.cons (t := 7) rfl (.cons (t := 12) rfl (.cons (t := 600) rfl (.cons (t := 601) rfl (.cons (t := 15) rfl .nil))))) rfl ?_
          refine tr_seq ?_
          refine tr_region (fun N13 hN => ?_)
          refine lxn (op_alloc (m := 16) (k := 16) (ps := [eqP (.int .i64 0), eqP (.int .i64 0), eqP (.int .i64 0), eqP (.int .i64 0), eqP (.bool false), eqP (.int .i64 0), eqP (.bool false), eqP (.int .i64 0), eqP (.int .i64 0), eqP (.int .i64 0), eqP (.int .i64 0), eqP (.int .i64 0), eqP (.int .i64 0), eqP (.slice none 0 0), eqP (.slice none 0 0)]) ze35 rfl rfl (by first | exact hC.low _ (by decide) | rfl)) rfl ?_
          refine lx_end ⟨by kernel_rfl, ?_⟩
          refine pe_then_normal ?_
          refine tr_sub hC (.cons (t := 0) rfl (.cons (t := 1) rfl (.cons (t := 7) rfl (.cons (t := 9) rfl (.cons (t := 10) rfl (.cons (t := 11) rfl (.cons (t := 12) rfl (.cons (t := 13) rfl (.cons (t := 14) rfl (.cons (t := 15) rfl (.cons (t := 16) rfl .nil))))))))))) (.cons (t := 7) rfl (.cons (t := 12) rfl (.cons (t := 600) rfl (.cons (t := 601) rfl (.cons (t := 15) rfl (.cons (t := 16) rfl .nil)))))) rfl ?_
          refine tr_seq ?_
          refine tr_seq ?_
          refine tr_region (fun N14 hN => ?_)
          refine lx (op_move rfl) rfl ?_
          refine lx (op_move rfl) rfl ?_
          refine lx (op_index rfl rfl el47 sz70 rfl (List.getElem?_eq_getElem (by omega : k < l.length))) rfl ?_
          first | refine lx (op_fieldAddr rfl fl70_0 sz5) rfl ?_ | refine lx (op_fieldCells rfl fl70_0 sz5) rfl ?_
          first | refine lx (op_load_one rfl ag5 rfl) rfl ?_ | refine lx (op_bload_one (m := 7) rfl rfl ag5 rfl) rfl ?_ | refine lx (op_bload_one (m := 12) rfl rfl ag5 rfl) rfl ?_ | refine lx (op_bload_one (m := 600) rfl rfl ag5 rfl) rfl ?_ | refine lx (op_bload_one (m := 601) rfl rfl ag5 rfl) rfl ?_ | refine lx (op_bload_one (m := 15) rfl rfl ag5 rfl) rfl ?_ | refine lx (op_bload_one (m := 16) rfl rfl ag5 rfl) rfl ?_
          refine lx (op_rem rfl rfl rfl) rfl ?_
          refine lx_end ⟨by kernel_rfl, ?_⟩
          refine pe_then_normal ?_
          refine tr_sub hC (.cons (t := 0) rfl (.cons (t := 1) rfl (.cons (t := 7) rfl (.cons (t := 9) rfl (.cons (t := 10) rfl (.cons (t := 11) rfl (.cons (t := 12) rfl (.cons (t := 13) rfl (.cons (t := 14) rfl (.cons (t := 15) rfl (.cons (t := 16) rfl (.cons (t := 47) rfl .nil)))))))))))) (.cons (t := 7) rfl (.cons (t := 12) rfl (.cons (t := 600) rfl (.cons (t := 601) rfl (.cons (t := 15) rfl (.cons (t := 16) rfl .nil)))))) rfl ?_
          refine tr_block ?_
          refine tr_seq ?_
          refine tr_region (fun N20 hN => ?_)
          refine lx (op_eql rfl rfl) rfl ?_
          refine lx (op_assign rfl) rfl ?_
          refine lx_end ⟨by kernel_rfl, ?_⟩
          refine pe_then_normal ?_
          refine tr_sub hC (.cons (t := 0) rfl (.cons (t := 1) rfl (.cons (t := 7) rfl (.cons (t := 9) rfl (.cons (t := 10) rfl (.cons (t := 11) rfl (.cons (t := 12) rfl (.cons (t := 13) rfl (.cons (t := 14) rfl (.cons (t := 15) rfl (.cons (t := 16) rfl (.cons (t := 47) rfl (.cons (t := 59) rfl .nil))))))))))))) (.cons (t := 7) rfl (.cons (t := 12) rfl (.cons (t := 600) rfl (.cons (t := 601) rfl (.cons (t := 15) rfl (.cons (t := 16) rfl .nil)))))) rfl ?_
          refine tr_cond rfl (fun h59 => ?_) (fun h59 => ?_)
          · (try simp only [Bool.and_eq_true, Bool.or_eq_true, Bool.and_eq_false_iff, Bool.or_eq_false_iff, decide_eq_true_eq, decide_eq_false_iff_not, Bool.not_eq_true', Bool.not_eq_false', List.length_map, ne_eq, Decidable.not_not, Int.not_lt, Int.not_le] at h59)
            refine tr_seq ?_
            refine tr_region (fun N21 hN => ?_)
            refine lx (op_move rfl) rfl ?_
            refine lx (op_move rfl) rfl ?_
            refine lx (op_index rfl rfl el47 sz70 rfl (List.getElem?_eq_getElem (by omega : k < l.length))) rfl ?_
            first | refine lx (op_fieldAddr rfl fl70_2 sz3) rfl ?_ | refine lx (op_fieldCells rfl fl70_2 sz3) rfl ?_
            first | refine lx (op_load_one rfl ag3 rfl) rfl ?_ | refine lx (op_bload_one (m := 7) rfl rfl ag3 rfl) rfl ?_ | refine lx (op_bload_one (m := 12) rfl rfl ag3 rfl) rfl ?_ | refine lx (op_bload_one (m := 600) rfl rfl ag3 rfl) rfl ?_ | refine lx (op_bload_one (m := 601) rfl rfl ag3 rfl) rfl ?_ | refine lx (op_bload_one (m := 15) rfl rfl ag3 rfl) rfl ?_ | refine lx (op_bload_one (m := 16) rfl rfl ag3 rfl) rfl ?_
            refine lx (op_build (qs := [_, _, _]) (parts := [(1, (Go.Operand.tmp 65))]) ze23 rfl rfl fs23 (.cons rfl (.one (by (first | exact One.eq rfl | exact One.mv _ _ _ _ _ | exact One.cl _ _ _ | exact One.map _ | exact One.sl _ _ _ | exact One.row _ _ _ _ | exact One.msl _ _ _ _ | exact One.ptr _ _ | exact One.b _ | exact One.cells _))) fl23_1 sz3 rfl .nil) rfl rfl) rfl ?_
            refine lx (op_fieldAddr rfl fl33_2 sz23) rfl ?_
            refine lxr (op_store (m := 15) (rs := [_, _, _, _, _]) rfl rfl rfl (.agg rfl) sz23 rfl rfl rfl) rfl ?_
            refine lx_end ⟨by kernel_rfl, ?_⟩
            refine pe_then_normal ?_
            refine tr_sub hC (.cons (t := 0) rfl (.cons (t := 1) rfl (.cons (t := 7) rfl (.cons (t := 9) rfl (.cons (t := 10) rfl (.cons (t := 11) rfl (.cons (t := 12) rfl (.cons (t := 13) rfl (.cons (t := 14) rfl (.cons (t := 15) rfl (.cons (t := 16) rfl .nil))))))))))) (.cons (t := 7) rfl (.cons (t := 12) rfl (.cons (t := 600) rfl (.cons (t := 601) rfl (.cons (t := 15) rfl (.cons (t := 16) rfl .nil)))))) rfl ?_
            refine tr_seq ?_
            refine tr_region (fun N22 hN => ?_)
            refine lx (op_bload (m := 7) rfl rfl ag28 sz28) rfl ?_
            refine lx (op_bload (m := 15) rfl rfl ag33 sz33) rfl ?_
            first | refine lx (op_call (l := [(Go.Operand.tmp 69), (Go.Operand.tmp 70)]) (Send_f o (sW l[k]) hsm) (.cons rfl (.cons rfl .nil)) fn13) rfl ?_ | refine lx (op_call (l := [(Go.Operand.tmp 69), (Go.Operand.tmp 70)]) (Send_f o (sW l[k]) hsm) (.ent rfl (by repeat (first | exact Ents.nil | refine Ents.cons ?_ ?_ | refine Ent.tup ?_ | refine Ent.agg ?_ | exact Ent.row _ _ _ _ | exact Ent.nil _ _ | exact Ent.func _ | exact Ent.refl _ | exact Ent.of_eq rfl | refine Ent.cells ?_)) (.ent rfl (by repeat (first | exact Ents.nil | refine Ents.cons ?_ ?_ | refine Ent.tup ?_ | refine Ent.agg ?_ | exact Ent.row _ _ _ _ | exact Ent.nil _ _ | exact Ent.func _ | exact Ent.refl _ | exact Ent.of_eq rfl | refine Ent.cells ?_)) .nil)) fn13) rfl ?_
            refine lx (op_move rfl) rfl ?_
            refine lx (op_extract rfl rfl) rfl ?_
            refine lx (op_extract rfl rfl) rfl ?_
            refine lxr (op_store_all (m := 7) rfl rfl rfl (.agg rfl) sz28 rfl) rfl ?_
            refine lxr (op_store_all (m := 16) rfl rfl rfl (.agg rfl) sz35 rfl) rfl ?_
            refine lx_end ⟨by kernel_rfl, ?_⟩
            refine pe_then_normal ?_
            refine tr_sub hC (.cons (t := 0) rfl (.cons (t := 1) rfl (.cons (t := 7) rfl (.cons (t := 9) rfl (.cons (t := 10) rfl (.cons (t := 11) rfl (.cons (t := 12) rfl (.cons (t := 13) rfl (.cons (t := 14) rfl (.cons (t := 15) rfl (.cons (t := 16) rfl .nil))))))))))) (.cons (t := 7) rfl (.cons (t := 12) rfl (.cons (t := 600) rfl (.cons (t := 601) rfl (.cons (t := 15) rfl (.cons (t := 16) rfl .nil)))))) rfl ?_
            refine tr_seq ?_
            refine tr_seq ?_
            refine tr_region (fun N23 hN => ?_)
            refine lx (op_fieldAddr rfl fl35_0 sz3) rfl ?_
            refine lx (op_bload_one (m := 16) rfl rfl ag3 rfl) rfl ?_
            refine lx (op_eql rfl rfl) rfl ?_
            refine lx_end ⟨by kernel_rfl, ?_⟩
            refine pe_then_normal ?_
            refine tr_sub hC (.cons (t := 0) rfl (.cons (t := 1) rfl (.cons (t := 7) rfl (.cons (t := 9) rfl (.cons (t := 10) rfl (.cons (t := 11) rfl (.cons (t := 12) rfl (.cons (t := 13) rfl (.cons (t := 14) rfl (.cons (t := 15) rfl (.cons (t := 16) rfl (.cons (t := 76) rfl .nil)))))))))))) (.cons (t := 7) rfl (.cons (t := 12) rfl (.cons (t := 600) rfl (.cons (t := 601) rfl (.cons (t := 15) rfl (.cons (t := 16) rfl .nil)))))) rfl ?_
            refine tr_cond rfl (fun h76 => ?_) (fun h76 => ?_)
            · (try simp only [Bool.and_eq_true, Bool.or_eq_true, Bool.and_eq_false_iff, Bool.or_eq_false_iff, decide_eq_true_eq, decide_eq_false_iff_not, Bool.not_eq_true', Bool.not_eq_false', List.length_map, ne_eq, Decidable.not_not, Int.not_lt, Int.not_le] at h76)
              refine tr_seq ?_
              refine tr_seq ?_
              refine tr_region (fun N24 hN => ?_)
              refine lx (op_fieldAddr rfl fl35_3 sz3) rfl ?_
              refine lx (op_bload_one (m := 16) rfl rfl ag3 rfl) rfl ?_
              refine lx (op_move rfl) rfl ?_
              first | refine lx (op_len rfl el48) rfl ?_ | refine lx (op_len_row rfl el48) rfl ?_ | refine lx (op_len_mv rfl el48) rfl ?_ | refine lx (op_len_nil rfl el48) rfl ?_
              refine lx (op_neq rfl rfl) rfl ?_
              refine lx (op_move rfl) rfl ?_
              refine lxs rfl rfl rfl guard_eq (.cons (t := 16) rfl (fun _ => Ent.refl _) .nil) (op_fieldAddr rfl fl35_1 sz23) rfl ?_
              refine lxs rfl rfl rfl guard_eq (.cons (t := 83) rfl (fun h => entW h) .nil) (op_bload_part (m := 16) (qs := [_, _, _]) rfl rfl ag23 sz23 rfl rfl) rfl ?_
              refine lxs rfl rfl rfl guard_eq (.cons (t := 15) rfl (fun _ => Ent.refl _) .nil) (op_fieldAddr rfl fl33_2 sz23) rfl ?_
              refine lxs rfl rfl rfl guard_eq (.cons (t := 85) rfl (fun h => entW h) .nil) (op_bload_part (m := 15) (qs := [_, _, _]) rfl rfl ag23 sz23 rfl rfl) rfl ?_
              refine lxs rfl rfl rfl guard_eq (.cons (t := 84) rfl (fun h => entW h) (.cons (t := 86) rfl (fun h => entW h) .nil)) (op_neq_agg rfl rfl (eqV (sendF o (sW l[k])).2.value ⟨0, l[k].v, 0⟩)) rfl ?_
              refine lx (op_pick_or rfl rfl) rfl ?_
              refine lx_end ⟨by kernel_rfl, ?_⟩
              refine pe_then_normal ?_
              refine tr_sub hC (.cons (t := 0) rfl (.cons (t := 1) rfl (.cons (t := 7) rfl (.cons (t := 9) rfl (.cons (t := 10) rfl (.cons (t := 11) rfl (.cons (t := 12) rfl (.cons (t := 13) rfl (.cons (t := 14) rfl (.cons (t := 16) rfl (.cons (t := 88) rfl .nil))))))))))) (.cons (t := 7) rfl (.cons (t := 12) rfl (.cons (t := 600) rfl (.cons (t := 601) rfl (.cons (t := 16) rfl .nil))))) rfl ?_
              refine tr_cond rfl (fun h88 => ?_) (fun h88 => ?_)
              · obtain ⟨e1, e2⟩ := hsf.1 h76
                simp [e1, e2] at h88
              · (try simp only [Bool.and_eq_true, Bool.or_eq_true, Bool.and_eq_false_iff, Bool.or_eq_false_iff, decide_eq_true_eq, decide_eq_false_iff_not, Bool.not_eq_true', Bool.not_eq_false', List.length_map, ne_eq, Decidable.not_not, Int.not_lt, Int.not_le] at h88)
                refine tr_skip ?_
                refine pe_then_normal ?_
                refine tr_sub hC (.cons (t := 0) rfl (.cons (t := 1) rfl (.cons (t := 7) rfl (.cons (t := 9) rfl (.cons (t := 10) rfl (.cons (t := 11) rfl (.cons (t := 12) rfl (.cons (t := 13) rfl (.cons (t := 14) rfl (.cons (t := 16) rfl .nil)))))))))) (.cons (t := 7) rfl (.cons (t := 12) rfl (.cons (t := 600) rfl (.cons (t := 601) rfl (.cons (t := 16) rfl .nil))))) rfl ?_
                refine tr_seq ?_
                refine tr_region (fun N26 hN => ?_)
                refine lx (op_move rfl) rfl ?_
                refine lx (op_move rfl) rfl ?_
                refine lx (op_move rfl) rfl ?_
                refine lx (op_index rfl rfl el47 sz70 rfl (List.getElem?_eq_getElem (by omega : k < l.length))) rfl ?_
                first | refine lx (op_fieldAddr rfl fl70_2 sz3) rfl ?_ | refine lx (op_fieldCells rfl fl70_2 sz3) rfl ?_
                first | refine lx (op_load_one rfl ag3 rfl) rfl ?_ | refine lx (op_bload_one (m := 7) rfl rfl ag3 rfl) rfl ?_ | refine lx (op_bload_one (m := 12) rfl rfl ag3 rfl) rfl ?_ | refine lx (op_bload_one (m := 600) rfl rfl ag3 rfl) rfl ?_ | refine lx (op_bload_one (m := 601) rfl rfl ag3 rfl) rfl ?_ | refine lx (op_bload_one (m := 16) rfl rfl ag3 rfl) rfl ?_
                refine lx (op_buildSlice (f := ip) (xs := [l[k].v]) (l := [(0, (Go.Operand.tmp 94))]) ze3 rfl rfl (by decide) el48 sz3 ip_len (.cons rfl (.one (by (first | exact One.eq rfl | exact One.mv _ _ _ _ _ | exact One.cl _ _ _ | exact One.map _ | exact One.sl _ _ _ | exact One.row _ _ _ _ | exact One.msl _ _ _ _ | exact One.ptr _ _ | exact One.b _ | exact One.cells _))) .nil) rfl (by decide)) rfl ?_
                refine lxr (op_append (m := 600) (m' := 600) (kk := 96) rfl rfl rfl (.inl rfl) el48 ze3 sz3 by3 rfl ip_len (by rw [List.length_singleton]; omega) (by rw [List.length_singleton]; omega)) rfl ?_
                refine lx (op_assign rfl) rfl ?_
                refine lx_end ⟨by kernel_rfl, ?_⟩
                refine pe_then_normal ?_
                refine tr_sub hC (.cons (t := 0) rfl (.cons (t := 1) rfl (.cons (t := 7) rfl (.cons (t := 9) rfl (.cons (t := 10) rfl (.cons (t := 11) rfl (.cons (t := 12) rfl (.cons (t := 13) rfl (.cons (t := 14) rfl (.cons (t := 16) rfl .nil)))))))))) (.cons (t := 7) rfl (.cons (t := 12) rfl (.cons (t := 601) rfl (.cons (t := 16) rfl (.cons (t := 600) rfl .nil))))) rfl ?_
                refine tr_seq ?_
                refine tr_region (fun N27 hN => ?_)
                refine lx (op_fieldAddr rfl fl35_4 sz4) rfl ?_
                refine lx (op_bload_one (m := 16) rfl rfl ag4 rfl) rfl ?_
                refine lx_end ⟨by kernel_rfl, ?_⟩
                refine pe_then_normal ?_
                refine tr_sub hC (.cons (t := 0) rfl (.cons (t := 1) rfl (.cons (t := 7) rfl (.cons (t := 9) rfl (.cons (t := 10) rfl (.cons (t := 11) rfl (.cons (t := 12) rfl (.cons (t := 13) rfl (.cons (t := 14) rfl (.cons (t := 16) rfl (.cons (t := 98) rfl .nil))))))))))) (.cons (t := 7) rfl (.cons (t := 12) rfl (.cons (t := 601) rfl (.cons (t := 16) rfl (.cons (t := 600) rfl .nil))))) rfl ?_
                refine tr_cond rfl (fun h98 => ?_) (fun h98 => ?_)
                · (try simp only [Bool.and_eq_true, Bool.or_eq_true, Bool.and_eq_false_iff, Bool.or_eq_false_iff, decide_eq_true_eq, decide_eq_false_iff_not, Bool.not_eq_true', Bool.not_eq_false', List.length_map, ne_eq, Decidable.not_not, Int.not_lt, Int.not_le] at h98)
                  have hf := hsf.2.1 h76 h98
                  refine tr_seq ?_
                  refine tr_seq ?_
                  refine tr_region (fun N28 hN => ?_)
                  refine lx (op_fieldAddr rfl fl35_6 sz3) rfl ?_
                  refine lx (op_bload_one (m := 16) rfl rfl ag3 rfl) rfl ?_
                  refine lx (op_move rfl) rfl ?_
                  first | refine lx (op_len rfl el48) rfl ?_ | refine lx (op_len_row rfl el48) rfl ?_ | refine lx (op_len_mv rfl el48) rfl ?_ | refine lx (op_len_nil rfl el48) rfl ?_
                  refine lx (op_neq rfl rfl) rfl ?_
                  refine lx (op_move rfl) rfl ?_
                  refine lxs rfl rfl rfl guard_eq (.cons (t := 16) rfl (fun _ => Ent.refl _) .nil) (op_fieldAddr rfl fl35_5 sz33) rfl ?_
                  refine lxs rfl rfl rfl guard_eq (.cons (t := 105) rfl (fun h => entW h) .nil) (op_fieldAddr rfl fl33_0 sz3) rfl ?_
                  refine lxs rfl rfl rfl guard_eq (.cons (t := 106) rfl (fun h => entW h) .nil) (op_bload_one (m := 16) rfl rfl ag3 rfl) rfl ?_
                  refine lxs rfl rfl rfl guard_eq (.cons (t := 107) rfl (fun h => entW h) .nil) (op_lss rfl rfl) rfl ?_
                  refine lx (op_pick_or rfl rfl) rfl ?_
                  refine lx (op_move rfl) rfl ?_
                  refine lxs rfl rfl rfl guard_eq (.cons (t := 16) rfl (fun _ => Ent.refl _) .nil) (op_fieldAddr rfl fl35_5 sz33) rfl ?_
                  refine lxs rfl rfl rfl guard_eq (.cons (t := 111) rfl (fun h => entW h) .nil) (op_fieldAddr rfl fl33_0 sz3) rfl ?_
                  refine lxs rfl rfl rfl guard_eq (.cons (t := 112) rfl (fun h => entW h) .nil) (op_bload_one (m := 16) rfl rfl ag3 rfl) rfl ?_
                  refine lxs rfl rfl rfl guard_eq (.cons (t := 113) rfl (fun h => entW h) .nil) (op_geq rfl rfl) rfl ?_
                  refine lx (op_pick_or rfl rfl) rfl ?_
                  refine lx (op_move rfl) rfl ?_
                  refine lxs rfl rfl rfl guard_eq (.cons (t := 16) rfl (fun _ => Ent.refl _) .nil) (op_fieldAddr rfl fl35_5 sz33) rfl ?_
                  refine lxs rfl rfl rfl guard_eq (.cons (t := 117) rfl (fun h => entW h) .nil) (op_fieldAddr rfl fl33_0 sz3) rfl ?_
                  refine lxs rfl rfl rfl guard_eq (.cons (t := 118) rfl (fun h => entW h) .nil) (op_bload_one (m := 16) rfl rfl ag3 rfl) rfl ?_
                  refine lxs rfl rfl rfl guard_eq (.cons (t := 12) rfl (fun _ => Ent.refl _) (.cons (t := 119) rfl (fun h => entW h) .nil)) (op_aindex rfl rfl ar68 sz4 (by omega : (sendF o (sW l[k])).2.partner.g = (((sendF o (sW l[k])).2.partner.g.toNat : Nat) : Int)) (by omega)) rfl ?_
                  refine lxs rfl rfl rfl guard_eq (.cons (t := 120) rfl (fun h => entW h) .nil) (op_tload_one (m := 12) (j := (sendF o (sW l[k])).2.partner.g.toNat) (fo := 0) rfl rfl ag4 bp_len (by omega) hf.2.2 rfl) rfl ?_
                  first | refine lxs rfl rfl rfl guard_eq (.cons (t := 121) rfl (fun h => entW h) .nil) (op_not rfl) rfl ?_ | refine lxs rfl rfl rfl guard_eq (.cons (t := 121) rfl (fun h => entW h) .nil) (op_not_b rfl) rfl ?_
                  refine lx (op_pick_or rfl rfl) rfl ?_
                  refine lx_end ⟨by kernel_rfl, ?_⟩
                  refine pe_then_normal ?_
                  refine tr_sub hC (.cons (t := 0) rfl (.cons (t := 1) rfl (.cons (t := 7) rfl (.cons (t := 9) rfl (.cons (t := 10) rfl (.cons (t := 11) rfl (.cons (t := 12) rfl (.cons (t := 13) rfl (.cons (t := 14) rfl (.cons (t := 16) rfl (.cons (t := 123) rfl .nil))))))))))) (.cons (t := 7) rfl (.cons (t := 12) rfl (.cons (t := 601) rfl (.cons (t := 16) rfl (.cons (t := 600) rfl .nil))))) rfl ?_
                  refine tr_cond rfl (fun h123 => ?_) (fun h123 => ?_)
                  · obtain ⟨e1, ⟨e2, e3⟩, e4⟩ := hf
                    simp [e1] at h123
                    omega
                  · (try simp only [Bool.and_eq_true, Bool.or_eq_true, Bool.and_eq_false_iff, Bool.or_eq_false_iff, decide_eq_true_eq, decide_eq_false_iff_not, Bool.not_eq_true', Bool.not_eq_false', List.length_map, ne_eq, Decidable.not_not, Int.not_lt, Int.not_le] at h123)
                    refine tr_skip ?_
                    refine pe_then_normal ?_
                    refine tr_sub hC (.cons (t := 0) rfl (.cons (t := 1) rfl (.cons (t := 7) rfl (.cons (t := 9) rfl (.cons (t := 10) rfl (.cons (t := 11) rfl (.cons (t := 12) rfl (.cons (t := 13) rfl (.cons (t := 14) rfl (.cons (t := 16) rfl .nil)))))))))) (.cons (t := 7) rfl (.cons (t := 12) rfl (.cons (t := 601) rfl (.cons (t := 16) rfl (.cons (t := 600) rfl .nil))))) rfl ?_
                    refine tr_seq ?_
                    refine tr_region (fun N30 hN => ?_)
                    refine lx (op_move rfl) rfl ?_
                    refine lx (op_move rfl) rfl ?_
                    refine lx (op_move rfl) rfl ?_
                    refine lx (op_index rfl rfl el47 sz70 rfl (List.getElem?_eq_getElem (by omega : k < l.length))) rfl ?_
                    first | refine lx (op_fieldAddr rfl fl70_2 sz3) rfl ?_ | refine lx (op_fieldCells rfl fl70_2 sz3) rfl ?_
                    first | refine lx (op_load_one rfl ag3 rfl) rfl ?_ | refine lx (op_bload_one (m := 7) rfl rfl ag3 rfl) rfl ?_ | refine lx (op_bload_one (m := 12) rfl rfl ag3 rfl) rfl ?_ | refine lx (op_bload_one (m := 601) rfl rfl ag3 rfl) rfl ?_ | refine lx (op_bload_one (m := 16) rfl rfl ag3 rfl) rfl ?_ | refine lx (op_bload_one (m := 600) rfl rfl ag3 rfl) rfl ?_
                    refine lx (op_buildSlice (f := ip) (xs := [l[k].v]) (l := [(0, (Go.Operand.tmp 129))]) ze3 rfl rfl (by decide) el48 sz3 ip_len (.cons rfl (.one (by (first | exact One.eq rfl | exact One.mv _ _ _ _ _ | exact One.cl _ _ _ | exact One.map _ | exact One.sl _ _ _ | exact One.row _ _ _ _ | exact One.msl _ _ _ _ | exact One.ptr _ _ | exact One.b _ | exact One.cells _))) .nil) rfl (by decide)) rfl ?_
                    refine lxr (op_append (m := 601) (m' := 601) (kk := 131) rfl rfl rfl (.inl rfl) el48 ze3 sz3 by3 rfl ip_len (by rw [List.length_singleton]; omega) (by rw [List.length_singleton]; omega)) rfl ?_
                    refine lx (op_assign rfl) rfl ?_
                    refine lx_end ⟨by kernel_rfl, ?_⟩
                    refine pe_then_normal ?_
                    refine tr_sub hC (.cons (t := 0) rfl (.cons (t := 1) rfl (.cons (t := 7) rfl (.cons (t := 9) rfl (.cons (t := 10) rfl (.cons (t := 11) rfl (.cons (t := 12) rfl (.cons (t := 13) rfl (.cons (t := 14) rfl (.cons (t := 16) rfl .nil)))))))))) (.cons (t := 7) rfl (.cons (t := 12) rfl (.cons (t := 16) rfl (.cons (t := 600) rfl (.cons (t := 601) rfl .nil))))) rfl ?_
                    refine tr_region (fun N31 hN => ?_)
                    refine lx (op_fieldAddr rfl fl35_5 sz33) rfl ?_
                    refine lx (op_fieldAddr rfl fl33_0 sz3) rfl ?_
                    refine lx (op_bload_one (m := 16) rfl rfl ag3 rfl) rfl ?_
                    refine lx (op_aindex rfl rfl ar68 sz4 (by omega : (sendF o (sW l[k])).2.partner.g = (((sendF o (sW l[k])).2.partner.g.toNat : Nat) : Int)) (by omega)) rfl ?_
                    refine lxr (op_tstore (m := 12) (j := (sendF o (sW l[k])).2.partner.g.toNat) (fo := 0) (z' := false) rfl rfl rfl (.one (by (first | exact One.eq rfl | exact One.mv _ _ _ _ _ | exact One.cl _ _ _ | exact One.map _ | exact One.sl _ _ _ | exact One.row _ _ _ _ | exact One.msl _ _ _ _ | exact One.ptr _ _ | exact One.b _ | exact One.cells _))) sz4 rfl bp_len (by omega) hf.2.2 rfl rfl) rfl ?_
                    refine lx_end ⟨by kernel_rfl, ?_⟩
                    refine pe_then_normal ?_
                    refine tr_sub hC (.cons (t := 0) rfl (.cons (t := 1) rfl (.cons (t := 7) rfl (.cons (t := 9) rfl (.cons (t := 10) rfl (.cons (t := 11) rfl (.cons (t := 12) rfl (.cons (t := 13) rfl (.cons (t := 14) rfl (.cons (t := 16) rfl .nil)))))))))) (.cons (t := 7) rfl (.cons (t := 12) rfl (.cons (t := 16) rfl (.cons (t := 600) rfl (.cons (t := 601) rfl .nil))))) rfl ?_
                    refine tr_seq ?_
                    refine tr_region (fun N32 hN => ?_)
                    refine lx (op_fieldAddr rfl fl35_0 sz3) rfl ?_
                    refine lx (op_bload_one (m := 16) rfl rfl ag3 rfl) rfl ?_
                    refine lx (op_eql rfl rfl) rfl ?_
                    refine lx (op_move rfl) rfl ?_
                    refine lx (op_neq_bool bo4 rfl rfl) rfl ?_
                    refine lx_end ⟨by kernel_rfl, ?_⟩
                    refine pe_then_normal ?_
                    refine tr_sub hC (.cons (t := 0) rfl (.cons (t := 1) rfl (.cons (t := 7) rfl (.cons (t := 9) rfl (.cons (t := 10) rfl (.cons (t := 11) rfl (.cons (t := 12) rfl (.cons (t := 13) rfl (.cons (t := 14) rfl (.cons (t := 16) rfl (.cons (t := 140) rfl .nil))))))))))) (.cons (t := 7) rfl (.cons (t := 12) rfl (.cons (t := 16) rfl (.cons (t := 600) rfl (.cons (t := 601) rfl .nil))))) rfl ?_
                    refine tr_cond rfl (fun h140 => ?_) (fun h140 => ?_)
                    · simp [← hsf.2.2] at h140
                    · (try simp only [Bool.and_eq_true, Bool.or_eq_true, Bool.and_eq_false_iff, Bool.or_eq_false_iff, decide_eq_true_eq, decide_eq_false_iff_not, Bool.not_eq_true', Bool.not_eq_false', List.length_map, ne_eq, Decidable.not_not, Int.not_lt, Int.not_le] at h140)
                      refine tr_skip ?_
                      refine pe_block_normal ?_
                      refine pe_then_normal ?_
                      refine tr_sub hC (.cons (t := 0) rfl (.cons (t := 1) rfl (.cons (t := 7) rfl (.cons (t := 9) rfl (.cons (t := 10) rfl (.cons (t := 11) rfl (.cons (t := 12) rfl (.cons (t := 13) rfl (.cons (t := 14) rfl (.cons (t := 16) rfl .nil)))))))))) (.cons (t := 7) rfl (.cons (t := 12) rfl (.cons (t := 16) rfl (.cons (t := 600) rfl (.cons (t := 601) rfl .nil))))) rfl ?_
                      refine tr_seq ?_
                      refine tr_region (fun N45 hN => ?_)
                      refine lx (op_move rfl) rfl ?_
                      refine lx (op_fieldAddr rfl fl35_0 sz3) rfl ?_
                      refine lx (op_bload_one (m := 16) rfl rfl ag3 rfl) rfl ?_
                      refine lx (op_eql rfl rfl) rfl ?_
                      refine lx (op_aindex rfl rfl ar68 sz4 (by omega : gI l[k] = (((gI l[k]).toNat : Nat) : Int)) (by omega)) rfl ?_
                      refine lxr (op_tstore (m := 12) (j := (gI l[k]).toNat) (fo := 0) (z' := (decide ((sendF o (sW l[k])).2.status = 1))) rfl rfl rfl (.one (by (first | exact One.eq rfl | exact One.mv _ _ _ _ _ | exact One.cl _ _ _ | exact One.map _ | exact One.sl _ _ _ | exact One.row _ _ _ _ | exact One.msl _ _ _ _ | exact One.ptr _ _ | exact One.b _ | exact One.cells _))) sz4 rfl bp_len (by omega) (set_false hws _) rfl rfl) rfl ?_
                      refine lx_end ⟨by kernel_rfl, ?_⟩
                      refine pe_then_normal ?_
                      refine tr_sub hC (.cons (t := 0) rfl (.cons (t := 1) rfl (.cons (t := 7) rfl (.cons (t := 9) rfl (.cons (t := 10) rfl (.cons (t := 11) rfl (.cons (t := 12) rfl (.cons (t := 13) rfl .nil)))))))) (.cons (t := 7) rfl (.cons (t := 12) rfl (.cons (t := 600) rfl (.cons (t := 601) rfl .nil)))) rfl ?_
                      refine tr_seq ?_
                      refine tr_region (fun N46 hN => ?_)
                      refine lx (op_fieldAddr rfl fl28_4 sz25) rfl ?_
                      refine lx (op_bload_one (m := 7) rfl rfl ag25 rfl) rfl ?_
                      first | refine lx (op_len rfl el25) rfl ?_ | refine lx (op_len_row rfl el25) rfl ?_ | refine lx (op_len_mv rfl el25) rfl ?_ | refine lx (op_len_nil rfl el25) rfl ?_
                      refine lx (op_move rfl) rfl ?_
                      refine lx (op_gtr rfl rfl) rfl ?_
                      refine lx (op_move rfl) rfl ?_
                      refine lxs rfl rfl rfl guard_eq (.cons (t := 7) rfl (fun _ => Ent.refl _) .nil) (op_fieldAddr rfl fl28_6 sz3) rfl ?_
                      refine lxs rfl rfl rfl guard_eq (.cons (t := 216) rfl (fun h => entW h) .nil) (op_bload_one (m := 7) rfl rfl ag3 rfl) rfl ?_
                      refine lxs rfl rfl rfl guard_eq (.cons (t := 9) rfl (fun _ => Ent.refl _) .nil) (op_move rfl) rfl ?_
                      first | refine lxs rfl rfl rfl guard_eq (.cons (t := 218) rfl (fun h => entW h) .nil) (op_len rfl el48) rfl ?_ | refine lxs rfl rfl rfl guard_eq (.cons (t := 218) rfl (fun h => entW h) .nil) (op_len_row rfl el48) rfl ?_ | refine lxs rfl rfl rfl guard_eq (.cons (t := 218) rfl (fun h => entW h) .nil) (op_len_mv rfl el48) rfl ?_ | refine lxs rfl rfl rfl guard_eq (.cons (t := 218) rfl (fun h => entW h) .nil) (op_len_nil rfl el48) rfl ?_
                      refine lxs rfl rfl rfl guard_eq (.cons (t := 217) rfl (fun h => entW h) (.cons (t := 219) rfl (fun h => entW h) .nil)) (op_neq rfl rfl) rfl ?_
                      refine lx (op_pick_or rfl rfl) rfl ?_
                      refine lx (op_move rfl) rfl ?_
                      refine lxs rfl rfl rfl guard_eq (.cons (t := 7) rfl (fun _ => Ent.refl _) .nil) (op_fieldAddr rfl fl28_7 sz3) rfl ?_
                      refine lxs rfl rfl rfl guard_eq (.cons (t := 223) rfl (fun h => entW h) .nil) (op_bload_one (m := 7) rfl rfl ag3 rfl) rfl ?_
                      refine lxs rfl rfl rfl guard_eq (.cons (t := 10) rfl (fun _ => Ent.refl _) .nil) (op_move rfl) rfl ?_
                      first | refine lxs rfl rfl rfl guard_eq (.cons (t := 225) rfl (fun h => entW h) .nil) (op_len rfl el48) rfl ?_ | refine lxs rfl rfl rfl guard_eq (.cons (t := 225) rfl (fun h => entW h) .nil) (op_len_row rfl el48) rfl ?_ | refine lxs rfl rfl rfl guard_eq (.cons (t := 225) rfl (fun h => entW h) .nil) (op_len_mv rfl el48) rfl ?_ | refine lxs rfl rfl rfl guard_eq (.cons (t := 225) rfl (fun h => entW h) .nil) (op_len_nil rfl el48) rfl ?_
                      refine lxs rfl rfl rfl guard_eq (.cons (t := 224) rfl (fun h => entW h) (.cons (t := 226) rfl (fun h => entW h) .nil)) (op_neq rfl rfl) rfl ?_
                      refine lx (op_pick_or rfl rfl) rfl ?_
                      refine lx (op_move rfl) rfl ?_
                      refine lxs rfl rfl rfl guard_eq (.cons (t := 7) rfl (fun _ => Ent.refl _) .nil) (op_fieldAddr rfl fl28_4 sz25) rfl ?_
                      refine lxs rfl rfl rfl guard_eq (.cons (t := 230) rfl (fun h => entW h) .nil) (op_bload_one (m := 7) rfl rfl ag25 rfl) rfl ?_
                      first | refine lxs rfl rfl rfl guard_eq (.cons (t := 231) rfl (fun h => entW h) .nil) (op_len rfl el25) rfl ?_ | refine lxs rfl rfl rfl guard_eq (.cons (t := 231) rfl (fun h => entW h) .nil) (op_len_row rfl el25) rfl ?_ | refine lxs rfl rfl rfl guard_eq (.cons (t := 231) rfl (fun h => entW h) .nil) (op_len_mv rfl el25) rfl ?_ | refine lxs rfl rfl rfl guard_eq (.cons (t := 231) rfl (fun h => entW h) .nil) (op_len_nil rfl el25) rfl ?_
                      refine lxs rfl rfl rfl guard_eq (.cons (t := 9) rfl (fun _ => Ent.refl _) .nil) (op_move rfl) rfl ?_
                      first | refine lxs rfl rfl rfl guard_eq (.cons (t := 233) rfl (fun h => entW h) .nil) (op_len rfl el48) rfl ?_ | refine lxs rfl rfl rfl guard_eq (.cons (t := 233) rfl (fun h => entW h) .nil) (op_len_row rfl el48) rfl ?_ | refine lxs rfl rfl rfl guard_eq (.cons (t := 233) rfl (fun h => entW h) .nil) (op_len_mv rfl el48) rfl ?_ | refine lxs rfl rfl rfl guard_eq (.cons (t := 233) rfl (fun h => entW h) .nil) (op_len_nil rfl el48) rfl ?_
                      refine lxs rfl rfl rfl guard_eq (.cons (t := 10) rfl (fun _ => Ent.refl _) .nil) (op_move rfl) rfl ?_
                      first | refine lxs rfl rfl rfl guard_eq (.cons (t := 235) rfl (fun h => entW h) .nil) (op_len rfl el48) rfl ?_ | refine lxs rfl rfl rfl guard_eq (.cons (t := 235) rfl (fun h => entW h) .nil) (op_len_row rfl el48) rfl ?_ | refine lxs rfl rfl rfl guard_eq (.cons (t := 235) rfl (fun h => entW h) .nil) (op_len_mv rfl el48) rfl ?_ | refine lxs rfl rfl rfl guard_eq (.cons (t := 235) rfl (fun h => entW h) .nil) (op_len_nil rfl el48) rfl ?_
                      refine lxs rfl rfl rfl guard_eq (.cons (t := 234) rfl (fun h => entW h) (.cons (t := 236) rfl (fun h => entW h) .nil)) (op_sub rfl rfl (by first | omega | (simp only [List.length_append, List.length_singleton]; omega))) rfl ?_
                      refine lxs rfl rfl rfl guard_eq (.cons (t := 232) rfl (fun h => entW h) (.cons (t := 237) rfl (fun h => entW h) .nil)) (op_neq rfl rfl) rfl ?_
                      refine lx (op_pick_or rfl rfl) rfl ?_
                      refine lx_end ⟨by kernel_rfl, ?_⟩
                      refine pe_then_normal ?_
                      refine tr_sub hC (.cons (t := 0) rfl (.cons (t := 1) rfl (.cons (t := 7) rfl (.cons (t := 9) rfl (.cons (t := 10) rfl (.cons (t := 11) rfl (.cons (t := 12) rfl (.cons (t := 13) rfl (.cons (t := 239) rfl .nil))))))))) (.cons (t := 7) rfl (.cons (t := 12) rfl (.cons (t := 600) rfl (.cons (t := 601) rfl .nil)))) rfl ?_
                      refine tr_cond rfl (fun h239 => ?_) (fun h239 => ?_)
                      · first
                        | (have hck := (pl_snd hp (by omega) (hb _ (List.getElem_mem ..)) hnw).checks (by omega); simp [sndF, h76, h98] at hck h239; omega)
                        | (have hck := (pl_snd hp (by omega) (hb _ (List.getElem_mem ..)) hnw).checks (by omega); simp [sndF, h76] at hck h239; omega)
                        | (have hck := (pl_rcv hp (by omega) (hb _ (List.getElem_mem ..)) hnw).checks (by omega); simp [rcvF, h155, h168] at hck h239; omega)
                        | (have hck := (pl_rcv hp (by omega) (hb _ (List.getElem_mem ..)) hnw).checks (by omega); simp [rcvF, hnb] at hck h239; omega)
                        | (have hck := (pl_cls hp (hb l[k] (List.getElem_mem ..))).checks (by omega); simp [clsF] at hck h239; omega)
                      · (try simp only [Bool.and_eq_true, Bool.or_eq_true, Bool.and_eq_false_iff, Bool.or_eq_false_iff, decide_eq_true_eq, decide_eq_false_iff_not, Bool.not_eq_true', Bool.not_eq_false', List.length_map, ne_eq, Decidable.not_not, Int.not_lt, Int.not_le] at h239)
                        refine tr_skip ?_
                        refine pe_block_normal ?_
                        refine pe_then_normal ?_
                        refine tr_sub hC (.cons (t := 0) rfl (.cons (t := 1) rfl (.cons (t := 7) rfl (.cons (t := 9) rfl (.cons (t := 10) rfl (.cons (t := 11) rfl (.cons (t := 12) rfl (.cons (t := 13) rfl .nil)))))))) (.cons (t := 7) rfl (.cons (t := 12) rfl (.cons (t := 600) rfl (.cons (t := 601) rfl .nil)))) rfl ?_
                        refine tr_region (fun N9 hN => ?_)
                        refine lx (op_move rfl) rfl ?_
                        refine lx (op_add rfl rfl (by omega)) rfl ?_
                        refine lx (op_assign rfl) rfl ?_
                        refine lx_end ⟨by kernel_rfl, ?_⟩
                        refine pe_round (⟨(k + 1, (sendF o (sW l[k])).1, sent ++ [l[k].v], rcd ++ [l[k].v], cl, (ws.set (sendF o (sW l[k])).2.partner.g.toNat false).set (gI l[k]).toNat (decide ((sendF o (sW l[k])).2.status = 1)), (N26, 96), (N30, 131)), by dsimp only; omega, by dsimp only; rw [← fold_step (by omega) hk2]; simp [stepF, hws, sndF, h59, h76, h98]⟩) (by dsimp only; omega) (pe_st hC ?_ ?_ rfl)
                        · try dsimp only [List.cons_append, List.nil_append]
                          first | refine SubF.cons rfl ?_ | (refine SubF.ent rfl ?_ ?_; · repeat (first | exact Ents.nil | refine Ents.cons ?_ ?_ | refine Ent.tup ?_ | refine Ent.agg ?_ | exact Ent.row _ _ _ _ | exact Ent.nil _ _ | exact Ent.func _ | exact Ent.refl _ | exact Ent.of_eq rfl | refine Ent.cells ?_))
                          first | refine SubF.cons rfl ?_ | (refine SubF.ent rfl ?_ ?_; · repeat (first | exact Ents.nil | refine Ents.cons ?_ ?_ | refine Ent.tup ?_ | refine Ent.agg ?_ | exact Ent.row _ _ _ _ | exact Ent.nil _ _ | exact Ent.func _ | exact Ent.refl _ | exact Ent.of_eq rfl | refine Ent.cells ?_))
                          first | refine SubF.cons rfl ?_ | (refine SubF.ent rfl ?_ ?_; · repeat (first | exact Ents.nil | refine Ents.cons ?_ ?_ | refine Ent.tup ?_ | refine Ent.agg ?_ | exact Ent.row _ _ _ _ | exact Ent.nil _ _ | exact Ent.func _ | exact Ent.refl _ | exact Ent.of_eq rfl | refine Ent.cells ?_))
                          first | refine SubF.cons rfl ?_ | (refine SubF.ent rfl ?_ ?_; · repeat (first | exact Ents.nil | refine Ents.cons ?_ ?_ | refine Ent.tup ?_ | refine Ent.agg ?_ | exact Ent.row _ _ _ _ | exact Ent.nil _ _ | exact Ent.func _ | exact Ent.refl _ | exact Ent.of_eq rfl | refine Ent.cells ?_))
                          first | refine SubF.cons rfl ?_ | (refine SubF.ent rfl ?_ ?_; · repeat (first | exact Ents.nil | refine Ents.cons ?_ ?_ | refine Ent.tup ?_ | refine Ent.agg ?_ | exact Ent.row _ _ _ _ | exact Ent.nil _ _ | exact Ent.func _ | exact Ent.refl _ | exact Ent.of_eq rfl | refine Ent.cells ?_))
                          first | refine SubF.cons rfl ?_ | (refine SubF.ent rfl ?_ ?_; · repeat (first | exact Ents.nil | refine Ents.cons ?_ ?_ | refine Ent.tup ?_ | refine Ent.agg ?_ | exact Ent.row _ _ _ _ | exact Ent.nil _ _ | exact Ent.func _ | exact Ent.refl _ | exact Ent.of_eq rfl | refine Ent.cells ?_))
                          first | refine SubF.cons rfl ?_ | (refine SubF.ent rfl ?_ ?_; · repeat (first | exact Ents.nil | refine Ents.cons ?_ ?_ | refine Ent.tup ?_ | refine Ent.agg ?_ | exact Ent.row _ _ _ _ | exact Ent.nil _ _ | exact Ent.func _ | exact Ent.refl _ | exact Ent.of_eq rfl | refine Ent.cells ?_))
                          first | refine SubF.cons rfl ?_ | (refine SubF.ent rfl ?_ ?_; · repeat (first | exact Ents.nil | refine Ents.cons ?_ ?_ | refine Ent.tup ?_ | refine Ent.agg ?_ | exact Ent.row _ _ _ _ | exact Ent.nil _ _ | exact Ent.func _ | exact Ent.refl _ | exact Ent.of_eq rfl | refine Ent.cells ?_))
                          exact SubF.nil
                        · try dsimp only [List.cons_append, List.nil_append]
                          repeat (first | exact SubL.nil | refine SubL.cons rfl ?_)
                · (try simp only [Bool.and_eq_true, Bool.or_eq_true, Bool.and_eq_false_iff, Bool.or_eq_false_iff, decide_eq_true_eq, decide_eq_false_iff_not, Bool.not_eq_true', Bool.not_eq_false', List.length_map, ne_eq, Decidable.not_not, Int.not_lt, Int.not_le] at h98)
                  refine tr_skip ?_
                  refine pe_then_normal ?_
                  refine tr_sub hC (.cons (t := 0) rfl (.cons (t := 1) rfl (.cons (t := 7) rfl (.cons (t := 9) rfl (.cons (t := 10) rfl (.cons (t := 11) rfl (.cons (t := 12) rfl (.cons (t := 13) rfl (.cons (t := 14) rfl (.cons (t := 16) rfl .nil)))))))))) (.cons (t := 7) rfl (.cons (t := 12) rfl (.cons (t := 601) rfl (.cons (t := 16) rfl (.cons (t := 600) rfl .nil))))) rfl ?_
                  refine tr_seq ?_
                  refine tr_region (fun N32 hN => ?_)
                  refine lx (op_fieldAddr rfl fl35_0 sz3) rfl ?_
                  refine lx (op_bload_one (m := 16) rfl rfl ag3 rfl) rfl ?_
                  refine lx (op_eql rfl rfl) rfl ?_
                  refine lx (op_move rfl) rfl ?_
                  refine lx (op_neq_bool bo4 rfl rfl) rfl ?_
                  refine lx_end ⟨by kernel_rfl, ?_⟩
                  refine pe_then_normal ?_
                  refine tr_sub hC (.cons (t := 0) rfl (.cons (t := 1) rfl (.cons (t := 7) rfl (.cons (t := 9) rfl (.cons (t := 10) rfl (.cons (t := 11) rfl (.cons (t := 12) rfl (.cons (t := 13) rfl (.cons (t := 14) rfl (.cons (t := 16) rfl (.cons (t := 140) rfl .nil))))))))))) (.cons (t := 7) rfl (.cons (t := 12) rfl (.cons (t := 601) rfl (.cons (t := 16) rfl (.cons (t := 600) rfl .nil))))) rfl ?_
                  refine tr_cond rfl (fun h140 => ?_) (fun h140 => ?_)
                  · simp [← hsf.2.2] at h140
                  · (try simp only [Bool.and_eq_true, Bool.or_eq_true, Bool.and_eq_false_iff, Bool.or_eq_false_iff, decide_eq_true_eq, decide_eq_false_iff_not, Bool.not_eq_true', Bool.not_eq_false', List.length_map, ne_eq, Decidable.not_not, Int.not_lt, Int.not_le] at h140)
                    refine tr_skip ?_
                    refine pe_block_normal ?_
                    refine pe_then_normal ?_
                    refine tr_sub hC (.cons (t := 0) rfl (.cons (t := 1) rfl (.cons (t := 7) rfl (.cons (t := 9) rfl (.cons (t := 10) rfl (.cons (t := 11) rfl (.cons (t := 12) rfl (.cons (t := 13) rfl (.cons (t := 14) rfl (.cons (t := 16) rfl .nil)))))))))) (.cons (t := 7) rfl (.cons (t := 12) rfl (.cons (t := 601) rfl (.cons (t := 16) rfl (.cons (t := 600) rfl .nil))))) rfl ?_
                    refine tr_seq ?_
                    refine tr_region (fun N45 hN => ?_)
                    refine lx (op_move rfl) rfl ?_
                    refine lx (op_fieldAddr rfl fl35_0 sz3) rfl ?_
                    refine lx (op_bload_one (m := 16) rfl rfl ag3 rfl) rfl ?_
                    refine lx (op_eql rfl rfl) rfl ?_
                    refine lx (op_aindex rfl rfl ar68 sz4 (by omega : gI l[k] = (((gI l[k]).toNat : Nat) : Int)) (by omega)) rfl ?_
                    refine lxr (op_tstore (m := 12) (j := (gI l[k]).toNat) (fo := 0) (z' := (decide ((sendF o (sW l[k])).2.status = 1))) rfl rfl rfl (.one (by (first | exact One.eq rfl | exact One.mv _ _ _ _ _ | exact One.cl _ _ _ | exact One.map _ | exact One.sl _ _ _ | exact One.row _ _ _ _ | exact One.msl _ _ _ _ | exact One.ptr _ _ | exact One.b _ | exact One.cells _))) sz4 rfl bp_len (by omega) hws rfl rfl) rfl ?_
                    refine lx_end ⟨by kernel_rfl, ?_⟩
                    refine pe_then_normal ?_
                    refine tr_sub hC (.cons (t := 0) rfl (.cons (t := 1) rfl (.cons (t := 7) rfl (.cons (t := 9) rfl (.cons (t := 10) rfl (.cons (t := 11) rfl (.cons (t := 12) rfl (.cons (t := 13) rfl .nil)))))))) (.cons (t := 7) rfl (.cons (t := 12) rfl (.cons (t := 601) rfl (.cons (t := 600) rfl .nil)))) rfl ?_
                    refine tr_seq ?_
                    refine tr_region (fun N46 hN => ?_)
                    refine lx (op_fieldAddr rfl fl28_4 sz25) rfl ?_
                    refine lx (op_bload_one (m := 7) rfl rfl ag25 rfl) rfl ?_
                    first | refine lx (op_len rfl el25) rfl ?_ | refine lx (op_len_row rfl el25) rfl ?_ | refine lx (op_len_mv rfl el25) rfl ?_ | refine lx (op_len_nil rfl el25) rfl ?_
                    refine lx (op_move rfl) rfl ?_
                    refine lx (op_gtr rfl rfl) rfl ?_
                    refine lx (op_move rfl) rfl ?_
                    refine lxs rfl rfl rfl guard_eq (.cons (t := 7) rfl (fun _ => Ent.refl _) .nil) (op_fieldAddr rfl fl28_6 sz3) rfl ?_
                    refine lxs rfl rfl rfl guard_eq (.cons (t := 216) rfl (fun h => entW h) .nil) (op_bload_one (m := 7) rfl rfl ag3 rfl) rfl ?_
                    refine lxs rfl rfl rfl guard_eq (.cons (t := 9) rfl (fun _ => Ent.refl _) .nil) (op_move rfl) rfl ?_
                    first | refine lxs rfl rfl rfl guard_eq (.cons (t := 218) rfl (fun h => entW h) .nil) (op_len rfl el48) rfl ?_ | refine lxs rfl rfl rfl guard_eq (.cons (t := 218) rfl (fun h => entW h) .nil) (op_len_row rfl el48) rfl ?_ | refine lxs rfl rfl rfl guard_eq (.cons (t := 218) rfl (fun h => entW h) .nil) (op_len_mv rfl el48) rfl ?_ | refine lxs rfl rfl rfl guard_eq (.cons (t := 218) rfl (fun h => entW h) .nil) (op_len_nil rfl el48) rfl ?_
                    refine lxs rfl rfl rfl guard_eq (.cons (t := 217) rfl (fun h => entW h) (.cons (t := 219) rfl (fun h => entW h) .nil)) (op_neq rfl rfl) rfl ?_
                    refine lx (op_pick_or rfl rfl) rfl ?_
                    refine lx (op_move rfl) rfl ?_
                    refine lxs rfl rfl rfl guard_eq (.cons (t := 7) rfl (fun _ => Ent.refl _) .nil) (op_fieldAddr rfl fl28_7 sz3) rfl ?_
                    refine lxs rfl rfl rfl guard_eq (.cons (t := 223) rfl (fun h => entW h) .nil) (op_bload_one (m := 7) rfl rfl ag3 rfl) rfl ?_
                    refine lxs rfl rfl rfl guard_eq (.cons (t := 10) rfl (fun _ => Ent.refl _) .nil) (op_move rfl) rfl ?_
                    first | refine lxs rfl rfl rfl guard_eq (.cons (t := 225) rfl (fun h => entW h) .nil) (op_len rfl el48) rfl ?_ | refine lxs rfl rfl rfl guard_eq (.cons (t := 225) rfl (fun h => entW h) .nil) (op_len_row rfl el48) rfl ?_ | refine lxs rfl rfl rfl guard_eq (.cons (t := 225) rfl (fun h => entW h) .nil) (op_len_mv rfl el48) rfl ?_ | refine lxs rfl rfl rfl guard_eq (.cons (t := 225) rfl (fun h => entW h) .nil) (op_len_nil rfl el48) rfl ?_
                    refine lxs rfl rfl rfl guard_eq (.cons (t := 224) rfl (fun h => entW h) (.cons (t := 226) rfl (fun h => entW h) .nil)) (op_neq rfl rfl) rfl ?_
                    refine lx (op_pick_or rfl rfl) rfl ?_
                    refine lx (op_move rfl) rfl ?_
                    refine lxs rfl rfl rfl guard_eq (.cons (t := 7) rfl (fun _ => Ent.refl _) .nil) (op_fieldAddr rfl fl28_4 sz25) rfl ?_
                    refine lxs rfl rfl rfl guard_eq (.cons (t := 230) rfl (fun h => entW h) .nil) (op_bload_one (m := 7) rfl rfl ag25 rfl) rfl ?_
                    first | refine lxs rfl rfl rfl guard_eq (.cons (t := 231) rfl (fun h => entW h) .nil) (op_len rfl el25) rfl ?_ | refine lxs rfl rfl rfl guard_eq (.cons (t := 231) rfl (fun h => entW h) .nil) (op_len_row rfl el25) rfl ?_ | refine lxs rfl rfl rfl guard_eq (.cons (t := 231) rfl (fun h => entW h) .nil) (op_len_mv rfl el25) rfl ?_ | refine lxs rfl rfl rfl guard_eq (.cons (t := 231) rfl (fun h => entW h) .nil) (op_len_nil rfl el25) rfl ?_
                    refine lxs rfl rfl rfl guard_eq (.cons (t := 9) rfl (fun _ => Ent.refl _) .nil) (op_move rfl) rfl ?_
                    first | refine lxs rfl rfl rfl guard_eq (.cons (t := 233) rfl (fun h => entW h) .nil) (op_len rfl el48) rfl ?_ | refine lxs rfl rfl rfl guard_eq (.cons (t := 233) rfl (fun h => entW h) .nil) (op_len_row rfl el48) rfl ?_ | refine lxs rfl rfl rfl guard_eq (.cons (t := 233) rfl (fun h => entW h) .nil) (op_len_mv rfl el48) rfl ?_ | refine lxs rfl rfl rfl guard_eq (.cons (t := 233) rfl (fun h => entW h) .nil) (op_len_nil rfl el48) rfl ?_
                    refine lxs rfl rfl rfl guard_eq (.cons (t := 10) rfl (fun _ => Ent.refl _) .nil) (op_move rfl) rfl ?_
                    first | refine lxs rfl rfl rfl guard_eq (.cons (t := 235) rfl (fun h => entW h) .nil) (op_len rfl el48) rfl ?_ | refine lxs rfl rfl rfl guard_eq (.cons (t := 235) rfl (fun h => entW h) .nil) (op_len_row rfl el48) rfl ?_ | refine lxs rfl rfl rfl guard_eq (.cons (t := 235) rfl (fun h => entW h) .nil) (op_len_mv rfl el48) rfl ?_ | refine lxs rfl rfl rfl guard_eq (.cons (t := 235) rfl (fun h => entW h) .nil) (op_len_nil rfl el48) rfl ?_
                    refine lxs rfl rfl rfl guard_eq (.cons (t := 234) rfl (fun h => entW h) (.cons (t := 236) rfl (fun h => entW h) .nil)) (op_sub rfl rfl (by first | omega | (simp only [List.length_append, List.length_singleton]; omega))) rfl ?_
                    refine lxs rfl rfl rfl guard_eq (.cons (t := 232) rfl (fun h => entW h) (.cons (t := 237) rfl (fun h => entW h) .nil)) (op_neq rfl rfl) rfl ?_
                    refine lx (op_pick_or rfl rfl) rfl ?_
                    refine lx_end ⟨by kernel_rfl, ?_⟩
                    refine pe_then_normal ?_
                    refine tr_sub hC (.cons (t := 0) rfl (.cons (t := 1) rfl (.cons (t := 7) rfl (.cons (t := 9) rfl (.cons (t := 10) rfl (.cons (t := 11) rfl (.cons (t := 12) rfl (.cons (t := 13) rfl (.cons (t := 239) rfl .nil))))))))) (.cons (t := 7) rfl (.cons (t := 12) rfl (.cons (t := 601) rfl (.cons (t := 600) rfl .nil)))) rfl ?_
                    refine tr_cond rfl (fun h239 => ?_) (fun h239 => ?_)
                    · first
                      | (have hck := (pl_snd hp (by omega) (hb _ (List.getElem_mem ..)) hnw).checks (by omega); simp [sndF, h76, h98] at hck h239; omega)
                      | (have hck := (pl_snd hp (by omega) (hb _ (List.getElem_mem ..)) hnw).checks (by omega); simp [sndF, h76] at hck h239; omega)
                      | (have hck := (pl_rcv hp (by omega) (hb _ (List.getElem_mem ..)) hnw).checks (by omega); simp [rcvF, h155, h168] at hck h239; omega)
                      | (have hck := (pl_rcv hp (by omega) (hb _ (List.getElem_mem ..)) hnw).checks (by omega); simp [rcvF, hnb] at hck h239; omega)
                      | (have hck := (pl_cls hp (hb l[k] (List.getElem_mem ..))).checks (by omega); simp [clsF] at hck h239; omega)
                    · (try simp only [Bool.and_eq_true, Bool.or_eq_true, Bool.and_eq_false_iff, Bool.or_eq_false_iff, decide_eq_true_eq, decide_eq_false_iff_not, Bool.not_eq_true', Bool.not_eq_false', List.length_map, ne_eq, Decidable.not_not, Int.not_lt, Int.not_le] at h239)
                      refine tr_skip ?_
                      refine pe_block_normal ?_
                      refine pe_then_normal ?_
                      refine tr_sub hC (.cons (t := 0) rfl (.cons (t := 1) rfl (.cons (t := 7) rfl (.cons (t := 9) rfl (.cons (t := 10) rfl (.cons (t := 11) rfl (.cons (t := 12) rfl (.cons (t := 13) rfl .nil)))))))) (.cons (t := 7) rfl (.cons (t := 12) rfl (.cons (t := 601) rfl (.cons (t := 600) rfl .nil)))) rfl ?_
                      refine tr_region (fun N9 hN => ?_)
                      refine lx (op_move rfl) rfl ?_
                      refine lx (op_add rfl rfl (by omega)) rfl ?_
                      refine lx (op_assign rfl) rfl ?_
                      refine lx_end ⟨by kernel_rfl, ?_⟩
                      refine pe_round (⟨(k + 1, (sendF o (sW l[k])).1, sent ++ [l[k].v], rcd, cl, (ws).set (gI l[k]).toNat (decide ((sendF o (sW l[k])).2.status = 1)), (N26, 96), j), by dsimp only; omega, by dsimp only; rw [← fold_step (by omega) hk2]; simp [stepF, hws, sndF, h59, h76, h98]⟩) (by dsimp only; omega) (pe_st hC ?_ ?_ rfl)
                      · try dsimp only [List.cons_append, List.nil_append]
                        first | refine SubF.cons rfl ?_ | (refine SubF.ent rfl ?_ ?_; · repeat (first | exact Ents.nil | refine Ents.cons ?_ ?_ | refine Ent.tup ?_ | refine Ent.agg ?_ | exact Ent.row _ _ _ _ | exact Ent.nil _ _ | exact Ent.func _ | exact Ent.refl _ | exact Ent.of_eq rfl | refine Ent.cells ?_))
                        first | refine SubF.cons rfl ?_ | (refine SubF.ent rfl ?_ ?_; · repeat (first | exact Ents.nil | refine Ents.cons ?_ ?_ | refine Ent.tup ?_ | refine Ent.agg ?_ | exact Ent.row _ _ _ _ | exact Ent.nil _ _ | exact Ent.func _ | exact Ent.refl _ | exact Ent.of_eq rfl | refine Ent.cells ?_))
                        first | refine SubF.cons rfl ?_ | (refine SubF.ent rfl ?_ ?_; · repeat (first | exact Ents.nil | refine Ents.cons ?_ ?_ | refine Ent.tup ?_ | refine Ent.agg ?_ | exact Ent.row _ _ _ _ | exact Ent.nil _ _ | exact Ent.func _ | exact Ent.refl _ | exact Ent.of_eq rfl | refine Ent.cells ?_))
                        first | refine SubF.cons rfl ?_ | (refine SubF.ent rfl ?_ ?_; · repeat (first | exact Ents.nil | refine Ents.cons ?_ ?_ | refine Ent.tup ?_ | refine Ent.agg ?_ | exact Ent.row _ _ _ _ | exact Ent.nil _ _ | exact Ent.func _ | exact Ent.refl _ | exact Ent.of_eq rfl | refine Ent.cells ?_))
                        first | refine SubF.cons rfl ?_ | (refine SubF.ent rfl ?_ ?_; · repeat (first | exact Ents.nil | refine Ents.cons ?_ ?_ | refine Ent.tup ?_ | refine Ent.agg ?_ | exact Ent.row _ _ _ _ | exact Ent.nil _ _ | exact Ent.func _ | exact Ent.refl _ | exact Ent.of_eq rfl | refine Ent.cells ?_))
                        first | refine SubF.cons rfl ?_ | (refine SubF.ent rfl ?_ ?_; · repeat (first | exact Ents.nil | refine Ents.cons ?_ ?_ | refine Ent.tup ?_ | refine Ent.agg ?_ | exact Ent.row _ _ _ _ | exact Ent.nil _ _ | exact Ent.func _ | exact Ent.refl _ | exact Ent.of_eq rfl | refine Ent.cells ?_))
                        first | refine SubF.cons rfl ?_ | (refine SubF.ent rfl ?_ ?_; · repeat (first | exact Ents.nil | refine Ents.cons ?_ ?_ | refine Ent.tup ?_ | refine Ent.agg ?_ | exact Ent.row _ _ _ _ | exact Ent.nil _ _ | exact Ent.func _ | exact Ent.refl _ | exact Ent.of_eq rfl | refine Ent.cells ?_))
                        first | refine SubF.cons rfl ?_ | (refine SubF.ent rfl ?_ ?_; · repeat (first | exact Ents.nil | refine Ents.cons ?_ ?_ | refine Ent.tup ?_ | refine Ent.agg ?_ | exact Ent.row _ _ _ _ | exact Ent.nil _ _ | exact Ent.func _ | exact Ent.refl _ | exact Ent.of_eq rfl | refine Ent.cells ?_))
                        exact SubF.nil
                      · try dsimp only [List.cons_append, List.nil_append]
                        repeat (first | exact SubL.nil | refine SubL.cons rfl ?_)
            · (try simp only [Bool.and_eq_true, Bool.or_eq_true, Bool.and_eq_false_iff, Bool.or_eq_false_iff, decide_eq_true_eq, decide_eq_false_iff_not, Bool.not_eq_true', Bool.not_eq_false', List.length_map, ne_eq, Decidable.not_not, Int.not_lt, Int.not_le] at h76)
              refine tr_skip ?_
              refine pe_then_normal ?_
              refine tr_sub hC (.cons (t := 0) rfl (.cons (t := 1) rfl (.cons (t := 7) rfl (.cons (t := 9) rfl (.cons (t := 10) rfl (.cons (t := 11) rfl (.cons (t := 12) rfl (.cons (t := 13) rfl (.cons (t := 14) rfl (.cons (t := 16) rfl .nil)))))))))) (.cons (t := 7) rfl (.cons (t := 12) rfl (.cons (t := 600) rfl (.cons (t := 601) rfl (.cons (t := 16) rfl .nil))))) rfl ?_
              refine tr_seq ?_
              refine tr_region (fun N32 hN => ?_)
              refine lx (op_fieldAddr rfl fl35_0 sz3) rfl ?_
              refine lx (op_bload_one (m := 16) rfl rfl ag3 rfl) rfl ?_
              refine lx (op_eql rfl rfl) rfl ?_
              refine lx (op_move rfl) rfl ?_
              refine lx (op_neq_bool bo4 rfl rfl) rfl ?_
              refine lx_end ⟨by kernel_rfl, ?_⟩
              refine pe_then_normal ?_
              refine tr_sub hC (.cons (t := 0) rfl (.cons (t := 1) rfl (.cons (t := 7) rfl (.cons (t := 9) rfl (.cons (t := 10) rfl (.cons (t := 11) rfl (.cons (t := 12) rfl (.cons (t := 13) rfl (.cons (t := 14) rfl (.cons (t := 16) rfl (.cons (t := 140) rfl .nil))))))))))) (.cons (t := 7) rfl (.cons (t := 12) rfl (.cons (t := 600) rfl (.cons (t := 601) rfl (.cons (t := 16) rfl .nil))))) rfl ?_
              refine tr_cond rfl (fun h140 => ?_) (fun h140 => ?_)
              · simp [← hsf.2.2] at h140
              · (try simp only [Bool.and_eq_true, Bool.or_eq_true, Bool.and_eq_false_iff, Bool.or_eq_false_iff, decide_eq_true_eq, decide_eq_false_iff_not, Bool.not_eq_true', Bool.not_eq_false', List.length_map, ne_eq, Decidable.not_not, Int.not_lt, Int.not_le] at h140)
                refine tr_skip ?_
                refine pe_block_normal ?_
                refine pe_then_normal ?_
                refine tr_sub hC (.cons (t := 0) rfl (.cons (t := 1) rfl (.cons (t := 7) rfl (.cons (t := 9) rfl (.cons (t := 10) rfl (.cons (t := 11) rfl (.cons (t := 12) rfl (.cons (t := 13) rfl (.cons (t := 14) rfl (.cons (t := 16) rfl .nil)))))))))) (.cons (t := 7) rfl (.cons (t := 12) rfl (.cons (t := 600) rfl (.cons (t := 601) rfl (.cons (t := 16) rfl .nil))))) rfl ?_
                refine tr_seq ?_
                refine tr_region (fun N45 hN => ?_)
                refine lx (op_move rfl) rfl ?_
                refine lx (op_fieldAddr rfl fl35_0 sz3) rfl ?_
                refine lx (op_bload_one (m := 16) rfl rfl ag3 rfl) rfl ?_
                refine lx (op_eql rfl rfl) rfl ?_
                refine lx (op_aindex rfl rfl ar68 sz4 (by omega : gI l[k] = (((gI l[k]).toNat : Nat) : Int)) (by omega)) rfl ?_
                refine lxr (op_tstore (m := 12) (j := (gI l[k]).toNat) (fo := 0) (z' := (decide ((sendF o (sW l[k])).2.status = 1))) rfl rfl rfl (.one (by (first | exact One.eq rfl | exact One.mv _ _ _ _ _ | exact One.cl _ _ _ | exact One.map _ | exact One.sl _ _ _ | exact One.row _ _ _ _ | exact One.msl _ _ _ _ | exact One.ptr _ _ | exact One.b _ | exact One.cells _))) sz4 rfl bp_len (by omega) hws rfl rfl) rfl ?_
                refine lx_end ⟨by kernel_rfl, ?_⟩
                refine pe_then_normal ?_
                refine tr_sub hC (.cons (t := 0) rfl (.cons (t := 1) rfl (.cons (t := 7) rfl (.cons (t := 9) rfl (.cons (t := 10) rfl (.cons (t := 11) rfl (.cons (t := 12) rfl (.cons (t := 13) rfl .nil)))))))) (.cons (t := 7) rfl (.cons (t := 12) rfl (.cons (t := 600) rfl (.cons (t := 601) rfl .nil)))) rfl ?_
                refine tr_seq ?_
                refine tr_region (fun N46 hN => ?_)
                refine lx (op_fieldAddr rfl fl28_4 sz25) rfl ?_
                refine lx (op_bload_one (m := 7) rfl rfl ag25 rfl) rfl ?_
                first | refine lx (op_len rfl el25) rfl ?_ | refine lx (op_len_row rfl el25) rfl ?_ | refine lx (op_len_mv rfl el25) rfl ?_ | refine lx (op_len_nil rfl el25) rfl ?_
                refine lx (op_move rfl) rfl ?_
                refine lx (op_gtr rfl rfl) rfl ?_
                refine lx (op_move rfl) rfl ?_
                refine lxs rfl rfl rfl guard_eq (.cons (t := 7) rfl (fun _ => Ent.refl _) .nil) (op_fieldAddr rfl fl28_6 sz3) rfl ?_
                refine lxs rfl rfl rfl guard_eq (.cons (t := 216) rfl (fun h => entW h) .nil) (op_bload_one (m := 7) rfl rfl ag3 rfl) rfl ?_
                refine lxs rfl rfl rfl guard_eq (.cons (t := 9) rfl (fun _ => Ent.refl _) .nil) (op_move rfl) rfl ?_
                first | refine lxs rfl rfl rfl guard_eq (.cons (t := 218) rfl (fun h => entW h) .nil) (op_len rfl el48) rfl ?_ | refine lxs rfl rfl rfl guard_eq (.cons (t := 218) rfl (fun h => entW h) .nil) (op_len_row rfl el48) rfl ?_ | refine lxs rfl rfl rfl guard_eq (.cons (t := 218) rfl (fun h => entW h) .nil) (op_len_mv rfl el48) rfl ?_ | refine lxs rfl rfl rfl guard_eq (.cons (t := 218) rfl (fun h => entW h) .nil) (op_len_nil rfl el48) rfl ?_
                refine lxs rfl rfl rfl guard_eq (.cons (t := 217) rfl (fun h => entW h) (.cons (t := 219) rfl (fun h => entW h) .nil)) (op_neq rfl rfl) rfl ?_
                refine lx (op_pick_or rfl rfl) rfl ?_
                refine lx (op_move rfl) rfl ?_
                refine lxs rfl rfl rfl guard_eq (.cons (t := 7) rfl (fun _ => Ent.refl _) .nil) (op_fieldAddr rfl fl28_7 sz3) rfl ?_
                refine lxs rfl rfl rfl guard_eq (.cons (t := 223) rfl (fun h => entW h) .nil) (op_bload_one (m := 7) rfl rfl ag3 rfl) rfl ?_
                refine lxs rfl rfl rfl guard_eq (.cons (t := 10) rfl (fun _ => Ent.refl _) .nil) (op_move rfl) rfl ?_
                first | refine lxs rfl rfl rfl guard_eq (.cons (t := 225) rfl (fun h => entW h) .nil) (op_len rfl el48) rfl ?_ | refine lxs rfl rfl rfl guard_eq (.cons (t := 225) rfl (fun h => entW h) .nil) (op_len_row rfl el48) rfl ?_ | refine lxs rfl rfl rfl guard_eq (.cons (t := 225) rfl (fun h => entW h) .nil) (op_len_mv rfl el48) rfl ?_ | refine lxs rfl rfl rfl guard_eq (.cons (t := 225) rfl (fun h => entW h) .nil) (op_len_nil rfl el48) rfl ?_
                refine lxs rfl rfl rfl guard_eq (.cons (t := 224) rfl (fun h => entW h) (.cons (t := 226) rfl (fun h => entW h) .nil)) (op_neq rfl rfl) rfl ?_
                refine lx (op_pick_or rfl rfl) rfl ?_
                refine lx (op_move rfl) rfl ?_
                refine lxs rfl rfl rfl guard_eq (.cons (t := 7) rfl (fun _ => Ent.refl _) .nil) (op_fieldAddr rfl fl28_4 sz25) rfl ?_
                refine lxs rfl rfl rfl guard_eq (.cons (t := 230) rfl (fun h => entW h) .nil) (op_bload_one (m := 7) rfl rfl ag25 rfl) rfl ?_
                first | refine lxs rfl rfl rfl guard_eq (.cons (t := 231) rfl (fun h => entW h) .nil) (op_len rfl el25) rfl ?_ | refine lxs rfl rfl rfl guard_eq (.cons (t := 231) rfl (fun h => entW h) .nil) (op_len_row rfl el25) rfl ?_ | refine lxs rfl rfl rfl guard_eq (.cons (t := 231) rfl (fun h => entW h) .nil) (op_len_mv rfl el25) rfl ?_ | refine lxs rfl rfl rfl guard_eq (.cons (t := 231) rfl (fun h => entW h) .nil) (op_len_nil rfl el25) rfl ?_
                refine lxs rfl rfl rfl guard_eq (.cons (t := 9) rfl (fun _ => Ent.refl _) .nil) (op_move rfl) rfl ?_
                first | refine lxs rfl rfl rfl guard_eq (.cons (t := 233) rfl (fun h => entW h) .nil) (op_len rfl el48) rfl ?_ | refine lxs rfl rfl rfl guard_eq (.cons (t := 233) rfl (fun h => entW h) .nil) (op_len_row rfl el48) rfl ?_ | refine lxs rfl rfl rfl guard_eq (.cons (t := 233) rfl (fun h => entW h) .nil) (op_len_mv rfl el48) rfl ?_ | refine lxs rfl rfl rfl guard_eq (.cons (t := 233) rfl (fun h => entW h) .nil) (op_len_nil rfl el48) rfl ?_
                refine lxs rfl rfl rfl guard_eq (.cons (t := 10) rfl (fun _ => Ent.refl _) .nil) (op_move rfl) rfl ?_
                first | refine lxs rfl rfl rfl guard_eq (.cons (t := 235) rfl (fun h => entW h) .nil) (op_len rfl el48) rfl ?_ | refine lxs rfl rfl rfl guard_eq (.cons (t := 235) rfl (fun h => entW h) .nil) (op_len_row rfl el48) rfl ?_ | refine lxs rfl rfl rfl guard_eq (.cons (t := 235) rfl (fun h => entW h) .nil) (op_len_mv rfl el48) rfl ?_ | refine lxs rfl rfl rfl guard_eq (.cons (t := 235) rfl (fun h => entW h) .nil) (op_len_nil rfl el48) rfl ?_
                refine lxs rfl rfl rfl guard_eq (.cons (t := 234) rfl (fun h => entW h) (.cons (t := 236) rfl (fun h => entW h) .nil)) (op_sub rfl rfl (by first | omega | (simp only [List.length_append, List.length_singleton]; omega))) rfl ?_
                refine lxs rfl rfl rfl guard_eq (.cons (t := 232) rfl (fun h => entW h) (.cons (t := 237) rfl (fun h => entW h) .nil)) (op_neq rfl rfl) rfl ?_
                refine lx (op_pick_or rfl rfl) rfl ?_
                refine lx_end ⟨by kernel_rfl, ?_⟩
                refine pe_then_normal ?_
                refine tr_sub hC (.cons (t := 0) rfl (.cons (t := 1) rfl (.cons (t := 7) rfl (.cons (t := 9) rfl (.cons (t := 10) rfl (.cons (t := 11) rfl (.cons (t := 12) rfl (.cons (t := 13) rfl (.cons (t := 239) rfl .nil))))))))) (.cons (t := 7) rfl (.cons (t := 12) rfl (.cons (t := 600) rfl (.cons (t := 601) rfl .nil)))) rfl ?_
                refine tr_cond rfl (fun h239 => ?_) (fun h239 => ?_)
                · first
                  | (have hck := (pl_snd hp (by omega) (hb _ (List.getElem_mem ..)) hnw).checks (by omega); simp [sndF, h76, h98] at hck h239; omega)
                  | (have hck := (pl_snd hp (by omega) (hb _ (List.getElem_mem ..)) hnw).checks (by omega); simp [sndF, h76] at hck h239; omega)
                  | (have hck := (pl_rcv hp (by omega) (hb _ (List.getElem_mem ..)) hnw).checks (by omega); simp [rcvF, h155, h168] at hck h239; omega)
                  | (have hck := (pl_rcv hp (by omega) (hb _ (List.getElem_mem ..)) hnw).checks (by omega); simp [rcvF, hnb] at hck h239; omega)
                  | (have hck := (pl_cls hp (hb l[k] (List.getElem_mem ..))).checks (by omega); simp [clsF] at hck h239; omega)
                · (try simp only [Bool.and_eq_true, Bool.or_eq_true, Bool.and_eq_false_iff, Bool.or_eq_false_iff, decide_eq_true_eq, decide_eq_false_iff_not, Bool.not_eq_true', Bool.not_eq_false', List.length_map, ne_eq, Decidable.not_not, Int.not_lt, Int.not_le] at h239)
                  refine tr_skip ?_
                  refine pe_block_normal ?_
                  refine pe_then_normal ?_
                  refine tr_sub hC (.cons (t := 0) rfl (.cons (t := 1) rfl (.cons (t := 7) rfl (.cons (t := 9) rfl (.cons (t := 10) rfl (.cons (t := 11) rfl (.cons (t := 12) rfl (.cons (t := 13) rfl .nil)))))))) (.cons (t := 7) rfl (.cons (t := 12) rfl (.cons (t := 600) rfl (.cons (t := 601) rfl .nil)))) rfl ?_
                  refine tr_region (fun N9 hN => ?_)
                  refine lx (op_move rfl) rfl ?_
                  refine lx (op_add rfl rfl (by omega)) rfl ?_
                  refine lx (op_assign rfl) rfl ?_
                  refine lx_end ⟨by kernel_rfl, ?_⟩
                  refine pe_round (⟨(k + 1, (sendF o (sW l[k])).1, sent, rcd, cl, (ws).set (gI l[k]).toNat (decide ((sendF o (sW l[k])).2.status = 1)), i, j), by dsimp only; omega, by dsimp only; rw [← fold_step (by omega) hk2]; simp [stepF, hws, sndF, h59, h76]⟩) (by dsimp only; omega) (pe_st hC ?_ ?_ rfl)
                  · try dsimp only [List.cons_append, List.nil_append]
                    first | refine SubF.cons rfl ?_ | (refine SubF.ent rfl ?_ ?_; · repeat (first | exact Ents.nil | refine Ents.cons ?_ ?_ | refine Ent.tup ?_ | refine Ent.agg ?_ | exact Ent.row _ _ _ _ | exact Ent.nil _ _ | exact Ent.func _ | exact Ent.refl _ | exact Ent.of_eq rfl | refine Ent.cells ?_))
                    first | refine SubF.cons rfl ?_ | (refine SubF.ent rfl ?_ ?_; · repeat (first | exact Ents.nil | refine Ents.cons ?_ ?_ | refine Ent.tup ?_ | refine Ent.agg ?_ | exact Ent.row _ _ _ _ | exact Ent.nil _ _ | exact Ent.func _ | exact Ent.refl _ | exact Ent.of_eq rfl | refine Ent.cells ?_))
                    first | refine SubF.cons rfl ?_ | (refine SubF.ent rfl ?_ ?_; · repeat (first | exact Ents.nil | refine Ents.cons ?_ ?_ | refine Ent.tup ?_ | refine Ent.agg ?_ | exact Ent.row _ _ _ _ | exact Ent.nil _ _ | exact Ent.func _ | exact Ent.refl _ | exact Ent.of_eq rfl | refine Ent.cells ?_))
                    first | refine SubF.cons rfl ?_ | (refine SubF.ent rfl ?_ ?_; · repeat (first | exact Ents.nil | refine Ents.cons ?_ ?_ | refine Ent.tup ?_ | refine Ent.agg ?_ | exact Ent.row _ _ _ _ | exact Ent.nil _ _ | exact Ent.func _ | exact Ent.refl _ | exact Ent.of_eq rfl | refine Ent.cells ?_))
                    first | refine SubF.cons rfl ?_ | (refine SubF.ent rfl ?_ ?_; · repeat (first | exact Ents.nil | refine Ents.cons ?_ ?_ | refine Ent.tup ?_ | refine Ent.agg ?_ | exact Ent.row _ _ _ _ | exact Ent.nil _ _ | exact Ent.func _ | exact Ent.refl _ | exact Ent.of_eq rfl | refine Ent.cells ?_))
                    first | refine SubF.cons rfl ?_ | (refine SubF.ent rfl ?_ ?_; · repeat (first | exact Ents.nil | refine Ents.cons ?_ ?_ | refine Ent.tup ?_ | refine Ent.agg ?_ | exact Ent.row _ _ _ _ | exact Ent.nil _ _ | exact Ent.func _ | exact Ent.refl _ | exact Ent.of_eq rfl | refine Ent.cells ?_))
                    first | refine SubF.cons rfl ?_ | (refine SubF.ent rfl ?_ ?_; · repeat (first | exact Ents.nil | refine Ents.cons ?_ ?_ | refine Ent.tup ?_ | refine Ent.agg ?_ | exact Ent.row _ _ _ _ | exact Ent.nil _ _ | exact Ent.func _ | exact Ent.refl _ | exact Ent.of_eq rfl | refine Ent.cells ?_))
                    first | refine SubF.cons rfl ?_ | (refine SubF.ent rfl ?_ ?_; · repeat (first | exact Ents.nil | refine Ents.cons ?_ ?_ | refine Ent.tup ?_ | refine Ent.agg ?_ | exact Ent.row _ _ _ _ | exact Ent.nil _ _ | exact Ent.func _ | exact Ent.refl _ | exact Ent.of_eq rfl | refine Ent.cells ?_))
                    exact SubF.nil
                  · try dsimp only [List.cons_append, List.nil_append]
                    repeat (first | exact SubL.nil | refine SubL.cons rfl ?_)
          · (try simp only [Bool.and_eq_true, Bool.or_eq_true, Bool.and_eq_false_iff, Bool.or_eq_false_iff, decide_eq_true_eq, decide_eq_false_iff_not, Bool.not_eq_true', Bool.not_eq_false', List.length_map, ne_eq, Decidable.not_not, Int.not_lt, Int.not_le] at h59)
            refine tr_seq ?_
            refine tr_region (fun N34 hN => ?_)
            refine lx (op_eql rfl rfl) rfl ?_
            refine lx (op_assign rfl) rfl ?_
            refine lx_end ⟨by kernel_rfl, ?_⟩
            refine pe_then_normal ?_
            refine tr_sub hC (.cons (t := 0) rfl (.cons (t := 1) rfl (.cons (t := 7) rfl (.cons (t := 9) rfl (.cons (t := 10) rfl (.cons (t := 11) rfl (.cons (t := 12) rfl (.cons (t := 13) rfl (.cons (t := 14) rfl (.cons (t := 15) rfl (.cons (t := 16) rfl (.cons (t := 141) rfl .nil)))))))))))) (.cons (t := 7) rfl (.cons (t := 12) rfl (.cons (t := 600) rfl (.cons (t := 601) rfl (.cons (t := 15) rfl (.cons (t := 16) rfl .nil)))))) rfl ?_
            refine tr_cond rfl (fun h141 => ?_) (fun h141 => ?_)
            · (try simp only [Bool.and_eq_true, Bool.or_eq_true, Bool.and_eq_false_iff, Bool.or_eq_false_iff, decide_eq_true_eq, decide_eq_false_iff_not, Bool.not_eq_true', Bool.not_eq_false', List.length_map, ne_eq, Decidable.not_not, Int.not_lt, Int.not_le] at h141)
              refine tr_seq ?_
              refine tr_region (fun N35 hN => ?_)
              refine lx (op_bload (m := 7) rfl rfl ag28 sz28) rfl ?_
              refine lx (op_bload (m := 15) rfl rfl ag33 sz33) rfl ?_
              first | refine lx (op_call (l := [(Go.Operand.tmp 144), (Go.Operand.tmp 145)]) (Recv_f o (rW l[k]) hsm hcap hque) (.cons rfl (.cons rfl .nil)) fn14) rfl ?_ | refine lx (op_call (l := [(Go.Operand.tmp 144), (Go.Operand.tmp 145)]) (Recv_f o (rW l[k]) hsm hcap hque) (.ent rfl (by repeat (first | exact Ents.nil | refine Ents.cons ?_ ?_ | refine Ent.tup ?_ | refine Ent.agg ?_ | exact Ent.row _ _ _ _ | exact Ent.nil _ _ | exact Ent.func _ | exact Ent.refl _ | exact Ent.of_eq rfl | refine Ent.cells ?_)) (.ent rfl (by repeat (first | exact Ents.nil | refine Ents.cons ?_ ?_ | refine Ent.tup ?_ | refine Ent.agg ?_ | exact Ent.row _ _ _ _ | exact Ent.nil _ _ | exact Ent.func _ | exact Ent.refl _ | exact Ent.of_eq rfl | refine Ent.cells ?_)) .nil)) fn14) rfl ?_
              refine lx (op_move rfl) rfl ?_
              refine lx (op_extract rfl rfl) rfl ?_
              refine lx (op_extract rfl rfl) rfl ?_
              refine lxr (op_store_all (m := 7) rfl rfl rfl (.agg rfl) sz28 rfl) rfl ?_
              refine lxr (op_store_all (m := 16) rfl rfl rfl (.agg rfl) sz35 rfl) rfl ?_
              refine lx_end ⟨by kernel_rfl, ?_⟩
              refine pe_then_normal ?_
              refine tr_sub hC (.cons (t := 0) rfl (.cons (t := 1) rfl (.cons (t := 7) rfl (.cons (t := 9) rfl (.cons (t := 10) rfl (.cons (t := 11) rfl (.cons (t := 12) rfl (.cons (t := 13) rfl (.cons (t := 14) rfl (.cons (t := 16) rfl .nil)))))))))) (.cons (t := 7) rfl (.cons (t := 12) rfl (.cons (t := 600) rfl (.cons (t := 601) rfl (.cons (t := 16) rfl .nil))))) rfl ?_
              refine tr_seq ?_
              refine tr_region (fun N36 hN => ?_)
              refine lx (op_fieldAddr rfl fl35_0 sz3) rfl ?_
              refine lx (op_bload_one (m := 16) rfl rfl ag3 rfl) rfl ?_
              refine lx (op_eql rfl rfl) rfl ?_
              refine lx (op_move rfl) rfl ?_
              refine lxs rfl rfl rfl guard_eq (.cons (t := 16) rfl (fun _ => Ent.refl _) .nil) (op_fieldAddr rfl fl35_2 sz4) rfl ?_
              refine lxs rfl rfl rfl guard_eq (.cons (t := 153) rfl (fun h => entW h) .nil) (op_bload_one (m := 16) rfl rfl ag4 rfl) rfl ?_
              refine lx (op_pick_and rfl rfl) rfl ?_
              refine lx_end ⟨by kernel_rfl, ?_⟩
              refine pe_then_normal ?_
              refine tr_sub hC (.cons (t := 0) rfl (.cons (t := 1) rfl (.cons (t := 7) rfl (.cons (t := 9) rfl (.cons (t := 10) rfl (.cons (t := 11) rfl (.cons (t := 12) rfl (.cons (t := 13) rfl (.cons (t := 14) rfl (.cons (t := 16) rfl (.cons (t := 155) rfl .nil))))))))))) (.cons (t := 7) rfl (.cons (t := 12) rfl (.cons (t := 600) rfl (.cons (t := 601) rfl (.cons (t := 16) rfl .nil))))) rfl ?_
              refine tr_cond rfl (fun h155 => ?_) (fun h155 => ?_)
              · (try simp only [Bool.and_eq_true, Bool.or_eq_true, Bool.and_eq_false_iff, Bool.or_eq_false_iff, decide_eq_true_eq, decide_eq_false_iff_not, Bool.not_eq_true', Bool.not_eq_false', List.length_map, ne_eq, Decidable.not_not, Int.not_lt, Int.not_le] at h155)
                refine tr_seq ?_
                refine tr_seq ?_
                refine tr_region (fun N37 hN => ?_)
                refine lx (op_fieldAddr rfl fl35_3 sz3) rfl ?_
                refine lx (op_bload_one (m := 16) rfl rfl ag3 rfl) rfl ?_
                refine lx (op_move rfl) rfl ?_
                first | refine lx (op_len rfl el48) rfl ?_ | refine lx (op_len_row rfl el48) rfl ?_ | refine lx (op_len_mv rfl el48) rfl ?_ | refine lx (op_len_nil rfl el48) rfl ?_
                refine lx (op_neq rfl rfl) rfl ?_
                refine lx_end ⟨by kernel_rfl, ?_⟩
                refine pe_then_normal ?_
                refine tr_sub hC (.cons (t := 0) rfl (.cons (t := 1) rfl (.cons (t := 7) rfl (.cons (t := 9) rfl (.cons (t := 10) rfl (.cons (t := 11) rfl (.cons (t := 12) rfl (.cons (t := 13) rfl (.cons (t := 14) rfl (.cons (t := 16) rfl (.cons (t := 160) rfl .nil))))))))))) (.cons (t := 7) rfl (.cons (t := 12) rfl (.cons (t := 600) rfl (.cons (t := 601) rfl (.cons (t := 16) rfl .nil))))) rfl ?_
                refine tr_cond rfl (fun h160 => ?_) (fun h160 => ?_)
                · simp [hrf.1 h155.1 h155.2] at h160
                · (try simp only [Bool.and_eq_true, Bool.or_eq_true, Bool.and_eq_false_iff, Bool.or_eq_false_iff, decide_eq_true_eq, decide_eq_false_iff_not, Bool.not_eq_true', Bool.not_eq_false', List.length_map, ne_eq, Decidable.not_not, Int.not_lt, Int.not_le] at h160)
                  refine tr_skip ?_
                  refine pe_then_normal ?_
                  refine tr_sub hC (.cons (t := 0) rfl (.cons (t := 1) rfl (.cons (t := 7) rfl (.cons (t := 9) rfl (.cons (t := 10) rfl (.cons (t := 11) rfl (.cons (t := 12) rfl (.cons (t := 13) rfl (.cons (t := 14) rfl (.cons (t := 16) rfl .nil)))))))))) (.cons (t := 7) rfl (.cons (t := 12) rfl (.cons (t := 600) rfl (.cons (t := 601) rfl (.cons (t := 16) rfl .nil))))) rfl ?_
                  refine tr_seq ?_
                  refine tr_region (fun N39 hN => ?_)
                  refine lx (op_move rfl) rfl ?_
                  refine lx (op_fieldAddr rfl fl35_1 sz23) rfl ?_
                  refine lx (op_fieldAddr rfl fl23_1 sz3) rfl ?_
                  refine lx (op_bload_one (m := 16) rfl rfl ag3 rfl) rfl ?_
                  refine lx (op_buildSlice (f := ip) (xs := [(recvF o (rW l[k])).2.value.n]) (l := [(0, (Go.Operand.tmp 164))]) ze3 rfl rfl (by decide) el48 sz3 ip_len (.cons rfl (.one (by (first | exact One.eq rfl | exact One.mv _ _ _ _ _ | exact One.cl _ _ _ | exact One.map _ | exact One.sl _ _ _ | exact One.row _ _ _ _ | exact One.msl _ _ _ _ | exact One.ptr _ _ | exact One.b _ | exact One.cells _))) .nil) rfl (by decide)) rfl ?_
                  refine lxr (op_append (m := 601) (m' := 601) (kk := 166) rfl rfl rfl (.inl rfl) el48 ze3 sz3 by3 rfl ip_len (by rw [List.length_singleton]; omega) (by rw [List.length_singleton]; omega)) rfl ?_
                  refine lx (op_assign rfl) rfl ?_
                  refine lx_end ⟨by kernel_rfl, ?_⟩
                  refine pe_then_normal ?_
                  refine tr_sub hC (.cons (t := 0) rfl (.cons (t := 1) rfl (.cons (t := 7) rfl (.cons (t := 9) rfl (.cons (t := 10) rfl (.cons (t := 11) rfl (.cons (t := 12) rfl (.cons (t := 13) rfl (.cons (t := 14) rfl (.cons (t := 16) rfl .nil)))))))))) (.cons (t := 7) rfl (.cons (t := 12) rfl (.cons (t := 600) rfl (.cons (t := 16) rfl (.cons (t := 601) rfl .nil))))) rfl ?_
                  refine tr_seq ?_
                  refine tr_region (fun N40 hN => ?_)
                  refine lx (op_fieldAddr rfl fl35_4 sz4) rfl ?_
                  refine lx (op_bload_one (m := 16) rfl rfl ag4 rfl) rfl ?_
                  refine lx_end ⟨by kernel_rfl, ?_⟩
                  refine pe_then_normal ?_
                  refine tr_sub hC (.cons (t := 0) rfl (.cons (t := 1) rfl (.cons (t := 7) rfl (.cons (t := 9) rfl (.cons (t := 10) rfl (.cons (t := 11) rfl (.cons (t := 12) rfl (.cons (t := 13) rfl (.cons (t := 14) rfl (.cons (t := 16) rfl (.cons (t := 168) rfl .nil))))))))))) (.cons (t := 7) rfl (.cons (t := 12) rfl (.cons (t := 600) rfl (.cons (t := 16) rfl (.cons (t := 601) rfl .nil))))) rfl ?_
                  refine tr_cond rfl (fun h168 => ?_) (fun h168 => ?_)
                  · (try simp only [Bool.and_eq_true, Bool.or_eq_true, Bool.and_eq_false_iff, Bool.or_eq_false_iff, decide_eq_true_eq, decide_eq_false_iff_not, Bool.not_eq_true', Bool.not_eq_false', List.length_map, ne_eq, Decidable.not_not, Int.not_lt, Int.not_le] at h168)
                    have hf := hrf.2 h155.1 h155.2 h168
                    refine tr_seq ?_
                    refine tr_seq ?_
                    refine tr_region (fun N41 hN => ?_)
                    refine lx (op_fieldAddr rfl fl35_6 sz3) rfl ?_
                    refine lx (op_bload_one (m := 16) rfl rfl ag3 rfl) rfl ?_
                    refine lx (op_move rfl) rfl ?_
                    first | refine lx (op_len rfl el48) rfl ?_ | refine lx (op_len_row rfl el48) rfl ?_ | refine lx (op_len_mv rfl el48) rfl ?_ | refine lx (op_len_nil rfl el48) rfl ?_
                    refine lx (op_neq rfl rfl) rfl ?_
                    refine lx (op_move rfl) rfl ?_
                    refine lxs rfl rfl rfl guard_eq (.cons (t := 16) rfl (fun _ => Ent.refl _) .nil) (op_fieldAddr rfl fl35_5 sz33) rfl ?_
                    refine lxs rfl rfl rfl guard_eq (.cons (t := 175) rfl (fun h => entW h) .nil) (op_fieldAddr rfl fl33_0 sz3) rfl ?_
                    refine lxs rfl rfl rfl guard_eq (.cons (t := 176) rfl (fun h => entW h) .nil) (op_bload_one (m := 16) rfl rfl ag3 rfl) rfl ?_
                    refine lxs rfl rfl rfl guard_eq (.cons (t := 177) rfl (fun h => entW h) .nil) (op_lss rfl rfl) rfl ?_
                    refine lx (op_pick_or rfl rfl) rfl ?_
                    refine lx (op_move rfl) rfl ?_
                    refine lxs rfl rfl rfl guard_eq (.cons (t := 16) rfl (fun _ => Ent.refl _) .nil) (op_fieldAddr rfl fl35_5 sz33) rfl ?_
                    refine lxs rfl rfl rfl guard_eq (.cons (t := 181) rfl (fun h => entW h) .nil) (op_fieldAddr rfl fl33_0 sz3) rfl ?_
                    refine lxs rfl rfl rfl guard_eq (.cons (t := 182) rfl (fun h => entW h) .nil) (op_bload_one (m := 16) rfl rfl ag3 rfl) rfl ?_
                    refine lxs rfl rfl rfl guard_eq (.cons (t := 183) rfl (fun h => entW h) .nil) (op_geq rfl rfl) rfl ?_
                    refine lx (op_pick_or rfl rfl) rfl ?_
                    refine lx (op_move rfl) rfl ?_
                    refine lxs rfl rfl rfl guard_eq (.cons (t := 16) rfl (fun _ => Ent.refl _) .nil) (op_fieldAddr rfl fl35_5 sz33) rfl ?_
                    refine lxs rfl rfl rfl guard_eq (.cons (t := 187) rfl (fun h => entW h) .nil) (op_fieldAddr rfl fl33_0 sz3) rfl ?_
                    refine lxs rfl rfl rfl guard_eq (.cons (t := 188) rfl (fun h => entW h) .nil) (op_bload_one (m := 16) rfl rfl ag3 rfl) rfl ?_
                    refine lxs rfl rfl rfl guard_eq (.cons (t := 12) rfl (fun _ => Ent.refl _) (.cons (t := 189) rfl (fun h => entW h) .nil)) (op_aindex rfl rfl ar68 sz4 (by omega : (recvF o (rW l[k])).2.partner.g = (((recvF o (rW l[k])).2.partner.g.toNat : Nat) : Int)) (by omega)) rfl ?_
                    refine lxs rfl rfl rfl guard_eq (.cons (t := 190) rfl (fun h => entW h) .nil) (op_tload_one (m := 12) (j := (recvF o (rW l[k])).2.partner.g.toNat) (fo := 0) rfl rfl ag4 bp_len (by omega) hf.2.2 rfl) rfl ?_
                    first | refine lxs rfl rfl rfl guard_eq (.cons (t := 191) rfl (fun h => entW h) .nil) (op_not rfl) rfl ?_ | refine lxs rfl rfl rfl guard_eq (.cons (t := 191) rfl (fun h => entW h) .nil) (op_not_b rfl) rfl ?_
                    refine lx (op_pick_or rfl rfl) rfl ?_
                    refine lx_end ⟨by kernel_rfl, ?_⟩
                    refine pe_then_normal ?_
                    refine tr_sub hC (.cons (t := 0) rfl (.cons (t := 1) rfl (.cons (t := 7) rfl (.cons (t := 9) rfl (.cons (t := 10) rfl (.cons (t := 11) rfl (.cons (t := 12) rfl (.cons (t := 13) rfl (.cons (t := 14) rfl (.cons (t := 16) rfl (.cons (t := 193) rfl .nil))))))))))) (.cons (t := 7) rfl (.cons (t := 12) rfl (.cons (t := 600) rfl (.cons (t := 16) rfl (.cons (t := 601) rfl .nil))))) rfl ?_
                    refine tr_cond rfl (fun h193 => ?_) (fun h193 => ?_)
                    · obtain ⟨e1, ⟨e2, e3⟩, e4⟩ := hf
                      simp [e1] at h193
                      omega
                    · (try simp only [Bool.and_eq_true, Bool.or_eq_true, Bool.and_eq_false_iff, Bool.or_eq_false_iff, decide_eq_true_eq, decide_eq_false_iff_not, Bool.not_eq_true', Bool.not_eq_false', List.length_map, ne_eq, Decidable.not_not, Int.not_lt, Int.not_le] at h193)
                      refine tr_skip ?_
                      refine pe_then_normal ?_
                      refine tr_sub hC (.cons (t := 0) rfl (.cons (t := 1) rfl (.cons (t := 7) rfl (.cons (t := 9) rfl (.cons (t := 10) rfl (.cons (t := 11) rfl (.cons (t := 12) rfl (.cons (t := 13) rfl (.cons (t := 14) rfl (.cons (t := 16) rfl .nil)))))))))) (.cons (t := 7) rfl (.cons (t := 12) rfl (.cons (t := 600) rfl (.cons (t := 16) rfl (.cons (t := 601) rfl .nil))))) rfl ?_
                      refine tr_seq ?_
                      refine tr_region (fun N43 hN => ?_)
                      refine lx (op_move rfl) rfl ?_
                      refine lx (op_fieldAddr rfl fl35_5 sz33) rfl ?_
                      refine lx (op_fieldAddr rfl fl33_2 sz23) rfl ?_
                      refine lx (op_fieldAddr rfl fl23_1 sz3) rfl ?_
                      refine lx (op_bload_one (m := 16) rfl rfl ag3 rfl) rfl ?_
                      refine lx (op_buildSlice (f := ip) (xs := [(recvF o (rW l[k])).2.partner.v.n]) (l := [(0, (Go.Operand.tmp 198))]) ze3 rfl rfl (by decide) el48 sz3 ip_len (.cons rfl (.one (by (first | exact One.eq rfl | exact One.mv _ _ _ _ _ | exact One.cl _ _ _ | exact One.map _ | exact One.sl _ _ _ | exact One.row _ _ _ _ | exact One.msl _ _ _ _ | exact One.ptr _ _ | exact One.b _ | exact One.cells _))) .nil) rfl (by decide)) rfl ?_
                      refine lxr (op_append (m := 600) (m' := 600) (kk := 200) rfl rfl rfl (.inl rfl) el48 ze3 sz3 by3 rfl ip_len (by rw [List.length_singleton]; omega) (by rw [List.length_singleton]; omega)) rfl ?_
                      refine lx (op_assign rfl) rfl ?_
                      refine lx_end ⟨by kernel_rfl, ?_⟩
                      refine pe_then_normal ?_
                      refine tr_sub hC (.cons (t := 0) rfl (.cons (t := 1) rfl (.cons (t := 7) rfl (.cons (t := 9) rfl (.cons (t := 10) rfl (.cons (t := 11) rfl (.cons (t := 12) rfl (.cons (t := 13) rfl (.cons (t := 14) rfl (.cons (t := 16) rfl .nil)))))))))) (.cons (t := 7) rfl (.cons (t := 12) rfl (.cons (t := 16) rfl (.cons (t := 601) rfl (.cons (t := 600) rfl .nil))))) rfl ?_
                      refine tr_region (fun N44 hN => ?_)
                      refine lx (op_fieldAddr rfl fl35_5 sz33) rfl ?_
                      refine lx (op_fieldAddr rfl fl33_0 sz3) rfl ?_
                      refine lx (op_bload_one (m := 16) rfl rfl ag3 rfl) rfl ?_
                      refine lx (op_aindex rfl rfl ar68 sz4 (by omega : (recvF o (rW l[k])).2.partner.g = (((recvF o (rW l[k])).2.partner.g.toNat : Nat) : Int)) (by omega)) rfl ?_
                      refine lxr (op_tstore (m := 12) (j := (recvF o (rW l[k])).2.partner.g.toNat) (fo := 0) (z' := false) rfl rfl rfl (.one (by (first | exact One.eq rfl | exact One.mv _ _ _ _ _ | exact One.cl _ _ _ | exact One.map _ | exact One.sl _ _ _ | exact One.row _ _ _ _ | exact One.msl _ _ _ _ | exact One.ptr _ _ | exact One.b _ | exact One.cells _))) sz4 rfl bp_len (by omega) hf.2.2 rfl rfl) rfl ?_
                      refine lx_end ⟨by kernel_rfl, ?_⟩
                      refine pe_block_normal ?_
                      refine pe_then_normal ?_
                      refine tr_sub hC (.cons (t := 0) rfl (.cons (t := 1) rfl (.cons (t := 7) rfl (.cons (t := 9) rfl (.cons (t := 10) rfl (.cons (t := 11) rfl (.cons (t := 12) rfl (.cons (t := 13) rfl (.cons (t := 14) rfl (.cons (t := 16) rfl .nil)))))))))) (.cons (t := 7) rfl (.cons (t := 12) rfl (.cons (t := 16) rfl (.cons (t := 601) rfl (.cons (t := 600) rfl .nil))))) rfl ?_
                      refine tr_seq ?_
                      refine tr_region (fun N45 hN => ?_)
                      refine lx (op_move rfl) rfl ?_
                      refine lx (op_fieldAddr rfl fl35_0 sz3) rfl ?_
                      refine lx (op_bload_one (m := 16) rfl rfl ag3 rfl) rfl ?_
                      refine lx (op_eql rfl rfl) rfl ?_
                      refine lx (op_aindex rfl rfl ar68 sz4 (by omega : gI l[k] = (((gI l[k]).toNat : Nat) : Int)) (by omega)) rfl ?_
                      refine lxr (op_tstore (m := 12) (j := (gI l[k]).toNat) (fo := 0) (z' := (decide ((recvF o (rW l[k])).2.status = 1))) rfl rfl rfl (.one (by (first | exact One.eq rfl | exact One.mv _ _ _ _ _ | exact One.cl _ _ _ | exact One.map _ | exact One.sl _ _ _ | exact One.row _ _ _ _ | exact One.msl _ _ _ _ | exact One.ptr _ _ | exact One.b _ | exact One.cells _))) sz4 rfl bp_len (by omega) (set_false hws _) rfl rfl) rfl ?_
                      refine lx_end ⟨by kernel_rfl, ?_⟩
                      refine pe_then_normal ?_
                      refine tr_sub hC (.cons (t := 0) rfl (.cons (t := 1) rfl (.cons (t := 7) rfl (.cons (t := 9) rfl (.cons (t := 10) rfl (.cons (t := 11) rfl (.cons (t := 12) rfl (.cons (t := 13) rfl .nil)))))))) (.cons (t := 7) rfl (.cons (t := 12) rfl (.cons (t := 601) rfl (.cons (t := 600) rfl .nil)))) rfl ?_
                      refine tr_seq ?_
                      refine tr_region (fun N46 hN => ?_)
                      refine lx (op_fieldAddr rfl fl28_4 sz25) rfl ?_
                      refine lx (op_bload_one (m := 7) rfl rfl ag25 rfl) rfl ?_
                      first | refine lx (op_len rfl el25) rfl ?_ | refine lx (op_len_row rfl el25) rfl ?_ | refine lx (op_len_mv rfl el25) rfl ?_ | refine lx (op_len_nil rfl el25) rfl ?_
                      refine lx (op_move rfl) rfl ?_
                      refine lx (op_gtr rfl rfl) rfl ?_
                      refine lx (op_move rfl) rfl ?_
                      refine lxs rfl rfl rfl guard_eq (.cons (t := 7) rfl (fun _ => Ent.refl _) .nil) (op_fieldAddr rfl fl28_6 sz3) rfl ?_
                      refine lxs rfl rfl rfl guard_eq (.cons (t := 216) rfl (fun h => entW h) .nil) (op_bload_one (m := 7) rfl rfl ag3 rfl) rfl ?_
                      refine lxs rfl rfl rfl guard_eq (.cons (t := 9) rfl (fun _ => Ent.refl _) .nil) (op_move rfl) rfl ?_
                      first | refine lxs rfl rfl rfl guard_eq (.cons (t := 218) rfl (fun h => entW h) .nil) (op_len rfl el48) rfl ?_ | refine lxs rfl rfl rfl guard_eq (.cons (t := 218) rfl (fun h => entW h) .nil) (op_len_row rfl el48) rfl ?_ | refine lxs rfl rfl rfl guard_eq (.cons (t := 218) rfl (fun h => entW h) .nil) (op_len_mv rfl el48) rfl ?_ | refine lxs rfl rfl rfl guard_eq (.cons (t := 218) rfl (fun h => entW h) .nil) (op_len_nil rfl el48) rfl ?_
                      refine lxs rfl rfl rfl guard_eq (.cons (t := 217) rfl (fun h => entW h) (.cons (t := 219) rfl (fun h => entW h) .nil)) (op_neq rfl rfl) rfl ?_
                      refine lx (op_pick_or rfl rfl) rfl ?_
                      refine lx (op_move rfl) rfl ?_
                      refine lxs rfl rfl rfl guard_eq (.cons (t := 7) rfl (fun _ => Ent.refl _) .nil) (op_fieldAddr rfl fl28_7 sz3) rfl ?_
                      refine lxs rfl rfl rfl guard_eq (.cons (t := 223) rfl (fun h => entW h) .nil) (op_bload_one (m := 7) rfl rfl ag3 rfl) rfl ?_
                      refine lxs rfl rfl rfl guard_eq (.cons (t := 10) rfl (fun _ => Ent.refl _) .nil) (op_move rfl) rfl ?_
                      first | refine lxs rfl rfl rfl guard_eq (.cons (t := 225) rfl (fun h => entW h) .nil) (op_len rfl el48) rfl ?_ | refine lxs rfl rfl rfl guard_eq (.cons (t := 225) rfl (fun h => entW h) .nil) (op_len_row rfl el48) rfl ?_ | refine lxs rfl rfl rfl guard_eq (.cons (t := 225) rfl (fun h => entW h) .nil) (op_len_mv rfl el48) rfl ?_ | refine lxs rfl rfl rfl guard_eq (.cons (t := 225) rfl (fun h => entW h) .nil) (op_len_nil rfl el48) rfl ?_
                      refine lxs rfl rfl rfl guard_eq (.cons (t := 224) rfl (fun h => entW h) (.cons (t := 226) rfl (fun h => entW h) .nil)) (op_neq rfl rfl) rfl ?_
                      refine lx (op_pick_or rfl rfl) rfl ?_
                      refine lx (op_move rfl) rfl ?_
                      refine lxs rfl rfl rfl guard_eq (.cons (t := 7) rfl (fun _ => Ent.refl _) .nil) (op_fieldAddr rfl fl28_4 sz25) rfl ?_
                      refine lxs rfl rfl rfl guard_eq (.cons (t := 230) rfl (fun h => entW h) .nil) (op_bload_one (m := 7) rfl rfl ag25 rfl) rfl ?_
                      first | refine lxs rfl rfl rfl guard_eq (.cons (t := 231) rfl (fun h => entW h) .nil) (op_len rfl el25) rfl ?_ | refine lxs rfl rfl rfl guard_eq (.cons (t := 231) rfl (fun h => entW h) .nil) (op_len_row rfl el25) rfl ?_ | refine lxs rfl rfl rfl guard_eq (.cons (t := 231) rfl (fun h => entW h) .nil) (op_len_mv rfl el25) rfl ?_ | refine lxs rfl rfl rfl guard_eq (.cons (t := 231) rfl (fun h => entW h) .nil) (op_len_nil rfl el25) rfl ?_
                      refine lxs rfl rfl rfl guard_eq (.cons (t := 9) rfl (fun _ => Ent.refl _) .nil) (op_move rfl) rfl ?_
                      first | refine lxs rfl rfl rfl guard_eq (.cons (t := 233) rfl (fun h => entW h) .nil) (op_len rfl el48) rfl ?_ | refine lxs rfl rfl rfl guard_eq (.cons (t := 233) rfl (fun h => entW h) .nil) (op_len_row rfl el48) rfl ?_ | refine lxs rfl rfl rfl guard_eq (.cons (t := 233) rfl (fun h => entW h) .nil) (op_len_mv rfl el48) rfl ?_ | refine lxs rfl rfl rfl guard_eq (.cons (t := 233) rfl (fun h => entW h) .nil) (op_len_nil rfl el48) rfl ?_
                      refine lxs rfl rfl rfl guard_eq (.cons (t := 10) rfl (fun _ => Ent.refl _) .nil) (op_move rfl) rfl ?_
                      first | refine lxs rfl rfl rfl guard_eq (.cons (t := 235) rfl (fun h => entW h) .nil) (op_len rfl el48) rfl ?_ | refine lxs rfl rfl rfl guard_eq (.cons (t := 235) rfl (fun h => entW h) .nil) (op_len_row rfl el48) rfl ?_ | refine lxs rfl rfl rfl guard_eq (.cons (t := 235) rfl (fun h => entW h) .nil) (op_len_mv rfl el48) rfl ?_ | refine lxs rfl rfl rfl guard_eq (.cons (t := 235) rfl (fun h => entW h) .nil) (op_len_nil rfl el48) rfl ?_
                      refine lxs rfl rfl rfl guard_eq (.cons (t := 234) rfl (fun h => entW h) (.cons (t := 236) rfl (fun h => entW h) .nil)) (op_sub rfl rfl (by first | omega | (simp only [List.length_append, List.length_singleton]; omega))) rfl ?_
                      refine lxs rfl rfl rfl guard_eq (.cons (t := 232) rfl (fun h => entW h) (.cons (t := 237) rfl (fun h => entW h) .nil)) (op_neq rfl rfl) rfl ?_
                      refine lx (op_pick_or rfl rfl) rfl ?_
                      refine lx_end ⟨by kernel_rfl, ?_⟩
                      refine pe_then_normal ?_
                      refine tr_sub hC (.cons (t := 0) rfl (.cons (t := 1) rfl (.cons (t := 7) rfl (.cons (t := 9) rfl (.cons (t := 10) rfl (.cons (t := 11) rfl (.cons (t := 12) rfl (.cons (t := 13) rfl (.cons (t := 239) rfl .nil))))))))) (.cons (t := 7) rfl (.cons (t := 12) rfl (.cons (t := 601) rfl (.cons (t := 600) rfl .nil)))) rfl ?_
                      refine tr_cond rfl (fun h239 => ?_) (fun h239 => ?_)
                      · first
                        | (have hck := (pl_snd hp (by omega) (hb _ (List.getElem_mem ..)) hnw).checks (by omega); simp [sndF, h76, h98] at hck h239; omega)
                        | (have hck := (pl_snd hp (by omega) (hb _ (List.getElem_mem ..)) hnw).checks (by omega); simp [sndF, h76] at hck h239; omega)
                        | (have hck := (pl_rcv hp (by omega) (hb _ (List.getElem_mem ..)) hnw).checks (by omega); simp [rcvF, h155, h168] at hck h239; omega)
                        | (have hck := (pl_rcv hp (by omega) (hb _ (List.getElem_mem ..)) hnw).checks (by omega); simp [rcvF, hnb] at hck h239; omega)
                        | (have hck := (pl_cls hp (hb l[k] (List.getElem_mem ..))).checks (by omega); simp [clsF] at hck h239; omega)
                      · (try simp only [Bool.and_eq_true, Bool.or_eq_true, Bool.and_eq_false_iff, Bool.or_eq_false_iff, decide_eq_true_eq, decide_eq_false_iff_not, Bool.not_eq_true', Bool.not_eq_false', List.length_map, ne_eq, Decidable.not_not, Int.not_lt, Int.not_le] at h239)
                        refine tr_skip ?_
                        refine pe_block_normal ?_
                        refine pe_then_normal ?_
                        refine tr_sub hC (.cons (t := 0) rfl (.cons (t := 1) rfl (.cons (t := 7) rfl (.cons (t := 9) rfl (.cons (t := 10) rfl (.cons (t := 11) rfl (.cons (t := 12) rfl (.cons (t := 13) rfl .nil)))))))) (.cons (t := 7) rfl (.cons (t := 12) rfl (.cons (t := 601) rfl (.cons (t := 600) rfl .nil)))) rfl ?_
                        refine tr_region (fun N9 hN => ?_)
                        refine lx (op_move rfl) rfl ?_
                        refine lx (op_add rfl rfl (by omega)) rfl ?_
                        refine lx (op_assign rfl) rfl ?_
                        refine lx_end ⟨by kernel_rfl, ?_⟩
                        refine pe_round (⟨(k + 1, (recvF o (rW l[k])).1, sent ++ [(recvF o (rW l[k])).2.partner.v.n], rcd ++ [(recvF o (rW l[k])).2.value.n], cl, (ws.set (recvF o (rW l[k])).2.partner.g.toNat false).set (gI l[k]).toNat (decide ((recvF o (rW l[k])).2.status = 1)), (N43, 200), (N39, 166)), by dsimp only; omega, by dsimp only; rw [← fold_step (by omega) hk2]; simp [stepF, hws, rcvF, h59, h141, h155, h168]⟩) (by dsimp only; omega) (pe_st hC ?_ ?_ rfl)
                        · try dsimp only [List.cons_append, List.nil_append]
                          first | refine SubF.cons rfl ?_ | (refine SubF.ent rfl ?_ ?_; · repeat (first | exact Ents.nil | refine Ents.cons ?_ ?_ | refine Ent.tup ?_ | refine Ent.agg ?_ | exact Ent.row _ _ _ _ | exact Ent.nil _ _ | exact Ent.func _ | exact Ent.refl _ | exact Ent.of_eq rfl | refine Ent.cells ?_))
                          first | refine SubF.cons rfl ?_ | (refine SubF.ent rfl ?_ ?_; · repeat (first | exact Ents.nil | refine Ents.cons ?_ ?_ | refine Ent.tup ?_ | refine Ent.agg ?_ | exact Ent.row _ _ _ _ | exact Ent.nil _ _ | exact Ent.func _ | exact Ent.refl _ | exact Ent.of_eq rfl | refine Ent.cells ?_))
                          first | refine SubF.cons rfl ?_ | (refine SubF.ent rfl ?_ ?_; · repeat (first | exact Ents.nil | refine Ents.cons ?_ ?_ | refine Ent.tup ?_ | refine Ent.agg ?_ | exact Ent.row _ _ _ _ | exact Ent.nil _ _ | exact Ent.func _ | exact Ent.refl _ | exact Ent.of_eq rfl | refine Ent.cells ?_))
                          first | refine SubF.cons rfl ?_ | (refine SubF.ent rfl ?_ ?_; · repeat (first | exact Ents.nil | refine Ents.cons ?_ ?_ | refine Ent.tup ?_ | refine Ent.agg ?_ | exact Ent.row _ _ _ _ | exact Ent.nil _ _ | exact Ent.func _ | exact Ent.refl _ | exact Ent.of_eq rfl | refine Ent.cells ?_))
                          first | refine SubF.cons rfl ?_ | (refine SubF.ent rfl ?_ ?_; · repeat (first | exact Ents.nil | refine Ents.cons ?_ ?_ | refine Ent.tup ?_ | refine Ent.agg ?_ | exact Ent.row _ _ _ _ | exact Ent.nil _ _ | exact Ent.func _ | exact Ent.refl _ | exact Ent.of_eq rfl | refine Ent.cells ?_))
                          first | refine SubF.cons rfl ?_ | (refine SubF.ent rfl ?_ ?_; · repeat (first | exact Ents.nil | refine Ents.cons ?_ ?_ | refine Ent.tup ?_ | refine Ent.agg ?_ | exact Ent.row _ _ _ _ | exact Ent.nil _ _ | exact Ent.func _ | exact Ent.refl _ | exact Ent.of_eq rfl | refine Ent.cells ?_))
                          first | refine SubF.cons rfl ?_ | (refine SubF.ent rfl ?_ ?_; · repeat (first | exact Ents.nil | refine Ents.cons ?_ ?_ | refine Ent.tup ?_ | refine Ent.agg ?_ | exact Ent.row _ _ _ _ | exact Ent.nil _ _ | exact Ent.func _ | exact Ent.refl _ | exact Ent.of_eq rfl | refine Ent.cells ?_))
                          first | refine SubF.cons rfl ?_ | (refine SubF.ent rfl ?_ ?_; · repeat (first | exact Ents.nil | refine Ents.cons ?_ ?_ | refine Ent.tup ?_ | refine Ent.agg ?_ | exact Ent.row _ _ _ _ | exact Ent.nil _ _ | exact Ent.func _ | exact Ent.refl _ | exact Ent.of_eq rfl | refine Ent.cells ?_))
                          exact SubF.nil
                        · try dsimp only [List.cons_append, List.nil_append]
                          repeat (first | exact SubL.nil | refine SubL.cons rfl ?_)
                  · (try simp only [Bool.and_eq_true, Bool.or_eq_true, Bool.and_eq_false_iff, Bool.or_eq_false_iff, decide_eq_true_eq, decide_eq_false_iff_not, Bool.not_eq_true', Bool.not_eq_false', List.length_map, ne_eq, Decidable.not_not, Int.not_lt, Int.not_le] at h168)
                    refine tr_skip ?_
                    refine pe_block_normal ?_
                    refine pe_then_normal ?_
                    refine tr_sub hC (.cons (t := 0) rfl (.cons (t := 1) rfl (.cons (t := 7) rfl (.cons (t := 9) rfl (.cons (t := 10) rfl (.cons (t := 11) rfl (.cons (t := 12) rfl (.cons (t := 13) rfl (.cons (t := 14) rfl (.cons (t := 16) rfl .nil)))))))))) (.cons (t := 7) rfl (.cons (t := 12) rfl (.cons (t := 600) rfl (.cons (t := 16) rfl (.cons (t := 601) rfl .nil))))) rfl ?_
                    refine tr_seq ?_
                    refine tr_region (fun N45 hN => ?_)
                    refine lx (op_move rfl) rfl ?_
                    refine lx (op_fieldAddr rfl fl35_0 sz3) rfl ?_
                    refine lx (op_bload_one (m := 16) rfl rfl ag3 rfl) rfl ?_
                    refine lx (op_eql rfl rfl) rfl ?_
                    refine lx (op_aindex rfl rfl ar68 sz4 (by omega : gI l[k] = (((gI l[k]).toNat : Nat) : Int)) (by omega)) rfl ?_
                    refine lxr (op_tstore (m := 12) (j := (gI l[k]).toNat) (fo := 0) (z' := (decide ((recvF o (rW l[k])).2.status = 1))) rfl rfl rfl (.one (by (first | exact One.eq rfl | exact One.mv _ _ _ _ _ | exact One.cl _ _ _ | exact One.map _ | exact One.sl _ _ _ | exact One.row _ _ _ _ | exact One.msl _ _ _ _ | exact One.ptr _ _ | exact One.b _ | exact One.cells _))) sz4 rfl bp_len (by omega) hws rfl rfl) rfl ?_
                    refine lx_end ⟨by kernel_rfl, ?_⟩
                    refine pe_then_normal ?_
                    refine tr_sub hC (.cons (t := 0) rfl (.cons (t := 1) rfl (.cons (t := 7) rfl (.cons (t := 9) rfl (.cons (t := 10) rfl (.cons (t := 11) rfl (.cons (t := 12) rfl (.cons (t := 13) rfl .nil)))))))) (.cons (t := 7) rfl (.cons (t := 12) rfl (.cons (t := 600) rfl (.cons (t := 601) rfl .nil)))) rfl ?_
                    refine tr_seq ?_
                    refine tr_region (fun N46 hN => ?_)
                    refine lx (op_fieldAddr rfl fl28_4 sz25) rfl ?_
                    refine lx (op_bload_one (m := 7) rfl rfl ag25 rfl) rfl ?_
                    first | refine lx (op_len rfl el25) rfl ?_ | refine lx (op_len_row rfl el25) rfl ?_ | refine lx (op_len_mv rfl el25) rfl ?_ | refine lx (op_len_nil rfl el25) rfl ?_
                    refine lx (op_move rfl) rfl ?_
                    refine lx (op_gtr rfl rfl) rfl ?_
                    refine lx (op_move rfl) rfl ?_
                    refine lxs rfl rfl rfl guard_eq (.cons (t := 7) rfl (fun _ => Ent.refl _) .nil) (op_fieldAddr rfl fl28_6 sz3) rfl ?_
                    refine lxs rfl rfl rfl guard_eq (.cons (t := 216) rfl (fun h => entW h) .nil) (op_bload_one (m := 7) rfl rfl ag3 rfl) rfl ?_
                    refine lxs rfl rfl rfl guard_eq (.cons (t := 9) rfl (fun _ => Ent.refl _) .nil) (op_move rfl) rfl ?_
                    first | refine lxs rfl rfl rfl guard_eq (.cons (t := 218) rfl (fun h => entW h) .nil) (op_len rfl el48) rfl ?_ | refine lxs rfl rfl rfl guard_eq (.cons (t := 218) rfl (fun h => entW h) .nil) (op_len_row rfl el48) rfl ?_ | refine lxs rfl rfl rfl guard_eq (.cons (t := 218) rfl (fun h => entW h) .nil) (op_len_mv rfl el48) rfl ?_ | refine lxs rfl rfl rfl guard_eq (.cons (t := 218) rfl (fun h => entW h) .nil) (op_len_nil rfl el48) rfl ?_
                    refine lxs rfl rfl rfl guard_eq (.cons (t := 217) rfl (fun h => entW h) (.cons (t := 219) rfl (fun h => entW h) .nil)) (op_neq rfl rfl) rfl ?_
                    refine lx (op_pick_or rfl rfl) rfl ?_
                    refine lx (op_move rfl) rfl ?_
                    refine lxs rfl rfl rfl guard_eq (.cons (t := 7) rfl (fun _ => Ent.refl _) .nil) (op_fieldAddr rfl fl28_7 sz3) rfl ?_
                    refine lxs rfl rfl rfl guard_eq (.cons (t := 223) rfl (fun h => entW h) .nil) (op_bload_one (m := 7) rfl rfl ag3 rfl) rfl ?_
                    refine lxs rfl rfl rfl guard_eq (.cons (t := 10) rfl (fun _ => Ent.refl _) .nil) (op_move rfl) rfl ?_
                    first | refine lxs rfl rfl rfl guard_eq (.cons (t := 225) rfl (fun h => entW h) .nil) (op_len rfl el48) rfl ?_ | refine lxs rfl rfl rfl guard_eq (.cons (t := 225) rfl (fun h => entW h) .nil) (op_len_row rfl el48) rfl ?_ | refine lxs rfl rfl rfl guard_eq (.cons (t := 225) rfl (fun h => entW h) .nil) (op_len_mv rfl el48) rfl ?_ | refine lxs rfl rfl rfl guard_eq (.cons (t := 225) rfl (fun h => entW h) .nil) (op_len_nil rfl el48) rfl ?_
                    refine lxs rfl rfl rfl guard_eq (.cons (t := 224) rfl (fun h => entW h) (.cons (t := 226) rfl (fun h => entW h) .nil)) (op_neq rfl rfl) rfl ?_
                    refine lx (op_pick_or rfl rfl) rfl ?_
                    refine lx (op_move rfl) rfl ?_
                    refine lxs rfl rfl rfl guard_eq (.cons (t := 7) rfl (fun _ => Ent.refl _) .nil) (op_fieldAddr rfl fl28_4 sz25) rfl ?_
                    refine lxs rfl rfl rfl guard_eq (.cons (t := 230) rfl (fun h => entW h) .nil) (op_bload_one (m := 7) rfl rfl ag25 rfl) rfl ?_
                    first | refine lxs rfl rfl rfl guard_eq (.cons (t := 231) rfl (fun h => entW h) .nil) (op_len rfl el25) rfl ?_ | refine lxs rfl rfl rfl guard_eq (.cons (t := 231) rfl (fun h => entW h) .nil) (op_len_row rfl el25) rfl ?_ | refine lxs rfl rfl rfl guard_eq (.cons (t := 231) rfl (fun h => entW h) .nil) (op_len_mv rfl el25) rfl ?_ | refine lxs rfl rfl rfl guard_eq (.cons (t := 231) rfl (fun h => entW h) .nil) (op_len_nil rfl el25) rfl ?_
                    refine lxs rfl rfl rfl guard_eq (.cons (t := 9) rfl (fun _ => Ent.refl _) .nil) (op_move rfl) rfl ?_
                    first | refine lxs rfl rfl rfl guard_eq (.cons (t := 233) rfl (fun h => entW h) .nil) (op_len rfl el48) rfl ?_ | refine lxs rfl rfl rfl guard_eq (.cons (t := 233) rfl (fun h => entW h) .nil) (op_len_row rfl el48) rfl ?_ | refine lxs rfl rfl rfl guard_eq (.cons (t := 233) rfl (fun h => entW h) .nil) (op_len_mv rfl el48) rfl ?_ | refine lxs rfl rfl rfl guard_eq (.cons (t := 233) rfl (fun h => entW h) .nil) (op_len_nil rfl el48) rfl ?_
                    refine lxs rfl rfl rfl guard_eq (.cons (t := 10) rfl (fun _ => Ent.refl _) .nil) (op_move rfl) rfl ?_
                    first | refine lxs rfl rfl rfl guard_eq (.cons (t := 235) rfl (fun h => entW h) .nil) (op_len rfl el48) rfl ?_ | refine lxs rfl rfl rfl guard_eq (.cons (t := 235) rfl (fun h => entW h) .nil) (op_len_row rfl el48) rfl ?_ | refine lxs rfl rfl rfl guard_eq (.cons (t := 235) rfl (fun h => entW h) .nil) (op_len_mv rfl el48) rfl ?_ | refine lxs rfl rfl rfl guard_eq (.cons (t := 235) rfl (fun h => entW h) .nil) (op_len_nil rfl el48) rfl ?_
                    refine lxs rfl rfl rfl guard_eq (.cons (t := 234) rfl (fun h => entW h) (.cons (t := 236) rfl (fun h => entW h) .nil)) (op_sub rfl rfl (by first | omega | (simp only [List.length_append, List.length_singleton]; omega))) rfl ?_
                    refine lxs rfl rfl rfl guard_eq (.cons (t := 232) rfl (fun h => entW h) (.cons (t := 237) rfl (fun h => entW h) .nil)) (op_neq rfl rfl) rfl ?_
                    refine lx (op_pick_or rfl rfl) rfl ?_
                    refine lx_end ⟨by kernel_rfl, ?_⟩
                    refine pe_then_normal ?_
                    refine tr_sub hC (.cons (t := 0) rfl (.cons (t := 1) rfl (.cons (t := 7) rfl (.cons (t := 9) rfl (.cons (t := 10) rfl (.cons (t := 11) rfl (.cons (t := 12) rfl (.cons (t := 13) rfl (.cons (t := 239) rfl .nil))))))))) (.cons (t := 7) rfl (.cons (t := 12) rfl (.cons (t := 600) rfl (.cons (t := 601) rfl .nil)))) rfl ?_
                    refine tr_cond rfl (fun h239 => ?_) (fun h239 => ?_)
                    · first
                      | (have hck := (pl_snd hp (by omega) (hb _ (List.getElem_mem ..)) hnw).checks (by omega); simp [sndF, h76, h98] at hck h239; omega)
                      | (have hck := (pl_snd hp (by omega) (hb _ (List.getElem_mem ..)) hnw).checks (by omega); simp [sndF, h76] at hck h239; omega)
                      | (have hck := (pl_rcv hp (by omega) (hb _ (List.getElem_mem ..)) hnw).checks (by omega); simp [rcvF, h155, h168] at hck h239; omega)
                      | (have hck := (pl_rcv hp (by omega) (hb _ (List.getElem_mem ..)) hnw).checks (by omega); simp [rcvF, hnb] at hck h239; omega)
                      | (have hck := (pl_cls hp (hb l[k] (List.getElem_mem ..))).checks (by omega); simp [clsF] at hck h239; omega)
                    · (try simp only [Bool.and_eq_true, Bool.or_eq_true, Bool.and_eq_false_iff, Bool.or_eq_false_iff, decide_eq_true_eq, decide_eq_false_iff_not, Bool.not_eq_true', Bool.not_eq_false', List.length_map, ne_eq, Decidable.not_not, Int.not_lt, Int.not_le] at h239)
                      refine tr_skip ?_
                      refine pe_block_normal ?_
                      refine pe_then_normal ?_
                      refine tr_sub hC (.cons (t := 0) rfl (.cons (t := 1) rfl (.cons (t := 7) rfl (.cons (t := 9) rfl (.cons (t := 10) rfl (.cons (t := 11) rfl (.cons (t := 12) rfl (.cons (t := 13) rfl .nil)))))))) (.cons (t := 7) rfl (.cons (t := 12) rfl (.cons (t := 600) rfl (.cons (t := 601) rfl .nil)))) rfl ?_
                      refine tr_region (fun N9 hN => ?_)
                      refine lx (op_move rfl) rfl ?_
                      refine lx (op_add rfl rfl (by omega)) rfl ?_
                      refine lx (op_assign rfl) rfl ?_
                      refine lx_end ⟨by kernel_rfl, ?_⟩
                      refine pe_round (⟨(k + 1, (recvF o (rW l[k])).1, sent, rcd ++ [(recvF o (rW l[k])).2.value.n], cl, (ws).set (gI l[k]).toNat (decide ((recvF o (rW l[k])).2.status = 1)), i, (N39, 166)), by dsimp only; omega, by dsimp only; rw [← fold_step (by omega) hk2]; simp [stepF, hws, rcvF, h59, h141, h155, h168]⟩) (by dsimp only; omega) (pe_st hC ?_ ?_ rfl)
                      · try dsimp only [List.cons_append, List.nil_append]
                        first | refine SubF.cons rfl ?_ | (refine SubF.ent rfl ?_ ?_; · repeat (first | exact Ents.nil | refine Ents.cons ?_ ?_ | refine Ent.tup ?_ | refine Ent.agg ?_ | exact Ent.row _ _ _ _ | exact Ent.nil _ _ | exact Ent.func _ | exact Ent.refl _ | exact Ent.of_eq rfl | refine Ent.cells ?_))
                        first | refine SubF.cons rfl ?_ | (refine SubF.ent rfl ?_ ?_; · repeat (first | exact Ents.nil | refine Ents.cons ?_ ?_ | refine Ent.tup ?_ | refine Ent.agg ?_ | exact Ent.row _ _ _ _ | exact Ent.nil _ _ | exact Ent.func _ | exact Ent.refl _ | exact Ent.of_eq rfl | refine Ent.cells ?_))
                        first | refine SubF.cons rfl ?_ | (refine SubF.ent rfl ?_ ?_; · repeat (first | exact Ents.nil | refine Ents.cons ?_ ?_ | refine Ent.tup ?_ | refine Ent.agg ?_ | exact Ent.row _ _ _ _ | exact Ent.nil _ _ | exact Ent.func _ | exact Ent.refl _ | exact Ent.of_eq rfl | refine Ent.cells ?_))
                        first | refine SubF.cons rfl ?_ | (refine SubF.ent rfl ?_ ?_; · repeat (first | exact Ents.nil | refine Ents.cons ?_ ?_ | refine Ent.tup ?_ | refine Ent.agg ?_ | exact Ent.row _ _ _ _ | exact Ent.nil _ _ | exact Ent.func _ | exact Ent.refl _ | exact Ent.of_eq rfl | refine Ent.cells ?_))
                        first | refine SubF.cons rfl ?_ | (refine SubF.ent rfl ?_ ?_; · repeat (first | exact Ents.nil | refine Ents.cons ?_ ?_ | refine Ent.tup ?_ | refine Ent.agg ?_ | exact Ent.row _ _ _ _ | exact Ent.nil _ _ | exact Ent.func _ | exact Ent.refl _ | exact Ent.of_eq rfl | refine Ent.cells ?_))
                        first | refine SubF.cons rfl ?_ | (refine SubF.ent rfl ?_ ?_; · repeat (first | exact Ents.nil | refine Ents.cons ?_ ?_ | refine Ent.tup ?_ | refine Ent.agg ?_ | exact Ent.row _ _ _ _ | exact Ent.nil _ _ | exact Ent.func _ | exact Ent.refl _ | exact Ent.of_eq rfl | refine Ent.cells ?_))
                        first | refine SubF.cons rfl ?_ | (refine SubF.ent rfl ?_ ?_; · repeat (first | exact Ents.nil | refine Ents.cons ?_ ?_ | refine Ent.tup ?_ | refine Ent.agg ?_ | exact Ent.row _ _ _ _ | exact Ent.nil _ _ | exact Ent.func _ | exact Ent.refl _ | exact Ent.of_eq rfl | refine Ent.cells ?_))
                        first | refine SubF.cons rfl ?_ | (refine SubF.ent rfl ?_ ?_; · repeat (first | exact Ents.nil | refine Ents.cons ?_ ?_ | refine Ent.tup ?_ | refine Ent.agg ?_ | exact Ent.row _ _ _ _ | exact Ent.nil _ _ | exact Ent.func _ | exact Ent.refl _ | exact Ent.of_eq rfl | refine Ent.cells ?_))
                        exact SubF.nil
                      · try dsimp only [List.cons_append, List.nil_append]
                        repeat (first | exact SubL.nil | refine SubL.cons rfl ?_)
              · (try simp only [Bool.and_eq_true, Bool.or_eq_true, Bool.and_eq_false_iff, Bool.or_eq_false_iff, decide_eq_true_eq, decide_eq_false_iff_not, Bool.not_eq_true', Bool.not_eq_false', List.length_map, ne_eq, Decidable.not_not, Int.not_lt, Int.not_le] at h155)
                have hnb : ¬ ((recvF o (rW l[k])).2.status = 0 ∧ (recvF o (rW l[k])).2.ok = true) := by
                  rintro ⟨e1, e2⟩
                  rcases h155 with h | h
                  · exact h e1
                  · rw [e2] at h; cases h
                refine tr_skip ?_
                refine pe_block_normal ?_
                refine pe_then_normal ?_
                refine tr_sub hC (.cons (t := 0) rfl (.cons (t := 1) rfl (.cons (t := 7) rfl (.cons (t := 9) rfl (.cons (t := 10) rfl (.cons (t := 11) rfl (.cons (t := 12) rfl (.cons (t := 13) rfl (.cons (t := 14) rfl (.cons (t := 16) rfl .nil)))))))))) (.cons (t := 7) rfl (.cons (t := 12) rfl (.cons (t := 600) rfl (.cons (t := 601) rfl (.cons (t := 16) rfl .nil))))) rfl ?_
                refine tr_seq ?_
                refine tr_region (fun N45 hN => ?_)
                refine lx (op_move rfl) rfl ?_
                refine lx (op_fieldAddr rfl fl35_0 sz3) rfl ?_
                refine lx (op_bload_one (m := 16) rfl rfl ag3 rfl) rfl ?_
                refine lx (op_eql rfl rfl) rfl ?_
                refine lx (op_aindex rfl rfl ar68 sz4 (by omega : gI l[k] = (((gI l[k]).toNat : Nat) : Int)) (by omega)) rfl ?_
                refine lxr (op_tstore (m := 12) (j := (gI l[k]).toNat) (fo := 0) (z' := (decide ((recvF o (rW l[k])).2.status = 1))) rfl rfl rfl (.one (by (first | exact One.eq rfl | exact One.mv _ _ _ _ _ | exact One.cl _ _ _ | exact One.map _ | exact One.sl _ _ _ | exact One.row _ _ _ _ | exact One.msl _ _ _ _ | exact One.ptr _ _ | exact One.b _ | exact One.cells _))) sz4 rfl bp_len (by omega) hws rfl rfl) rfl ?_
                refine lx_end ⟨by kernel_rfl, ?_⟩
                refine pe_then_normal ?_
                refine tr_sub hC (.cons (t := 0) rfl (.cons (t := 1) rfl (.cons (t := 7) rfl (.cons (t := 9) rfl (.cons (t := 10) rfl (.cons (t := 11) rfl (.cons (t := 12) rfl (.cons (t := 13) rfl .nil)))))))) (.cons (t := 7) rfl (.cons (t := 12) rfl (.cons (t := 600) rfl (.cons (t := 601) rfl .nil)))) rfl ?_
                refine tr_seq ?_
                refine tr_region (fun N46 hN => ?_)
                refine lx (op_fieldAddr rfl fl28_4 sz25) rfl ?_
                refine lx (op_bload_one (m := 7) rfl rfl ag25 rfl) rfl ?_
                first | refine lx (op_len rfl el25) rfl ?_ | refine lx (op_len_row rfl el25) rfl ?_ | refine lx (op_len_mv rfl el25) rfl ?_ | refine lx (op_len_nil rfl el25) rfl ?_
                refine lx (op_move rfl) rfl ?_
                refine lx (op_gtr rfl rfl) rfl ?_
                refine lx (op_move rfl) rfl ?_
                refine lxs rfl rfl rfl guard_eq (.cons (t := 7) rfl (fun _ => Ent.refl _) .nil) (op_fieldAddr rfl fl28_6 sz3) rfl ?_
                refine lxs rfl rfl rfl guard_eq (.cons (t := 216) rfl (fun h => entW h) .nil) (op_bload_one (m := 7) rfl rfl ag3 rfl) rfl ?_
                refine lxs rfl rfl rfl guard_eq (.cons (t := 9) rfl (fun _ => Ent.refl _) .nil) (op_move rfl) rfl ?_
                first | refine lxs rfl rfl rfl guard_eq (.cons (t := 218) rfl (fun h => entW h) .nil) (op_len rfl el48) rfl ?_ | refine lxs rfl rfl rfl guard_eq (.cons (t := 218) rfl (fun h => entW h) .nil) (op_len_row rfl el48) rfl ?_ | refine lxs rfl rfl rfl guard_eq (.cons (t := 218) rfl (fun h => entW h) .nil) (op_len_mv rfl el48) rfl ?_ | refine lxs rfl rfl rfl guard_eq (.cons (t := 218) rfl (fun h => entW h) .nil) (op_len_nil rfl el48) rfl ?_
                refine lxs rfl rfl rfl guard_eq (.cons (t := 217) rfl (fun h => entW h) (.cons (t := 219) rfl (fun h => entW h) .nil)) (op_neq rfl rfl) rfl ?_
                refine lx (op_pick_or rfl rfl) rfl ?_
                refine lx (op_move rfl) rfl ?_
                refine lxs rfl rfl rfl guard_eq (.cons (t := 7) rfl (fun _ => Ent.refl _) .nil) (op_fieldAddr rfl fl28_7 sz3) rfl ?_
                refine lxs rfl rfl rfl guard_eq (.cons (t := 223) rfl (fun h => entW h) .nil) (op_bload_one (m := 7) rfl rfl ag3 rfl) rfl ?_
                refine lxs rfl rfl rfl guard_eq (.cons (t := 10) rfl (fun _ => Ent.refl _) .nil) (op_move rfl) rfl ?_
                first | refine lxs rfl rfl rfl guard_eq (.cons (t := 225) rfl (fun h => entW h) .nil) (op_len rfl el48) rfl ?_ | refine lxs rfl rfl rfl guard_eq (.cons (t := 225) rfl (fun h => entW h) .nil) (op_len_row rfl el48) rfl ?_ | refine lxs rfl rfl rfl guard_eq (.cons (t := 225) rfl (fun h => entW h) .nil) (op_len_mv rfl el48) rfl ?_ | refine lxs rfl rfl rfl guard_eq (.cons (t := 225) rfl (fun h => entW h) .nil) (op_len_nil rfl el48) rfl ?_
                refine lxs rfl rfl rfl guard_eq (.cons (t := 224) rfl (fun h => entW h) (.cons (t := 226) rfl (fun h => entW h) .nil)) (op_neq rfl rfl) rfl ?_
                refine lx (op_pick_or rfl rfl) rfl ?_
                refine lx (op_move rfl) rfl ?_
                refine lxs rfl rfl rfl guard_eq (.cons (t := 7) rfl (fun _ => Ent.refl _) .nil) (op_fieldAddr rfl fl28_4 sz25) rfl ?_
                refine lxs rfl rfl rfl guard_eq (.cons (t := 230) rfl (fun h => entW h) .nil) (op_bload_one (m := 7) rfl rfl ag25 rfl) rfl ?_
                first | refine lxs rfl rfl rfl guard_eq (.cons (t := 231) rfl (fun h => entW h) .nil) (op_len rfl el25) rfl ?_ | refine lxs rfl rfl rfl guard_eq (.cons (t := 231) rfl (fun h => entW h) .nil) (op_len_row rfl el25) rfl ?_ | refine lxs rfl rfl rfl guard_eq (.cons (t := 231) rfl (fun h => entW h) .nil) (op_len_mv rfl el25) rfl ?_ | refine lxs rfl rfl rfl guard_eq (.cons (t := 231) rfl (fun h => entW h) .nil) (op_len_nil rfl el25) rfl ?_
                refine lxs rfl rfl rfl guard_eq (.cons (t := 9) rfl (fun _ => Ent.refl _) .nil) (op_move rfl) rfl ?_
                first | refine lxs rfl rfl rfl guard_eq (.cons (t := 233) rfl (fun h => entW h) .nil) (op_len rfl el48) rfl ?_ | refine lxs rfl rfl rfl guard_eq (.cons (t := 233) rfl (fun h => entW h) .nil) (op_len_row rfl el48) rfl ?_ | refine lxs rfl rfl rfl guard_eq (.cons (t := 233) rfl (fun h => entW h) .nil) (op_len_mv rfl el48) rfl ?_ | refine lxs rfl rfl rfl guard_eq (.cons (t := 233) rfl (fun h => entW h) .nil) (op_len_nil rfl el48) rfl ?_
                refine lxs rfl rfl rfl guard_eq (.cons (t := 10) rfl (fun _ => Ent.refl _) .nil) (op_move rfl) rfl ?_
                first | refine lxs rfl rfl rfl guard_eq (.cons (t := 235) rfl (fun h => entW h) .nil) (op_len rfl el48) rfl ?_ | refine lxs rfl rfl rfl guard_eq (.cons (t := 235) rfl (fun h => entW h) .nil) (op_len_row rfl el48) rfl ?_ | refine lxs rfl rfl rfl guard_eq (.cons (t := 235) rfl (fun h => entW h) .nil) (op_len_mv rfl el48) rfl ?_ | refine lxs rfl rfl rfl guard_eq (.cons (t := 235) rfl (fun h => entW h) .nil) (op_len_nil rfl el48) rfl ?_
                refine lxs rfl rfl rfl guard_eq (.cons (t := 234) rfl (fun h => entW h) (.cons (t := 236) rfl (fun h => entW h) .nil)) (op_sub rfl rfl (by first | omega | (simp only [List.length_append, List.length_singleton]; omega))) rfl ?_
                refine lxs rfl rfl rfl guard_eq (.cons (t := 232) rfl (fun h => entW h) (.cons (t := 237) rfl (fun h => entW h) .nil)) (op_neq rfl rfl) rfl ?_
                refine lx (op_pick_or rfl rfl) rfl ?_
                refine lx_end ⟨by kernel_rfl, ?_⟩
                refine pe_then_normal ?_
                refine tr_sub hC (.cons (t := 0) rfl (.cons (t := 1) rfl (.cons (t := 7) rfl (.cons (t := 9) rfl (.cons (t := 10) rfl (.cons (t := 11) rfl (.cons (t := 12) rfl (.cons (t := 13) rfl (.cons (t := 239) rfl .nil))))))))) (.cons (t := 7) rfl (.cons (t := 12) rfl (.cons (t := 600) rfl (.cons (t := 601) rfl .nil)))) rfl ?_
                refine tr_cond rfl (fun h239 => ?_) (fun h239 => ?_)
                · first
                  | (have hck := (pl_snd hp (by omega) (hb _ (List.getElem_mem ..)) hnw).checks (by omega); simp [sndF, h76, h98] at hck h239; omega)
                  | (have hck := (pl_snd hp (by omega) (hb _ (List.getElem_mem ..)) hnw).checks (by omega); simp [sndF, h76] at hck h239; omega)
                  | (have hck := (pl_rcv hp (by omega) (hb _ (List.getElem_mem ..)) hnw).checks (by omega); simp [rcvF, h155, h168] at hck h239; omega)
                  | (have hck := (pl_rcv hp (by omega) (hb _ (List.getElem_mem ..)) hnw).checks (by omega); simp [rcvF, hnb] at hck h239; omega)
                  | (have hck := (pl_cls hp (hb l[k] (List.getElem_mem ..))).checks (by omega); simp [clsF] at hck h239; omega)
                · (try simp only [Bool.and_eq_true, Bool.or_eq_true, Bool.and_eq_false_iff, Bool.or_eq_false_iff, decide_eq_true_eq, decide_eq_false_iff_not, Bool.not_eq_true', Bool.not_eq_false', List.length_map, ne_eq, Decidable.not_not, Int.not_lt, Int.not_le] at h239)
                  refine tr_skip ?_
                  refine pe_block_normal ?_
                  refine pe_then_normal ?_
                  refine tr_sub hC (.cons (t := 0) rfl (.cons (t := 1) rfl (.cons (t := 7) rfl (.cons (t := 9) rfl (.cons (t := 10) rfl (.cons (t := 11) rfl (.cons (t := 12) rfl (.cons (t := 13) rfl .nil)))))))) (.cons (t := 7) rfl (.cons (t := 12) rfl (.cons (t := 600) rfl (.cons (t := 601) rfl .nil)))) rfl ?_
                  refine tr_region (fun N9 hN => ?_)
                  refine lx (op_move rfl) rfl ?_
                  refine lx (op_add rfl rfl (by omega)) rfl ?_
                  refine lx (op_assign rfl) rfl ?_
                  refine lx_end ⟨by kernel_rfl, ?_⟩
                  refine pe_round (⟨(k + 1, (recvF o (rW l[k])).1, sent, rcd, cl, (ws).set (gI l[k]).toNat (decide ((recvF o (rW l[k])).2.status = 1)), i, j), by dsimp only; omega, by dsimp only; rw [← fold_step (by omega) hk2]; simp [stepF, hws, rcvF, h59, h141, hnb]⟩) (by dsimp only; omega) (pe_st hC ?_ ?_ rfl)
                  · try dsimp only [List.cons_append, List.nil_append]
                    first | refine SubF.cons rfl ?_ | (refine SubF.ent rfl ?_ ?_; · repeat (first | exact Ents.nil | refine Ents.cons ?_ ?_ | refine Ent.tup ?_ | refine Ent.agg ?_ | exact Ent.row _ _ _ _ | exact Ent.nil _ _ | exact Ent.func _ | exact Ent.refl _ | exact Ent.of_eq rfl | refine Ent.cells ?_))
                    first | refine SubF.cons rfl ?_ | (refine SubF.ent rfl ?_ ?_; · repeat (first | exact Ents.nil | refine Ents.cons ?_ ?_ | refine Ent.tup ?_ | refine Ent.agg ?_ | exact Ent.row _ _ _ _ | exact Ent.nil _ _ | exact Ent.func _ | exact Ent.refl _ | exact Ent.of_eq rfl | refine Ent.cells ?_))
                    first | refine SubF.cons rfl ?_ | (refine SubF.ent rfl ?_ ?_; · repeat (first | exact Ents.nil | refine Ents.cons ?_ ?_ | refine Ent.tup ?_ | refine Ent.agg ?_ | exact Ent.row _ _ _ _ | exact Ent.nil _ _ | exact Ent.func _ | exact Ent.refl _ | exact Ent.of_eq rfl | refine Ent.cells ?_))
                    first | refine SubF.cons rfl ?_ | (refine SubF.ent rfl ?_ ?_; · repeat (first | exact Ents.nil | refine Ents.cons ?_ ?_ | refine Ent.tup ?_ | refine Ent.agg ?_ | exact Ent.row _ _ _ _ | exact Ent.nil _ _ | exact Ent.func _ | exact Ent.refl _ | exact Ent.of_eq rfl | refine Ent.cells ?_))
                    first | refine SubF.cons rfl ?_ | (refine SubF.ent rfl ?_ ?_; · repeat (first | exact Ents.nil | refine Ents.cons ?_ ?_ | refine Ent.tup ?_ | refine Ent.agg ?_ | exact Ent.row _ _ _ _ | exact Ent.nil _ _ | exact Ent.func _ | exact Ent.refl _ | exact Ent.of_eq rfl | refine Ent.cells ?_))
                    first | refine SubF.cons rfl ?_ | (refine SubF.ent rfl ?_ ?_; · repeat (first | exact Ents.nil | refine Ents.cons ?_ ?_ | refine Ent.tup ?_ | refine Ent.agg ?_ | exact Ent.row _ _ _ _ | exact Ent.nil _ _ | exact Ent.func _ | exact Ent.refl _ | exact Ent.of_eq rfl | refine Ent.cells ?_))
                    first | refine SubF.cons rfl ?_ | (refine SubF.ent rfl ?_ ?_; · repeat (first | exact Ents.nil | refine Ents.cons ?_ ?_ | refine Ent.tup ?_ | refine Ent.agg ?_ | exact Ent.row _ _ _ _ | exact Ent.nil _ _ | exact Ent.func _ | exact Ent.refl _ | exact Ent.of_eq rfl | refine Ent.cells ?_))
                    first | refine SubF.cons rfl ?_ | (refine SubF.ent rfl ?_ ?_; · repeat (first | exact Ents.nil | refine Ents.cons ?_ ?_ | refine Ent.tup ?_ | refine Ent.agg ?_ | exact Ent.row _ _ _ _ | exact Ent.nil _ _ | exact Ent.func _ | exact Ent.refl _ | exact Ent.of_eq rfl | refine Ent.cells ?_))
                    exact SubF.nil
                  · try dsimp only [List.cons_append, List.nil_append]
                    repeat (first | exact SubL.nil | refine SubL.cons rfl ?_)
            · (try simp only [Bool.and_eq_true, Bool.or_eq_true, Bool.and_eq_false_iff, Bool.or_eq_false_iff, decide_eq_true_eq, decide_eq_false_iff_not, Bool.not_eq_true', Bool.not_eq_false', List.length_map, ne_eq, Decidable.not_not, Int.not_lt, Int.not_le] at h141)
              refine tr_seq ?_
              refine tr_region (fun N15 hN => ?_)
              refine lx (op_bload (m := 7) rfl rfl ag28 sz28) rfl ?_
              first | refine lx (op_call (l := [(Go.Operand.tmp 49)]) (Close_f o hsm.toLens hp.vd) (.cons rfl .nil) fn27) rfl ?_ | refine lx (op_call (l := [(Go.Operand.tmp 49)]) (Close_f o hsm.toLens hp.vd) (.ent rfl (by repeat (first | exact Ents.nil | refine Ents.cons ?_ ?_ | refine Ent.tup ?_ | refine Ent.agg ?_ | exact Ent.row _ _ _ _ | exact Ent.nil _ _ | exact Ent.func _ | exact Ent.refl _ | exact Ent.of_eq rfl | refine Ent.cells ?_)) .nil) fn27) rfl ?_
              refine lx (op_move rfl) rfl ?_
              refine lx (op_extract rfl rfl) rfl ?_
              refine lx (op_extract rfl rfl) rfl ?_
              refine lxr (op_store_all (m := 7) rfl rfl rfl (.agg rfl) sz28 rfl) rfl ?_
              refine lxr (op_store_all (m := 16) rfl rfl rfl (.agg rfl) sz35 rfl) rfl ?_
              refine lx_end ⟨by kernel_rfl, ?_⟩
              refine pe_then_normal ?_
              refine tr_sub hC (.cons (t := 0) rfl (.cons (t := 1) rfl (.cons (t := 7) rfl (.cons (t := 9) rfl (.cons (t := 10) rfl (.cons (t := 11) rfl (.cons (t := 12) rfl (.cons (t := 13) rfl (.cons (t := 14) rfl (.cons (t := 16) rfl .nil)))))))))) (.cons (t := 7) rfl (.cons (t := 12) rfl (.cons (t := 600) rfl (.cons (t := 601) rfl (.cons (t := 16) rfl .nil))))) rfl ?_
              refine tr_seq ?_
              refine tr_seq ?_
              refine tr_region (fun N16 hN => ?_)
              refine lx (op_fieldAddr rfl fl35_0 sz3) rfl ?_
              refine lx (op_bload_one (m := 16) rfl rfl ag3 rfl) rfl ?_
              refine lx (op_eql rfl rfl) rfl ?_
              refine lx (op_move rfl) rfl ?_
              refine lx (op_neq_bool bo4 rfl rfl) rfl ?_
              refine lx_end ⟨by kernel_rfl, ?_⟩
              refine pe_then_normal ?_
              refine tr_sub hC (.cons (t := 0) rfl (.cons (t := 1) rfl (.cons (t := 7) rfl (.cons (t := 9) rfl (.cons (t := 10) rfl (.cons (t := 12) rfl (.cons (t := 13) rfl (.cons (t := 14) rfl (.cons (t := 16) rfl (.cons (t := 57) rfl .nil)))))))))) (.cons (t := 7) rfl (.cons (t := 12) rfl (.cons (t := 600) rfl (.cons (t := 601) rfl (.cons (t := 16) rfl .nil))))) rfl ?_
              refine tr_cond rfl (fun h57 => ?_) (fun h57 => ?_)
              · simp [← hcf.1] at h57
              · (try simp only [Bool.and_eq_true, Bool.or_eq_true, Bool.and_eq_false_iff, Bool.or_eq_false_iff, decide_eq_true_eq, decide_eq_false_iff_not, Bool.not_eq_true', Bool.not_eq_false', List.length_map, ne_eq, Decidable.not_not, Int.not_lt, Int.not_le] at h57)
                refine tr_skip ?_
                refine pe_then_normal ?_
                refine tr_sub hC (.cons (t := 0) rfl (.cons (t := 1) rfl (.cons (t := 7) rfl (.cons (t := 9) rfl (.cons (t := 10) rfl (.cons (t := 12) rfl (.cons (t := 13) rfl (.cons (t := 14) rfl (.cons (t := 16) rfl .nil))))))))) (.cons (t := 7) rfl (.cons (t := 12) rfl (.cons (t := 600) rfl (.cons (t := 601) rfl (.cons (t := 16) rfl .nil))))) rfl ?_
                refine tr_seq ?_
                refine tr_region (fun N18 hN => ?_)
                refine lx (op_assign rfl) rfl ?_
                refine lx_end ⟨by kernel_rfl, ?_⟩
                refine pe_then_normal ?_
                refine tr_sub hC (.cons (t := 0) rfl (.cons (t := 1) rfl (.cons (t := 7) rfl (.cons (t := 9) rfl (.cons (t := 10) rfl (.cons (t := 11) rfl (.cons (t := 12) rfl (.cons (t := 13) rfl (.cons (t := 14) rfl (.cons (t := 16) rfl .nil)))))))))) (.cons (t := 7) rfl (.cons (t := 12) rfl (.cons (t := 600) rfl (.cons (t := 601) rfl (.cons (t := 16) rfl .nil))))) rfl ?_
                refine tr_region (fun N19 hN => ?_)
                refine lx (op_build_arr (zs := [eqP (.bool false), eqP (.bool false), eqP (.bool false), eqP (.bool false), eqP (.bool false), eqP (.bool false), eqP (.bool false), eqP (.bool false)]) ze68 rfl rfl ar68 sz4) rfl ?_
                refine lxr (op_tstore_all (m := 12) (xs' := (List.replicate 8 false)) rfl rfl rfl (.agg rfl) bp_len (by rw [hp.wl]; rfl) sz68) rfl ?_
                refine lx_end ⟨by kernel_rfl, ?_⟩
                refine pe_block_normal ?_
                refine pe_then_normal ?_
                refine tr_sub hC (.cons (t := 0) rfl (.cons (t := 1) rfl (.cons (t := 7) rfl (.cons (t := 9) rfl (.cons (t := 10) rfl (.cons (t := 11) rfl (.cons (t := 12) rfl (.cons (t := 13) rfl (.cons (t := 14) rfl (.cons (t := 16) rfl .nil)))))))))) (.cons (t := 7) rfl (.cons (t := 12) rfl (.cons (t := 600) rfl (.cons (t := 601) rfl (.cons (t := 16) rfl .nil))))) rfl ?_
                refine tr_seq ?_
                refine tr_region (fun N45 hN => ?_)
                refine lx (op_move rfl) rfl ?_
                refine lx (op_fieldAddr rfl fl35_0 sz3) rfl ?_
                refine lx (op_bload_one (m := 16) rfl rfl ag3 rfl) rfl ?_
                refine lx (op_eql rfl rfl) rfl ?_
                refine lx (op_aindex rfl rfl ar68 sz4 (by omega : gI l[k] = (((gI l[k]).toNat : Nat) : Int)) (by omega)) rfl ?_
                refine lxr (op_tstore (m := 12) (j := (gI l[k]).toNat) (fo := 0) (z' := (decide ((closeF o).2.status = 1))) rfl rfl rfl (.one (by (first | exact One.eq rfl | exact One.mv _ _ _ _ _ | exact One.cl _ _ _ | exact One.map _ | exact One.sl _ _ _ | exact One.row _ _ _ _ | exact One.msl _ _ _ _ | exact One.ptr _ _ | exact One.b _ | exact One.cells _))) sz4 rfl bp_len (by omega) (List.getElem?_replicate_of_lt (by omega)) rfl rfl) rfl ?_
                refine lx_end ⟨by kernel_rfl, ?_⟩
                refine pe_then_normal ?_
                refine tr_sub hC (.cons (t := 0) rfl (.cons (t := 1) rfl (.cons (t := 7) rfl (.cons (t := 9) rfl (.cons (t := 10) rfl (.cons (t := 11) rfl (.cons (t := 12) rfl (.cons (t := 13) rfl .nil)))))))) (.cons (t := 7) rfl (.cons (t := 12) rfl (.cons (t := 600) rfl (.cons (t := 601) rfl .nil)))) rfl ?_
                refine tr_seq ?_
                refine tr_region (fun N46 hN => ?_)
                refine lx (op_fieldAddr rfl fl28_4 sz25) rfl ?_
                refine lx (op_bload_one (m := 7) rfl rfl ag25 rfl) rfl ?_
                first | refine lx (op_len rfl el25) rfl ?_ | refine lx (op_len_row rfl el25) rfl ?_ | refine lx (op_len_mv rfl el25) rfl ?_ | refine lx (op_len_nil rfl el25) rfl ?_
                refine lx (op_move rfl) rfl ?_
                refine lx (op_gtr rfl rfl) rfl ?_
                refine lx (op_move rfl) rfl ?_
                refine lxs rfl rfl rfl guard_eq (.cons (t := 7) rfl (fun _ => Ent.refl _) .nil) (op_fieldAddr rfl fl28_6 sz3) rfl ?_
                refine lxs rfl rfl rfl guard_eq (.cons (t := 216) rfl (fun h => entW h) .nil) (op_bload_one (m := 7) rfl rfl ag3 rfl) rfl ?_
                refine lxs rfl rfl rfl guard_eq (.cons (t := 9) rfl (fun _ => Ent.refl _) .nil) (op_move rfl) rfl ?_
                first | refine lxs rfl rfl rfl guard_eq (.cons (t := 218) rfl (fun h => entW h) .nil) (op_len rfl el48) rfl ?_ | refine lxs rfl rfl rfl guard_eq (.cons (t := 218) rfl (fun h => entW h) .nil) (op_len_row rfl el48) rfl ?_ | refine lxs rfl rfl rfl guard_eq (.cons (t := 218) rfl (fun h => entW h) .nil) (op_len_mv rfl el48) rfl ?_ | refine lxs rfl rfl rfl guard_eq (.cons (t := 218) rfl (fun h => entW h) .nil) (op_len_nil rfl el48) rfl ?_
                refine lxs rfl rfl rfl guard_eq (.cons (t := 217) rfl (fun h => entW h) (.cons (t := 219) rfl (fun h => entW h) .nil)) (op_neq rfl rfl) rfl ?_
                refine lx (op_pick_or rfl rfl) rfl ?_
                refine lx (op_move rfl) rfl ?_
                refine lxs rfl rfl rfl guard_eq (.cons (t := 7) rfl (fun _ => Ent.refl _) .nil) (op_fieldAddr rfl fl28_7 sz3) rfl ?_
                refine lxs rfl rfl rfl guard_eq (.cons (t := 223) rfl (fun h => entW h) .nil) (op_bload_one (m := 7) rfl rfl ag3 rfl) rfl ?_
                refine lxs rfl rfl rfl guard_eq (.cons (t := 10) rfl (fun _ => Ent.refl _) .nil) (op_move rfl) rfl ?_
                first | refine lxs rfl rfl rfl guard_eq (.cons (t := 225) rfl (fun h => entW h) .nil) (op_len rfl el48) rfl ?_ | refine lxs rfl rfl rfl guard_eq (.cons (t := 225) rfl (fun h => entW h) .nil) (op_len_row rfl el48) rfl ?_ | refine lxs rfl rfl rfl guard_eq (.cons (t := 225) rfl (fun h => entW h) .nil) (op_len_mv rfl el48) rfl ?_ | refine lxs rfl rfl rfl guard_eq (.cons (t := 225) rfl (fun h => entW h) .nil) (op_len_nil rfl el48) rfl ?_
                refine lxs rfl rfl rfl guard_eq (.cons (t := 224) rfl (fun h => entW h) (.cons (t := 226) rfl (fun h => entW h) .nil)) (op_neq rfl rfl) rfl ?_
                refine lx (op_pick_or rfl rfl) rfl ?_
                refine lx (op_move rfl) rfl ?_
                refine lxs rfl rfl rfl guard_eq (.cons (t := 7) rfl (fun _ => Ent.refl _) .nil) (op_fieldAddr rfl fl28_4 sz25) rfl ?_
                refine lxs rfl rfl rfl guard_eq (.cons (t := 230) rfl (fun h => entW h) .nil) (op_bload_one (m := 7) rfl rfl ag25 rfl) rfl ?_
                first | refine lxs rfl rfl rfl guard_eq (.cons (t := 231) rfl (fun h => entW h) .nil) (op_len rfl el25) rfl ?_ | refine lxs rfl rfl rfl guard_eq (.cons (t := 231) rfl (fun h => entW h) .nil) (op_len_row rfl el25) rfl ?_ | refine lxs rfl rfl rfl guard_eq (.cons (t := 231) rfl (fun h => entW h) .nil) (op_len_mv rfl el25) rfl ?_ | refine lxs rfl rfl rfl guard_eq (.cons (t := 231) rfl (fun h => entW h) .nil) (op_len_nil rfl el25) rfl ?_
                refine lxs rfl rfl rfl guard_eq (.cons (t := 9) rfl (fun _ => Ent.refl _) .nil) (op_move rfl) rfl ?_
                first | refine lxs rfl rfl rfl guard_eq (.cons (t := 233) rfl (fun h => entW h) .nil) (op_len rfl el48) rfl ?_ | refine lxs rfl rfl rfl guard_eq (.cons (t := 233) rfl (fun h => entW h) .nil) (op_len_row rfl el48) rfl ?_ | refine lxs rfl rfl rfl guard_eq (.cons (t := 233) rfl (fun h => entW h) .nil) (op_len_mv rfl el48) rfl ?_ | refine lxs rfl rfl rfl guard_eq (.cons (t := 233) rfl (fun h => entW h) .nil) (op_len_nil rfl el48) rfl ?_
                refine lxs rfl rfl rfl guard_eq (.cons (t := 10) rfl (fun _ => Ent.refl _) .nil) (op_move rfl) rfl ?_
                first | refine lxs rfl rfl rfl guard_eq (.cons (t := 235) rfl (fun h => entW h) .nil) (op_len rfl el48) rfl ?_ | refine lxs rfl rfl rfl guard_eq (.cons (t := 235) rfl (fun h => entW h) .nil) (op_len_row rfl el48) rfl ?_ | refine lxs rfl rfl rfl guard_eq (.cons (t := 235) rfl (fun h => entW h) .nil) (op_len_mv rfl el48) rfl ?_ | refine lxs rfl rfl rfl guard_eq (.cons (t := 235) rfl (fun h => entW h) .nil) (op_len_nil rfl el48) rfl ?_
                refine lxs rfl rfl rfl guard_eq (.cons (t := 234) rfl (fun h => entW h) (.cons (t := 236) rfl (fun h => entW h) .nil)) (op_sub rfl rfl (by first | omega | (simp only [List.length_append, List.length_singleton]; omega))) rfl ?_
                refine lxs rfl rfl rfl guard_eq (.cons (t := 232) rfl (fun h => entW h) (.cons (t := 237) rfl (fun h => entW h) .nil)) (op_neq rfl rfl) rfl ?_
                refine lx (op_pick_or rfl rfl) rfl ?_
                refine lx_end ⟨by kernel_rfl, ?_⟩
                refine pe_then_normal ?_
                refine tr_sub hC (.cons (t := 0) rfl (.cons (t := 1) rfl (.cons (t := 7) rfl (.cons (t := 9) rfl (.cons (t := 10) rfl (.cons (t := 11) rfl (.cons (t := 12) rfl (.cons (t := 13) rfl (.cons (t := 239) rfl .nil))))))))) (.cons (t := 7) rfl (.cons (t := 12) rfl (.cons (t := 600) rfl (.cons (t := 601) rfl .nil)))) rfl ?_
                refine tr_cond rfl (fun h239 => ?_) (fun h239 => ?_)
                · first
                  | (have hck := (pl_snd hp (by omega) (hb _ (List.getElem_mem ..)) hnw).checks (by omega); simp [sndF, h76, h98] at hck h239; omega)
                  | (have hck := (pl_snd hp (by omega) (hb _ (List.getElem_mem ..)) hnw).checks (by omega); simp [sndF, h76] at hck h239; omega)
                  | (have hck := (pl_rcv hp (by omega) (hb _ (List.getElem_mem ..)) hnw).checks (by omega); simp [rcvF, h155, h168] at hck h239; omega)
                  | (have hck := (pl_rcv hp (by omega) (hb _ (List.getElem_mem ..)) hnw).checks (by omega); simp [rcvF, hnb] at hck h239; omega)
                  | (have hck := (pl_cls hp (hb l[k] (List.getElem_mem ..))).checks (by omega); simp [clsF] at hck h239; omega)
                · (try simp only [Bool.and_eq_true, Bool.or_eq_true, Bool.and_eq_false_iff, Bool.or_eq_false_iff, decide_eq_true_eq, decide_eq_false_iff_not, Bool.not_eq_true', Bool.not_eq_false', List.length_map, ne_eq, Decidable.not_not, Int.not_lt, Int.not_le] at h239)
                  refine tr_skip ?_
                  refine pe_block_normal ?_
                  refine pe_then_normal ?_
                  refine tr_sub hC (.cons (t := 0) rfl (.cons (t := 1) rfl (.cons (t := 7) rfl (.cons (t := 9) rfl (.cons (t := 10) rfl (.cons (t := 11) rfl (.cons (t := 12) rfl (.cons (t := 13) rfl .nil)))))))) (.cons (t := 7) rfl (.cons (t := 12) rfl (.cons (t := 600) rfl (.cons (t := 601) rfl .nil)))) rfl ?_
                  refine tr_region (fun N9 hN => ?_)
                  refine lx (op_move rfl) rfl ?_
                  refine lx (op_add rfl rfl (by omega)) rfl ?_
                  refine lx (op_assign rfl) rfl ?_
                  refine lx_end ⟨by kernel_rfl, ?_⟩
                  refine pe_round (⟨(k + 1, (closeF o).1, sent, rcd, true, (List.replicate 8 false).set (gI l[k]).toNat (decide ((closeF o).2.status = 1)), i, j), by dsimp only; omega, by dsimp only; rw [← fold_step (by omega) hk2]; simp [stepF, hws, clsF, h59, h141]⟩) (by dsimp only; omega) (pe_st hC ?_ ?_ rfl)
                  · try dsimp only [List.cons_append, List.nil_append]
                    first | refine SubF.cons rfl ?_ | (refine SubF.ent rfl ?_ ?_; · repeat (first | exact Ents.nil | refine Ents.cons ?_ ?_ | refine Ent.tup ?_ | refine Ent.agg ?_ | exact Ent.row _ _ _ _ | exact Ent.nil _ _ | exact Ent.func _ | exact Ent.refl _ | exact Ent.of_eq rfl | refine Ent.cells ?_))
                    first | refine SubF.cons rfl ?_ | (refine SubF.ent rfl ?_ ?_; · repeat (first | exact Ents.nil | refine Ents.cons ?_ ?_ | refine Ent.tup ?_ | refine Ent.agg ?_ | exact Ent.row _ _ _ _ | exact Ent.nil _ _ | exact Ent.func _ | exact Ent.refl _ | exact Ent.of_eq rfl | refine Ent.cells ?_))
                    first | refine SubF.cons rfl ?_ | (refine SubF.ent rfl ?_ ?_; · repeat (first | exact Ents.nil | refine Ents.cons ?_ ?_ | refine Ent.tup ?_ | refine Ent.agg ?_ | exact Ent.row _ _ _ _ | exact Ent.nil _ _ | exact Ent.func _ | exact Ent.refl _ | exact Ent.of_eq rfl | refine Ent.cells ?_))
                    first | refine SubF.cons rfl ?_ | (refine SubF.ent rfl ?_ ?_; · repeat (first | exact Ents.nil | refine Ents.cons ?_ ?_ | refine Ent.tup ?_ | refine Ent.agg ?_ | exact Ent.row _ _ _ _ | exact Ent.nil _ _ | exact Ent.func _ | exact Ent.refl _ | exact Ent.of_eq rfl | refine Ent.cells ?_))
                    first | refine SubF.cons rfl ?_ | (refine SubF.ent rfl ?_ ?_; · repeat (first | exact Ents.nil | refine Ents.cons ?_ ?_ | refine Ent.tup ?_ | refine Ent.agg ?_ | exact Ent.row _ _ _ _ | exact Ent.nil _ _ | exact Ent.func _ | exact Ent.refl _ | exact Ent.of_eq rfl | refine Ent.cells ?_))
                    first | refine SubF.cons rfl ?_ | (refine SubF.ent rfl ?_ ?_; · repeat (first | exact Ents.nil | refine Ents.cons ?_ ?_ | refine Ent.tup ?_ | refine Ent.agg ?_ | exact Ent.row _ _ _ _ | exact Ent.nil _ _ | exact Ent.func _ | exact Ent.refl _ | exact Ent.of_eq rfl | refine Ent.cells ?_))
                    first | refine SubF.cons rfl ?_ | (refine SubF.ent rfl ?_ ?_; · repeat (first | exact Ents.nil | refine Ents.cons ?_ ?_ | refine Ent.tup ?_ | refine Ent.agg ?_ | exact Ent.row _ _ _ _ | exact Ent.nil _ _ | exact Ent.func _ | exact Ent.refl _ | exact Ent.of_eq rfl | refine Ent.cells ?_))
                    first | refine SubF.cons rfl ?_ | (refine SubF.ent rfl ?_ ?_; · repeat (first | exact Ents.nil | refine Ents.cons ?_ ?_ | refine Ent.tup ?_ | refine Ent.agg ?_ | exact Ent.row _ _ _ _ | exact Ent.nil _ _ | exact Ent.func _ | exact Ent.refl _ | exact Ent.of_eq rfl | refine Ent.cells ?_))
                    exact SubF.nil
                  · try dsimp only [List.cons_append, List.nil_append]
                    repeat (first | exact SubL.nil | refine SubL.cons rfl ?_)
      · (try simp only [Bool.and_eq_true, Bool.or_eq_true, Bool.and_eq_false_iff, Bool.or_eq_false_iff, decide_eq_true_eq, decide_eq_false_iff_not, Bool.not_eq_true', Bool.not_eq_false', List.length_map, ne_eq, Decidable.not_not, Int.not_lt, Int.not_le] at h27)
        have hfin := fold_end (by omega) hk2
        have hfs : sent = (playF c l).sent := by rw [← hfin]
        have hfr : rcd = (playF c l).rcd := by rw [← hfin]
        refine tr_exit ?_
        refine pe_then_exit ?_
        refine pe_then_exit ?_
        refine pe_block_eq ?_
        refine pe_then_normal ?_
        refine tr_sub hC (.cons (t := 9) rfl (.cons (t := 10) rfl .nil)) (.cons (t := 600) rfl (.cons (t := 601) rfl .nil)) rfl ?_
        refine tr_seq ?_
        refine tr_region (fun N48 hN => ?_)
        refine lx (op_move rfl) rfl ?_
        refine lx (op_move rfl) rfl ?_
        refine lx (op_assign rfl) rfl ?_
        refine lx (op_assign rfl) rfl ?_
        refine lx (op_assign rfl) rfl ?_
        refine lx_end ⟨by kernel_rfl, ?_⟩
        refine pe_then_normal ?_
        refine tr_sub hC (.cons (t := 4) rfl (.cons (t := 5) rfl (.cons (t := 6) rfl .nil))) (.cons (t := 600) rfl (.cons (t := 601) rfl .nil)) rfl ?_
        refine tr_ret ?_
        refine pe_retN (rs := [.tmp 4, .tmp 5, .tmp 6]) rfl rfl hO rfl (.tmp rfl (.tmp rfl (.tmp rfl .nil))) ?_
        rw [← hfs, ← hfr]
        repeat (first | exact Ents.nil | refine Ents.cons ?_ ?_ | refine Ent.tup ?_ | refine Ent.agg ?_ | exact Ent.row _ _ _ _ | exact Ent.nil _ _ | exact Ent.func _ | exact Ent.refl _ | exact Ent.of_eq rfl | refine Ent.cells ?_)

end Go.Proofs.Ytagjjeofdcgcmaa
