/- Walks of the functions of layer 17: Valid -/
import Derived.Test.YtagjjeofdcgcmaaChWalk4
import Derived.Test.YtagjjeofdcgcmaaChPlain
set_option linter.unusedVariables false
set_option linter.unusedSimpArgs false
namespace Go.Proofs.Ytagjjeofdcgcmaa
open Go.AL Go.Ch Go.RowKit
theorem fn50 : fnB Try.prog 50 = true := by kernel_rfl
theorem fn54 : fnB Try.prog 54 = true := by kernel_rfl
theorem fs23 : sizesB Try.prog 23 = true := by kernel_rfl
theorem ze26 : zeroB Try.prog 26 = some (some (.slice none 0 0)) := by kernel_rfl
theorem concat2_ok (a b : List Wt) (hx : (a ++ b).length ≤ 1000000) : FnP Try.prog 54 [slP lp 1 [a, b]] (slP wp 5 (a ++ b)) := by
  have h := concat_ok [a, b] (by simp) (by simpa using hx)
  rwa [show [a, b].flatten = a ++ b by simp] at h
theorem Valid_ok (o : Ob) (hs : Lens o) : FnP Try.prog 32 [aggP o.ps] (eqP (.bool (validF o))) := by
  have hq := hs.queue
  have hsn := hs.senders
  have hrc := hs.receivers
  have hwl : (o.senders ++ o.receivers).length = o.senders.length + o.receivers.length := List.length_append
  refine fn_pure' Try.func32 rfl Try.ntmps32 rfl ?_
  intro σ0 M ex Rf R hC hO
  simp only [frameOf, tokOf]
  refine tr_seq ?_
  refine tr_region (fun N0 hN => ?_)
  refine lxn (op_box (m := 1) (k := 1) rfl (.agg rfl) (by first | exact hC.low _ (by decide) | rfl)) rfl ?_
  refine lx (op_assign rfl) rfl ?_
  refine lx_end ⟨by kernel_rfl, ?_⟩
  refine pe_then_normal ?_
  refine tr_sub hC (.cons (t := 1) rfl .nil) (.cons (t := 1) rfl .nil) rfl ?_
  refine tr_seq ?_
  refine tr_block ?_
  refine tr_seq ?_
  refine tr_seq ?_
  refine tr_region (fun N1 hN => ?_)
  refine lx (op_fieldAddr rfl fl28_2 sz4) rfl ?_
  refine lx (op_bload_one (m := 1) rfl rfl ag4 rfl) rfl ?_
  first | refine lx (op_not rfl) rfl ?_ | refine lx (op_not_b rfl) rfl ?_
  refine lx (op_assign rfl) rfl ?_
  refine lx_end ⟨by kernel_rfl, ?_⟩
  refine pe_then_normal ?_
  refine tr_sub hC (.cons (t := 1) rfl (.cons (t := 11) rfl .nil)) (.cons (t := 1) rfl .nil) rfl ?_
  refine tr_cond2 rfl (fun h11 => ?_) (fun h11 => ?_)
  · (try simp only [Bool.and_eq_true, Bool.or_eq_true, Bool.and_eq_false_iff, Bool.or_eq_false_iff, decide_eq_true_eq, decide_eq_false_iff_not, Bool.not_eq_true', Bool.not_eq_false', List.length_map, ne_eq, Decidable.not_not, Int.not_lt, Int.not_le] at h11)
    refine tr_skip ?_
    refine pe_then_normal ?_
    refine tr_sub hC (.cons (t := 1) rfl (.cons (t := 11) rfl .nil)) (.cons (t := 1) rfl .nil) rfl ?_
    refine tr_cond_t rfl ?_
    refine tr_seq ?_
    refine tr_region (fun N6 hN => ?_)
    refine lx (op_assign rfl) rfl ?_
    refine lx_end ⟨by kernel_rfl, ?_⟩
    refine pe_then_normal ?_
    refine tr_sub hC (.cons (t := 2) rfl .nil) .nil rfl ?_
    refine tr_ret ?_
    refine pe_block_ret ?_
    refine pe_then_ret ?_
    refine pe_ret1 rfl hO rfl (.tmp rfl .nil) ?_
    refine entB (Eq.symm (validF_no1 (fun hh => ?_)))
    obtain ⟨a1, a2, a3, a4, a5, a6, a7, a8⟩ := hh
    first | omega | (rw [a1] at h11; cases h11)
  · (try simp only [Bool.and_eq_true, Bool.or_eq_true, Bool.and_eq_false_iff, Bool.or_eq_false_iff, decide_eq_true_eq, decide_eq_false_iff_not, Bool.not_eq_true', Bool.not_eq_false', List.length_map, ne_eq, Decidable.not_not, Int.not_lt, Int.not_le] at h11)
    refine tr_seq ?_
    refine tr_region (fun N2 hN => ?_)
    refine lx (op_fieldAddr rfl fl28_1 sz25) rfl ?_
    refine lx (op_bload_one (m := 1) rfl rfl ag25 rfl) rfl ?_
    first | refine lx (op_len rfl el25) rfl ?_ | refine lx (op_len_row rfl el25) rfl ?_ | refine lx (op_len_mv rfl el25) rfl ?_ | refine lx (op_len_nil rfl el25) rfl ?_
    refine lx (op_neq rfl rfl) rfl ?_
    refine lx (op_assign rfl) rfl ?_
    refine lx_end ⟨by kernel_rfl, ?_⟩
    refine pe_then_normal ?_
    refine tr_sub hC (.cons (t := 1) rfl (.cons (t := 11) rfl .nil)) (.cons (t := 1) rfl .nil) rfl ?_
    refine tr_cond2 rfl (fun h11_2 => ?_) (fun h11_2 => ?_)
    · (try simp only [Bool.and_eq_true, Bool.or_eq_true, Bool.and_eq_false_iff, Bool.or_eq_false_iff, decide_eq_true_eq, decide_eq_false_iff_not, Bool.not_eq_true', Bool.not_eq_false', List.length_map, ne_eq, Decidable.not_not, Int.not_lt, Int.not_le] at h11_2)
      refine tr_skip ?_
      refine pe_then_normal ?_
      refine tr_sub hC (.cons (t := 1) rfl (.cons (t := 11) rfl .nil)) (.cons (t := 1) rfl .nil) rfl ?_
      refine tr_cond_t rfl ?_
      refine tr_seq ?_
      refine tr_region (fun N6 hN => ?_)
      refine lx (op_assign rfl) rfl ?_
      refine lx_end ⟨by kernel_rfl, ?_⟩
      refine pe_then_normal ?_
      refine tr_sub hC (.cons (t := 2) rfl .nil) .nil rfl ?_
      refine tr_ret ?_
      refine pe_block_ret ?_
      refine pe_then_ret ?_
      refine pe_ret1 rfl hO rfl (.tmp rfl .nil) ?_
      refine entB (Eq.symm (validF_no1 (fun hh => ?_)))
      obtain ⟨a1, a2, a3, a4, a5, a6, a7, a8⟩ := hh
      first | omega | (rw [a1] at h11; cases h11)
    · (try simp only [Bool.and_eq_true, Bool.or_eq_true, Bool.and_eq_false_iff, Bool.or_eq_false_iff, decide_eq_true_eq, decide_eq_false_iff_not, Bool.not_eq_true', Bool.not_eq_false', List.length_map, ne_eq, Decidable.not_not, Int.not_lt, Int.not_le] at h11_2)
      refine tr_seq ?_
      refine tr_region (fun N3 hN => ?_)
      refine lx (op_fieldAddr rfl fl28_3 sz3) rfl ?_
      refine lx (op_bload_one (m := 1) rfl rfl ag3 rfl) rfl ?_
      refine lx (op_lss rfl rfl) rfl ?_
      refine lx (op_assign rfl) rfl ?_
      refine lx_end ⟨by kernel_rfl, ?_⟩
      refine pe_then_normal ?_
      refine tr_sub hC (.cons (t := 1) rfl (.cons (t := 11) rfl .nil)) (.cons (t := 1) rfl .nil) rfl ?_
      refine tr_cond2 rfl (fun h11_3 => ?_) (fun h11_3 => ?_)
      · (try simp only [Bool.and_eq_true, Bool.or_eq_true, Bool.and_eq_false_iff, Bool.or_eq_false_iff, decide_eq_true_eq, decide_eq_false_iff_not, Bool.not_eq_true', Bool.not_eq_false', List.length_map, ne_eq, Decidable.not_not, Int.not_lt, Int.not_le] at h11_3)
        refine tr_skip ?_
        refine pe_then_normal ?_
        refine tr_sub hC (.cons (t := 1) rfl (.cons (t := 11) rfl .nil)) (.cons (t := 1) rfl .nil) rfl ?_
        refine tr_cond_t rfl ?_
        refine tr_seq ?_
        refine tr_region (fun N6 hN => ?_)
        refine lx (op_assign rfl) rfl ?_
        refine lx_end ⟨by kernel_rfl, ?_⟩
        refine pe_then_normal ?_
        refine tr_sub hC (.cons (t := 2) rfl .nil) .nil rfl ?_
        refine tr_ret ?_
        refine pe_block_ret ?_
        refine pe_then_ret ?_
        refine pe_ret1 rfl hO rfl (.tmp rfl .nil) ?_
        refine entB (Eq.symm (validF_no1 (fun hh => ?_)))
        obtain ⟨a1, a2, a3, a4, a5, a6, a7, a8⟩ := hh
        first | omega | (rw [a1] at h11; cases h11)
      · (try simp only [Bool.and_eq_true, Bool.or_eq_true, Bool.and_eq_false_iff, Bool.or_eq_false_iff, decide_eq_true_eq, decide_eq_false_iff_not, Bool.not_eq_true', Bool.not_eq_false', List.length_map, ne_eq, Decidable.not_not, Int.not_lt, Int.not_le] at h11_3)
        refine tr_seq ?_
        refine tr_region (fun N4 hN => ?_)
        refine lx (op_fieldAddr rfl fl28_3 sz3) rfl ?_
        refine lx (op_bload_one (m := 1) rfl rfl ag3 rfl) rfl ?_
        refine lx (op_gtr rfl rfl) rfl ?_
        refine lx (op_assign rfl) rfl ?_
        refine lx_end ⟨by kernel_rfl, ?_⟩
        refine pe_then_normal ?_
        refine tr_sub hC (.cons (t := 1) rfl (.cons (t := 11) rfl .nil)) (.cons (t := 1) rfl .nil) rfl ?_
        refine tr_cond2 rfl (fun h11_4 => ?_) (fun h11_4 => ?_)
        · (try simp only [Bool.and_eq_true, Bool.or_eq_true, Bool.and_eq_false_iff, Bool.or_eq_false_iff, decide_eq_true_eq, decide_eq_false_iff_not, Bool.not_eq_true', Bool.not_eq_false', List.length_map, ne_eq, Decidable.not_not, Int.not_lt, Int.not_le] at h11_4)
          refine tr_skip ?_
          refine pe_then_normal ?_
          refine tr_sub hC (.cons (t := 1) rfl (.cons (t := 11) rfl .nil)) (.cons (t := 1) rfl .nil) rfl ?_
          refine tr_cond_t rfl ?_
          refine tr_seq ?_
          refine tr_region (fun N6 hN => ?_)
          refine lx (op_assign rfl) rfl ?_
          refine lx_end ⟨by kernel_rfl, ?_⟩
          refine pe_then_normal ?_
          refine tr_sub hC (.cons (t := 2) rfl .nil) .nil rfl ?_
          refine tr_ret ?_
          refine pe_block_ret ?_
          refine pe_then_ret ?_
          refine pe_ret1 rfl hO rfl (.tmp rfl .nil) ?_
          refine entB (Eq.symm (validF_no1 (fun hh => ?_)))
          obtain ⟨a1, a2, a3, a4, a5, a6, a7, a8⟩ := hh
          first | omega | (rw [a1] at h11; cases h11)
        · (try simp only [Bool.and_eq_true, Bool.or_eq_true, Bool.and_eq_false_iff, Bool.or_eq_false_iff, decide_eq_true_eq, decide_eq_false_iff_not, Bool.not_eq_true', Bool.not_eq_false', List.length_map, ne_eq, Decidable.not_not, Int.not_lt, Int.not_le] at h11_4)
          refine tr_region (fun N5 hN => ?_)
          refine lx (op_fieldAddr rfl fl28_4 sz25) rfl ?_
          refine lx (op_bload_one (m := 1) rfl rfl ag25 rfl) rfl ?_
          first | refine lx (op_len rfl el25) rfl ?_ | refine lx (op_len_row rfl el25) rfl ?_ | refine lx (op_len_mv rfl el25) rfl ?_ | refine lx (op_len_nil rfl el25) rfl ?_
          refine lx (op_fieldAddr rfl fl28_3 sz3) rfl ?_
          refine lx (op_bload_one (m := 1) rfl rfl ag3 rfl) rfl ?_
          refine lx (op_gtr rfl rfl) rfl ?_
          refine lx (op_assign rfl) rfl ?_
          refine lx_end ⟨by kernel_rfl, ?_⟩
          refine pe_then_normal ?_
          refine tr_sub hC (.cons (t := 1) rfl (.cons (t := 11) rfl .nil)) (.cons (t := 1) rfl .nil) rfl ?_
          refine tr_cond rfl (fun h11_5 => ?_) (fun h11_5 => ?_)
          · (try simp only [Bool.and_eq_true, Bool.or_eq_true, Bool.and_eq_false_iff, Bool.or_eq_false_iff, decide_eq_true_eq, decide_eq_false_iff_not, Bool.not_eq_true', Bool.not_eq_false', List.length_map, ne_eq, Decidable.not_not, Int.not_lt, Int.not_le] at h11_5)
            refine tr_seq ?_
            refine tr_region (fun N6 hN => ?_)
            refine lx (op_assign rfl) rfl ?_
            refine lx_end ⟨by kernel_rfl, ?_⟩
            refine pe_then_normal ?_
            refine tr_sub hC (.cons (t := 2) rfl .nil) .nil rfl ?_
            refine tr_ret ?_
            refine pe_block_ret ?_
            refine pe_then_ret ?_
            refine pe_ret1 rfl hO rfl (.tmp rfl .nil) ?_
            refine entB (Eq.symm (validF_no1 (fun hh => ?_)))
            obtain ⟨a1, a2, a3, a4, a5, a6, a7, a8⟩ := hh
            first | omega | (rw [a1] at h11; cases h11)
          · (try simp only [Bool.and_eq_true, Bool.or_eq_true, Bool.and_eq_false_iff, Bool.or_eq_false_iff, decide_eq_true_eq, decide_eq_false_iff_not, Bool.not_eq_true', Bool.not_eq_false', List.length_map, ne_eq, Decidable.not_not, Int.not_lt, Int.not_le] at h11_5)
            refine tr_seq ?_
            refine tr_seq ?_
            refine tr_region (fun N7 hN => ?_)
            refine lx (op_fieldAddr rfl fl28_7 sz3) rfl ?_
            refine lx (op_bload_one (m := 1) rfl rfl ag3 rfl) rfl ?_
            refine lx (op_lss rfl rfl) rfl ?_
            refine lx (op_assign rfl) rfl ?_
            refine lx_end ⟨by kernel_rfl, ?_⟩
            refine pe_then_normal ?_
            refine tr_sub hC (.cons (t := 1) rfl (.cons (t := 31) rfl .nil)) (.cons (t := 1) rfl .nil) rfl ?_
            refine tr_cond2 rfl (fun h31 => ?_) (fun h31 => ?_)
            · (try simp only [Bool.and_eq_true, Bool.or_eq_true, Bool.and_eq_false_iff, Bool.or_eq_false_iff, decide_eq_true_eq, decide_eq_false_iff_not, Bool.not_eq_true', Bool.not_eq_false', List.length_map, ne_eq, Decidable.not_not, Int.not_lt, Int.not_le] at h31)
              refine tr_skip ?_
              refine pe_then_normal ?_
              refine tr_sub hC (.cons (t := 1) rfl (.cons (t := 31) rfl .nil)) (.cons (t := 1) rfl .nil) rfl ?_
              refine tr_cond_t rfl ?_
              refine tr_seq ?_
              refine tr_region (fun N10 hN => ?_)
              refine lx (op_assign rfl) rfl ?_
              refine lx_end ⟨by kernel_rfl, ?_⟩
              refine pe_then_normal ?_
              refine tr_sub hC (.cons (t := 2) rfl .nil) .nil rfl ?_
              refine tr_ret ?_
              refine pe_block_ret ?_
              refine pe_then_ret ?_
              refine pe_ret1 rfl hO rfl (.tmp rfl .nil) ?_
              refine entB (Eq.symm (validF_no1 (fun hh => ?_)))
              obtain ⟨a1, a2, a3, a4, a5, a6, a7, a8⟩ := hh
              omega
            · (try simp only [Bool.and_eq_true, Bool.or_eq_true, Bool.and_eq_false_iff, Bool.or_eq_false_iff, decide_eq_true_eq, decide_eq_false_iff_not, Bool.not_eq_true', Bool.not_eq_false', List.length_map, ne_eq, Decidable.not_not, Int.not_lt, Int.not_le] at h31)
              refine tr_seq ?_
              refine tr_region (fun N8 hN => ?_)
              refine lx (op_fieldAddr rfl fl28_7 sz3) rfl ?_
              refine lx (op_bload_one (m := 1) rfl rfl ag3 rfl) rfl ?_
              refine lx (op_gtr rfl rfl) rfl ?_
              refine lx (op_assign rfl) rfl ?_
              refine lx_end ⟨by kernel_rfl, ?_⟩
              refine pe_then_normal ?_
              refine tr_sub hC (.cons (t := 1) rfl (.cons (t := 31) rfl .nil)) (.cons (t := 1) rfl .nil) rfl ?_
              refine tr_cond2 rfl (fun h31_2 => ?_) (fun h31_2 => ?_)
              · (try simp only [Bool.and_eq_true, Bool.or_eq_true, Bool.and_eq_false_iff, Bool.or_eq_false_iff, decide_eq_true_eq, decide_eq_false_iff_not, Bool.not_eq_true', Bool.not_eq_false', List.length_map, ne_eq, Decidable.not_not, Int.not_lt, Int.not_le] at h31_2)
                refine tr_skip ?_
                refine pe_then_normal ?_
                refine tr_sub hC (.cons (t := 1) rfl (.cons (t := 31) rfl .nil)) (.cons (t := 1) rfl .nil) rfl ?_
                refine tr_cond_t rfl ?_
                refine tr_seq ?_
                refine tr_region (fun N10 hN => ?_)
                refine lx (op_assign rfl) rfl ?_
                refine lx_end ⟨by kernel_rfl, ?_⟩
                refine pe_then_normal ?_
                refine tr_sub hC (.cons (t := 2) rfl .nil) .nil rfl ?_
                refine tr_ret ?_
                refine pe_block_ret ?_
                refine pe_then_ret ?_
                refine pe_ret1 rfl hO rfl (.tmp rfl .nil) ?_
                refine entB (Eq.symm (validF_no1 (fun hh => ?_)))
                obtain ⟨a1, a2, a3, a4, a5, a6, a7, a8⟩ := hh
                omega
              · (try simp only [Bool.and_eq_true, Bool.or_eq_true, Bool.and_eq_false_iff, Bool.or_eq_false_iff, decide_eq_true_eq, decide_eq_false_iff_not, Bool.not_eq_true', Bool.not_eq_false', List.length_map, ne_eq, Decidable.not_not, Int.not_lt, Int.not_le] at h31_2)
                refine tr_region (fun N9 hN => ?_)
                refine lx (op_fieldAddr rfl fl28_6 sz3) rfl ?_
                refine lx (op_bload_one (m := 1) rfl rfl ag3 rfl) rfl ?_
                refine lx (op_fieldAddr rfl fl28_7 sz3) rfl ?_
                refine lx (op_bload_one (m := 1) rfl rfl ag3 rfl) rfl ?_
                refine lx (op_fieldAddr rfl fl28_4 sz25) rfl ?_
                refine lx (op_bload_one (m := 1) rfl rfl ag25 rfl) rfl ?_
                first | refine lx (op_len rfl el25) rfl ?_ | refine lx (op_len_row rfl el25) rfl ?_ | refine lx (op_len_mv rfl el25) rfl ?_ | refine lx (op_len_nil rfl el25) rfl ?_
                refine lx (op_add rfl rfl (by omega)) rfl ?_
                refine lx (op_neq rfl rfl) rfl ?_
                refine lx (op_assign rfl) rfl ?_
                refine lx_end ⟨by kernel_rfl, ?_⟩
                refine pe_then_normal ?_
                refine tr_sub hC (.cons (t := 1) rfl (.cons (t := 31) rfl .nil)) (.cons (t := 1) rfl .nil) rfl ?_
                refine tr_cond rfl (fun h31_3 => ?_) (fun h31_3 => ?_)
                · (try simp only [Bool.and_eq_true, Bool.or_eq_true, Bool.and_eq_false_iff, Bool.or_eq_false_iff, decide_eq_true_eq, decide_eq_false_iff_not, Bool.not_eq_true', Bool.not_eq_false', List.length_map, ne_eq, Decidable.not_not, Int.not_lt, Int.not_le] at h31_3)
                  refine tr_seq ?_
                  refine tr_region (fun N10 hN => ?_)
                  refine lx (op_assign rfl) rfl ?_
                  refine lx_end ⟨by kernel_rfl, ?_⟩
                  refine pe_then_normal ?_
                  refine tr_sub hC (.cons (t := 2) rfl .nil) .nil rfl ?_
                  refine tr_ret ?_
                  refine pe_block_ret ?_
                  refine pe_then_ret ?_
                  refine pe_ret1 rfl hO rfl (.tmp rfl .nil) ?_
                  refine entB (Eq.symm (validF_no1 (fun hh => ?_)))
                  obtain ⟨a1, a2, a3, a4, a5, a6, a7, a8⟩ := hh
                  omega
                · (try simp only [Bool.and_eq_true, Bool.or_eq_true, Bool.and_eq_false_iff, Bool.or_eq_false_iff, decide_eq_true_eq, decide_eq_false_iff_not, Bool.not_eq_true', Bool.not_eq_false', List.length_map, ne_eq, Decidable.not_not, Int.not_lt, Int.not_le] at h31_3)
                  refine tr_seq ?_
                  refine tr_region (fun N11 hN => ?_)
                  refine lx (op_fieldAddr rfl fl28_5 sz4) rfl ?_
                  refine lx (op_bload_one (m := 1) rfl rfl ag4 rfl) rfl ?_
                  refine lx (op_move rfl) rfl ?_
                  refine lxs rfl rfl rfl guard_eq (.cons (t := 1) rfl (fun _ => Ent.refl _) .nil) (op_fieldAddr rfl fl28_8 sz26) rfl ?_
                  refine lxs rfl rfl rfl guard_eq (.cons (t := 51) rfl (fun h => entW h) .nil) (op_bload_one (m := 1) rfl rfl ag26 rfl) rfl ?_
                  first | refine lxs rfl rfl rfl guard_eq (.cons (t := 52) rfl (fun h => entW h) .nil) (op_len rfl el26) rfl ?_ | refine lxs rfl rfl rfl guard_eq (.cons (t := 52) rfl (fun h => entW h) .nil) (op_len_row rfl el26) rfl ?_ | refine lxs rfl rfl rfl guard_eq (.cons (t := 52) rfl (fun h => entW h) .nil) (op_len_mv rfl el26) rfl ?_ | refine lxs rfl rfl rfl guard_eq (.cons (t := 52) rfl (fun h => entW h) .nil) (op_len_nil rfl el26) rfl ?_
                  refine lxs rfl rfl rfl guard_eq (.cons (t := 1) rfl (fun _ => Ent.refl _) .nil) (op_fieldAddr rfl fl28_9 sz26) rfl ?_
                  refine lxs rfl rfl rfl guard_eq (.cons (t := 54) rfl (fun h => entW h) .nil) (op_bload_one (m := 1) rfl rfl ag26 rfl) rfl ?_
                  first | refine lxs rfl rfl rfl guard_eq (.cons (t := 55) rfl (fun h => entW h) .nil) (op_len rfl el26) rfl ?_ | refine lxs rfl rfl rfl guard_eq (.cons (t := 55) rfl (fun h => entW h) .nil) (op_len_row rfl el26) rfl ?_ | refine lxs rfl rfl rfl guard_eq (.cons (t := 55) rfl (fun h => entW h) .nil) (op_len_mv rfl el26) rfl ?_ | refine lxs rfl rfl rfl guard_eq (.cons (t := 55) rfl (fun h => entW h) .nil) (op_len_nil rfl el26) rfl ?_
                  refine lxs rfl rfl rfl guard_eq (.cons (t := 53) rfl (fun h => entW h) (.cons (t := 56) rfl (fun h => entW h) .nil)) (op_add rfl rfl (by omega)) rfl ?_
                  refine lxs rfl rfl rfl guard_eq (.cons (t := 57) rfl (fun h => entW h) .nil) (op_gtr rfl rfl) rfl ?_
                  refine lx (op_pick_and rfl rfl) rfl ?_
                  refine lx (op_assign rfl) rfl ?_
                  refine lx_end ⟨by kernel_rfl, ?_⟩
                  refine pe_then_normal ?_
                  refine tr_sub hC (.cons (t := 1) rfl (.cons (t := 47) rfl .nil)) (.cons (t := 1) rfl .nil) rfl ?_
                  refine tr_cond rfl (fun h47 => ?_) (fun h47 => ?_)
                  · have hno := validF_no2 (o := o) (fun hh => head2_a hh h47)
                    refine tr_seq ?_
                    refine tr_region (fun N12 hN => ?_)
                    refine lx (op_assign rfl) rfl ?_
                    refine lx_end ⟨by kernel_rfl, ?_⟩
                    refine pe_then_normal ?_
                    refine tr_sub hC (.cons (t := 2) rfl .nil) .nil rfl ?_
                    refine tr_ret ?_
                    refine pe_block_ret ?_
                    refine pe_then_ret ?_
                    refine pe_ret1 rfl hO rfl (.tmp rfl .nil) ?_
                    exact entB hno.symm
                  · have hh2 := head2_a2 h47
                    refine tr_seq ?_
                    refine tr_seq ?_
                    refine tr_region (fun N13 hN => ?_)
                    refine lx (op_fieldAddr rfl fl28_8 sz26) rfl ?_
                    refine lx (op_bload_one (m := 1) rfl rfl ag26 rfl) rfl ?_
                    first | refine lx (op_len rfl el26) rfl ?_ | refine lx (op_len_row rfl el26) rfl ?_ | refine lx (op_len_mv rfl el26) rfl ?_ | refine lx (op_len_nil rfl el26) rfl ?_
                    refine lx (op_gtr rfl rfl) rfl ?_
                    refine lx (op_move rfl) rfl ?_
                    refine lxs rfl rfl rfl guard_eq (.cons (t := 1) rfl (fun _ => Ent.refl _) .nil) (op_fieldAddr rfl fl28_4 sz25) rfl ?_
                    refine lxs rfl rfl rfl guard_eq (.cons (t := 66) rfl (fun h => entW h) .nil) (op_bload_one (m := 1) rfl rfl ag25 rfl) rfl ?_
                    first | refine lxs rfl rfl rfl guard_eq (.cons (t := 67) rfl (fun h => entW h) .nil) (op_len rfl el25) rfl ?_ | refine lxs rfl rfl rfl guard_eq (.cons (t := 67) rfl (fun h => entW h) .nil) (op_len_row rfl el25) rfl ?_ | refine lxs rfl rfl rfl guard_eq (.cons (t := 67) rfl (fun h => entW h) .nil) (op_len_mv rfl el25) rfl ?_ | refine lxs rfl rfl rfl guard_eq (.cons (t := 67) rfl (fun h => entW h) .nil) (op_len_nil rfl el25) rfl ?_
                    refine lxs rfl rfl rfl guard_eq (.cons (t := 1) rfl (fun _ => Ent.refl _) .nil) (op_fieldAddr rfl fl28_3 sz3) rfl ?_
                    refine lxs rfl rfl rfl guard_eq (.cons (t := 69) rfl (fun h => entW h) .nil) (op_bload_one (m := 1) rfl rfl ag3 rfl) rfl ?_
                    refine lxs rfl rfl rfl guard_eq (.cons (t := 68) rfl (fun h => entW h) (.cons (t := 70) rfl (fun h => entW h) .nil)) (op_neq rfl rfl) rfl ?_
                    refine lx (op_pick_and rfl rfl) rfl ?_
                    refine lx (op_assign rfl) rfl ?_
                    refine lx_end ⟨by kernel_rfl, ?_⟩
                    refine pe_then_normal ?_
                    refine tr_sub hC (.cons (t := 1) rfl (.cons (t := 60) rfl .nil)) (.cons (t := 1) rfl .nil) rfl ?_
                    refine tr_cond2 rfl (fun h60 => ?_) (fun h60 => ?_)
                    · (try simp only [Bool.and_eq_true, Bool.or_eq_true, Bool.and_eq_false_iff, Bool.or_eq_false_iff, decide_eq_true_eq, decide_eq_false_iff_not, Bool.not_eq_true', Bool.not_eq_false', List.length_map, ne_eq, Decidable.not_not, Int.not_lt, Int.not_le] at h60)
                      have hno := validF_no2 (o := o) (fun hh => head2_b hh h60)
                      refine tr_skip ?_
                      refine pe_then_normal ?_
                      refine tr_sub hC (.cons (t := 1) rfl (.cons (t := 60) rfl .nil)) (.cons (t := 1) rfl .nil) rfl ?_
                      refine tr_cond_t rfl ?_
                      refine tr_seq ?_
                      refine tr_region (fun N15 hN => ?_)
                      refine lx (op_assign rfl) rfl ?_
                      refine lx_end ⟨by kernel_rfl, ?_⟩
                      refine pe_then_normal ?_
                      refine tr_sub hC (.cons (t := 2) rfl .nil) .nil rfl ?_
                      refine tr_ret ?_
                      refine pe_block_ret ?_
                      refine pe_then_ret ?_
                      refine pe_ret1 rfl hO rfl (.tmp rfl .nil) ?_
                      exact entB hno.symm
                    · (try simp only [Bool.and_eq_true, Bool.or_eq_true, Bool.and_eq_false_iff, Bool.or_eq_false_iff, decide_eq_true_eq, decide_eq_false_iff_not, Bool.not_eq_true', Bool.not_eq_false', List.length_map, ne_eq, Decidable.not_not, Int.not_lt, Int.not_le] at h60)
                      refine tr_region (fun N14 hN => ?_)
                      refine lx (op_fieldAddr rfl fl28_9 sz26) rfl ?_
                      refine lx (op_bload_one (m := 1) rfl rfl ag26 rfl) rfl ?_
                      first | refine lx (op_len rfl el26) rfl ?_ | refine lx (op_len_row rfl el26) rfl ?_ | refine lx (op_len_mv rfl el26) rfl ?_ | refine lx (op_len_nil rfl el26) rfl ?_
                      refine lx (op_gtr rfl rfl) rfl ?_
                      refine lx (op_move rfl) rfl ?_
                      refine lxs rfl rfl rfl guard_eq (.cons (t := 1) rfl (fun _ => Ent.refl _) .nil) (op_fieldAddr rfl fl28_4 sz25) rfl ?_
                      refine lxs rfl rfl rfl guard_eq (.cons (t := 78) rfl (fun h => entW h) .nil) (op_bload_one (m := 1) rfl rfl ag25 rfl) rfl ?_
                      first | refine lxs rfl rfl rfl guard_eq (.cons (t := 79) rfl (fun h => entW h) .nil) (op_len rfl el25) rfl ?_ | refine lxs rfl rfl rfl guard_eq (.cons (t := 79) rfl (fun h => entW h) .nil) (op_len_row rfl el25) rfl ?_ | refine lxs rfl rfl rfl guard_eq (.cons (t := 79) rfl (fun h => entW h) .nil) (op_len_mv rfl el25) rfl ?_ | refine lxs rfl rfl rfl guard_eq (.cons (t := 79) rfl (fun h => entW h) .nil) (op_len_nil rfl el25) rfl ?_
                      refine lxs rfl rfl rfl guard_eq (.cons (t := 80) rfl (fun h => entW h) .nil) (op_gtr rfl rfl) rfl ?_
                      refine lx (op_pick_and rfl rfl) rfl ?_
                      refine lx (op_assign rfl) rfl ?_
                      refine lx_end ⟨by kernel_rfl, ?_⟩
                      refine pe_then_normal ?_
                      refine tr_sub hC (.cons (t := 1) rfl (.cons (t := 60) rfl .nil)) (.cons (t := 1) rfl .nil) rfl ?_
                      refine tr_cond rfl (fun h60_2 => ?_) (fun h60_2 => ?_)
                      · (try simp only [Bool.and_eq_true, Bool.or_eq_true, Bool.and_eq_false_iff, Bool.or_eq_false_iff, decide_eq_true_eq, decide_eq_false_iff_not, Bool.not_eq_true', Bool.not_eq_false', List.length_map, ne_eq, Decidable.not_not, Int.not_lt, Int.not_le] at h60_2)
                        have hno := validF_no2 (o := o) (fun hh => head2_c hh h60_2)
                        refine tr_seq ?_
                        refine tr_region (fun N15 hN => ?_)
                        refine lx (op_assign rfl) rfl ?_
                        refine lx_end ⟨by kernel_rfl, ?_⟩
                        refine pe_then_normal ?_
                        refine tr_sub hC (.cons (t := 2) rfl .nil) .nil rfl ?_
                        refine tr_ret ?_
                        refine pe_block_ret ?_
                        refine pe_then_ret ?_
                        refine pe_ret1 rfl hO rfl (.tmp rfl .nil) ?_
                        exact entB hno.symm
                      · (try simp only [Bool.and_eq_true, Bool.or_eq_true, Bool.and_eq_false_iff, Bool.or_eq_false_iff, decide_eq_true_eq, decide_eq_false_iff_not, Bool.not_eq_true', Bool.not_eq_false', List.length_map, ne_eq, Decidable.not_not, Int.not_lt, Int.not_le] at h60_2)
                        have hh1 : head1 o := ⟨h11, by omega, by omega, by omega, by omega, by omega, by omega, by omega⟩
                        have hh3 := head2_yes hh2 h60 h60_2
                        refine tr_skip ?_
                        refine pe_block_normal ?_
                        refine pe_then_normal ?_
                        refine tr_sub hC (.cons (t := 1) rfl .nil) (.cons (t := 1) rfl .nil) rfl ?_
                        refine tr_seq ?_
                        refine tr_seq ?_
                        refine tr_region (fun N16 hN => ?_)
                        refine lx (op_fieldAddr rfl fl28_9 sz26) rfl ?_
                        refine lx (op_bload_one (m := 1) rfl rfl ag26 rfl) rfl ?_
                        first | refine lx (op_len rfl el26) rfl ?_ | refine lx (op_len_row rfl el26) rfl ?_ | refine lx (op_len_mv rfl el26) rfl ?_ | refine lx (op_len_nil rfl el26) rfl ?_
                        refine lx (op_move rfl) rfl ?_
                        refine lx_end ⟨by kernel_rfl, ?_⟩
                        refine pe_then_normal ?_
                        refine tr_sub hC (.cons (t := 1) rfl (.cons (t := 84) rfl (.cons (t := 85) rfl (.cons (t := 86) rfl .nil)))) (.cons (t := 1) rfl .nil) rfl ?_
                        refine tr_block ?_
                        refine tr_loopK (α := {zz : Nat // zz ≤ o.receivers.length ∧ (o.receivers.take zz).all (fun w => decide (w.v = v0)) = true}) (⟨(0), Nat.zero_le _, by simp⟩) (fun zz => [(86, eqP (.int .i64 (zz.1 : Int)))]) (fun zz => []) (fun zz => o.receivers.length - zz.1) hC (.cons (t := 1) rfl (.cons (t := 84) rfl (.cons (t := 85) rfl .nil))) (.cons (t := 1) rfl .nil) rfl ?_ ?_ (fun zz => ?_)
                        · try dsimp only [List.cons_append, List.nil_append]
                          first | refine SubF.cons rfl ?_ | (refine SubF.ent rfl ?_ ?_; · repeat (first | exact Ents.nil | refine Ents.cons ?_ ?_ | refine Ent.tup ?_ | refine Ent.agg ?_ | exact Ent.row _ _ _ _ | exact Ent.nil _ _ | exact Ent.func _ | exact Ent.refl _ | exact Ent.of_eq rfl | refine Ent.cells ?_))
                          exact SubF.nil
                        · try dsimp only [List.cons_append, List.nil_append]
                          repeat (first | exact SubL.nil | refine SubL.cons rfl ?_)
                        · obtain ⟨k, hk1, hk2⟩ := zz
                          dsimp only [List.cons_append, List.nil_append]
                          refine tr_seq ?_
                          refine tr_region (fun N17 hN => ?_)
                          refine lx (op_lss rfl rfl) rfl ?_
                          refine lx_end ⟨by kernel_rfl, ?_⟩
                          refine pe_then_normal ?_
                          refine tr_sub hC (.cons (t := 1) rfl (.cons (t := 84) rfl (.cons (t := 85) rfl (.cons (t := 86) rfl (.cons (t := 87) rfl .nil))))) (.cons (t := 1) rfl .nil) rfl ?_
                          refine tr_seq ?_
                          refine tr_cond rfl (fun h87 => ?_) (fun h87 => ?_)
                          · (try simp only [Bool.and_eq_true, Bool.or_eq_true, Bool.and_eq_false_iff, Bool.or_eq_false_iff, decide_eq_true_eq, decide_eq_false_iff_not, Bool.not_eq_true', Bool.not_eq_false', List.length_map, ne_eq, Decidable.not_not, Int.not_lt, Int.not_le] at h87)
                            refine tr_skip ?_
                            refine pe_then_normal ?_
                            refine tr_sub hC (.cons (t := 1) rfl (.cons (t := 84) rfl (.cons (t := 85) rfl (.cons (t := 86) rfl .nil)))) (.cons (t := 1) rfl .nil) rfl ?_
                            refine tr_seq ?_
                            refine tr_block ?_
                            refine tr_seq ?_
                            refine tr_region (fun N18 hN => ?_)
                            refine lx (op_index rfl rfl el26 sz33 rfl (List.getElem?_eq_getElem (by omega : k < o.receivers.length))) rfl ?_
                            first | refine lx (op_load_all rfl ag33 sz33) rfl ?_ | refine lx (op_load_agg rfl ag33 sz33 rfl) rfl ?_ | refine lx (op_bload (m := 1) rfl rfl ag33 sz33) rfl ?_ | refine lx (op_bload_part (m := 1) (qs := [_, _, _, _, _]) rfl rfl ag33 sz33 rfl rfl) rfl ?_
                            refine lxn (op_alloc (m := 4) (k := 4) (ps := [eqP (.int .i64 0), eqP (.int .i64 0), eqP (.int .i64 0), eqP (.int .i64 0), eqP (.int .i64 0)]) ze33 rfl rfl (by first | exact hC.low _ (by decide) | rfl)) rfl ?_
                            refine lxr (op_store_all (m := 4) rfl rfl rfl (.agg rfl) sz33 rfl) rfl ?_
                            refine lx_end ⟨by kernel_rfl, ?_⟩
                            refine pe_then_normal ?_
                            refine tr_sub hC (.cons (t := 1) rfl (.cons (t := 4) rfl (.cons (t := 84) rfl (.cons (t := 85) rfl (.cons (t := 86) rfl .nil))))) (.cons (t := 1) rfl (.cons (t := 4) rfl .nil)) rfl ?_
                            refine tr_seq ?_
                            refine tr_region (fun N19 hN => ?_)
                            refine lx (op_fieldAddr rfl fl33_2 sz23) rfl ?_
                            refine lx (op_bload_part (m := 4) (qs := [_, _, _]) rfl rfl ag23 sz23 rfl rfl) rfl ?_
                            refine lx (op_build (qs := [_, _, _]) (parts := []) ze23 rfl rfl fs23 .nil rfl rfl) rfl ?_
                            refine lx (op_neq_agg rfl rfl (eqV _ v0)) rfl ?_
                            refine lx_end ⟨by kernel_rfl, ?_⟩
                            refine pe_then_normal ?_
                            refine tr_sub hC (.cons (t := 1) rfl (.cons (t := 84) rfl (.cons (t := 85) rfl (.cons (t := 86) rfl (.cons (t := 93) rfl .nil))))) (.cons (t := 1) rfl .nil) rfl ?_
                            refine tr_cond rfl (fun h93 => ?_) (fun h93 => ?_)
                            · (try simp only [Bool.and_eq_true, Bool.or_eq_true, Bool.and_eq_false_iff, Bool.or_eq_false_iff, decide_eq_true_eq, decide_eq_false_iff_not, Bool.not_eq_true', Bool.not_eq_false', List.length_map, ne_eq, Decidable.not_not, Int.not_lt, Int.not_le] at h93)
                              have hbad := validF_no3 (o := o) (all_bad (φ := fun w : Wt => decide (w.v = v0)) (by omega : k < o.receivers.length) (decide_eq_false h93))
                              refine tr_seq ?_
                              refine tr_region (fun N20 hN => ?_)
                              refine lx (op_assign rfl) rfl ?_
                              refine lx_end ⟨by kernel_rfl, ?_⟩
                              refine pe_then_normal ?_
                              refine tr_sub hC (.cons (t := 2) rfl .nil) .nil rfl ?_
                              refine tr_ret ?_
                              refine pe_block_ret ?_
                              refine pe_then_ret ?_
                              refine pe_then_ret ?_
                              refine pe_block_ret ?_
                              refine pe_then_ret ?_
                              refine pe_ret1 rfl hO rfl (.tmp rfl .nil) ?_
                              exact entB hbad.symm
                            · (try simp only [Bool.and_eq_true, Bool.or_eq_true, Bool.and_eq_false_iff, Bool.or_eq_false_iff, decide_eq_true_eq, decide_eq_false_iff_not, Bool.not_eq_true', Bool.not_eq_false', List.length_map, ne_eq, Decidable.not_not, Int.not_lt, Int.not_le] at h93)
                              refine tr_skip ?_
                              refine pe_block_normal ?_
                              refine pe_then_normal ?_
                              refine tr_sub hC (.cons (t := 1) rfl (.cons (t := 84) rfl (.cons (t := 85) rfl (.cons (t := 86) rfl .nil)))) (.cons (t := 1) rfl .nil) rfl ?_
                              refine tr_region (fun N21 hN => ?_)
                              refine lx (op_add rfl rfl (by omega)) rfl ?_
                              refine lx (op_move rfl) rfl ?_
                              refine lx_end ⟨by kernel_rfl, ?_⟩
                              refine pe_round (⟨(k + 1), by omega, all_step (φ := fun w : Wt => decide (w.v = v0)) hk2 (by omega) (decide_eq_true h93)⟩) (by dsimp only; omega) (pe_st hC ?_ ?_ rfl)
                              · try dsimp only [List.cons_append, List.nil_append]
                                first | refine SubF.cons rfl ?_ | (refine SubF.ent rfl ?_ ?_; · repeat (first | exact Ents.nil | refine Ents.cons ?_ ?_ | refine Ent.tup ?_ | refine Ent.agg ?_ | exact Ent.row _ _ _ _ | exact Ent.nil _ _ | exact Ent.func _ | exact Ent.refl _ | exact Ent.of_eq rfl | refine Ent.cells ?_))
                                first | refine SubF.cons rfl ?_ | (refine SubF.ent rfl ?_ ?_; · repeat (first | exact Ents.nil | refine Ents.cons ?_ ?_ | refine Ent.tup ?_ | refine Ent.agg ?_ | exact Ent.row _ _ _ _ | exact Ent.nil _ _ | exact Ent.func _ | exact Ent.refl _ | exact Ent.of_eq rfl | refine Ent.cells ?_))
                                first | refine SubF.cons rfl ?_ | (refine SubF.ent rfl ?_ ?_; · repeat (first | exact Ents.nil | refine Ents.cons ?_ ?_ | refine Ent.tup ?_ | refine Ent.agg ?_ | exact Ent.row _ _ _ _ | exact Ent.nil _ _ | exact Ent.func _ | exact Ent.refl _ | exact Ent.of_eq rfl | refine Ent.cells ?_))
                                first | refine SubF.cons rfl ?_ | (refine SubF.ent rfl ?_ ?_; · repeat (first | exact Ents.nil | refine Ents.cons ?_ ?_ | refine Ent.tup ?_ | refine Ent.agg ?_ | exact Ent.row _ _ _ _ | exact Ent.nil _ _ | exact Ent.func _ | exact Ent.refl _ | exact Ent.of_eq rfl | refine Ent.cells ?_))
                                exact SubF.nil
                              · try dsimp only [List.cons_append, List.nil_append]
                                repeat (first | exact SubL.nil | refine SubL.cons rfl ?_)
                          · (try simp only [Bool.and_eq_true, Bool.or_eq_true, Bool.and_eq_false_iff, Bool.or_eq_false_iff, decide_eq_true_eq, decide_eq_false_iff_not, Bool.not_eq_true', Bool.not_eq_false', List.length_map, ne_eq, Decidable.not_not, Int.not_lt, Int.not_le] at h87)
                            have hk3 : k = o.receivers.length := by omega
                            have hz : (o.receivers.all fun w => decide (w.v = v0)) = true := all_end hk2 (by omega)
                            refine tr_exit ?_
                            refine pe_then_exit ?_
                            refine pe_then_exit ?_
                            refine pe_block_eq ?_
                            refine pe_then_normal ?_
                            refine tr_sub hC (.cons (t := 1) rfl .nil) (.cons (t := 1) rfl .nil) rfl ?_
                            refine tr_seq ?_
                            refine tr_region (fun N22 hN => ?_)
                            refine lx (op_fieldAddr rfl fl28_8 sz26) rfl ?_
                            refine lx (op_bload_one (m := 1) rfl rfl ag26 rfl) rfl ?_
                            refine lx (op_fieldAddr rfl fl28_9 sz26) rfl ?_
                            refine lx (op_bload_one (m := 1) rfl rfl ag26 rfl) rfl ?_
                            refine lx (op_buildSlice (f := lp) (xs := [o.senders, o.receivers]) (l := [(0, (Go.Operand.tmp 96)), (1, (Go.Operand.tmp 98))]) ze26 rfl rfl (by decide) el78 sz26 lp_len (.cons rfl (.one (by (first | exact One.eq rfl | exact One.mv _ _ _ _ _ | exact One.cl _ _ _ | exact One.map _ | exact One.sl _ _ _ | exact One.row _ _ _ _ | exact One.msl _ _ _ _ | exact One.ptr _ _ | exact One.b _ | exact One.cells _))) (.cons rfl (.one (by (first | exact One.eq rfl | exact One.mv _ _ _ _ _ | exact One.cl _ _ _ | exact One.map _ | exact One.sl _ _ _ | exact One.row _ _ _ _ | exact One.msl _ _ _ _ | exact One.ptr _ _ | exact One.b _ | exact One.cells _))) .nil)) rfl (by decide)) rfl ?_
                            first | refine lx (op_call (l := [(Go.Operand.tmp 99)]) (concat2_ok o.senders o.receivers (by rw [hwl]; omega)) (.cons rfl .nil) fn54) rfl ?_ | refine lx (op_call (l := [(Go.Operand.tmp 99)]) (concat2_ok o.senders o.receivers (by rw [hwl]; omega)) (.ent rfl (by repeat (first | exact Ents.nil | refine Ents.cons ?_ ?_ | refine Ent.tup ?_ | refine Ent.agg ?_ | exact Ent.row _ _ _ _ | exact Ent.nil _ _ | exact Ent.func _ | exact Ent.refl _ | exact Ent.of_eq rfl | refine Ent.cells ?_)) .nil) fn54) rfl ?_
                            refine lx (op_assign rfl) rfl ?_
                            refine lx_end ⟨by kernel_rfl, ?_⟩
                            refine pe_then_normal ?_
                            refine tr_sub hC (.cons (t := 1) rfl (.cons (t := 5) rfl .nil)) (.cons (t := 1) rfl .nil) rfl ?_
                            refine tr_seq ?_
                            refine tr_region (fun N23 hN => ?_)
                            refine lx (op_fieldAddr rfl fl28_8 sz26) rfl ?_
                            refine lx (op_bload_one (m := 1) rfl rfl ag26 rfl) rfl ?_
                            first | refine lx (op_len rfl el26) rfl ?_ | refine lx (op_len_row rfl el26) rfl ?_ | refine lx (op_len_mv rfl el26) rfl ?_ | refine lx (op_len_nil rfl el26) rfl ?_
                            refine lx (op_gtr rfl rfl) rfl ?_
                            refine lx (op_move rfl) rfl ?_
                            refine lxs rfl rfl rfl guard_eq (.cons (t := 1) rfl (fun _ => Ent.refl _) .nil) (op_fieldAddr rfl fl28_9 sz26) rfl ?_
                            refine lxs rfl rfl rfl guard_eq (.cons (t := 106) rfl (fun h => entW h) .nil) (op_bload_one (m := 1) rfl rfl ag26 rfl) rfl ?_
                            first | refine lxs rfl rfl rfl guard_eq (.cons (t := 107) rfl (fun h => entW h) .nil) (op_len rfl el26) rfl ?_ | refine lxs rfl rfl rfl guard_eq (.cons (t := 107) rfl (fun h => entW h) .nil) (op_len_row rfl el26) rfl ?_ | refine lxs rfl rfl rfl guard_eq (.cons (t := 107) rfl (fun h => entW h) .nil) (op_len_mv rfl el26) rfl ?_ | refine lxs rfl rfl rfl guard_eq (.cons (t := 107) rfl (fun h => entW h) .nil) (op_len_nil rfl el26) rfl ?_
                            refine lxs rfl rfl rfl guard_eq (.cons (t := 108) rfl (fun h => entW h) .nil) (op_gtr rfl rfl) rfl ?_
                            refine lx (op_pick_and rfl rfl) rfl ?_
                            refine lx (op_assign rfl) rfl ?_
                            refine lx_end ⟨by kernel_rfl, ?_⟩
                            refine pe_then_normal ?_
                            refine tr_sub hC (.cons (t := 5) rfl (.cons (t := 6) rfl .nil)) .nil rfl ?_
                            refine tr_seq ?_
                            refine tr_seq ?_
                            refine tr_region (fun N24 hN => ?_)
                            refine lx (op_move rfl) rfl ?_
                            first | refine lx (op_len rfl el26) rfl ?_ | refine lx (op_len_row rfl el26) rfl ?_ | refine lx (op_len_mv rfl el26) rfl ?_ | refine lx (op_len_nil rfl el26) rfl ?_
                            refine lx (op_move rfl) rfl ?_
                            refine lx_end ⟨by kernel_rfl, ?_⟩
                            refine pe_then_normal ?_
                            refine tr_sub hC (.cons (t := 5) rfl (.cons (t := 6) rfl (.cons (t := 111) rfl (.cons (t := 112) rfl (.cons (t := 113) rfl .nil))))) .nil rfl ?_
                            refine tr_block ?_
                            refine tr_loopK (α := {zz : Nat // zz ≤ (o.senders ++ o.receivers).length ∧ allP (decide ((o.senders.length : Int) > 0) && decide ((o.receivers.length : Int) > 0)) ((o.senders ++ o.receivers).headD w0) ((o.senders ++ o.receivers).take zz) ((o.senders ++ o.receivers).drop zz) = allP (decide ((o.senders.length : Int) > 0) && decide ((o.receivers.length : Int) > 0)) ((o.senders ++ o.receivers).headD w0) [] (o.senders ++ o.receivers)}) (⟨(0), Nat.zero_le _, rfl⟩) (fun zz => [(113, eqP (.int .i64 (zz.1 : Int)))]) (fun zz => []) (fun zz => (o.senders ++ o.receivers).length - zz.1) hC (.cons (t := 5) rfl (.cons (t := 6) rfl (.cons (t := 111) rfl (.cons (t := 112) rfl .nil)))) .nil rfl ?_ ?_ (fun zz => ?_)
                            · try dsimp only [List.cons_append, List.nil_append]
                              first | refine SubF.cons rfl ?_ | (refine SubF.ent rfl ?_ ?_; · repeat (first | exact Ents.nil | refine Ents.cons ?_ ?_ | refine Ent.tup ?_ | refine Ent.agg ?_ | exact Ent.row _ _ _ _ | exact Ent.nil _ _ | exact Ent.func _ | exact Ent.refl _ | exact Ent.of_eq rfl | refine Ent.cells ?_))
                              exact SubF.nil
                            · try dsimp only [List.cons_append, List.nil_append]
                              repeat (first | exact SubL.nil | refine SubL.cons rfl ?_)
                            · obtain ⟨i, hi1, hi2⟩ := zz
                              dsimp only [List.cons_append, List.nil_append]
                              refine tr_seq ?_
                              refine tr_region (fun N25 hN => ?_)
                              refine lx (op_lss rfl rfl) rfl ?_
                              refine lx_end ⟨by kernel_rfl, ?_⟩
                              refine pe_then_normal ?_
                              refine tr_sub hC (.cons (t := 5) rfl (.cons (t := 6) rfl (.cons (t := 111) rfl (.cons (t := 112) rfl (.cons (t := 113) rfl (.cons (t := 114) rfl .nil)))))) .nil rfl ?_
                              refine tr_seq ?_
                              refine tr_cond rfl (fun h114 => ?_) (fun h114 => ?_)
                              · (try simp only [Bool.and_eq_true, Bool.or_eq_true, Bool.and_eq_false_iff, Bool.or_eq_false_iff, decide_eq_true_eq, decide_eq_false_iff_not, Bool.not_eq_true', Bool.not_eq_false', List.length_map, ne_eq, Decidable.not_not, Int.not_lt, Int.not_le] at h114)
                                have hil : i < (o.senders ++ o.receivers).length := by omega
                                refine tr_skip ?_
                                refine pe_then_normal ?_
                                refine tr_sub hC (.cons (t := 5) rfl (.cons (t := 6) rfl (.cons (t := 111) rfl (.cons (t := 112) rfl (.cons (t := 113) rfl .nil))))) .nil rfl ?_
                                refine tr_seq ?_
                                refine tr_block ?_
                                refine tr_seq ?_
                                refine tr_region (fun N26 hN => ?_)
                                refine lx (op_move rfl) rfl ?_
                                refine lx (op_index rfl rfl el26 sz33 rfl (List.getElem?_eq_getElem (by omega : i < (o.senders ++ o.receivers).length))) rfl ?_
                                first | refine lx (op_load_all rfl ag33 sz33) rfl ?_ | refine lx (op_load_agg rfl ag33 sz33 rfl) rfl ?_
                                refine lxn (op_alloc (m := 8) (k := 8) (ps := [eqP (.int .i64 0), eqP (.int .i64 0), eqP (.int .i64 0), eqP (.int .i64 0), eqP (.int .i64 0)]) ze33 rfl rfl (by first | exact hC.low _ (by decide) | rfl)) rfl ?_
                                refine lx (op_assign rfl) rfl ?_
                                refine lxr (op_store_all (m := 8) rfl rfl rfl (.agg rfl) sz33 rfl) rfl ?_
                                refine lx_end ⟨by kernel_rfl, ?_⟩
                                refine pe_then_normal ?_
                                refine tr_sub hC (.cons (t := 5) rfl (.cons (t := 6) rfl (.cons (t := 7) rfl (.cons (t := 8) rfl (.cons (t := 111) rfl (.cons (t := 112) rfl (.cons (t := 113) rfl .nil))))))) (.cons (t := 8) rfl .nil) rfl ?_
                                refine tr_seq ?_
                                refine tr_seq ?_
                                refine tr_drawn mixed (fun N27 hN => ?_)
                                refine lx (op_fieldAddr rfl fl33_0 sz3) rfl ?_
                                refine lx (op_bload_one (m := 8) rfl rfl ag3 rfl) rfl ?_
                                first | refine lx (op_call (l := [(Go.Operand.tmp 119)]) (goro_ok _) (.cons rfl .nil) fn50) rfl ?_ | refine lx (op_call (l := [(Go.Operand.tmp 119)]) (goro_ok _) (.ent rfl (by repeat (first | exact Ents.nil | refine Ents.cons ?_ ?_ | refine Ent.tup ?_ | refine Ent.agg ?_ | exact Ent.row _ _ _ _ | exact Ent.nil _ _ | exact Ent.func _ | exact Ent.refl _ | exact Ent.of_eq rfl | refine Ent.cells ?_)) .nil) fn50) rfl ?_
                                first | refine lx (op_not rfl) rfl ?_ | refine lx (op_not_b rfl) rfl ?_
                                refine lx (op_move rfl) rfl ?_
                                refine lxs rfl rfl rfl guard_eq (.cons (t := 8) rfl (fun _ => Ent.refl _) .nil) (op_fieldAddr rfl fl33_1 sz3) rfl ?_
                                refine lxs rfl rfl rfl guard_eq (.cons (t := 123) rfl (fun h => entW h) .nil) (op_bload_one (m := 8) rfl rfl ag3 rfl) rfl ?_
                                refine lxs rfl rfl rfl guard_eq (.cons (t := 124) rfl (fun h => entW h) .nil) (op_lss rfl rfl) rfl ?_
                                refine lx (op_pick_or rfl rfl) rfl ?_
                                refine lx (op_move rfl) rfl ?_
                                refine lxs rfl rfl rfl guard_eq (.cons (t := 6) rfl (fun _ => Ent.refl _) .nil) (op_move rfl) rfl ?_
                                refine lxs rfl rfl rfl guard_eq (.cons (t := 128) rfl (fun h => entW h) .nil) (op_move rfl) rfl ?_
                                refine lxs rfl rfl rfl guard_w (.cons (t := 8) rfl (fun _ => Ent.refl _) .nil) (op_fieldAddr rfl fl33_0 sz3) rfl ?_
                                refine lxs rfl rfl rfl guard_w (.cons (t := 130) rfl (fun h => entW h) .nil) (op_bload_one (m := 8) rfl rfl ag3 rfl) rfl ?_
                                refine lxs rfl rfl rfl guard_w (.cons (t := 5) rfl (fun _ => Ent.refl _) .nil) (op_move rfl) rfl ?_
                                refine lxs rfl rfl rfl guard_w (.cons (t := 132) rfl (fun h => entW h) .nil) (op_index rfl rfl el26 sz33 rfl (headW_at (by omega : i < (o.senders ++ o.receivers).length))) rfl ?_
                                first | refine lxs rfl rfl rfl guard_w (.cons (t := 133) rfl (fun h => entW h) .nil) (op_fieldAddr rfl fl33_0 sz3) rfl ?_ | refine lxs rfl rfl rfl guard_w (.cons (t := 133) rfl (fun h => entW h) .nil) (op_fieldCells rfl fl33_0 sz3) rfl ?_
                                first | refine lxs rfl rfl rfl guard_w (.cons (t := 134) rfl (fun h => entW h) .nil) (op_load_one rfl ag3 rfl) rfl ?_ | refine lxs rfl rfl rfl guard_w (.cons (t := 134) rfl (fun h => entW h) .nil) (op_bload_one (m := 8) rfl rfl ag3 rfl) rfl ?_
                                refine lxs rfl rfl rfl guard_w (.cons (t := 131) rfl (fun h => entW h) (.cons (t := 135) rfl (fun h => entW h) .nil)) (op_neq rfl rfl) rfl ?_
                                refine lxs rfl rfl rfl guard_eq (.cons (t := 129) rfl (fun h => entW h) (.cons (t := 136) rfl (fun h => entS h) .nil)) (op_pick_and rfl rfl) rfl ?_
                                refine lx (op_pick_or rfl rfl) rfl ?_
                                refine lx_end ⟨by kernel_rfl, ?_⟩
                                refine pe_then_normal ?_
                                refine tr_sub hC (.cons (t := 5) rfl (.cons (t := 6) rfl (.cons (t := 7) rfl (.cons (t := 8) rfl (.cons (t := 111) rfl (.cons (t := 112) rfl (.cons (t := 113) rfl (.cons (t := 138) rfl .nil)))))))) (.cons (t := 8) rfl .nil) rfl ?_
                                refine tr_cond rfl (fun h138 => ?_) (fun h138 => ?_)
                                · have hno := valid_bad hh1 hh3 hz hil hi2 h138
                                  refine tr_seq ?_
                                  refine tr_region (fun N28 hN => ?_)
                                  refine lx (op_assign rfl) rfl ?_
                                  refine lx_end ⟨by kernel_rfl, ?_⟩
                                  refine pe_then_normal ?_
                                  refine tr_sub hC (.cons (t := 2) rfl .nil) .nil rfl ?_
                                  refine tr_ret ?_
                                  refine pe_then_ret ?_
                                  refine pe_block_ret ?_
                                  refine pe_then_ret ?_
                                  refine pe_then_ret ?_
                                  refine pe_block_ret ?_
                                  refine pe_then_ret ?_
                                  refine pe_ret1 rfl hO rfl (.tmp rfl .nil) ?_
                                  exact entB hno.symm
                                · have hok := okP_head h138
                                  refine tr_skip ?_
                                  refine pe_then_normal ?_
                                  refine tr_sub hC (.cons (t := 5) rfl (.cons (t := 6) rfl (.cons (t := 7) rfl (.cons (t := 8) rfl (.cons (t := 111) rfl (.cons (t := 112) rfl (.cons (t := 113) rfl .nil))))))) (.cons (t := 8) rfl .nil) rfl ?_
                                  refine tr_seq ?_
                                  refine tr_region (fun N29 hN => ?_)
                                  refine lx (op_move rfl) rfl ?_
                                  refine lx (op_move rfl) rfl ?_
                                  refine lx (op_slice_h rfl rfl el26 sz33 rfl (by omega)) rfl ?_
                                  first | refine lx (op_len rfl el26) rfl ?_ | refine lx (op_len_row rfl el26) rfl ?_ | refine lx (op_len_mv rfl el26) rfl ?_ | refine lx (op_len_nil rfl el26) rfl ?_
                                  refine lx (op_move rfl) rfl ?_
                                  refine lx_end ⟨by kernel_rfl, ?_⟩
                                  refine pe_then_normal ?_
                                  refine tr_sub hC (.cons (t := 5) rfl (.cons (t := 6) rfl (.cons (t := 8) rfl (.cons (t := 111) rfl (.cons (t := 112) rfl (.cons (t := 113) rfl (.cons (t := 141) rfl (.cons (t := 142) rfl (.cons (t := 143) rfl .nil))))))))) (.cons (t := 8) rfl .nil) rfl ?_
                                  refine tr_block ?_
                                  refine tr_loopK (α := {zz : Nat // zz ≤ ((o.senders ++ o.receivers).take i).length ∧ (((o.senders ++ o.receivers).take i).take zz).all (fun x => !(clash x ((o.senders ++ o.receivers)[i]'(by omega)))) = true}) (⟨(0), Nat.zero_le _, by simp⟩) (fun zz => [(143, eqP (.int .i64 (zz.1 : Int)))]) (fun zz => []) (fun zz => ((o.senders ++ o.receivers).take i).length - zz.1) hC (.cons (t := 5) rfl (.cons (t := 6) rfl (.cons (t := 8) rfl (.cons (t := 111) rfl (.cons (t := 112) rfl (.cons (t := 113) rfl (.cons (t := 141) rfl (.cons (t := 142) rfl .nil)))))))) (.cons (t := 8) rfl .nil) rfl ?_ ?_ (fun zz => ?_)
                                  · try dsimp only [List.cons_append, List.nil_append]
                                    first | refine SubF.cons rfl ?_ | (refine SubF.ent rfl ?_ ?_; · repeat (first | exact Ents.nil | refine Ents.cons ?_ ?_ | refine Ent.tup ?_ | refine Ent.agg ?_ | exact Ent.row _ _ _ _ | exact Ent.nil _ _ | exact Ent.func _ | exact Ent.refl _ | exact Ent.of_eq rfl | refine Ent.cells ?_))
                                    exact SubF.nil
                                  · try dsimp only [List.cons_append, List.nil_append]
                                    repeat (first | exact SubL.nil | refine SubL.cons rfl ?_)
                                  · obtain ⟨j, hj1, hj2⟩ := zz
                                    dsimp only [List.cons_append, List.nil_append]
                                    refine tr_seq ?_
                                    refine tr_region (fun N30 hN => ?_)
                                    refine lx (op_lss rfl rfl) rfl ?_
                                    refine lx_end ⟨by kernel_rfl, ?_⟩
                                    refine pe_then_normal ?_
                                    refine tr_sub hC (.cons (t := 5) rfl (.cons (t := 6) rfl (.cons (t := 8) rfl (.cons (t := 111) rfl (.cons (t := 112) rfl (.cons (t := 113) rfl (.cons (t := 141) rfl (.cons (t := 142) rfl (.cons (t := 143) rfl (.cons (t := 144) rfl .nil)))))))))) (.cons (t := 8) rfl .nil) rfl ?_
                                    refine tr_seq ?_
                                    refine tr_cond rfl (fun h144 => ?_) (fun h144 => ?_)
                                    · (try simp only [Bool.and_eq_true, Bool.or_eq_true, Bool.and_eq_false_iff, Bool.or_eq_false_iff, decide_eq_true_eq, decide_eq_false_iff_not, Bool.not_eq_true', Bool.not_eq_false', List.length_map, ne_eq, Decidable.not_not, Int.not_lt, Int.not_le] at h144)
                                      have hjl : j < ((o.senders ++ o.receivers).take i).length := by omega
                                      have hjb : j < 3000 := by have := List.length_take_le i (o.senders ++ o.receivers); omega
                                      refine tr_skip ?_
                                      refine pe_then_normal ?_
                                      refine tr_sub hC (.cons (t := 5) rfl (.cons (t := 6) rfl (.cons (t := 8) rfl (.cons (t := 111) rfl (.cons (t := 112) rfl (.cons (t := 113) rfl (.cons (t := 141) rfl (.cons (t := 142) rfl (.cons (t := 143) rfl .nil))))))))) (.cons (t := 8) rfl .nil) rfl ?_
                                      refine tr_seq ?_
                                      refine tr_block ?_
                                      refine tr_seq ?_
                                      refine tr_region (fun N31 hN => ?_)
                                      refine lx (op_index rfl rfl el26 sz33 rfl (List.getElem?_eq_getElem hjl)) rfl ?_
                                      first | refine lx (op_load_all rfl ag33 sz33) rfl ?_ | refine lx (op_load_agg rfl ag33 sz33 rfl) rfl ?_ | refine lx (op_bload (m := 8) rfl rfl ag33 sz33) rfl ?_ | refine lx (op_bload_part (m := 8) (qs := [_, _, _, _, _]) rfl rfl ag33 sz33 rfl rfl) rfl ?_
                                      refine lxn (op_alloc (m := 10) (k := 10) (ps := [eqP (.int .i64 0), eqP (.int .i64 0), eqP (.int .i64 0), eqP (.int .i64 0), eqP (.int .i64 0)]) ze33 rfl rfl (by first | exact hC.low _ (by decide) | rfl)) rfl ?_
                                      refine lxr (op_store_all (m := 10) rfl rfl rfl (.agg rfl) sz33 rfl) rfl ?_
                                      refine lx_end ⟨by kernel_rfl, ?_⟩
                                      refine pe_then_normal ?_
                                      refine tr_sub hC (.cons (t := 5) rfl (.cons (t := 6) rfl (.cons (t := 8) rfl (.cons (t := 10) rfl (.cons (t := 111) rfl (.cons (t := 112) rfl (.cons (t := 113) rfl (.cons (t := 141) rfl (.cons (t := 142) rfl (.cons (t := 143) rfl .nil)))))))))) (.cons (t := 8) rfl (.cons (t := 10) rfl .nil)) rfl ?_
                                      refine tr_seq ?_
                                      refine tr_region (fun N32 hN => ?_)
                                      refine lx (op_fieldAddr rfl fl33_0 sz3) rfl ?_
                                      refine lx (op_bload_one (m := 10) rfl rfl ag3 rfl) rfl ?_
                                      refine lx (op_fieldAddr rfl fl33_0 sz3) rfl ?_
                                      refine lx (op_bload_one (m := 8) rfl rfl ag3 rfl) rfl ?_
                                      refine lx (op_eql rfl rfl) rfl ?_
                                      refine lx (op_move rfl) rfl ?_
                                      refine lxs rfl rfl rfl guard_eq (.cons (t := 10) rfl (fun _ => Ent.refl _) .nil) (op_fieldAddr rfl fl33_1 sz3) rfl ?_
                                      refine lxs rfl rfl rfl guard_eq (.cons (t := 153) rfl (fun h => entW h) .nil) (op_bload_one (m := 10) rfl rfl ag3 rfl) rfl ?_
                                      refine lxs rfl rfl rfl guard_eq (.cons (t := 8) rfl (fun _ => Ent.refl _) .nil) (op_fieldAddr rfl fl33_1 sz3) rfl ?_
                                      refine lxs rfl rfl rfl guard_eq (.cons (t := 155) rfl (fun h => entW h) .nil) (op_bload_one (m := 8) rfl rfl ag3 rfl) rfl ?_
                                      refine lxs rfl rfl rfl guard_eq (.cons (t := 154) rfl (fun h => entW h) (.cons (t := 156) rfl (fun h => entW h) .nil)) (op_eql rfl rfl) rfl ?_
                                      refine lxs rfl rfl rfl guard_eq (.cons (t := 157) rfl (fun h => entW h) .nil) (op_move rfl) rfl ?_
                                      refine lxs rfl rfl rfl guard_w (.cons (t := 10) rfl (fun _ => Ent.refl _) .nil) (op_fieldAddr rfl fl33_1 sz3) rfl ?_
                                      refine lxs rfl rfl rfl guard_w (.cons (t := 159) rfl (fun h => entW h) .nil) (op_bload_one (m := 10) rfl rfl ag3 rfl) rfl ?_
                                      refine lxs rfl rfl rfl guard_w (.cons (t := 160) rfl (fun h => entW h) .nil) (op_eql rfl rfl) rfl ?_
                                      refine lxs rfl rfl rfl guard_eq (.cons (t := 158) rfl (fun h => entW h) (.cons (t := 161) rfl (fun h => entS h) .nil)) (op_pick_or rfl rfl) rfl ?_
                                      refine lxs rfl rfl rfl guard_eq (.cons (t := 162) rfl (fun h => entW h) .nil) (op_move rfl) rfl ?_
                                      refine lxs rfl rfl rfl guard_w (.cons (t := 8) rfl (fun _ => Ent.refl _) .nil) (op_fieldAddr rfl fl33_1 sz3) rfl ?_
                                      refine lxs rfl rfl rfl guard_w (.cons (t := 164) rfl (fun h => entW h) .nil) (op_bload_one (m := 8) rfl rfl ag3 rfl) rfl ?_
                                      refine lxs rfl rfl rfl guard_w (.cons (t := 165) rfl (fun h => entW h) .nil) (op_eql rfl rfl) rfl ?_
                                      refine lxs rfl rfl rfl guard_eq (.cons (t := 163) rfl (fun h => entW h) (.cons (t := 166) rfl (fun h => entS h) .nil)) (op_pick_or rfl rfl) rfl ?_
                                      refine lx (op_pick_and rfl rfl) rfl ?_
                                      refine lx_end ⟨by kernel_rfl, ?_⟩
                                      refine pe_then_normal ?_
                                      refine tr_sub hC (.cons (t := 5) rfl (.cons (t := 6) rfl (.cons (t := 8) rfl (.cons (t := 111) rfl (.cons (t := 112) rfl (.cons (t := 113) rfl (.cons (t := 141) rfl (.cons (t := 142) rfl (.cons (t := 143) rfl (.cons (t := 168) rfl .nil)))))))))) (.cons (t := 8) rfl .nil) rfl ?_
                                      refine tr_cond rfl (fun h168 => ?_) (fun h168 => ?_)
                                      · have hno := valid_clash hh1 hh3 hz hil hi2 hjl h168
                                        refine tr_seq ?_
                                        refine tr_region (fun N33 hN => ?_)
                                        refine lx (op_assign rfl) rfl ?_
                                        refine lx_end ⟨by kernel_rfl, ?_⟩
                                        refine pe_then_normal ?_
                                        refine tr_sub hC (.cons (t := 2) rfl .nil) .nil rfl ?_
                                        refine tr_ret ?_
                                        refine pe_block_ret ?_
                                        refine pe_then_ret ?_
                                        refine pe_then_ret ?_
                                        refine pe_block_ret ?_
                                        refine pe_block_ret ?_
                                        refine pe_then_ret ?_
                                        refine pe_then_ret ?_
                                        refine pe_block_ret ?_
                                        refine pe_then_ret ?_
                                        refine pe_ret1 rfl hO rfl (.tmp rfl .nil) ?_
                                        exact entB hno.symm
                                      · have hcl := no_clash h168
                                        refine tr_skip ?_
                                        refine pe_block_normal ?_
                                        refine pe_then_normal ?_
                                        refine tr_sub hC (.cons (t := 5) rfl (.cons (t := 6) rfl (.cons (t := 8) rfl (.cons (t := 111) rfl (.cons (t := 112) rfl (.cons (t := 113) rfl (.cons (t := 141) rfl (.cons (t := 142) rfl (.cons (t := 143) rfl .nil))))))))) (.cons (t := 8) rfl .nil) rfl ?_
                                        refine tr_region (fun N34 hN => ?_)
                                        refine lx (op_add rfl rfl (by clear hcl; omega)) rfl ?_
                                        refine lx (op_move rfl) rfl ?_
                                        refine lx_end ⟨by kernel_rfl, ?_⟩
                                        refine pe_round (⟨(j + 1), by omega, all_step (φ := fun x : Wt => !(clash x ((o.senders ++ o.receivers)[i]'(by omega)))) hj2 hjl hcl⟩) (by dsimp only; omega) (pe_st hC ?_ ?_ rfl)
                                        · try dsimp only [List.cons_append, List.nil_append]
                                          first | refine SubF.cons rfl ?_ | (refine SubF.ent rfl ?_ ?_; · repeat (first | exact Ents.nil | refine Ents.cons ?_ ?_ | refine Ent.tup ?_ | refine Ent.agg ?_ | exact Ent.row _ _ _ _ | exact Ent.nil _ _ | exact Ent.func _ | exact Ent.refl _ | exact Ent.of_eq rfl | refine Ent.cells ?_))
                                          first | refine SubF.cons rfl ?_ | (refine SubF.ent rfl ?_ ?_; · repeat (first | exact Ents.nil | refine Ents.cons ?_ ?_ | refine Ent.tup ?_ | refine Ent.agg ?_ | exact Ent.row _ _ _ _ | exact Ent.nil _ _ | exact Ent.func _ | exact Ent.refl _ | exact Ent.of_eq rfl | refine Ent.cells ?_))
                                          first | refine SubF.cons rfl ?_ | (refine SubF.ent rfl ?_ ?_; · repeat (first | exact Ents.nil | refine Ents.cons ?_ ?_ | refine Ent.tup ?_ | refine Ent.agg ?_ | exact Ent.row _ _ _ _ | exact Ent.nil _ _ | exact Ent.func _ | exact Ent.refl _ | exact Ent.of_eq rfl | refine Ent.cells ?_))
                                          first | refine SubF.cons rfl ?_ | (refine SubF.ent rfl ?_ ?_; · repeat (first | exact Ents.nil | refine Ents.cons ?_ ?_ | refine Ent.tup ?_ | refine Ent.agg ?_ | exact Ent.row _ _ _ _ | exact Ent.nil _ _ | exact Ent.func _ | exact Ent.refl _ | exact Ent.of_eq rfl | refine Ent.cells ?_))
                                          first | refine SubF.cons rfl ?_ | (refine SubF.ent rfl ?_ ?_; · repeat (first | exact Ents.nil | refine Ents.cons ?_ ?_ | refine Ent.tup ?_ | refine Ent.agg ?_ | exact Ent.row _ _ _ _ | exact Ent.nil _ _ | exact Ent.func _ | exact Ent.refl _ | exact Ent.of_eq rfl | refine Ent.cells ?_))
                                          first | refine SubF.cons rfl ?_ | (refine SubF.ent rfl ?_ ?_; · repeat (first | exact Ents.nil | refine Ents.cons ?_ ?_ | refine Ent.tup ?_ | refine Ent.agg ?_ | exact Ent.row _ _ _ _ | exact Ent.nil _ _ | exact Ent.func _ | exact Ent.refl _ | exact Ent.of_eq rfl | refine Ent.cells ?_))
                                          first | refine SubF.cons rfl ?_ | (refine SubF.ent rfl ?_ ?_; · repeat (first | exact Ents.nil | refine Ents.cons ?_ ?_ | refine Ent.tup ?_ | refine Ent.agg ?_ | exact Ent.row _ _ _ _ | exact Ent.nil _ _ | exact Ent.func _ | exact Ent.refl _ | exact Ent.of_eq rfl | refine Ent.cells ?_))
                                          first | refine SubF.cons rfl ?_ | (refine SubF.ent rfl ?_ ?_; · repeat (first | exact Ents.nil | refine Ents.cons ?_ ?_ | refine Ent.tup ?_ | refine Ent.agg ?_ | exact Ent.row _ _ _ _ | exact Ent.nil _ _ | exact Ent.func _ | exact Ent.refl _ | exact Ent.of_eq rfl | refine Ent.cells ?_))
                                          first | refine SubF.cons rfl ?_ | (refine SubF.ent rfl ?_ ?_; · repeat (first | exact Ents.nil | refine Ents.cons ?_ ?_ | refine Ent.tup ?_ | refine Ent.agg ?_ | exact Ent.row _ _ _ _ | exact Ent.nil _ _ | exact Ent.func _ | exact Ent.refl _ | exact Ent.of_eq rfl | refine Ent.cells ?_))
                                          exact SubF.nil
                                        · try dsimp only [List.cons_append, List.nil_append]
                                          repeat (first | exact SubL.nil | refine SubL.cons rfl ?_)
                                    · (try simp only [Bool.and_eq_true, Bool.or_eq_true, Bool.and_eq_false_iff, Bool.or_eq_false_iff, decide_eq_true_eq, decide_eq_false_iff_not, Bool.not_eq_true', Bool.not_eq_false', List.length_map, ne_eq, Decidable.not_not, Int.not_lt, Int.not_le] at h144)
                                      have hj3 : j = ((o.senders ++ o.receivers).take i).length := by omega
                                      have hnext := valid_next hil hi2 hok (all_end hj2 (Nat.le_of_eq hj3.symm))
                                      refine tr_exit ?_
                                      refine pe_then_exit ?_
                                      refine pe_then_exit ?_
                                      refine pe_block_eq ?_
                                      refine pe_block_normal ?_
                                      refine pe_then_normal ?_
                                      refine tr_sub hC (.cons (t := 5) rfl (.cons (t := 6) rfl (.cons (t := 111) rfl (.cons (t := 112) rfl (.cons (t := 113) rfl .nil))))) .nil rfl ?_
                                      refine tr_region (fun N35 hN => ?_)
                                      refine lx (op_add rfl rfl (by omega)) rfl ?_
                                      refine lx (op_move rfl) rfl ?_
                                      refine lx_end ⟨by kernel_rfl, ?_⟩
                                      refine pe_round (⟨(i + 1), by omega, hnext⟩) (by dsimp only; omega) (pe_st hC ?_ ?_ rfl)
                                      · try dsimp only [List.cons_append, List.nil_append]
                                        first | refine SubF.cons rfl ?_ | (refine SubF.ent rfl ?_ ?_; · repeat (first | exact Ents.nil | refine Ents.cons ?_ ?_ | refine Ent.tup ?_ | refine Ent.agg ?_ | exact Ent.row _ _ _ _ | exact Ent.nil _ _ | exact Ent.func _ | exact Ent.refl _ | exact Ent.of_eq rfl | refine Ent.cells ?_))
                                        first | refine SubF.cons rfl ?_ | (refine SubF.ent rfl ?_ ?_; · repeat (first | exact Ents.nil | refine Ents.cons ?_ ?_ | refine Ent.tup ?_ | refine Ent.agg ?_ | exact Ent.row _ _ _ _ | exact Ent.nil _ _ | exact Ent.func _ | exact Ent.refl _ | exact Ent.of_eq rfl | refine Ent.cells ?_))
                                        first | refine SubF.cons rfl ?_ | (refine SubF.ent rfl ?_ ?_; · repeat (first | exact Ents.nil | refine Ents.cons ?_ ?_ | refine Ent.tup ?_ | refine Ent.agg ?_ | exact Ent.row _ _ _ _ | exact Ent.nil _ _ | exact Ent.func _ | exact Ent.refl _ | exact Ent.of_eq rfl | refine Ent.cells ?_))
                                        first | refine SubF.cons rfl ?_ | (refine SubF.ent rfl ?_ ?_; · repeat (first | exact Ents.nil | refine Ents.cons ?_ ?_ | refine Ent.tup ?_ | refine Ent.agg ?_ | exact Ent.row _ _ _ _ | exact Ent.nil _ _ | exact Ent.func _ | exact Ent.refl _ | exact Ent.of_eq rfl | refine Ent.cells ?_))
                                        first | refine SubF.cons rfl ?_ | (refine SubF.ent rfl ?_ ?_; · repeat (first | exact Ents.nil | refine Ents.cons ?_ ?_ | refine Ent.tup ?_ | refine Ent.agg ?_ | exact Ent.row _ _ _ _ | exact Ent.nil _ _ | exact Ent.func _ | exact Ent.refl _ | exact Ent.of_eq rfl | refine Ent.cells ?_))
                                        exact SubF.nil
                                      · try dsimp only [List.cons_append, List.nil_append]
                                        repeat (first | exact SubL.nil | refine SubL.cons rfl ?_)
                              · (try simp only [Bool.and_eq_true, Bool.or_eq_true, Bool.and_eq_false_iff, Bool.or_eq_false_iff, decide_eq_true_eq, decide_eq_false_iff_not, Bool.not_eq_true', Bool.not_eq_false', List.length_map, ne_eq, Decidable.not_not, Int.not_lt, Int.not_le] at h114)
                                have hi3 : i = (o.senders ++ o.receivers).length := by omega
                                have hyes := valid_end hh1 hh3 hz (Nat.le_of_eq hi3.symm) hi2
                                refine tr_exit ?_
                                refine pe_then_exit ?_
                                refine pe_then_exit ?_
                                refine pe_block_eq ?_
                                refine pe_then_normal ?_
                                refine tr_sub hC .nil .nil rfl ?_
                                refine tr_seq ?_
                                refine tr_region (fun N36 hN => ?_)
                                refine lx (op_assign rfl) rfl ?_
                                refine lx_end ⟨by kernel_rfl, ?_⟩
                                refine pe_then_normal ?_
                                refine tr_sub hC (.cons (t := 2) rfl .nil) .nil rfl ?_
                                refine tr_ret ?_
                                refine pe_ret1 rfl hO rfl (.tmp rfl .nil) ?_
                                exact entB hyes.symm

end Go.Proofs.Ytagjjeofdcgcmaa
