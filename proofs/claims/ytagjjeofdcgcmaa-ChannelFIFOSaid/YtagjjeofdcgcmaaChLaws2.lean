/- Walks of the statements about layer 17: two goroutines -/
import Derived.Test.YtagjjeofdcgcmaaChLaws
set_option linter.unusedVariables false
set_option linter.unusedSimpArgs false
namespace Go.Proofs.Ytagjjeofdcgcmaa
open Go.AL Go.Ch Go.RowKit

abbrev oN : Ob := { ob0 with chan := true }
abbrev tPk : Trf := { tr0 with status := 1 }
abbrev oQ (s r : List Wt) (n : Int) : Ob := { oN with senders := s, receivers := r, sent := n, received := n }
abbrev tP (v : V) (p : Wt) : Trf := { tr0 with value := v, ok := true, number := 0, paired := true, partner := p, pnumber := 0 }
theorem oQ_small (s r : List Wt) (n : Int) (h1 : s.length ≤ 1) (h2 : r.length ≤ 1) (h3 : 0 ≤ n ∧ n ≤ 1) : Small (oQ s r n) :=
  ⟨⟨Nat.zero_le _, Nat.zero_le _, by simp only [oQ]; omega, by simp only [oQ]; omega⟩, by simp only [oQ]; omega, by simp only [oQ]; omega⟩
theorem New_0 : FnP Try.prog 12 [eqP (.int .i64 0)] (tupP [aggP (oQ [] [] 0).ps, eqP (.int .i64 0)]) := New_ok 0
theorem Send_q {s r : List Wt} {n : Int} {w : Wt} {a : Ob} {t : Trf} (h1 : s.length ≤ 1) (h2 : r.length ≤ 1) (h3 : 0 ≤ n ∧ n ≤ 1) (h : sendF (oQ s r n) w = (a, t)) : FnP Try.prog 13 [aggP (oQ s r n).ps, aggP (wp w)] (tupP [aggP a.ps, aggP t.ps]) := by
  have := Send_f (oQ s r n) w (oQ_small s r n h1 h2 h3)
  rwa [h] at this
theorem Recv_q {s r : List Wt} {n : Int} {w : Wt} {a : Ob} {t : Trf} (h1 : s.length ≤ 1) (h2 : r.length ≤ 1) (h3 : 0 ≤ n ∧ n ≤ 1) (h : recvF (oQ s r n) w = (a, t)) : FnP Try.prog 14 [aggP (oQ s r n).ps, aggP (wp w)] (tupP [aggP a.ps, aggP t.ps]) := by
  have := Recv_f (oQ s r n) w (oQ_small s r n h1 h2 h3) (Int.le_refl 0) (Int.le_refl 0)
  rwa [h] at this
theorem Close_q {s r : List Wt} {n : Int} {a : Ob} {t : Trf} (h1 : s.length ≤ 1) (h2 : r.length ≤ 1) (h3 : 0 ≤ n ∧ n ≤ 1) (hv : validF (oQ s r n) = true) (h : closeF (oQ s r n) = (a, t)) : FnP Try.prog 27 [aggP (oQ s r n).ps] (tupP [aggP a.ps, aggP t.ps]) := by
  have := Close_f (oQ s r n) (oQ_small s r n h1 h2 h3).toLens ((valid_iff _).1 hv)
  rwa [h] at this
theorem law_rendezvous (v : V) : FnP Try.prog 3 [aggP (vp v)] (eqP (.bool true)) := by
  refine fn_pure' Try.func3 rfl Try.ntmps3 rfl ?_
  intro σ0 M ex Rf R hC hO
  simp only [frameOf, tokOf]
  refine tr_seq ?_
  refine tr_region (fun N0 hN => ?_)
  refine lxn (op_box (m := 1) (k := 1) rfl (.agg rfl) (by first | exact hC.low _ (by decide) | rfl)) rfl ?_
  refine lx (op_assign rfl) rfl ?_
  refine lx_end ⟨by kernel_rfl, ?_⟩
  refine pe_then_normal ?_
  refine tr_sub hC (.cons (t := 1) rfl .nil) (.cons (t := 1) rfl .nil) rfl ?_
  refine tr_seq ?_
  refine tr_seq ?_
  refine tr_region (fun N1 hN => ?_)
  first | refine lx (op_call (l := []) (awake_ok) .nil fn11) rfl ?_ | refine lx (op_call (l := []) (awake_ok) .nil fn11) rfl ?_
  first | refine lx (op_not rfl) rfl ?_ | refine lx (op_not_b rfl) rfl ?_
  refine lx_end ⟨by kernel_rfl, ?_⟩
  refine pe_then_normal ?_
  refine tr_sub hC (.cons (t := 1) rfl (.cons (t := 16) rfl .nil)) (.cons (t := 1) rfl .nil) rfl ?_
  refine tr_cond rfl (fun h16 => ?_) (fun h16 => ?_)
  · exact absurd h16 (by decide)
  · (try simp only [Bool.and_eq_true, Bool.or_eq_true, Bool.and_eq_false_iff, Bool.or_eq_false_iff, decide_eq_true_eq, decide_eq_false_iff_not, Bool.not_eq_true', Bool.not_eq_false', List.length_map, ne_eq, Decidable.not_not, Int.not_lt, Int.not_le] at h16)
    refine tr_skip ?_
    refine pe_then_normal ?_
    refine tr_sub hC (.cons (t := 1) rfl .nil) (.cons (t := 1) rfl .nil) rfl ?_
    refine tr_seq ?_
    refine tr_region (fun N3 hN => ?_)
    first | refine lx (op_call (l := [(Go.Operand.const (Go.Value.int Go.IntKind.i64 0))]) (New_0) (.cons rfl .nil) fn12) rfl ?_ | refine lx (op_call (l := [(Go.Operand.const (Go.Value.int Go.IntKind.i64 0))]) (New_0) (.ent rfl (by repeat (first | exact Ents.nil | refine Ents.cons ?_ ?_ | refine Ent.tup ?_ | refine Ent.agg ?_ | exact Ent.row _ _ _ _ | exact Ent.nil _ _ | exact Ent.func _ | exact Ent.refl _ | exact Ent.of_eq rfl | refine Ent.cells ?_)) .nil) fn12) rfl ?_
    refine lx (op_move rfl) rfl ?_
    refine lx (op_extract rfl rfl) rfl ?_
    refine lx (op_extract rfl rfl) rfl ?_
    refine lxn (op_alloc (m := 3) (k := 3) (ps := [eqP (.int .i64 0), eqP (.slice none 0 0), eqP (.bool false), eqP (.int .i64 0), eqP (.slice none 0 0), eqP (.bool false), eqP (.int .i64 0), eqP (.int .i64 0), eqP (.slice none 0 0), eqP (.slice none 0 0)]) ze28 rfl rfl (by first | exact hC.low _ (by decide) | rfl)) rfl ?_
    refine lxr (op_store_all (m := 3) rfl rfl rfl (.agg rfl) sz28 rfl) rfl ?_
    refine lx (op_assign rfl) rfl ?_
    refine lx_end ⟨by kernel_rfl, ?_⟩
    refine pe_then_normal ?_
    refine tr_sub hC (.cons (t := 1) rfl (.cons (t := 3) rfl (.cons (t := 4) rfl .nil))) (.cons (t := 1) rfl (.cons (t := 3) rfl .nil)) rfl ?_
    refine tr_seq ?_
    refine tr_region (fun N4 hN => ?_)
    refine lx (op_bload (m := 1) rfl rfl ag23 sz23) rfl ?_
    refine lx (op_build (qs := [_, _, _, _, _]) (parts := [(0, (Go.Operand.const (Go.Value.int Go.IntKind.i64 1))), (1, (Go.Operand.const (Go.Value.int Go.IntKind.i64 (-1)))), (2, (Go.Operand.tmp 21))]) ze33 rfl rfl fs33 (.cons rfl (.one (by (first | exact One.eq rfl | exact One.mv _ _ _ _ _ | exact One.cl _ _ _ | exact One.map _ | exact One.sl _ _ _ | exact One.row _ _ _ _ | exact One.msl _ _ _ _ | exact One.ptr _ _ | exact One.b _ | exact One.cells _))) fl33_0 sz3 rfl (.cons rfl (.one (by (first | exact One.eq rfl | exact One.mv _ _ _ _ _ | exact One.cl _ _ _ | exact One.map _ | exact One.sl _ _ _ | exact One.row _ _ _ _ | exact One.msl _ _ _ _ | exact One.ptr _ _ | exact One.b _ | exact One.cells _))) fl33_1 sz3 rfl (.cons rfl (.agg rfl) fl33_2 sz23 rfl .nil))) rfl rfl) rfl ?_
    refine lxn (op_alloc (m := 5) (k := 5) (ps := [eqP (.int .i64 0), eqP (.int .i64 0), eqP (.int .i64 0), eqP (.int .i64 0), eqP (.int .i64 0)]) ze33 rfl rfl (by first | exact hC.low _ (by decide) | rfl)) rfl ?_
    refine lxr (op_store_all (m := 5) rfl rfl rfl (.agg rfl) sz33 rfl) rfl ?_
    refine lx_end ⟨by kernel_rfl, ?_⟩
    refine pe_then_normal ?_
    refine tr_sub hC (.cons (t := 1) rfl (.cons (t := 3) rfl (.cons (t := 4) rfl (.cons (t := 5) rfl .nil)))) (.cons (t := 1) rfl (.cons (t := 3) rfl (.cons (t := 5) rfl .nil))) rfl ?_
    refine tr_seq ?_
    refine tr_region (fun N5 hN => ?_)
    refine lx (op_build (qs := [_, _, _, _, _]) (parts := [(0, (Go.Operand.const (Go.Value.int Go.IntKind.i64 2))), (1, (Go.Operand.const (Go.Value.int Go.IntKind.i64 (-1))))]) ze33 rfl rfl fs33 (.cons rfl (.one (by (first | exact One.eq rfl | exact One.mv _ _ _ _ _ | exact One.cl _ _ _ | exact One.map _ | exact One.sl _ _ _ | exact One.row _ _ _ _ | exact One.msl _ _ _ _ | exact One.ptr _ _ | exact One.b _ | exact One.cells _))) fl33_0 sz3 rfl (.cons rfl (.one (by (first | exact One.eq rfl | exact One.mv _ _ _ _ _ | exact One.cl _ _ _ | exact One.map _ | exact One.sl _ _ _ | exact One.row _ _ _ _ | exact One.msl _ _ _ _ | exact One.ptr _ _ | exact One.b _ | exact One.cells _))) fl33_1 sz3 rfl .nil)) rfl rfl) rfl ?_
    refine lxn (op_alloc (m := 6) (k := 6) (ps := [eqP (.int .i64 0), eqP (.int .i64 0), eqP (.int .i64 0), eqP (.int .i64 0), eqP (.int .i64 0)]) ze33 rfl rfl (by first | exact hC.low _ (by decide) | rfl)) rfl ?_
    refine lxr (op_store_all (m := 6) rfl rfl rfl (.agg rfl) sz33 rfl) rfl ?_
    refine lx_end ⟨by kernel_rfl, ?_⟩
    refine pe_then_normal ?_
    refine tr_sub hC (.cons (t := 1) rfl (.cons (t := 3) rfl (.cons (t := 4) rfl (.cons (t := 5) rfl (.cons (t := 6) rfl .nil))))) (.cons (t := 1) rfl (.cons (t := 3) rfl (.cons (t := 5) rfl (.cons (t := 6) rfl .nil)))) rfl ?_
    refine tr_seq ?_
    refine tr_region (fun N6 hN => ?_)
    refine lx (op_bload (m := 3) rfl rfl ag28 sz28) rfl ?_
    refine lx (op_bload (m := 5) rfl rfl ag33 sz33) rfl ?_
    first | refine lx (op_call (l := [(Go.Operand.tmp 25), (Go.Operand.tmp 26)]) (Send_q (s := []) (r := []) (n := 0) (w := ⟨1, -1, v⟩) (a := oQ [⟨1, -1, v⟩] [] 0) (t := tPk) (Nat.le_of_ble_eq_true rfl) (Nat.le_of_ble_eq_true rfl) (by decide) rfl) (.cons rfl (.cons rfl .nil)) fn13) rfl ?_ | refine lx (op_call (l := [(Go.Operand.tmp 25), (Go.Operand.tmp 26)]) (Send_q (s := []) (r := []) (n := 0) (w := ⟨1, -1, v⟩) (a := oQ [⟨1, -1, v⟩] [] 0) (t := tPk) (Nat.le_of_ble_eq_true rfl) (Nat.le_of_ble_eq_true rfl) (by decide) rfl) (.ent rfl (by repeat (first | exact Ents.nil | refine Ents.cons ?_ ?_ | refine Ent.tup ?_ | refine Ent.agg ?_ | exact Ent.row _ _ _ _ | exact Ent.nil _ _ | exact Ent.func _ | exact Ent.refl _ | exact Ent.of_eq rfl | refine Ent.cells ?_)) (.ent rfl (by repeat (first | exact Ents.nil | refine Ents.cons ?_ ?_ | refine Ent.tup ?_ | refine Ent.agg ?_ | exact Ent.row _ _ _ _ | exact Ent.nil _ _ | exact Ent.func _ | exact Ent.refl _ | exact Ent.of_eq rfl | refine Ent.cells ?_)) .nil)) fn13) rfl ?_
    refine lx (op_move rfl) rfl ?_
    refine lx (op_extract rfl rfl) rfl ?_
    refine lx (op_extract rfl rfl) rfl ?_
    refine lxn (op_alloc (m := 7) (k := 7) (ps := [eqP (.int .i64 0), eqP (.slice none 0 0), eqP (.bool false), eqP (.int .i64 0), eqP (.slice none 0 0), eqP (.bool false), eqP (.int .i64 0), eqP (.int .i64 0), eqP (.slice none 0 0), eqP (.slice none 0 0)]) ze28 rfl rfl (by first | exact hC.low _ (by decide) | rfl)) rfl ?_
    refine lxn (op_alloc (m := 8) (k := 8) (ps := [eqP (.int .i64 0), eqP (.int .i64 0), eqP (.int .i64 0), eqP (.int .i64 0), eqP (.bool false), eqP (.int .i64 0), eqP (.bool false), eqP (.int .i64 0), eqP (.int .i64 0), eqP (.int .i64 0), eqP (.int .i64 0), eqP (.int .i64 0), eqP (.int .i64 0), eqP (.slice none 0 0), eqP (.slice none 0 0)]) ze35 rfl rfl (by first | exact hC.low _ (by decide) | rfl)) rfl ?_
    refine lxr (op_store_all (m := 7) rfl rfl rfl (.agg rfl) sz28 rfl) rfl ?_
    refine lxr (op_store_all (m := 8) rfl rfl rfl (.agg rfl) sz35 rfl) rfl ?_
    refine lx_end ⟨by kernel_rfl, ?_⟩
    refine pe_then_normal ?_
    refine tr_sub hC (.cons (t := 1) rfl (.cons (t := 3) rfl (.cons (t := 4) rfl (.cons (t := 5) rfl (.cons (t := 6) rfl (.cons (t := 7) rfl (.cons (t := 8) rfl .nil))))))) (.cons (t := 1) rfl (.cons (t := 3) rfl (.cons (t := 5) rfl (.cons (t := 6) rfl (.cons (t := 7) rfl (.cons (t := 8) rfl .nil)))))) rfl ?_
    refine tr_seq ?_
    refine tr_region (fun N7 hN => ?_)
    refine lx (op_bload (m := 7) rfl rfl ag28 sz28) rfl ?_
    refine lx (op_bload (m := 6) rfl rfl ag33 sz33) rfl ?_
    first | refine lx (op_call (l := [(Go.Operand.tmp 31), (Go.Operand.tmp 32)]) (Recv_q (s := [⟨1, -1, v⟩]) (r := []) (n := 0) (w := ⟨2, -1, v0⟩) (a := oQ [] [] 1) (t := tP v ⟨1, -1, v⟩) (Nat.le_of_ble_eq_true rfl) (Nat.le_of_ble_eq_true rfl) (by decide) rfl) (.cons rfl (.cons rfl .nil)) fn14) rfl ?_ | refine lx (op_call (l := [(Go.Operand.tmp 31), (Go.Operand.tmp 32)]) (Recv_q (s := [⟨1, -1, v⟩]) (r := []) (n := 0) (w := ⟨2, -1, v0⟩) (a := oQ [] [] 1) (t := tP v ⟨1, -1, v⟩) (Nat.le_of_ble_eq_true rfl) (Nat.le_of_ble_eq_true rfl) (by decide) rfl) (.ent rfl (by repeat (first | exact Ents.nil | refine Ents.cons ?_ ?_ | refine Ent.tup ?_ | refine Ent.agg ?_ | exact Ent.row _ _ _ _ | exact Ent.nil _ _ | exact Ent.func _ | exact Ent.refl _ | exact Ent.of_eq rfl | refine Ent.cells ?_)) (.ent rfl (by repeat (first | exact Ents.nil | refine Ents.cons ?_ ?_ | refine Ent.tup ?_ | refine Ent.agg ?_ | exact Ent.row _ _ _ _ | exact Ent.nil _ _ | exact Ent.func _ | exact Ent.refl _ | exact Ent.of_eq rfl | refine Ent.cells ?_)) .nil)) fn14) rfl ?_
    refine lx (op_move rfl) rfl ?_
    refine lx (op_extract rfl rfl) rfl ?_
    refine lx (op_extract rfl rfl) rfl ?_
    refine lxn (op_alloc (m := 9) (k := 9) (ps := [eqP (.int .i64 0), eqP (.slice none 0 0), eqP (.bool false), eqP (.int .i64 0), eqP (.slice none 0 0), eqP (.bool false), eqP (.int .i64 0), eqP (.int .i64 0), eqP (.slice none 0 0), eqP (.slice none 0 0)]) ze28 rfl rfl (by first | exact hC.low _ (by decide) | rfl)) rfl ?_
    refine lxn (op_alloc (m := 10) (k := 10) (ps := [eqP (.int .i64 0), eqP (.int .i64 0), eqP (.int .i64 0), eqP (.int .i64 0), eqP (.bool false), eqP (.int .i64 0), eqP (.bool false), eqP (.int .i64 0), eqP (.int .i64 0), eqP (.int .i64 0), eqP (.int .i64 0), eqP (.int .i64 0), eqP (.int .i64 0), eqP (.slice none 0 0), eqP (.slice none 0 0)]) ze35 rfl rfl (by first | exact hC.low _ (by decide) | rfl)) rfl ?_
    refine lxr (op_store_all (m := 9) rfl rfl rfl (.agg rfl) sz28 rfl) rfl ?_
    refine lxr (op_store_all (m := 10) rfl rfl rfl (.agg rfl) sz35 rfl) rfl ?_
    refine lx_end ⟨by kernel_rfl, ?_⟩
    refine pe_then_normal ?_
    refine tr_sub hC (.cons (t := 1) rfl (.cons (t := 3) rfl (.cons (t := 4) rfl (.cons (t := 5) rfl (.cons (t := 6) rfl (.cons (t := 8) rfl (.cons (t := 9) rfl (.cons (t := 10) rfl .nil)))))))) (.cons (t := 1) rfl (.cons (t := 3) rfl (.cons (t := 5) rfl (.cons (t := 6) rfl (.cons (t := 8) rfl (.cons (t := 9) rfl (.cons (t := 10) rfl .nil))))))) rfl ?_
    refine tr_seq ?_
    refine tr_region (fun N8 hN => ?_)
    refine lx (op_bload (m := 3) rfl rfl ag28 sz28) rfl ?_
    refine lx (op_bload (m := 6) rfl rfl ag33 sz33) rfl ?_
    first | refine lx (op_call (l := [(Go.Operand.tmp 37), (Go.Operand.tmp 38)]) (Recv_q (s := []) (r := []) (n := 0) (w := ⟨2, -1, v0⟩) (a := oQ [] [⟨2, -1, v0⟩] 0) (t := tPk) (Nat.le_of_ble_eq_true rfl) (Nat.le_of_ble_eq_true rfl) (by decide) rfl) (.cons rfl (.cons rfl .nil)) fn14) rfl ?_ | refine lx (op_call (l := [(Go.Operand.tmp 37), (Go.Operand.tmp 38)]) (Recv_q (s := []) (r := []) (n := 0) (w := ⟨2, -1, v0⟩) (a := oQ [] [⟨2, -1, v0⟩] 0) (t := tPk) (Nat.le_of_ble_eq_true rfl) (Nat.le_of_ble_eq_true rfl) (by decide) rfl) (.ent rfl (by repeat (first | exact Ents.nil | refine Ents.cons ?_ ?_ | refine Ent.tup ?_ | refine Ent.agg ?_ | exact Ent.row _ _ _ _ | exact Ent.nil _ _ | exact Ent.func _ | exact Ent.refl _ | exact Ent.of_eq rfl | refine Ent.cells ?_)) (.ent rfl (by repeat (first | exact Ents.nil | refine Ents.cons ?_ ?_ | refine Ent.tup ?_ | refine Ent.agg ?_ | exact Ent.row _ _ _ _ | exact Ent.nil _ _ | exact Ent.func _ | exact Ent.refl _ | exact Ent.of_eq rfl | refine Ent.cells ?_)) .nil)) fn14) rfl ?_
    refine lx (op_move rfl) rfl ?_
    refine lx (op_extract rfl rfl) rfl ?_
    refine lx (op_extract rfl rfl) rfl ?_
    refine lxn (op_alloc (m := 11) (k := 11) (ps := [eqP (.int .i64 0), eqP (.slice none 0 0), eqP (.bool false), eqP (.int .i64 0), eqP (.slice none 0 0), eqP (.bool false), eqP (.int .i64 0), eqP (.int .i64 0), eqP (.slice none 0 0), eqP (.slice none 0 0)]) ze28 rfl rfl (by first | exact hC.low _ (by decide) | rfl)) rfl ?_
    refine lxn (op_alloc (m := 12) (k := 12) (ps := [eqP (.int .i64 0), eqP (.int .i64 0), eqP (.int .i64 0), eqP (.int .i64 0), eqP (.bool false), eqP (.int .i64 0), eqP (.bool false), eqP (.int .i64 0), eqP (.int .i64 0), eqP (.int .i64 0), eqP (.int .i64 0), eqP (.int .i64 0), eqP (.int .i64 0), eqP (.slice none 0 0), eqP (.slice none 0 0)]) ze35 rfl rfl (by first | exact hC.low _ (by decide) | rfl)) rfl ?_
    refine lxr (op_store_all (m := 11) rfl rfl rfl (.agg rfl) sz28 rfl) rfl ?_
    refine lxr (op_store_all (m := 12) rfl rfl rfl (.agg rfl) sz35 rfl) rfl ?_
    refine lx_end ⟨by kernel_rfl, ?_⟩
    refine pe_then_normal ?_
    refine tr_sub hC (.cons (t := 1) rfl (.cons (t := 4) rfl (.cons (t := 5) rfl (.cons (t := 6) rfl (.cons (t := 8) rfl (.cons (t := 9) rfl (.cons (t := 10) rfl (.cons (t := 11) rfl (.cons (t := 12) rfl .nil))))))))) (.cons (t := 1) rfl (.cons (t := 5) rfl (.cons (t := 6) rfl (.cons (t := 8) rfl (.cons (t := 9) rfl (.cons (t := 10) rfl (.cons (t := 11) rfl (.cons (t := 12) rfl .nil)))))))) rfl ?_
    refine tr_seq ?_
    refine tr_region (fun N9 hN => ?_)
    refine lx (op_bload (m := 11) rfl rfl ag28 sz28) rfl ?_
    refine lx (op_bload (m := 5) rfl rfl ag33 sz33) rfl ?_
    first | refine lx (op_call (l := [(Go.Operand.tmp 43), (Go.Operand.tmp 44)]) (Send_q (s := []) (r := [⟨2, -1, v0⟩]) (n := 0) (w := ⟨1, -1, v⟩) (a := oQ [] [] 1) (t := tP v ⟨2, -1, v0⟩) (Nat.le_of_ble_eq_true rfl) (Nat.le_of_ble_eq_true rfl) (by decide) rfl) (.cons rfl (.cons rfl .nil)) fn13) rfl ?_ | refine lx (op_call (l := [(Go.Operand.tmp 43), (Go.Operand.tmp 44)]) (Send_q (s := []) (r := [⟨2, -1, v0⟩]) (n := 0) (w := ⟨1, -1, v⟩) (a := oQ [] [] 1) (t := tP v ⟨2, -1, v0⟩) (Nat.le_of_ble_eq_true rfl) (Nat.le_of_ble_eq_true rfl) (by decide) rfl) (.ent rfl (by repeat (first | exact Ents.nil | refine Ents.cons ?_ ?_ | refine Ent.tup ?_ | refine Ent.agg ?_ | exact Ent.row _ _ _ _ | exact Ent.nil _ _ | exact Ent.func _ | exact Ent.refl _ | exact Ent.of_eq rfl | refine Ent.cells ?_)) (.ent rfl (by repeat (first | exact Ents.nil | refine Ents.cons ?_ ?_ | refine Ent.tup ?_ | refine Ent.agg ?_ | exact Ent.row _ _ _ _ | exact Ent.nil _ _ | exact Ent.func _ | exact Ent.refl _ | exact Ent.of_eq rfl | refine Ent.cells ?_)) .nil)) fn13) rfl ?_
    refine lx (op_move rfl) rfl ?_
    refine lx (op_extract rfl rfl) rfl ?_
    refine lx (op_extract rfl rfl) rfl ?_
    refine lxn (op_alloc (m := 13) (k := 13) (ps := [eqP (.int .i64 0), eqP (.slice none 0 0), eqP (.bool false), eqP (.int .i64 0), eqP (.slice none 0 0), eqP (.bool false), eqP (.int .i64 0), eqP (.int .i64 0), eqP (.slice none 0 0), eqP (.slice none 0 0)]) ze28 rfl rfl (by first | exact hC.low _ (by decide) | rfl)) rfl ?_
    refine lxn (op_alloc (m := 14) (k := 14) (ps := [eqP (.int .i64 0), eqP (.int .i64 0), eqP (.int .i64 0), eqP (.int .i64 0), eqP (.bool false), eqP (.int .i64 0), eqP (.bool false), eqP (.int .i64 0), eqP (.int .i64 0), eqP (.int .i64 0), eqP (.int .i64 0), eqP (.int .i64 0), eqP (.int .i64 0), eqP (.slice none 0 0), eqP (.slice none 0 0)]) ze35 rfl rfl (by first | exact hC.low _ (by decide) | rfl)) rfl ?_
    refine lxr (op_store_all (m := 13) rfl rfl rfl (.agg rfl) sz28 rfl) rfl ?_
    refine lxr (op_store_all (m := 14) rfl rfl rfl (.agg rfl) sz35 rfl) rfl ?_
    refine lx_end ⟨by kernel_rfl, ?_⟩
    refine pe_then_normal ?_
    refine tr_sub hC (.cons (t := 1) rfl (.cons (t := 4) rfl (.cons (t := 5) rfl (.cons (t := 6) rfl (.cons (t := 8) rfl (.cons (t := 9) rfl (.cons (t := 10) rfl (.cons (t := 12) rfl (.cons (t := 13) rfl (.cons (t := 14) rfl .nil)))))))))) (.cons (t := 1) rfl (.cons (t := 5) rfl (.cons (t := 6) rfl (.cons (t := 8) rfl (.cons (t := 9) rfl (.cons (t := 10) rfl (.cons (t := 12) rfl (.cons (t := 13) rfl (.cons (t := 14) rfl .nil))))))))) rfl ?_
    refine tr_seq ?_
    refine tr_region (fun N10 hN => ?_)
    refine lx (op_move rfl) rfl ?_
    refine lx (op_eql rfl rfl) rfl ?_
    refine lx (op_move rfl) rfl ?_
    refine lxs rfl rfl rfl guard_eq (.cons (t := 8) rfl (fun _ => Ent.refl _) .nil) (op_fieldAddr rfl fl35_0 sz3) rfl ?_
    refine lxs rfl rfl rfl guard_eq (.cons (t := 51) rfl (fun h => entW h) .nil) (op_bload_one (m := 8) rfl rfl ag3 rfl) rfl ?_
    refine lxs rfl rfl rfl guard_eq (.cons (t := 52) rfl (fun h => entW h) .nil) (op_eql rfl rfl) rfl ?_
    refine lx (op_pick_and rfl rfl) rfl ?_
    refine lx (op_move rfl) rfl ?_
    refine lxs rfl rfl rfl guard_eq (.cons (t := 12) rfl (fun _ => Ent.refl _) .nil) (op_fieldAddr rfl fl35_0 sz3) rfl ?_
    refine lxs rfl rfl rfl guard_eq (.cons (t := 56) rfl (fun h => entW h) .nil) (op_bload_one (m := 12) rfl rfl ag3 rfl) rfl ?_
    refine lxs rfl rfl rfl guard_eq (.cons (t := 57) rfl (fun h => entW h) .nil) (op_eql rfl rfl) rfl ?_
    refine lx (op_pick_and rfl rfl) rfl ?_
    refine lx (op_move rfl) rfl ?_
    refine lxs rfl rfl rfl guard_eq (.cons (t := 10) rfl (fun _ => Ent.refl _) .nil) (op_fieldAddr rfl fl35_0 sz3) rfl ?_
    refine lxs rfl rfl rfl guard_eq (.cons (t := 61) rfl (fun h => entW h) .nil) (op_bload_one (m := 10) rfl rfl ag3 rfl) rfl ?_
    refine lxs rfl rfl rfl guard_eq (.cons (t := 62) rfl (fun h => entW h) .nil) (op_eql rfl rfl) rfl ?_
    refine lx (op_pick_and rfl rfl) rfl ?_
    refine lx (op_move rfl) rfl ?_
    refine lxs rfl rfl rfl guard_eq (.cons (t := 14) rfl (fun _ => Ent.refl _) .nil) (op_fieldAddr rfl fl35_0 sz3) rfl ?_
    refine lxs rfl rfl rfl guard_eq (.cons (t := 66) rfl (fun h => entW h) .nil) (op_bload_one (m := 14) rfl rfl ag3 rfl) rfl ?_
    refine lxs rfl rfl rfl guard_eq (.cons (t := 67) rfl (fun h => entW h) .nil) (op_eql rfl rfl) rfl ?_
    refine lx (op_pick_and rfl rfl) rfl ?_
    refine lx (op_move rfl) rfl ?_
    refine lxs rfl rfl rfl guard_eq (.cons (t := 10) rfl (fun _ => Ent.refl _) .nil) (op_fieldAddr rfl fl35_1 sz23) rfl ?_
    refine lxs rfl rfl rfl guard_eq (.cons (t := 71) rfl (fun h => entW h) .nil) (op_bload_part (m := 10) (qs := [_, _, _]) rfl rfl ag23 sz23 rfl rfl) rfl ?_
    refine lxs rfl rfl rfl guard_eq (.cons (t := 1) rfl (fun _ => Ent.refl _) .nil) (op_bload (m := 1) rfl rfl ag23 sz23) rfl ?_
    refine lxs rfl rfl rfl guard_eq (.cons (t := 72) rfl (fun h => entW h) (.cons (t := 73) rfl (fun h => entW h) .nil)) (op_eql_agg rfl rfl (eqV _ _)) rfl ?_
    refine lx (op_pick_and rfl rfl) rfl ?_
    refine lx (op_move rfl) rfl ?_
    refine lxs rfl rfl rfl guard_eq (.cons (t := 14) rfl (fun _ => Ent.refl _) .nil) (op_fieldAddr rfl fl35_1 sz23) rfl ?_
    refine lxs rfl rfl rfl guard_eq (.cons (t := 77) rfl (fun h => entW h) .nil) (op_bload_part (m := 14) (qs := [_, _, _]) rfl rfl ag23 sz23 rfl rfl) rfl ?_
    refine lxs rfl rfl rfl guard_eq (.cons (t := 1) rfl (fun _ => Ent.refl _) .nil) (op_bload (m := 1) rfl rfl ag23 sz23) rfl ?_
    refine lxs rfl rfl rfl guard_eq (.cons (t := 78) rfl (fun h => entW h) (.cons (t := 79) rfl (fun h => entW h) .nil)) (op_eql_agg rfl rfl (eqV _ _)) rfl ?_
    refine lx (op_pick_and rfl rfl) rfl ?_
    refine lx (op_move rfl) rfl ?_
    refine lxs rfl rfl rfl guard_eq (.cons (t := 10) rfl (fun _ => Ent.refl _) .nil) (op_fieldAddr rfl fl35_4 sz4) rfl ?_
    refine lxs rfl rfl rfl guard_eq (.cons (t := 83) rfl (fun h => entW h) .nil) (op_bload_one (m := 10) rfl rfl ag4 rfl) rfl ?_
    refine lx (op_pick_and rfl rfl) rfl ?_
    refine lx (op_move rfl) rfl ?_
    refine lxs rfl rfl rfl guard_eq (.cons (t := 14) rfl (fun _ => Ent.refl _) .nil) (op_fieldAddr rfl fl35_4 sz4) rfl ?_
    refine lxs rfl rfl rfl guard_eq (.cons (t := 87) rfl (fun h => entW h) .nil) (op_bload_one (m := 14) rfl rfl ag4 rfl) rfl ?_
    refine lx (op_pick_and rfl rfl) rfl ?_
    refine lx (op_move rfl) rfl ?_
    refine lxs rfl rfl rfl guard_eq (.cons (t := 10) rfl (fun _ => Ent.refl _) .nil) (op_fieldAddr rfl fl35_5 sz33) rfl ?_
    refine lxs rfl rfl rfl guard_eq (.cons (t := 91) rfl (fun h => entW h) .nil) (op_bload_part (m := 10) (qs := [_, _, _, _, _]) rfl rfl ag33 sz33 rfl rfl) rfl ?_
    refine lxs rfl rfl rfl guard_eq (.cons (t := 5) rfl (fun _ => Ent.refl _) .nil) (op_bload (m := 5) rfl rfl ag33 sz33) rfl ?_
    refine lxs rfl rfl rfl guard_eq (.cons (t := 92) rfl (fun h => entW h) (.cons (t := 93) rfl (fun h => entW h) .nil)) (op_eql_agg rfl rfl (eqW ⟨1, -1, v⟩ ⟨1, -1, v⟩)) rfl ?_
    refine lx (op_pick_and rfl rfl) rfl ?_
    refine lx (op_move rfl) rfl ?_
    refine lxs rfl rfl rfl guard_eq (.cons (t := 14) rfl (fun _ => Ent.refl _) .nil) (op_fieldAddr rfl fl35_5 sz33) rfl ?_
    refine lxs rfl rfl rfl guard_eq (.cons (t := 97) rfl (fun h => entW h) .nil) (op_bload_part (m := 14) (qs := [_, _, _, _, _]) rfl rfl ag33 sz33 rfl rfl) rfl ?_
    refine lxs rfl rfl rfl guard_eq (.cons (t := 6) rfl (fun _ => Ent.refl _) .nil) (op_bload (m := 6) rfl rfl ag33 sz33) rfl ?_
    refine lxs rfl rfl rfl guard_eq (.cons (t := 98) rfl (fun h => entW h) (.cons (t := 99) rfl (fun h => entW h) .nil)) (op_eql_agg rfl rfl (eqW ⟨2, -1, v0⟩ ⟨2, -1, v0⟩)) rfl ?_
    refine lx (op_pick_and rfl rfl) rfl ?_
    refine lx (op_move rfl) rfl ?_
    refine lxs rfl rfl rfl guard_eq (.cons (t := 10) rfl (fun _ => Ent.refl _) .nil) (op_fieldAddr rfl fl35_3 sz3) rfl ?_
    refine lxs rfl rfl rfl guard_eq (.cons (t := 103) rfl (fun h => entW h) .nil) (op_bload_one (m := 10) rfl rfl ag3 rfl) rfl ?_
    refine lxs rfl rfl rfl guard_eq (.cons (t := 104) rfl (fun h => entW h) .nil) (op_eql rfl rfl) rfl ?_
    refine lx (op_pick_and rfl rfl) rfl ?_
    refine lx (op_move rfl) rfl ?_
    refine lxs rfl rfl rfl guard_eq (.cons (t := 14) rfl (fun _ => Ent.refl _) .nil) (op_fieldAddr rfl fl35_3 sz3) rfl ?_
    refine lxs rfl rfl rfl guard_eq (.cons (t := 108) rfl (fun h => entW h) .nil) (op_bload_one (m := 14) rfl rfl ag3 rfl) rfl ?_
    refine lxs rfl rfl rfl guard_eq (.cons (t := 109) rfl (fun h => entW h) .nil) (op_eql rfl rfl) rfl ?_
    refine lx (op_pick_and rfl rfl) rfl ?_
    refine lx (op_move rfl) rfl ?_
    refine lxs rfl rfl rfl guard_eq (.cons (t := 9) rfl (fun _ => Ent.refl _) .nil) (op_bload (m := 9) rfl rfl ag28 sz28) rfl ?_
    refine lxs rfl rfl rfl guard_eq (.cons (t := 13) rfl (fun _ => Ent.refl _) .nil) (op_bload (m := 13) rfl rfl ag28 sz28) rfl ?_
    first | refine lxs rfl rfl rfl guard_eq (.cons (t := 113) rfl (fun h => entW h) (.cons (t := 114) rfl (fun h => entW h) .nil)) (op_call (l := [(Go.Operand.tmp 113), (Go.Operand.tmp 114)]) (Same_ok (oQ [] [] 1) (oQ [] [] 1) (oQ_small [] [] 1 (by decide) (by decide) (by decide)).toLens) (.cons rfl (.cons rfl .nil)) fn15) rfl ?_ | refine lxs rfl rfl rfl guard_eq (.cons (t := 113) rfl (fun h => entW h) (.cons (t := 114) rfl (fun h => entW h) .nil)) (op_call (l := [(Go.Operand.tmp 113), (Go.Operand.tmp 114)]) (Same_ok (oQ [] [] 1) (oQ [] [] 1) (oQ_small [] [] 1 (by decide) (by decide) (by decide)).toLens) (.ent rfl (by repeat (first | exact Ents.nil | refine Ents.cons ?_ ?_ | refine Ent.tup ?_ | refine Ent.agg ?_ | exact Ent.row _ _ _ _ | exact Ent.nil _ _ | exact Ent.func _ | exact Ent.refl _ | exact Ent.of_eq rfl | refine Ent.cells ?_)) (.ent rfl (by repeat (first | exact Ents.nil | refine Ents.cons ?_ ?_ | refine Ent.tup ?_ | refine Ent.agg ?_ | exact Ent.row _ _ _ _ | exact Ent.nil _ _ | exact Ent.func _ | exact Ent.refl _ | exact Ent.of_eq rfl | refine Ent.cells ?_)) .nil)) fn15) rfl ?_
    refine lx (op_pick_and rfl rfl) rfl ?_
    refine lx (op_move rfl) rfl ?_
    refine lxs rfl rfl rfl guard_eq (.cons (t := 9) rfl (fun _ => Ent.refl _) .nil) (op_fieldAddr rfl fl28_6 sz3) rfl ?_
    refine lxs rfl rfl rfl guard_eq (.cons (t := 118) rfl (fun h => entW h) .nil) (op_bload_one (m := 9) rfl rfl ag3 rfl) rfl ?_
    refine lxs rfl rfl rfl guard_eq (.cons (t := 119) rfl (fun h => entW h) .nil) (op_eql rfl rfl) rfl ?_
    refine lx (op_pick_and rfl rfl) rfl ?_
    refine lx (op_move rfl) rfl ?_
    refine lxs rfl rfl rfl guard_eq (.cons (t := 9) rfl (fun _ => Ent.refl _) .nil) (op_fieldAddr rfl fl28_7 sz3) rfl ?_
    refine lxs rfl rfl rfl guard_eq (.cons (t := 123) rfl (fun h => entW h) .nil) (op_bload_one (m := 9) rfl rfl ag3 rfl) rfl ?_
    refine lxs rfl rfl rfl guard_eq (.cons (t := 124) rfl (fun h => entW h) .nil) (op_eql rfl rfl) rfl ?_
    refine lx (op_pick_and rfl rfl) rfl ?_
    refine lx (op_assign rfl) rfl ?_
    refine lx_end ⟨by kernel_rfl, ?_⟩
    refine pe_then_normal ?_
    refine tr_sub hC (.cons (t := 2) rfl .nil) .nil rfl ?_
    refine tr_ret ?_
    refine pe_ret1 rfl hO rfl (.tmp rfl .nil) ?_
    exact entB (by simp [v0, tr0])

theorem law_both (v u : V) (f : Bool) : FnP Try.prog 9 [aggP (vp v), aggP (vp u), eqP (.bool f)] (eqP (.bool true)) := by
  refine fn_pure' Try.func9 rfl Try.ntmps9 rfl ?_
  intro σ0 M ex Rf R hC hO
  simp only [frameOf, tokOf]
  refine tr_seq ?_
  refine tr_region (fun N0 hN => ?_)
  refine lxn (op_box (m := 3) (k := 3) rfl (.agg rfl) (by first | exact hC.low _ (by decide) | rfl)) rfl ?_
  refine lxn (op_box (m := 4) (k := 4) rfl (.agg rfl) (by first | exact hC.low _ (by decide) | rfl)) rfl ?_
  refine lx (op_assign rfl) rfl ?_
  refine lx_end ⟨by kernel_rfl, ?_⟩
  refine pe_then_normal ?_
  refine tr_sub hC (.cons (t := 2) rfl (.cons (t := 3) rfl (.cons (t := 4) rfl .nil))) (.cons (t := 3) rfl (.cons (t := 4) rfl .nil)) rfl ?_
  refine tr_seq ?_
  refine tr_seq ?_
  refine tr_region (fun N1 hN => ?_)
  first | refine lx (op_call (l := []) (awake_ok) .nil fn11) rfl ?_ | refine lx (op_call (l := []) (awake_ok) .nil fn11) rfl ?_
  first | refine lx (op_not rfl) rfl ?_ | refine lx (op_not_b rfl) rfl ?_
  refine lx_end ⟨by kernel_rfl, ?_⟩
  refine pe_then_normal ?_
  refine tr_sub hC (.cons (t := 2) rfl (.cons (t := 3) rfl (.cons (t := 4) rfl (.cons (t := 20) rfl .nil)))) (.cons (t := 3) rfl (.cons (t := 4) rfl .nil)) rfl ?_
  refine tr_cond rfl (fun h20 => ?_) (fun h20 => ?_)
  · exact absurd h20 (by decide)
  · (try simp only [Bool.and_eq_true, Bool.or_eq_true, Bool.and_eq_false_iff, Bool.or_eq_false_iff, decide_eq_true_eq, decide_eq_false_iff_not, Bool.not_eq_true', Bool.not_eq_false', List.length_map, ne_eq, Decidable.not_not, Int.not_lt, Int.not_le] at h20)
    refine tr_skip ?_
    refine pe_then_normal ?_
    refine tr_sub hC (.cons (t := 2) rfl (.cons (t := 3) rfl (.cons (t := 4) rfl .nil))) (.cons (t := 3) rfl (.cons (t := 4) rfl .nil)) rfl ?_
    refine tr_seq ?_
    refine tr_region (fun N3 hN => ?_)
    first | refine lx (op_call (l := [(Go.Operand.const (Go.Value.int Go.IntKind.i64 0))]) (New_0) (.cons rfl .nil) fn12) rfl ?_ | refine lx (op_call (l := [(Go.Operand.const (Go.Value.int Go.IntKind.i64 0))]) (New_0) (.ent rfl (by repeat (first | exact Ents.nil | refine Ents.cons ?_ ?_ | refine Ent.tup ?_ | refine Ent.agg ?_ | exact Ent.row _ _ _ _ | exact Ent.nil _ _ | exact Ent.func _ | exact Ent.refl _ | exact Ent.of_eq rfl | refine Ent.cells ?_)) .nil) fn12) rfl ?_
    refine lx (op_move rfl) rfl ?_
    refine lx (op_extract rfl rfl) rfl ?_
    refine lx (op_extract rfl rfl) rfl ?_
    refine lxn (op_alloc (m := 7) (k := 7) (ps := [eqP (.int .i64 0), eqP (.slice none 0 0), eqP (.bool false), eqP (.int .i64 0), eqP (.slice none 0 0), eqP (.bool false), eqP (.int .i64 0), eqP (.int .i64 0), eqP (.slice none 0 0), eqP (.slice none 0 0)]) ze28 rfl rfl (by first | exact hC.low _ (by decide) | rfl)) rfl ?_
    refine lxr (op_store_all (m := 7) rfl rfl rfl (.agg rfl) sz28 rfl) rfl ?_
    refine lx (op_assign rfl) rfl ?_
    refine lx_end ⟨by kernel_rfl, ?_⟩
    refine pe_then_normal ?_
    refine tr_sub hC (.cons (t := 2) rfl (.cons (t := 3) rfl (.cons (t := 4) rfl (.cons (t := 7) rfl (.cons (t := 8) rfl .nil))))) (.cons (t := 3) rfl (.cons (t := 4) rfl (.cons (t := 7) rfl .nil))) rfl ?_
    refine tr_seq ?_
    refine tr_region (fun N4 hN => ?_)
    refine lx (op_bload (m := 7) rfl rfl ag28 sz28) rfl ?_
    refine lx (op_bload (m := 3) rfl rfl ag23 sz23) rfl ?_
    refine lx (op_build (qs := [_, _, _, _, _]) (parts := [(0, (Go.Operand.const (Go.Value.int Go.IntKind.i64 0))), (1, (Go.Operand.const (Go.Value.int Go.IntKind.i64 0))), (2, (Go.Operand.tmp 27))]) ze33 rfl rfl fs33 (.cons rfl (.one (by (first | exact One.eq rfl | exact One.mv _ _ _ _ _ | exact One.cl _ _ _ | exact One.map _ | exact One.sl _ _ _ | exact One.row _ _ _ _ | exact One.msl _ _ _ _ | exact One.ptr _ _ | exact One.b _ | exact One.cells _))) fl33_0 sz3 rfl (.cons rfl (.one (by (first | exact One.eq rfl | exact One.mv _ _ _ _ _ | exact One.cl _ _ _ | exact One.map _ | exact One.sl _ _ _ | exact One.row _ _ _ _ | exact One.msl _ _ _ _ | exact One.ptr _ _ | exact One.b _ | exact One.cells _))) fl33_1 sz3 rfl (.cons rfl (.agg rfl) fl33_2 sz23 rfl .nil))) rfl rfl) rfl ?_
    first | refine lx (op_call (l := [(Go.Operand.tmp 26), (Go.Operand.tmp 28)]) (Send_q (s := []) (r := []) (n := 0) (w := ⟨0, 0, v⟩) (a := oQ [⟨0, 0, v⟩] [] 0) (t := tPk) (Nat.le_of_ble_eq_true rfl) (Nat.le_of_ble_eq_true rfl) (by decide) rfl) (.cons rfl (.cons rfl .nil)) fn13) rfl ?_ | refine lx (op_call (l := [(Go.Operand.tmp 26), (Go.Operand.tmp 28)]) (Send_q (s := []) (r := []) (n := 0) (w := ⟨0, 0, v⟩) (a := oQ [⟨0, 0, v⟩] [] 0) (t := tPk) (Nat.le_of_ble_eq_true rfl) (Nat.le_of_ble_eq_true rfl) (by decide) rfl) (.ent rfl (by repeat (first | exact Ents.nil | refine Ents.cons ?_ ?_ | refine Ent.tup ?_ | refine Ent.agg ?_ | exact Ent.row _ _ _ _ | exact Ent.nil _ _ | exact Ent.func _ | exact Ent.refl _ | exact Ent.of_eq rfl | refine Ent.cells ?_)) (.ent rfl (by repeat (first | exact Ents.nil | refine Ents.cons ?_ ?_ | refine Ent.tup ?_ | refine Ent.agg ?_ | exact Ent.row _ _ _ _ | exact Ent.nil _ _ | exact Ent.func _ | exact Ent.refl _ | exact Ent.of_eq rfl | refine Ent.cells ?_)) .nil)) fn13) rfl ?_
    refine lx (op_move rfl) rfl ?_
    refine lx (op_extract rfl rfl) rfl ?_
    refine lx (op_extract rfl rfl) rfl ?_
    refine lxn (op_alloc (m := 9) (k := 9) (ps := [eqP (.int .i64 0), eqP (.slice none 0 0), eqP (.bool false), eqP (.int .i64 0), eqP (.slice none 0 0), eqP (.bool false), eqP (.int .i64 0), eqP (.int .i64 0), eqP (.slice none 0 0), eqP (.slice none 0 0)]) ze28 rfl rfl (by first | exact hC.low _ (by decide) | rfl)) rfl ?_
    refine lxn (op_alloc (m := 10) (k := 10) (ps := [eqP (.int .i64 0), eqP (.int .i64 0), eqP (.int .i64 0), eqP (.int .i64 0), eqP (.bool false), eqP (.int .i64 0), eqP (.bool false), eqP (.int .i64 0), eqP (.int .i64 0), eqP (.int .i64 0), eqP (.int .i64 0), eqP (.int .i64 0), eqP (.int .i64 0), eqP (.slice none 0 0), eqP (.slice none 0 0)]) ze35 rfl rfl (by first | exact hC.low _ (by decide) | rfl)) rfl ?_
    refine lxr (op_store_all (m := 9) rfl rfl rfl (.agg rfl) sz28 rfl) rfl ?_
    refine lxr (op_store_all (m := 10) rfl rfl rfl (.agg rfl) sz35 rfl) rfl ?_
    refine lx_end ⟨by kernel_rfl, ?_⟩
    refine pe_then_normal ?_
    refine tr_sub hC (.cons (t := 2) rfl (.cons (t := 3) rfl (.cons (t := 4) rfl (.cons (t := 8) rfl (.cons (t := 9) rfl (.cons (t := 10) rfl .nil)))))) (.cons (t := 3) rfl (.cons (t := 4) rfl (.cons (t := 9) rfl (.cons (t := 10) rfl .nil)))) rfl ?_
    refine tr_seq ?_
    refine tr_region (fun N5 hN => ?_)
    refine lx (op_bload (m := 9) rfl rfl ag28 sz28) rfl ?_
    refine lx (op_build (qs := [_, _, _, _, _]) (parts := [(0, (Go.Operand.const (Go.Value.int Go.IntKind.i64 0))), (1, (Go.Operand.const (Go.Value.int Go.IntKind.i64 1)))]) ze33 rfl rfl fs33 (.cons rfl (.one (by (first | exact One.eq rfl | exact One.mv _ _ _ _ _ | exact One.cl _ _ _ | exact One.map _ | exact One.sl _ _ _ | exact One.row _ _ _ _ | exact One.msl _ _ _ _ | exact One.ptr _ _ | exact One.b _ | exact One.cells _))) fl33_0 sz3 rfl (.cons rfl (.one (by (first | exact One.eq rfl | exact One.mv _ _ _ _ _ | exact One.cl _ _ _ | exact One.map _ | exact One.sl _ _ _ | exact One.row _ _ _ _ | exact One.msl _ _ _ _ | exact One.ptr _ _ | exact One.b _ | exact One.cells _))) fl33_1 sz3 rfl .nil)) rfl rfl) rfl ?_
    first | refine lx (op_call (l := [(Go.Operand.tmp 33), (Go.Operand.tmp 34)]) (Recv_q (s := [⟨0, 0, v⟩]) (r := []) (n := 0) (w := ⟨0, 1, v0⟩) (a := oQ [⟨0, 0, v⟩] [⟨0, 1, v0⟩] 0) (t := tPk) (Nat.le_of_ble_eq_true rfl) (Nat.le_of_ble_eq_true rfl) (by decide) rfl) (.cons rfl (.cons rfl .nil)) fn14) rfl ?_ | refine lx (op_call (l := [(Go.Operand.tmp 33), (Go.Operand.tmp 34)]) (Recv_q (s := [⟨0, 0, v⟩]) (r := []) (n := 0) (w := ⟨0, 1, v0⟩) (a := oQ [⟨0, 0, v⟩] [⟨0, 1, v0⟩] 0) (t := tPk) (Nat.le_of_ble_eq_true rfl) (Nat.le_of_ble_eq_true rfl) (by decide) rfl) (.ent rfl (by repeat (first | exact Ents.nil | refine Ents.cons ?_ ?_ | refine Ent.tup ?_ | refine Ent.agg ?_ | exact Ent.row _ _ _ _ | exact Ent.nil _ _ | exact Ent.func _ | exact Ent.refl _ | exact Ent.of_eq rfl | refine Ent.cells ?_)) (.ent rfl (by repeat (first | exact Ents.nil | refine Ents.cons ?_ ?_ | refine Ent.tup ?_ | refine Ent.agg ?_ | exact Ent.row _ _ _ _ | exact Ent.nil _ _ | exact Ent.func _ | exact Ent.refl _ | exact Ent.of_eq rfl | refine Ent.cells ?_)) .nil)) fn14) rfl ?_
    refine lx (op_move rfl) rfl ?_
    refine lx (op_extract rfl rfl) rfl ?_
    refine lx (op_extract rfl rfl) rfl ?_
    refine lxn (op_alloc (m := 11) (k := 11) (ps := [eqP (.int .i64 0), eqP (.slice none 0 0), eqP (.bool false), eqP (.int .i64 0), eqP (.slice none 0 0), eqP (.bool false), eqP (.int .i64 0), eqP (.int .i64 0), eqP (.slice none 0 0), eqP (.slice none 0 0)]) ze28 rfl rfl (by first | exact hC.low _ (by decide) | rfl)) rfl ?_
    refine lxn (op_alloc (m := 12) (k := 12) (ps := [eqP (.int .i64 0), eqP (.int .i64 0), eqP (.int .i64 0), eqP (.int .i64 0), eqP (.bool false), eqP (.int .i64 0), eqP (.bool false), eqP (.int .i64 0), eqP (.int .i64 0), eqP (.int .i64 0), eqP (.int .i64 0), eqP (.int .i64 0), eqP (.int .i64 0), eqP (.slice none 0 0), eqP (.slice none 0 0)]) ze35 rfl rfl (by first | exact hC.low _ (by decide) | rfl)) rfl ?_
    refine lxr (op_store_all (m := 11) rfl rfl rfl (.agg rfl) sz28 rfl) rfl ?_
    refine lxr (op_store_all (m := 12) rfl rfl rfl (.agg rfl) sz35 rfl) rfl ?_
    refine lx_end ⟨by kernel_rfl, ?_⟩
    refine pe_then_normal ?_
    refine tr_sub hC (.cons (t := 2) rfl (.cons (t := 3) rfl (.cons (t := 4) rfl (.cons (t := 8) rfl (.cons (t := 10) rfl (.cons (t := 11) rfl (.cons (t := 12) rfl .nil))))))) (.cons (t := 3) rfl (.cons (t := 4) rfl (.cons (t := 10) rfl (.cons (t := 11) rfl (.cons (t := 12) rfl .nil))))) rfl ?_
    refine tr_seq ?_
    refine tr_seq ?_
    refine tr_region (fun N6 hN => ?_)
    refine lx (op_move rfl) rfl ?_
    refine lx (op_neq rfl rfl) rfl ?_
    refine lx (op_move rfl) rfl ?_
    refine lxs rfl rfl rfl guard_eq (.cons (t := 10) rfl (fun _ => Ent.refl _) .nil) (op_fieldAddr rfl fl35_0 sz3) rfl ?_
    refine lxs rfl rfl rfl guard_eq (.cons (t := 41) rfl (fun h => entW h) .nil) (op_bload_one (m := 10) rfl rfl ag3 rfl) rfl ?_
    refine lxs rfl rfl rfl guard_eq (.cons (t := 42) rfl (fun h => entW h) .nil) (op_neq rfl rfl) rfl ?_
    refine lx (op_pick_or rfl rfl) rfl ?_
    refine lx (op_move rfl) rfl ?_
    refine lxs rfl rfl rfl guard_eq (.cons (t := 12) rfl (fun _ => Ent.refl _) .nil) (op_fieldAddr rfl fl35_0 sz3) rfl ?_
    refine lxs rfl rfl rfl guard_eq (.cons (t := 46) rfl (fun h => entW h) .nil) (op_bload_one (m := 12) rfl rfl ag3 rfl) rfl ?_
    refine lxs rfl rfl rfl guard_eq (.cons (t := 47) rfl (fun h => entW h) .nil) (op_neq rfl rfl) rfl ?_
    refine lx (op_pick_or rfl rfl) rfl ?_
    refine lx (op_move rfl) rfl ?_
    refine lxs rfl rfl rfl guard_eq (.cons (t := 11) rfl (fun _ => Ent.refl _) .nil) (op_fieldAddr rfl fl28_8 sz26) rfl ?_
    refine lxs rfl rfl rfl guard_eq (.cons (t := 51) rfl (fun h => entW h) .nil) (op_bload_one (m := 11) rfl rfl ag26 rfl) rfl ?_
    first | refine lxs rfl rfl rfl guard_eq (.cons (t := 52) rfl (fun h => entW h) .nil) (op_len rfl el26) rfl ?_ | refine lxs rfl rfl rfl guard_eq (.cons (t := 52) rfl (fun h => entW h) .nil) (op_len_row rfl el26) rfl ?_ | refine lxs rfl rfl rfl guard_eq (.cons (t := 52) rfl (fun h => entW h) .nil) (op_len_mv rfl el26) rfl ?_ | refine lxs rfl rfl rfl guard_eq (.cons (t := 52) rfl (fun h => entW h) .nil) (op_len_nil rfl el26) rfl ?_
    refine lxs rfl rfl rfl guard_eq (.cons (t := 53) rfl (fun h => entW h) .nil) (op_neq rfl rfl) rfl ?_
    refine lx (op_pick_or rfl rfl) rfl ?_
    refine lx (op_move rfl) rfl ?_
    refine lxs rfl rfl rfl guard_eq (.cons (t := 11) rfl (fun _ => Ent.refl _) .nil) (op_fieldAddr rfl fl28_9 sz26) rfl ?_
    refine lxs rfl rfl rfl guard_eq (.cons (t := 57) rfl (fun h => entW h) .nil) (op_bload_one (m := 11) rfl rfl ag26 rfl) rfl ?_
    first | refine lxs rfl rfl rfl guard_eq (.cons (t := 58) rfl (fun h => entW h) .nil) (op_len rfl el26) rfl ?_ | refine lxs rfl rfl rfl guard_eq (.cons (t := 58) rfl (fun h => entW h) .nil) (op_len_row rfl el26) rfl ?_ | refine lxs rfl rfl rfl guard_eq (.cons (t := 58) rfl (fun h => entW h) .nil) (op_len_mv rfl el26) rfl ?_ | refine lxs rfl rfl rfl guard_eq (.cons (t := 58) rfl (fun h => entW h) .nil) (op_len_nil rfl el26) rfl ?_
    refine lxs rfl rfl rfl guard_eq (.cons (t := 59) rfl (fun h => entW h) .nil) (op_neq rfl rfl) rfl ?_
    refine lx (op_pick_or rfl rfl) rfl ?_
    refine lx_end ⟨by kernel_rfl, ?_⟩
    refine pe_then_normal ?_
    refine tr_sub hC (.cons (t := 2) rfl (.cons (t := 3) rfl (.cons (t := 4) rfl (.cons (t := 11) rfl (.cons (t := 61) rfl .nil))))) (.cons (t := 3) rfl (.cons (t := 4) rfl (.cons (t := 11) rfl .nil))) rfl ?_
    refine tr_cond rfl (fun h61 => ?_) (fun h61 => ?_)
    · (try simp only [Bool.and_eq_true, Bool.or_eq_true, Bool.and_eq_false_iff, Bool.or_eq_false_iff, decide_eq_true_eq, decide_eq_false_iff_not, Bool.not_eq_true', Bool.not_eq_false', List.length_map, ne_eq, Decidable.not_not, Int.not_lt, Int.not_le] at h61)
      exact absurd h61 (by simp)
    · (try simp only [Bool.and_eq_true, Bool.or_eq_true, Bool.and_eq_false_iff, Bool.or_eq_false_iff, decide_eq_true_eq, decide_eq_false_iff_not, Bool.not_eq_true', Bool.not_eq_false', List.length_map, ne_eq, Decidable.not_not, Int.not_lt, Int.not_le] at h61)
      refine tr_skip ?_
      refine pe_then_normal ?_
      refine tr_sub hC (.cons (t := 2) rfl (.cons (t := 3) rfl (.cons (t := 4) rfl (.cons (t := 11) rfl .nil)))) (.cons (t := 3) rfl (.cons (t := 4) rfl (.cons (t := 11) rfl .nil))) rfl ?_
      refine tr_seq ?_
      refine tr_seq ?_
      refine tr_region (fun N8 hN => ?_)
      refine lx (op_move rfl) rfl ?_
      refine lx_end ⟨by kernel_rfl, ?_⟩
      refine pe_then_normal ?_
      refine tr_sub hC (.cons (t := 3) rfl (.cons (t := 4) rfl (.cons (t := 11) rfl (.cons (t := 62) rfl .nil)))) (.cons (t := 3) rfl (.cons (t := 4) rfl (.cons (t := 11) rfl .nil))) rfl ?_
      refine tr_cond rfl (fun h62 => ?_) (fun h62 => ?_)
      · (try simp only [Bool.and_eq_true, Bool.or_eq_true, Bool.and_eq_false_iff, Bool.or_eq_false_iff, decide_eq_true_eq, decide_eq_false_iff_not, Bool.not_eq_true', Bool.not_eq_false', List.length_map, ne_eq, Decidable.not_not, Int.not_lt, Int.not_le] at h62)
        refine tr_seq ?_
        refine tr_region (fun N9 hN => ?_)
        refine lx (op_bload (m := 11) rfl rfl ag28 sz28) rfl ?_
        refine lx (op_build (qs := [_, _, _, _, _]) (parts := [(0, (Go.Operand.const (Go.Value.int Go.IntKind.i64 3))), (1, (Go.Operand.const (Go.Value.int Go.IntKind.i64 (-1))))]) ze33 rfl rfl fs33 (.cons rfl (.one (by (first | exact One.eq rfl | exact One.mv _ _ _ _ _ | exact One.cl _ _ _ | exact One.map _ | exact One.sl _ _ _ | exact One.row _ _ _ _ | exact One.msl _ _ _ _ | exact One.ptr _ _ | exact One.b _ | exact One.cells _))) fl33_0 sz3 rfl (.cons rfl (.one (by (first | exact One.eq rfl | exact One.mv _ _ _ _ _ | exact One.cl _ _ _ | exact One.map _ | exact One.sl _ _ _ | exact One.row _ _ _ _ | exact One.msl _ _ _ _ | exact One.ptr _ _ | exact One.b _ | exact One.cells _))) fl33_1 sz3 rfl .nil)) rfl rfl) rfl ?_
        first | refine lx (op_call (l := [(Go.Operand.tmp 64), (Go.Operand.tmp 65)]) (Recv_q (s := [⟨0, 0, v⟩]) (r := [⟨0, 1, v0⟩]) (n := 0) (w := ⟨3, -1, v0⟩) (a := oQ [] [] 1) (t := tP v ⟨0, 0, v⟩) (Nat.le_of_ble_eq_true rfl) (Nat.le_of_ble_eq_true rfl) (by decide) rfl) (.cons rfl (.cons rfl .nil)) fn14) rfl ?_ | refine lx (op_call (l := [(Go.Operand.tmp 64), (Go.Operand.tmp 65)]) (Recv_q (s := [⟨0, 0, v⟩]) (r := [⟨0, 1, v0⟩]) (n := 0) (w := ⟨3, -1, v0⟩) (a := oQ [] [] 1) (t := tP v ⟨0, 0, v⟩) (Nat.le_of_ble_eq_true rfl) (Nat.le_of_ble_eq_true rfl) (by decide) rfl) (.ent rfl (by repeat (first | exact Ents.nil | refine Ents.cons ?_ ?_ | refine Ent.tup ?_ | refine Ent.agg ?_ | exact Ent.row _ _ _ _ | exact Ent.nil _ _ | exact Ent.func _ | exact Ent.refl _ | exact Ent.of_eq rfl | refine Ent.cells ?_)) (.ent rfl (by repeat (first | exact Ents.nil | refine Ents.cons ?_ ?_ | refine Ent.tup ?_ | refine Ent.agg ?_ | exact Ent.row _ _ _ _ | exact Ent.nil _ _ | exact Ent.func _ | exact Ent.refl _ | exact Ent.of_eq rfl | refine Ent.cells ?_)) .nil)) fn14) rfl ?_
        refine lx (op_move rfl) rfl ?_
        refine lx (op_extract rfl rfl) rfl ?_
        refine lx (op_extract rfl rfl) rfl ?_
        refine lxn (op_alloc (m := 13) (k := 13) (ps := [eqP (.int .i64 0), eqP (.slice none 0 0), eqP (.bool false), eqP (.int .i64 0), eqP (.slice none 0 0), eqP (.bool false), eqP (.int .i64 0), eqP (.int .i64 0), eqP (.slice none 0 0), eqP (.slice none 0 0)]) ze28 rfl rfl (by first | exact hC.low _ (by decide) | rfl)) rfl ?_
        refine lxn (op_alloc (m := 14) (k := 14) (ps := [eqP (.int .i64 0), eqP (.int .i64 0), eqP (.int .i64 0), eqP (.int .i64 0), eqP (.bool false), eqP (.int .i64 0), eqP (.bool false), eqP (.int .i64 0), eqP (.int .i64 0), eqP (.int .i64 0), eqP (.int .i64 0), eqP (.int .i64 0), eqP (.int .i64 0), eqP (.slice none 0 0), eqP (.slice none 0 0)]) ze35 rfl rfl (by first | exact hC.low _ (by decide) | rfl)) rfl ?_
        refine lxr (op_store_all (m := 13) rfl rfl rfl (.agg rfl) sz28 rfl) rfl ?_
        refine lxr (op_store_all (m := 14) rfl rfl rfl (.agg rfl) sz35 rfl) rfl ?_
        refine lx_end ⟨by kernel_rfl, ?_⟩
        refine pe_then_normal ?_
        refine tr_sub hC (.cons (t := 3) rfl (.cons (t := 13) rfl (.cons (t := 14) rfl .nil))) (.cons (t := 3) rfl (.cons (t := 13) rfl (.cons (t := 14) rfl .nil))) rfl ?_
        refine tr_seq ?_
        refine tr_region (fun N10 hN => ?_)
        refine lx (op_fieldAddr rfl fl35_1 sz23) rfl ?_
        refine lx (op_bload_part (m := 14) (qs := [_, _, _]) rfl rfl ag23 sz23 rfl rfl) rfl ?_
        refine lx (op_bload (m := 3) rfl rfl ag23 sz23) rfl ?_
        refine lx (op_eql_agg rfl rfl (eqV _ _)) rfl ?_
        refine lx (op_move rfl) rfl ?_
        refine lxs rfl rfl rfl guard_eq (.cons (t := 14) rfl (fun _ => Ent.refl _) .nil) (op_fieldAddr rfl fl35_5 sz33) rfl ?_
        refine lxs rfl rfl rfl guard_eq (.cons (t := 74) rfl (fun h => entW h) .nil) (op_fieldAddr rfl fl33_1 sz3) rfl ?_
        refine lxs rfl rfl rfl guard_eq (.cons (t := 75) rfl (fun h => entW h) .nil) (op_bload_one (m := 14) rfl rfl ag3 rfl) rfl ?_
        refine lxs rfl rfl rfl guard_eq (.cons (t := 76) rfl (fun h => entW h) .nil) (op_eql rfl rfl) rfl ?_
        refine lx (op_pick_and rfl rfl) rfl ?_
        refine lx (op_move rfl) rfl ?_
        refine lxs rfl rfl rfl guard_eq (.cons (t := 13) rfl (fun _ => Ent.refl _) .nil) (op_fieldAddr rfl fl28_8 sz26) rfl ?_
        refine lxs rfl rfl rfl guard_eq (.cons (t := 80) rfl (fun h => entW h) .nil) (op_bload_one (m := 13) rfl rfl ag26 rfl) rfl ?_
        first | refine lxs rfl rfl rfl guard_eq (.cons (t := 81) rfl (fun h => entW h) .nil) (op_len rfl el26) rfl ?_ | refine lxs rfl rfl rfl guard_eq (.cons (t := 81) rfl (fun h => entW h) .nil) (op_len_row rfl el26) rfl ?_ | refine lxs rfl rfl rfl guard_eq (.cons (t := 81) rfl (fun h => entW h) .nil) (op_len_mv rfl el26) rfl ?_ | refine lxs rfl rfl rfl guard_eq (.cons (t := 81) rfl (fun h => entW h) .nil) (op_len_nil rfl el26) rfl ?_
        refine lxs rfl rfl rfl guard_eq (.cons (t := 82) rfl (fun h => entW h) .nil) (op_eql rfl rfl) rfl ?_
        refine lx (op_pick_and rfl rfl) rfl ?_
        refine lx (op_move rfl) rfl ?_
        refine lxs rfl rfl rfl guard_eq (.cons (t := 13) rfl (fun _ => Ent.refl _) .nil) (op_fieldAddr rfl fl28_9 sz26) rfl ?_
        refine lxs rfl rfl rfl guard_eq (.cons (t := 86) rfl (fun h => entW h) .nil) (op_bload_one (m := 13) rfl rfl ag26 rfl) rfl ?_
        first | refine lxs rfl rfl rfl guard_eq (.cons (t := 87) rfl (fun h => entW h) .nil) (op_len rfl el26) rfl ?_ | refine lxs rfl rfl rfl guard_eq (.cons (t := 87) rfl (fun h => entW h) .nil) (op_len_row rfl el26) rfl ?_ | refine lxs rfl rfl rfl guard_eq (.cons (t := 87) rfl (fun h => entW h) .nil) (op_len_mv rfl el26) rfl ?_ | refine lxs rfl rfl rfl guard_eq (.cons (t := 87) rfl (fun h => entW h) .nil) (op_len_nil rfl el26) rfl ?_
        refine lxs rfl rfl rfl guard_eq (.cons (t := 88) rfl (fun h => entW h) .nil) (op_eql rfl rfl) rfl ?_
        refine lx (op_pick_and rfl rfl) rfl ?_
        refine lx (op_assign rfl) rfl ?_
        refine lx_end ⟨by kernel_rfl, ?_⟩
        refine pe_then_normal ?_
        refine tr_sub hC (.cons (t := 6) rfl .nil) .nil rfl ?_
        refine tr_ret ?_
        refine pe_then_ret ?_
        refine pe_ret1 rfl hO rfl (.tmp rfl .nil) ?_
        exact entB (by simp [v0])
      · (try simp only [Bool.and_eq_true, Bool.or_eq_true, Bool.and_eq_false_iff, Bool.or_eq_false_iff, decide_eq_true_eq, decide_eq_false_iff_not, Bool.not_eq_true', Bool.not_eq_false', List.length_map, ne_eq, Decidable.not_not, Int.not_lt, Int.not_le] at h62)
        refine tr_skip ?_
        refine pe_then_normal ?_
        refine tr_sub hC (.cons (t := 4) rfl (.cons (t := 11) rfl .nil)) (.cons (t := 4) rfl (.cons (t := 11) rfl .nil)) rfl ?_
        refine tr_seq ?_
        refine tr_region (fun N11 hN => ?_)
        refine lx (op_bload (m := 11) rfl rfl ag28 sz28) rfl ?_
        refine lx (op_bload (m := 4) rfl rfl ag23 sz23) rfl ?_
        refine lx (op_build (qs := [_, _, _, _, _]) (parts := [(0, (Go.Operand.const (Go.Value.int Go.IntKind.i64 3))), (1, (Go.Operand.const (Go.Value.int Go.IntKind.i64 (-1)))), (2, (Go.Operand.tmp 93))]) ze33 rfl rfl fs33 (.cons rfl (.one (by (first | exact One.eq rfl | exact One.mv _ _ _ _ _ | exact One.cl _ _ _ | exact One.map _ | exact One.sl _ _ _ | exact One.row _ _ _ _ | exact One.msl _ _ _ _ | exact One.ptr _ _ | exact One.b _ | exact One.cells _))) fl33_0 sz3 rfl (.cons rfl (.one (by (first | exact One.eq rfl | exact One.mv _ _ _ _ _ | exact One.cl _ _ _ | exact One.map _ | exact One.sl _ _ _ | exact One.row _ _ _ _ | exact One.msl _ _ _ _ | exact One.ptr _ _ | exact One.b _ | exact One.cells _))) fl33_1 sz3 rfl (.cons rfl (.agg rfl) fl33_2 sz23 rfl .nil))) rfl rfl) rfl ?_
        first | refine lx (op_call (l := [(Go.Operand.tmp 92), (Go.Operand.tmp 94)]) (Send_q (s := [⟨0, 0, v⟩]) (r := [⟨0, 1, v0⟩]) (n := 0) (w := ⟨3, -1, u⟩) (a := oQ [] [] 1) (t := tP u ⟨0, 1, v0⟩) (Nat.le_of_ble_eq_true rfl) (Nat.le_of_ble_eq_true rfl) (by decide) rfl) (.cons rfl (.cons rfl .nil)) fn13) rfl ?_ | refine lx (op_call (l := [(Go.Operand.tmp 92), (Go.Operand.tmp 94)]) (Send_q (s := [⟨0, 0, v⟩]) (r := [⟨0, 1, v0⟩]) (n := 0) (w := ⟨3, -1, u⟩) (a := oQ [] [] 1) (t := tP u ⟨0, 1, v0⟩) (Nat.le_of_ble_eq_true rfl) (Nat.le_of_ble_eq_true rfl) (by decide) rfl) (.ent rfl (by repeat (first | exact Ents.nil | refine Ents.cons ?_ ?_ | refine Ent.tup ?_ | refine Ent.agg ?_ | exact Ent.row _ _ _ _ | exact Ent.nil _ _ | exact Ent.func _ | exact Ent.refl _ | exact Ent.of_eq rfl | refine Ent.cells ?_)) (.ent rfl (by repeat (first | exact Ents.nil | refine Ents.cons ?_ ?_ | refine Ent.tup ?_ | refine Ent.agg ?_ | exact Ent.row _ _ _ _ | exact Ent.nil _ _ | exact Ent.func _ | exact Ent.refl _ | exact Ent.of_eq rfl | refine Ent.cells ?_)) .nil)) fn13) rfl ?_
        refine lx (op_move rfl) rfl ?_
        refine lx (op_extract rfl rfl) rfl ?_
        refine lx (op_extract rfl rfl) rfl ?_
        refine lxn (op_alloc (m := 15) (k := 15) (ps := [eqP (.int .i64 0), eqP (.slice none 0 0), eqP (.bool false), eqP (.int .i64 0), eqP (.slice none 0 0), eqP (.bool false), eqP (.int .i64 0), eqP (.int .i64 0), eqP (.slice none 0 0), eqP (.slice none 0 0)]) ze28 rfl rfl (by first | exact hC.low _ (by decide) | rfl)) rfl ?_
        refine lxn (op_alloc (m := 16) (k := 16) (ps := [eqP (.int .i64 0), eqP (.int .i64 0), eqP (.int .i64 0), eqP (.int .i64 0), eqP (.bool false), eqP (.int .i64 0), eqP (.bool false), eqP (.int .i64 0), eqP (.int .i64 0), eqP (.int .i64 0), eqP (.int .i64 0), eqP (.int .i64 0), eqP (.int .i64 0), eqP (.slice none 0 0), eqP (.slice none 0 0)]) ze35 rfl rfl (by first | exact hC.low _ (by decide) | rfl)) rfl ?_
        refine lxr (op_store_all (m := 15) rfl rfl rfl (.agg rfl) sz28 rfl) rfl ?_
        refine lxr (op_store_all (m := 16) rfl rfl rfl (.agg rfl) sz35 rfl) rfl ?_
        refine lx_end ⟨by kernel_rfl, ?_⟩
        refine pe_then_normal ?_
        refine tr_sub hC (.cons (t := 11) rfl (.cons (t := 15) rfl (.cons (t := 16) rfl .nil))) (.cons (t := 11) rfl (.cons (t := 15) rfl (.cons (t := 16) rfl .nil))) rfl ?_
        refine tr_seq ?_
        refine tr_region (fun N12 hN => ?_)
        refine lx (op_bload (m := 11) rfl rfl ag28 sz28) rfl ?_
        first | refine lx (op_call (l := [(Go.Operand.tmp 99)]) (Close_q (s := [⟨0, 0, v⟩]) (r := [⟨0, 1, v0⟩]) (n := 0) (a := { oQ [] [] 0 with closed := true }) (t := { tr0 with number := 0, woken := [⟨0, 1, v0⟩] }) (Nat.le_of_ble_eq_true rfl) (Nat.le_of_ble_eq_true rfl) (by decide) rfl rfl) (.cons rfl .nil) fn27) rfl ?_ | refine lx (op_call (l := [(Go.Operand.tmp 99)]) (Close_q (s := [⟨0, 0, v⟩]) (r := [⟨0, 1, v0⟩]) (n := 0) (a := { oQ [] [] 0 with closed := true }) (t := { tr0 with number := 0, woken := [⟨0, 1, v0⟩] }) (Nat.le_of_ble_eq_true rfl) (Nat.le_of_ble_eq_true rfl) (by decide) rfl rfl) (.ent rfl (by repeat (first | exact Ents.nil | refine Ents.cons ?_ ?_ | refine Ent.tup ?_ | refine Ent.agg ?_ | exact Ent.row _ _ _ _ | exact Ent.nil _ _ | exact Ent.func _ | exact Ent.refl _ | exact Ent.of_eq rfl | refine Ent.cells ?_)) .nil) fn27) rfl ?_
        refine lx (op_move rfl) rfl ?_
        refine lx (op_extract rfl rfl) rfl ?_
        refine lx (op_extract rfl rfl) rfl ?_
        refine lxn (op_alloc (m := 17) (k := 17) (ps := [eqP (.int .i64 0), eqP (.slice none 0 0), eqP (.bool false), eqP (.int .i64 0), eqP (.slice none 0 0), eqP (.bool false), eqP (.int .i64 0), eqP (.int .i64 0), eqP (.slice none 0 0), eqP (.slice none 0 0)]) ze28 rfl rfl (by first | exact hC.low _ (by decide) | rfl)) rfl ?_
        refine lxn (op_alloc (m := 18) (k := 18) (ps := [eqP (.int .i64 0), eqP (.int .i64 0), eqP (.int .i64 0), eqP (.int .i64 0), eqP (.bool false), eqP (.int .i64 0), eqP (.bool false), eqP (.int .i64 0), eqP (.int .i64 0), eqP (.int .i64 0), eqP (.int .i64 0), eqP (.int .i64 0), eqP (.int .i64 0), eqP (.slice none 0 0), eqP (.slice none 0 0)]) ze35 rfl rfl (by first | exact hC.low _ (by decide) | rfl)) rfl ?_
        refine lxr (op_store_all (m := 17) rfl rfl rfl (.agg rfl) sz28 rfl) rfl ?_
        refine lxr (op_store_all (m := 18) rfl rfl rfl (.agg rfl) sz35 rfl) rfl ?_
        refine lx_end ⟨by kernel_rfl, ?_⟩
        refine pe_then_normal ?_
        refine tr_sub hC (.cons (t := 15) rfl (.cons (t := 16) rfl (.cons (t := 17) rfl (.cons (t := 18) rfl .nil)))) (.cons (t := 15) rfl (.cons (t := 16) rfl (.cons (t := 17) rfl (.cons (t := 18) rfl .nil)))) rfl ?_
        refine tr_seq ?_
        refine tr_region (fun N13 hN => ?_)
        refine lx (op_fieldAddr rfl fl35_5 sz33) rfl ?_
        refine lx (op_fieldAddr rfl fl33_0 sz3) rfl ?_
        refine lx (op_bload_one (m := 16) rfl rfl ag3 rfl) rfl ?_
        refine lx (op_eql rfl rfl) rfl ?_
        refine lx (op_move rfl) rfl ?_
        refine lxs rfl rfl rfl guard_eq (.cons (t := 16) rfl (fun _ => Ent.refl _) .nil) (op_fieldAddr rfl fl35_5 sz33) rfl ?_
        refine lxs rfl rfl rfl guard_eq (.cons (t := 108) rfl (fun h => entW h) .nil) (op_fieldAddr rfl fl33_1 sz3) rfl ?_
        refine lxs rfl rfl rfl guard_eq (.cons (t := 109) rfl (fun h => entW h) .nil) (op_bload_one (m := 16) rfl rfl ag3 rfl) rfl ?_
        refine lxs rfl rfl rfl guard_eq (.cons (t := 110) rfl (fun h => entW h) .nil) (op_eql rfl rfl) rfl ?_
        refine lx (op_pick_and rfl rfl) rfl ?_
        refine lx (op_move rfl) rfl ?_
        refine lxs rfl rfl rfl guard_eq (.cons (t := 15) rfl (fun _ => Ent.refl _) .nil) (op_fieldAddr rfl fl28_8 sz26) rfl ?_
        refine lxs rfl rfl rfl guard_eq (.cons (t := 114) rfl (fun h => entW h) .nil) (op_bload_one (m := 15) rfl rfl ag26 rfl) rfl ?_
        first | refine lxs rfl rfl rfl guard_eq (.cons (t := 115) rfl (fun h => entW h) .nil) (op_len rfl el26) rfl ?_ | refine lxs rfl rfl rfl guard_eq (.cons (t := 115) rfl (fun h => entW h) .nil) (op_len_row rfl el26) rfl ?_ | refine lxs rfl rfl rfl guard_eq (.cons (t := 115) rfl (fun h => entW h) .nil) (op_len_mv rfl el26) rfl ?_ | refine lxs rfl rfl rfl guard_eq (.cons (t := 115) rfl (fun h => entW h) .nil) (op_len_nil rfl el26) rfl ?_
        refine lxs rfl rfl rfl guard_eq (.cons (t := 116) rfl (fun h => entW h) .nil) (op_eql rfl rfl) rfl ?_
        refine lx (op_pick_and rfl rfl) rfl ?_
        refine lx (op_move rfl) rfl ?_
        refine lxs rfl rfl rfl guard_eq (.cons (t := 15) rfl (fun _ => Ent.refl _) .nil) (op_fieldAddr rfl fl28_9 sz26) rfl ?_
        refine lxs rfl rfl rfl guard_eq (.cons (t := 120) rfl (fun h => entW h) .nil) (op_bload_one (m := 15) rfl rfl ag26 rfl) rfl ?_
        first | refine lxs rfl rfl rfl guard_eq (.cons (t := 121) rfl (fun h => entW h) .nil) (op_len rfl el26) rfl ?_ | refine lxs rfl rfl rfl guard_eq (.cons (t := 121) rfl (fun h => entW h) .nil) (op_len_row rfl el26) rfl ?_ | refine lxs rfl rfl rfl guard_eq (.cons (t := 121) rfl (fun h => entW h) .nil) (op_len_mv rfl el26) rfl ?_ | refine lxs rfl rfl rfl guard_eq (.cons (t := 121) rfl (fun h => entW h) .nil) (op_len_nil rfl el26) rfl ?_
        refine lxs rfl rfl rfl guard_eq (.cons (t := 122) rfl (fun h => entW h) .nil) (op_eql rfl rfl) rfl ?_
        refine lx (op_pick_and rfl rfl) rfl ?_
        refine lx (op_move rfl) rfl ?_
        refine lxs rfl rfl rfl guard_eq (.cons (t := 17) rfl (fun _ => Ent.refl _) .nil) (op_fieldAddr rfl fl28_5 sz4) rfl ?_
        refine lxs rfl rfl rfl guard_eq (.cons (t := 126) rfl (fun h => entW h) .nil) (op_bload_one (m := 17) rfl rfl ag4 rfl) rfl ?_
        refine lx (op_pick_and rfl rfl) rfl ?_
        refine lx (op_move rfl) rfl ?_
        refine lxs rfl rfl rfl guard_eq (.cons (t := 18) rfl (fun _ => Ent.refl _) .nil) (op_fieldAddr rfl fl35_7 sz26) rfl ?_
        refine lxs rfl rfl rfl guard_eq (.cons (t := 130) rfl (fun h => entW h) .nil) (op_bload_one (m := 18) rfl rfl ag26 rfl) rfl ?_
        first | refine lxs rfl rfl rfl guard_eq (.cons (t := 131) rfl (fun h => entW h) .nil) (op_len rfl el26) rfl ?_ | refine lxs rfl rfl rfl guard_eq (.cons (t := 131) rfl (fun h => entW h) .nil) (op_len_row rfl el26) rfl ?_ | refine lxs rfl rfl rfl guard_eq (.cons (t := 131) rfl (fun h => entW h) .nil) (op_len_mv rfl el26) rfl ?_ | refine lxs rfl rfl rfl guard_eq (.cons (t := 131) rfl (fun h => entW h) .nil) (op_len_nil rfl el26) rfl ?_
        refine lxs rfl rfl rfl guard_eq (.cons (t := 132) rfl (fun h => entW h) .nil) (op_eql rfl rfl) rfl ?_
        refine lx (op_pick_and rfl rfl) rfl ?_
        refine lx (op_move rfl) rfl ?_
        refine lxs rfl rfl rfl guard_eq (.cons (t := 18) rfl (fun _ => Ent.refl _) .nil) (op_fieldAddr rfl fl35_8 sz26) rfl ?_
        refine lxs rfl rfl rfl guard_eq (.cons (t := 136) rfl (fun h => entW h) .nil) (op_bload_one (m := 18) rfl rfl ag26 rfl) rfl ?_
        first | refine lxs rfl rfl rfl guard_eq (.cons (t := 137) rfl (fun h => entW h) .nil) (op_len rfl el26) rfl ?_ | refine lxs rfl rfl rfl guard_eq (.cons (t := 137) rfl (fun h => entW h) .nil) (op_len_row rfl el26) rfl ?_ | refine lxs rfl rfl rfl guard_eq (.cons (t := 137) rfl (fun h => entW h) .nil) (op_len_mv rfl el26) rfl ?_ | refine lxs rfl rfl rfl guard_eq (.cons (t := 137) rfl (fun h => entW h) .nil) (op_len_nil rfl el26) rfl ?_
        refine lxs rfl rfl rfl guard_eq (.cons (t := 138) rfl (fun h => entW h) .nil) (op_eql rfl rfl) rfl ?_
        refine lx (op_pick_and rfl rfl) rfl ?_
        refine lx (op_move rfl) rfl ?_
        refine lxs rfl rfl rfl guard_eq (.cons (t := 18) rfl (fun _ => Ent.refl _) .nil) (op_fieldAddr rfl fl35_7 sz26) rfl ?_
        refine lxs rfl rfl rfl guard_eq (.cons (t := 142) rfl (fun h => entW h) .nil) (op_bload_one (m := 18) rfl rfl ag26 rfl) rfl ?_
        refine lxs rfl rfl rfl guard_eq (.cons (t := 143) rfl (fun h => entW h) .nil) (op_index rfl rfl el26 sz33 rfl (by rfl : [(⟨0, 1, v0⟩ : Wt)][0]? = some ⟨0, 1, v0⟩)) rfl ?_
        first | refine lxs rfl rfl rfl guard_eq (.cons (t := 144) rfl (fun h => entW h) .nil) (op_fieldAddr rfl fl33_1 sz3) rfl ?_ | refine lxs rfl rfl rfl guard_eq (.cons (t := 144) rfl (fun h => entW h) .nil) (op_fieldCells rfl fl33_1 sz3) rfl ?_
        first | refine lxs rfl rfl rfl guard_eq (.cons (t := 145) rfl (fun h => entW h) .nil) (op_load_one rfl ag3 rfl) rfl ?_ | refine lxs rfl rfl rfl guard_eq (.cons (t := 145) rfl (fun h => entW h) .nil) (op_bload_one (m := 15) rfl rfl ag3 rfl) rfl ?_ | refine lxs rfl rfl rfl guard_eq (.cons (t := 145) rfl (fun h => entW h) .nil) (op_bload_one (m := 16) rfl rfl ag3 rfl) rfl ?_ | refine lxs rfl rfl rfl guard_eq (.cons (t := 145) rfl (fun h => entW h) .nil) (op_bload_one (m := 17) rfl rfl ag3 rfl) rfl ?_ | refine lxs rfl rfl rfl guard_eq (.cons (t := 145) rfl (fun h => entW h) .nil) (op_bload_one (m := 18) rfl rfl ag3 rfl) rfl ?_
        refine lxs rfl rfl rfl guard_eq (.cons (t := 146) rfl (fun h => entW h) .nil) (op_eql rfl rfl) rfl ?_
        refine lx (op_pick_and rfl rfl) rfl ?_
        refine lx (op_assign rfl) rfl ?_
        refine lx_end ⟨by kernel_rfl, ?_⟩
        refine pe_then_normal ?_
        refine tr_sub hC (.cons (t := 6) rfl .nil) .nil rfl ?_
        refine tr_ret ?_
        refine pe_ret1 rfl hO rfl (.tmp rfl .nil) ?_
        exact entB (by simp [v0, tr0])

end Go.Proofs.Ytagjjeofdcgcmaa
