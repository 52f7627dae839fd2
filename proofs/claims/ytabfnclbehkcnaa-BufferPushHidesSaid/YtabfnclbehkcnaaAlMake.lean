/- make, comparisons with nil. -/
import Derived.Test.YtabfnclbehkcnaaAlOwn
import Derived.Laws.MakeOwn
import Derived.Laws.Cover3
namespace Go.AL
open Go.RowKit
section
variable {P : Program} {n N : Nat} {F : Fr} {R : Toks} {d : Option Nat} {T t t' e K E : TypeId} {pos : String} {after : Array Edge} {x y : Operand} {id : Id} {k bytes : Nat}
theorem op_neqmap_own (hx : opd F x = some (mapP id)) (ht : mapB P t = some (K, E)) :
    OpJ P n N F R ⟨d, .binOp .neq t x (.const (.map none)) t', T, pos, after, none⟩ ⟨rdo x (mapP id), [], [], [], [], eqP (.bool true)⟩ :=
  opj1 hx fun σ W a ⟨b, hb, hv⟩ => ⟨.bool true, by
    have hc : a.eval (.const (.map none)) = .map none := rfl
    have hr := run_neq_map_nil (P := P) W t K E (some b) (map_of ht)
    simp only [execOp, hv, hc, eqGuard_at_map, Sem.run_bind, Sem.run_pure, Result.andThen_ok, hr, Option.isNone_some, Bool.not_false], rfl⟩
theorem op_neqmap_nil (hx : opd F x = some (eqP (.map none))) (ht : mapB P t = some (K, E)) :
    OpJ P n N F R ⟨d, .binOp .neq t x (.const (.map none)) t', T, pos, after, none⟩ ⟨rdo x (eqP (.map none)), [], [], [], [], eqP (.bool false)⟩ :=
  opj1 hx fun σ W a h => ⟨.bool false, by
    have hv : a.eval x = .map none := h
    have hc : a.eval (.const (.map none)) = .map none := rfl
    have hr := run_neq_map_nil (P := P) W t K E none (map_of ht)
    simp only [execOp, hv, hc, eqGuard_at_map, Sem.run_bind, Sem.run_pure, Result.andThen_ok, hr, Option.isNone_none, Bool.not_true], rfl⟩

/-- 'make([]T, len, cap)' -/
theorem op_makeSlice {lx cx : Operand} {l c : Nat} {li ci : Int} {lk ck : IntKind} {m' kk : Nat} {z : Value} {zs : List Pred} (hl : opd F lx = some (eqP (.int lk li))) (hc : opd F cx = some (eqP (.int ck ci))) (hli : li = (l : Int)) (hci : ci = (c : Int)) (hm' : R m' = none)
    (ht : elemB P t = some e) (hz : zeroB P e = some (some z)) (hs : sizeB P e = some k) (hby : bytesB P e = some bytes) (hzs : z.cells.toList.map eqP = zs) (hzk : Nat.beq zs.length k = true) (hk0 : Nat.blt 0 k = true) (h1 : z.cells.toList.all Value.oneCell' = true)
    (hlc : l ≤ c) (hc1 : bytes * c ≤ 281474976710656) (hc2 : c ≤ maxLen) :
    OpJ P n N F R ⟨d, .makeSlice t lx cx, T, pos, after, none⟩ ⟨rdo lx (eqP (.int lk li)) ++ rdo cx (eqP (.int ck ci)), [], [], [(m', ((N, kk), blkX k e (List.replicate c zs).flatten))], [kk], mvP (N, kk) k 0 l c⟩ where
  loc := by
    intro σ W R a K hm h2 h3 h4 h5 h6 h7 h8 h9 Q
    have hid := h8 kk (by simp)
    have hRm' : R m' = none := by have h := h7 (m', ((N, kk), blkX k e (List.replicate c zs).flatten)) (by simp); simpa using h
    have e1 : a.eval lx = .int lk li := holds_of hl fun w hw => h4 w (List.mem_append_left _ hw)
    have e2 : a.eval cx = .int ck ci := holds_of hc fun w hw => h4 w (List.mem_append_right _ hw)
    have hzk := Nat.eq_of_beq_eq_true hzk
    have hk0 : 0 < k := Nat.le_of_ble_eq_true hk0
    obtain ⟨i, hi, hiz, his, hib⟩ := info_of hz hs hby
    have hzsz : z.cells.size = k := by rw [← hzk, ← hzs]; simp
    have h63 : (ci : Int) ≤ 9223372036854775807 := by rw [hci]; unfold maxLen at hc2; omega
    have hbb : (i.bytes : Int) * ci ≤ 281474976710656 := by
      rw [hib, hci]
      have h : ((bytes * c : Nat) : Int) ≤ 281474976710656 := by omega
      rwa [Int.natCast_mul] at h
    have hr := run_make (P := P) W t e i z (elem_of ht) hi hiz lk ck li ci (by omega) (by omega) hbb h63
    rw [hli, hci, Int.toNat_natCast, Int.toNat_natCast, his] at hr
    have hcells : (madeCells z.cells (c * k)).toList = (List.replicate c z.cells.toList).flatten := by
      simp only [madeCells, Array.toList_map, Array.toList_range]
      rw [← flatten_replicate_range hzsz hk0]
    have hflat : (List.replicate c zs).flatten = ((List.replicate c z.cells.toList).flatten).map eqP := by rw [← hzs]; simp [List.map_flatten]
    have hvs : Vs σ (List.replicate c zs).flatten (madeCells z.cells (c * k)).toList := by
      rw [hcells, hflat]
      refine Vs.eqs ?_
      rw [List.all_eq_true] at h1 ⊢
      intro u hu
      obtain ⟨q, hq, huq⟩ := List.mem_flatten.1 hu
      rw [List.mem_replicate] at hq
      exact h1 u (by rw [← hq.2]; exact huq)
    have hmod := hm.alloc (id := (N, kk)) (z := c) (n := m') (r := blkX k e (List.replicate c zs).flatten) (o := .cells (madeCells z.cells (c * k)) e) hid hRm'
      ⟨(madeCells z.cells (c * k)).toList, [], by simp, hvs.mono (le_bind hid), fun _ => by rw [bind_z]; simp [size_madeCells], fun i => no_imm_new hm i⟩
    refine wp_value (v := .slice (some ⟨W.heap.size, 0, none⟩) l c) (W' := W.alloc (.cells (madeCells z.cells (c * k)) e)) ?_ (h9 _ _ _ (le_bind hid) keep_bind (hmod.congr (updR_new ..)) ?_)
    · rw [← hli, ← hci] at hr
      simp only [execOp, e1, e2, Sem.run_bind, hr, Result.andThen_ok, Sem.run_pure]
    · exact ⟨_, by rw [bind_z]; rfl, by rw [bind_z]; omega, by rw [bind_z]; exact hc2, by rw [bind_at]; simp, fun _ => ⟨_, bind_at .., by simp⟩⟩
  rd := rd_app (rd_of hl) (rd_of hc)
  use := by simp
  del := by simp
  add := by simpa using hm'
end
end Go.AL
