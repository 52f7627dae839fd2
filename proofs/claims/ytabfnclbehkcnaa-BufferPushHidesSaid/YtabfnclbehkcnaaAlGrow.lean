/- 'slices.Grow' of nil: cap, nil cut, append of a make. -/
import Derived.Test.YtabfnclbehkcnaaAlList
import Derived.Lib.AppendZeros
namespace Go.AL
open Go.RowKit
/-- a slice over a new block of the call's own, all its cells zero: n of them -/
def growP (id : Id) (n : Nat) : Pred := ⟨fun σ v => ∃ b, σ.ρ id = some (some b) ∧ v = .slice (some ⟨b, 0, none⟩) n (σ.z id) ∧ n ≤ σ.z id ∧ σ.z id ≤ maxLen, fun _ _ _ hle ⟨b, hb, hv, h1, h2⟩ =>
  ⟨b, hle.ρ _ _ hb, by rw [hle.z _ _ hb]; exact hv, by rw [hle.z _ _ hb]; exact h1, by rw [hle.z _ _ hb]; exact h2⟩⟩
section
variable {P : Program} {n N : Nat} {F : Fr} {R : Toks} {d : Option Nat} {T t tn e : TypeId} {pos : String} {after : Array Edge} {x y : Operand} {k bytes : Nat} {ik kn : IntKind}
theorem op_cap_nil (hx : opd F x = some (eqP (.slice none 0 0))) (ht : elemB P t = some e) :
    OpJ P n N F R ⟨d, .call { callee := .builtin .cap, args := #[x], argTypes := #[t] }, T, pos, after, none⟩ ⟨rdo x (eqP (.slice none 0 0)), [], [], [], [], eqP (.int .i64 0)⟩ :=
  opj1 hx fun σ W a h => ⟨.int .i64 0, by
    have hv : a.eval x = .slice none 0 0 := h
    simp [execOp, resolve, invoke, builtin, Builtin.cap_, hv, run_underlying (elem_of ht), goInt], rfl⟩
theorem op_len_nil (hx : opd F x = some (eqP (.slice none 0 0))) (ht : elemB P t = some e) :
    OpJ P n N F R ⟨d, .call { callee := .builtin .len, args := #[x], argTypes := #[t] }, T, pos, after, none⟩ ⟨rdo x (eqP (.slice none 0 0)), [], [], [], [], eqP (.int .i64 0)⟩ :=
  opj1 hx fun σ W a h => ⟨.int .i64 0, by
    have hv : a.eval x = .slice none 0 0 := h
    simp [execOp, resolve, invoke, builtin, Builtin.len_, hv, run_underlying (elem_of ht), goInt], rfl⟩
theorem op_slice_nil (hx : opd F x = some (eqP (.slice none 0 0))) (hy : opd F y = some (eqP (.int ik 0))) (ht : elemB P t = some e) (hs : sizeB P e = some k) :
    OpJ P n N F R ⟨d, .slice t x none (some y) none, T, pos, after, none⟩ ⟨rdo x (eqP (.slice none 0 0)) ++ rdo y (eqP (.int ik 0)), [], [], [], [], eqP (.slice none 0 0)⟩ :=
  opj2 hx hy fun σ W a h1 h2 => ⟨.slice none 0 0, by
    have hv : a.eval x = .slice none 0 0 := h1
    have e2 : a.eval y = .int ik 0 := h2
    simp only [execOp, Instr.sliceAt, Sem.run_bind, run_underlying (elem_of ht), Result.andThen_ok, hv, Option.map_some, Option.map_none, e2]
    simp only [Instr.slice, Sem.run_bind, run_underlying (elem_of ht), Result.andThen_ok, Instr.sliceBounds, Sem.run_pure, Option.isSome_none, Instr.sliceBound, asIntOf]
    simp [run_sizeOf' hs], rfl⟩
theorem op_slice_grow {id : Id} {α : Type} (f : α → List Pred) {c : Nat} (hx : opd F x = some (growP id c)) (hy : opd F y = some (eqP (.int ik 0))) (ht : elemB P t = some e) (hs : sizeB P e = some k) :
    OpJ P n N F R ⟨d, .slice t x none (some y) none, T, pos, after, none⟩ ⟨rdo x (growP id c) ++ rdo y (eqP (.int ik 0)), [], [], [], [], rowP id f k []⟩ :=
  opj2 hx hy fun σ W a ⟨b, hb, hv, g1, g2⟩ h2 => ⟨.slice (some ⟨b, 0, none⟩) 0 (σ.z id), by
    have e2 : a.eval y = .int ik 0 := h2
    simp only [execOp, Instr.sliceAt, Sem.run_bind, run_underlying (elem_of ht), Result.andThen_ok, hv, Option.map_some, Option.map_none, e2]
    simp only [Instr.slice, Sem.run_bind, run_underlying (elem_of ht), Result.andThen_ok, Instr.sliceBounds, Sem.run_pure, Option.isSome_none, Instr.sliceBound, asIntOf]
    by_cases hz : σ.z id = 0 <;> simp [run_sizeOf' hs, addr_add], .inr ⟨b, rfl, hb, by simp, g2, fun i x hx => by simp at hx⟩⟩
/-- 'append(nil, make([]T, c)...)' -/
theorem op_append_make {m' kk : Nat} {c : Nat} {z : Value} {i : Int} (hx : opd F x = some (eqP (.slice none 0 0))) (hy : opd F y = some (eqP (.int ik i))) (hi : i = (c : Int)) (hc : 0 < c) (hm' : R m' = none)
    (ht : elemB P t = some e) (htn : P.underlying tn = some (.int kn)) (hz : zeroB P e = some (some z)) (hs : sizeB P e = some k) (hby : bytesB P e = some bytes) (hzs : z.cells.size = k) (hk0 : 0 < k) (hb1 : c * bytes ≤ 281474976710656) (hb2 : c ≤ maxLen) :
    OpJ P n N F R ⟨d, .call { callee := .builtin .append, args := #[x, y], argTypes := #[t, tn] }, T, pos, after, none⟩ ⟨rdo x (eqP (.slice none 0 0)) ++ rdo y (eqP (.int ik i)), [], [], [(m', ((N, kk), tail e k 0))], [kk], growP (N, kk) c⟩ where
  loc := by
    intro σ W R a K hm h2 h3 h4 h5 h6 h7 h8 h9 Q
    have hid := h8 kk (by simp)
    have hRm' : R m' = none := by have h := h7 (m', ((N, kk), tail e k 0)) (by simp); simpa using h
    have hxv : a.eval x = .slice none 0 0 := holds_of hx fun w hw => h4 w (List.mem_append_left _ hw)
    have hyv : a.eval y = .int ik i := holds_of hy fun w hw => h4 w (List.mem_append_right _ hw)
    obtain ⟨ti, hti, htz, hts, htb⟩ := info_of hz hs hby
    have hr := Lib.run_append_nil_zeros (P := P) W t tn T e ti z ik kn (elem_of ht) htn hti htz c hc (by omega) (by unfold maxLen at hb2; omega) (by rw [htb]; exact hb1)
    have g1 := grownCap_ge W c 0 e
    have g2 := grownCap_le_maxLen W c 0 e hb2
    have hmod := hm.drew.alloc (id := (N, kk)) (z := grownCap W c 0 e) (n := m') (r := tail e k 0) (o := .cells (Builtin.zeroCells z.cells c ++ Builtin.zeroCells z.cells (grownCap W c 0 e - c)) e) hid hRm'
      ⟨(Builtin.zeroCells z.cells c ++ Builtin.zeroCells z.cells (grownCap W c 0 e - c)).toList, by simp, by
        rw [bind_z, Array.toList_append, List.length_append, zc_len, zc_len, hzs, ← Nat.add_mul]; congr 1; omega, fun i _ => no_imm_new hm.drew i⟩
    refine wp_value (v := .slice (some ⟨W.heap.size, 0, none⟩) c (grownCap W c 0 e)) (W' := W.drew.alloc (.cells (Builtin.zeroCells z.cells c ++ Builtin.zeroCells z.cells (grownCap W c 0 e - c)) e)) ?_ (h9 _ _ _ (le_bind hid) keep_bind (hmod.congr (updR_new ..)) ?_)
    · subst hi
      simp only [execOp, resolve, invoke, builtin, Sem.run_bind, Sem.run_pure, Result.andThen_ok, List.map_toArray, List.map_cons, List.map_nil, hxv, hyv, hr]
    · exact ⟨_, bind_at .., by rw [bind_z]; rfl, by rw [bind_z]; exact g1, by rw [bind_z]; exact g2⟩
  rd := rd_app (rd_of hx) (rd_of hy)
  use := by simp
  del := by simp
  add := by simpa using hm'
end
end Go.AL
namespace Go.AL
open Go.RowKit
section
variable {P : Program} {n N : Nat} {F : Fr} {R : Toks} {d : Option Nat} {T : TypeId} {pos : String} {after : Array Edge} {x y : Operand} {u v : Int} {t t' : TypeId}
/-- sums whatever their size -/
theorem op_add_w (hx : opd F x = some (eqP (.int .i64 u))) (hy : opd F y = some (eqP (.int .i64 v))) :
    OpJ P n N F R ⟨d, .binOp .add t x y t', T, pos, after, none⟩ ⟨rdo x (eqP (.int .i64 u)) ++ rdo y (eqP (.int .i64 v)), [], [], [], [], eqP (.int .i64 (IntKind.i64.wrap (u + v)))⟩ :=
  op_bin_raw hx hy fun W => by simp [binOp, eqGuard, Op.intArith]
theorem op_sub_w (hx : opd F x = some (eqP (.int .i64 u))) (hy : opd F y = some (eqP (.int .i64 v))) :
    OpJ P n N F R ⟨d, .binOp .sub t x y t', T, pos, after, none⟩ ⟨rdo x (eqP (.int .i64 u)) ++ rdo y (eqP (.int .i64 v)), [], [], [], [], eqP (.int .i64 (IntKind.i64.wrap (u - v)))⟩ :=
  op_bin_raw hx hy fun W => by simp [binOp, eqGuard, Op.intArith]
theorem op_mul_w (hx : opd F x = some (eqP (.int .i64 u))) (hy : opd F y = some (eqP (.int .i64 v))) :
    OpJ P n N F R ⟨d, .binOp .mul t x y t', T, pos, after, none⟩ ⟨rdo x (eqP (.int .i64 u)) ++ rdo y (eqP (.int .i64 v)), [], [], [], [], eqP (.int .i64 (IntKind.i64.wrap (u * v)))⟩ :=
  op_bin_raw hx hy fun W => by simp [binOp, eqGuard, Op.intArith]
theorem wrap_in {z : Int} (h : -9223372036854775808 ≤ z ∧ z ≤ 9223372036854775807) : IntKind.i64.wrap z = z := IntWalk.i64_in _ h
end
end Go.AL
namespace Go.AL
section
variable {P : Program} {C : Cx} {F : Fr} {L : Tk} {Q : Exit → Act → World → Prop}
/-- a test that is asked again: what it was is kept -/
theorem tr_cond2 {t : Nat} {x y : Code} {b : Bool} (hb : lk F t = some (eqP (.bool b))) (ht : b = true → Tr P C x ((t, eqP (.bool true)) :: F) L Q) (hf : b = false → Tr P C y ((t, eqP (.bool false)) :: F) L Q) : Tr P C (.cond (.tmp t) x y) F L Q := by
  refine tr_cond hb (fun h => ?_) (fun h => ?_)
  · rintro a W ⟨σ, h1, h2, h3⟩
    refine ht h a W ⟨σ, h1, h2, h3.size, h3.defers, h3.mod, fun t' q hq => ?_⟩
    rw [lk_cons] at hq
    split at hq
    · rename_i e; subst e; simp at hq; subst hq; have := h3.fr t _ hb; rwa [h] at this
    · exact h3.fr t' q hq
  · rintro a W ⟨σ, h1, h2, h3⟩
    refine hf h a W ⟨σ, h1, h2, h3.size, h3.defers, h3.mod, fun t' q hq => ?_⟩
    rw [lk_cons] at hq
    split at hq
    · rename_i e; subst e; simp at hq; subst hq; have := h3.fr t _ hb; rwa [h] at this
    · exact h3.fr t' q hq
end
end Go.AL
