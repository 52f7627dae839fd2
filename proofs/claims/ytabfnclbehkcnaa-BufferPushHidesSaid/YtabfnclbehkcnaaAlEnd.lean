/- Structs compared; tests parted on; the beginning of a function; closed forms for the printed proofs. -/
import Derived.Test.YtabfnclbehkcnaaAlApp3
namespace Go.AL
open Go.RowKit

def vsP (vs : List Value) : List Pred := vs.map eqP
theorem agg_exact {σ : Sg} {vs : List Value} {v : Value} (h : (aggP (vsP vs)).h σ v) : v = .agg vs.toArray := by
  obtain ⟨cs, rfl, hc⟩ := h
  have : cs = vs := by
    apply List.ext_getElem
    · simpa [vsP] using hc.1
    · intro i h1 h2
      have := (hc.2 i (eqP vs[i]) cs[i] (by simp [vsP, h2]) (by simp [h1])).1
      exact this
  rw [this]

def EqLaw (P : Program) (t : TypeId) (vs us : List Value) (b : Bool) : Prop := P.eqGuardType P.depth t = false ∧ ∀ W, (binOp .eql t (.agg vs.toArray) (.agg us.toArray)).run P W = .ok (.bool b) W

section
variable {P : Program} {n N : Nat} {F : Fr} {R : Toks} {d : Option Nat} {T t t' : TypeId} {pos : String} {after : Array Edge} {x y : Operand}
theorem op_eql_agg {vs us : List Value} {b : Bool} (hx : opd F x = some (aggP (vsP vs))) (hy : opd F y = some (aggP (vsP us))) (h : EqLaw P t vs us b) :
    OpJ P n N F R ⟨d, .binOp .eql t x y t', T, pos, after, none⟩ ⟨rdo x (aggP (vsP vs)) ++ rdo y (aggP (vsP us)), [], [], [], [], eqP (.bool b)⟩ :=
  opj2 hx hy fun σ W a h1 h2 => ⟨.bool b, by
    have e1 := agg_exact h1
    have e2 := agg_exact h2
    simp only [execOp, e1, e2, Sem.run_bind, run_eqGuard_agg W .eql t x y _ _ h.1, Result.andThen_ok, h.2 W, Sem.run_pure], rfl⟩
theorem op_neq_agg {vs us : List Value} {b : Bool} (hx : opd F x = some (aggP (vsP vs))) (hy : opd F y = some (aggP (vsP us))) (h : EqLaw P t vs us b) :
    OpJ P n N F R ⟨d, .binOp .neq t x y t', T, pos, after, none⟩ ⟨rdo x (aggP (vsP vs)) ++ rdo y (aggP (vsP us)), [], [], [], [], eqP (.bool (!b))⟩ :=
  opj2 hx hy fun σ W a h1 h2 => ⟨.bool (!b), by
    have e1 := agg_exact h1
    have e2 := agg_exact h2
    have h3 := h.2 W
    rw [run_eql_struct] at h3
    have h4 : (binOp .neq t (.agg vs.toArray) (.agg us.toArray)).run P W = .ok (.bool (!b)) W := by
      rw [run_neq_struct]
      cases hr : (Op.equalIn 10000 t (.agg vs.toArray) (.agg us.toArray)).run P W with
      | ok c w => rw [hr] at h3; simp at h3; obtain ⟨h3, h5⟩ := h3; subst h3; subst h5; rfl
      | halt c w => rw [hr] at h3; simp at h3
    simp only [execOp, e1, e2, Sem.run_bind, run_eqGuard_agg W .neq t x y _ _ h.1, Result.andThen_ok, h4, Sem.run_pure], rfl⟩
/-- a load of all that lies there -/
theorem op_load_all {Ty : TypeId} {ps : List Pred} (hx : opd F x = some (cellsP ps)) (ha : aggB P Ty = some true) (hs : sizeB P Ty = some ps.length) :
    OpJ P n N F R ⟨d, .load Ty x, T, pos, after, none⟩ ⟨rdo x (cellsP ps), [], [], [], [], aggP ps⟩ := by
  have := op_load_agg (d := d) (T := T) (pos := pos) (after := after) (P := P) (n := n) (N := N) (R := R) hx ha hs (by simp)
  rwa [List.take_length] at this
theorem op_store_all {Ty : TypeId} {id : Id} {m κ : Nat} {B : TypeId} {ps qs : List Pred} {p : Pred} (hx : opd F x = some (ptrP id 0)) (hy : opd F y = some p) (hR : R m = some (id, blkX κ B ps)) (hv : Val p qs)
    (hs : sizeB P Ty = some qs.length) (hl : Nat.beq qs.length ps.length = true) :
    OpJ P n N F R ⟨none, .store Ty x y, T, pos, after, none⟩ ⟨rdo x (ptrP id 0) ++ rdo y p, [], [(m, id, blkX κ B ps)], [(m, id, blkX κ B qs)], [], eqP undef⟩ := by
  have hl' := Nat.eq_of_beq_eq_true hl
  refine op_store hx hy hR hv hs (by simp) (by simp [hl']) ?_
  simp [splice, hl']
theorem op_store_one {Ty : TypeId} {id : Id} {off m κ : Nat} {B : TypeId} {ps : List Pred} {p : Pred} (hx : opd F x = some (ptrP id off)) (hy : opd F y = some p) (hR : R m = some (id, blkX κ B ps)) (h1 : One p)
    (hs : sizeB P Ty = some 1) (hl : Nat.blt off ps.length = true) :
    OpJ P n N F R ⟨none, .store Ty x y, T, pos, after, none⟩ ⟨rdo x (ptrP id off) ++ rdo y p, [], [(m, id, blkX κ B ps)], [(m, id, blkX κ B (ps.set off p))], [], eqP undef⟩ := by
  have hl' : off < ps.length := Nat.le_of_ble_eq_true hl
  refine op_store hx hy hR (.one h1) hs rfl hl ?_
  unfold splice
  rw [List.set_eq_take_append_cons_drop, if_pos hl']
  simp
theorem op_convert {k k' : IntKind} {u : Int} {s s' : TypeId} (hx : opd F x = some (eqP (.int k u))) (hs : (P.underlying s).isSome = true) (hd : P.underlying s' = some (.int k')) :
    OpJ P n N F R ⟨d, .convert s s' x, T, pos, after, none⟩ ⟨rdo x (eqP (.int k u)), [], [], [], [], eqP (.int k' (k'.wrap u))⟩ :=
  opj1 hx fun σ W a h => ⟨_, by
    have e1 : a.eval x = .int k u := h
    obtain ⟨ds, hs'⟩ := Option.isSome_iff_exists.1 hs
    simp only [execOp, e1, convert, Sem.run_bind, run_underlying hs', run_underlying hd, Result.andThen_ok, Conv.intToInt, Sem.run_pure], rfl⟩
theorem op_min {k : IntKind} {u v : Int} {ts : Array TypeId} (hx : opd F x = some (eqP (.int k u))) (hy : opd F y = some (eqP (.int k v))) :
    OpJ P n N F R ⟨d, .call { callee := .builtin .min, args := #[x, y], argTypes := ts }, T, pos, after, none⟩ ⟨rdo x (eqP (.int k u)) ++ rdo y (eqP (.int k v)), [], [], [], [], eqP (.int k (min u v))⟩ :=
  opj2 hx hy fun σ W a h1 h2 => ⟨.int k (min u v), by
    have e1 : a.eval x = .int k u := h1
    have e2 : a.eval y = .int k v := h2
    have : (if v < u then v else u) = min u v := by rw [Int.min_def]; split <;> split <;> omega
    simp [execOp, resolve, invoke, builtin, e1, e2, run_min_int2, this], rfl⟩
theorem op_max {k : IntKind} {u v : Int} {ts : Array TypeId} (hx : opd F x = some (eqP (.int k u))) (hy : opd F y = some (eqP (.int k v))) :
    OpJ P n N F R ⟨d, .call { callee := .builtin .max, args := #[x, y], argTypes := ts }, T, pos, after, none⟩ ⟨rdo x (eqP (.int k u)) ++ rdo y (eqP (.int k v)), [], [], [], [], eqP (.int k (max u v))⟩ :=
  opj2 hx hy fun σ W a h1 h2 => ⟨.int k (max u v), by
    have e1 : a.eval x = .int k u := h1
    have e2 : a.eval y = .int k v := h2
    have : (if v > u then v else u) = max u v := by rw [Int.max_def]; split <;> split <;> omega
    simp [execOp, resolve, invoke, builtin, e1, e2, run_max_int2, this], rfl⟩
theorem op_nilCheck {id : Id} {off : Nat} (hx : opd F x = some (ptrP id off)) : OpJ P n N F R ⟨d, .nilCheck x, T, pos, after, none⟩ ⟨rdo x (ptrP id off), [], [], [], [], ptrP id off⟩ :=
  opj1 hx fun σ W a ⟨b, hb, hv⟩ => ⟨a.eval x, by simp [execOp, hv], b, hb, hv⟩
theorem op_nilCheckC {ps : List Pred} (hx : opd F x = some (cellsP ps)) : OpJ P n N F R ⟨d, .nilCheck x, T, pos, after, none⟩ ⟨rdo x (cellsP ps), [], [], [], [], cellsP ps⟩ :=
  opj1 hx fun σ W a ⟨b, off, hv, hc⟩ => ⟨a.eval x, by simp [execOp, hv], b, off, hv, hc⟩
end

section
variable {P : Program} {n N : Nat} {ops : Array Oper} {Q : Exit → Act → World → Prop} {Rf : Toks} {F : Fr} {L : Tk} {K : List Rec → Fr → Tk → Prop} {l : List Oper} {t : Nat} {op : Op} {T : TypeId} {pos : String} {after : Array Edge}
  {rd : List (Nat × Pred)} {use : List (Nat × Id × Res)} {b : Bool}
/-- a test, parted on -/
theorem lxc (h : OpJ P n N F (tkf L Rf) ⟨some t, op, T, pos, after, none⟩ ⟨rd, use, [], [], [], eqP (.bool b)⟩) (hd : Nat.blt t n = true)
    (ht : b = true → LexK P n N ops Q Rf l ((t, eqP (.bool true)) :: F) L (fun rs => K (⟨rd, use, [], [], [], eqP (.bool true)⟩ :: rs)))
    (hf : b = false → LexK P n N ops Q Rf l ((t, eqP (.bool false)) :: F) L (fun rs => K (⟨rd, use, [], [], [], eqP (.bool false)⟩ :: rs))) : LexK P n N ops Q Rf (⟨some t, op, T, pos, after, none⟩ :: l) F L K := by
  cases hb : b
  · rw [hb] at h; exact lx h hd (hf hb)
  · rw [hb] at h; exact lx h hd (ht hb)
/-- a test whose answer is known -/
theorem lxk {c : Bool} (h : OpJ P n N F (tkf L Rf) ⟨some t, op, T, pos, after, none⟩ ⟨rd, use, [], [], [], eqP (.bool b)⟩) (hb : b = c) (hd : Nat.blt t n = true)
    (ht : LexK P n N ops Q Rf l ((t, eqP (.bool c)) :: F) L (fun rs => K (⟨rd, use, [], [], [], eqP (.bool c)⟩ :: rs))) : LexK P n N ops Q Rf (⟨some t, op, T, pos, after, none⟩ :: l) F L K := by
  subst hb
  exact lx h hd ht
theorem lxgc {g s : Nat} {w : Bool} (hs : gslot ops g = some s) (hsn : Nat.blt s n = true) (hg : lk F s = some (eqP (.bool w))) (h : OpJ P n N F (tkf L Rf) ⟨some t, op, T, pos, after, none⟩ ⟨rd, use, [], [], [], eqP (.bool b)⟩) (hd : Nat.blt t n = true)
    (ht : b = true → LexK P n N ops Q Rf l ((t, eqP (.bool true)) :: F) L (fun rs => K (⟨(s, eqP (.bool w)) :: rd, use, [], [], [], eqP (.bool true)⟩ :: rs)))
    (hf : b = false → LexK P n N ops Q Rf l ((t, eqP (.bool false)) :: F) L (fun rs => K (⟨(s, eqP (.bool w)) :: rd, use, [], [], [], eqP (.bool false)⟩ :: rs))) : LexK P n N ops Q Rf (⟨some t, op, T, pos, after, some (g, w)⟩ :: l) F L K := by
  cases hb : b
  · rw [hb] at h; exact lxg hs hsn hg h hd (hf hb)
  · rw [hb] at h; exact lxg hs hsn hg h hd (ht hb)
theorem lxgk {g s : Nat} {w c : Bool} (hs : gslot ops g = some s) (hsn : Nat.blt s n = true) (hg : lk F s = some (eqP (.bool w))) (h : OpJ P n N F (tkf L Rf) ⟨some t, op, T, pos, after, none⟩ ⟨rd, use, [], [], [], eqP (.bool b)⟩) (hb : b = c) (hd : Nat.blt t n = true)
    (ht : LexK P n N ops Q Rf l ((t, eqP (.bool c)) :: F) L (fun rs => K (⟨(s, eqP (.bool w)) :: rd, use, [], [], [], eqP (.bool c)⟩ :: rs))) : LexK P n N ops Q Rf (⟨some t, op, T, pos, after, some (g, w)⟩ :: l) F L K := by
  subst hb
  exact lxg hs hsn hg h hd ht
end

/-- the beginning of a function that keeps nothing of the caller's own -/
theorem fn_pure' {P : Program} {f : FuncId} {fn : Func} {c : Code} {pre : List Pred} {post : Pred} {n : Nat} (hf : P.funcs[f]? = some fn) (hb : fn.body = some c) (hn : fn.ntmps = n) (hl : Nat.ble pre.length n = true)
    (h : ∀ (σ0 : Sg) (M : Nat) (ex : List Id) (Rf : Toks) (R : Ending → World → Prop), CxOK ⟨σ0, M, ex, Rf, n⟩ → Owes ⟨σ0, M, ex, Rf, n⟩ R post → Tr P ⟨σ0, M, ex, Rf, n⟩ c (frameOf 0 pre) [] (bodyPost P fn R)) : FnP P f pre post :=
  fn_pure hf hb (by rw [hn]; exact hl) fun C R hC hCn ho => by
    obtain ⟨σ0, M, ex, Rf, n'⟩ := C
    have e : n' = n := hCn.trans hn
    subst e
    exact h σ0 M ex Rf R hC ho
end Go.AL
namespace Go.AL
section
variable {P : Program} {C : Cx} {F : Fr} {L : Tk} {Q : Exit → Act → World → Prop}
theorem tr_cond_t {t : Nat} {x y : Code} (hb : lk F t = some (eqP (.bool true))) (h : Tr P C x F L Q) : Tr P C (.cond (.tmp t) x y) F L Q := tr_cond hb (fun _ => h) (fun e => by cases e)
theorem tr_cond_f {t : Nat} {x y : Code} (hb : lk F t = some (eqP (.bool false))) (h : Tr P C y F L Q) : Tr P C (.cond (.tmp t) x y) F L Q := tr_cond hb (fun e => by cases e) (fun _ => h)
end
end Go.AL
