/- The rules of operations: values, numbers, tests, tuples. -/
import Derived.Test.YtabfnclbehkcnaaAlTr
namespace Go.AL
open Go.RowKit

def opd (F : Fr) : Operand → Option Pred
  | .tmp t => lk F t
  | .const v => some (eqP v)
  | .func f => some (eqP (.func (.func f) #[] #[]))
  | .global g => some (eqP (.pointer (some ⟨g, 0, none⟩)))
def rdo (x : Operand) (p : Pred) : List (Nat × Pred) := match x with | .tmp t => [(t, p)] | _ => []

def OpRun (P : Program) (o : Oper) : (Act → World → Prop) → Act → World → Prop := fun K a W => ∀ Q, o.wp P a W K Q

structure OpJ (P : Program) (n N : Nat) (F : Fr) (R : Toks) (o : Oper) (r : Rec) : Prop where
  loc : Loc n N (OpRun P o) o.dst r
  rd : ∀ x ∈ r.rd, lk F x.1 = some x.2
  use : ∀ x ∈ r.use, R x.1 = some x.2
  del : ∀ x ∈ r.del, R x.1 = some x.2
  add : ∀ x ∈ r.add, R x.1 = none ∨ r.del.any (fun y => y.1 == x.1) = true

theorem rd_of {F : Fr} {x : Operand} {p : Pred} (h : opd F x = some p) : ∀ y ∈ rdo x p, lk F y.1 = some y.2 := by
  intro y hy
  cases x <;> simp [rdo] at hy
  subst hy
  exact h
theorem rd_app {F : Fr} {a b : List (Nat × Pred)} (h : ∀ y ∈ a, lk F y.1 = some y.2) (k : ∀ y ∈ b, lk F y.1 = some y.2) : ∀ y ∈ a ++ b, lk F y.1 = some y.2 := fun y hy => by
  rcases List.mem_append.1 hy with h' | h'
  · exact h y h'
  · exact k y h'
theorem holds_of {F : Fr} {σ : Sg} {a : Act} {x : Operand} {p : Pred} (h : opd F x = some p) (hr : ∀ y ∈ rdo x p, y.2.h σ (a.tmps.getD y.1 undef)) : p.h σ (a.eval x) := by
  cases x with
  | tmp t => exact hr (t, p) (by simp [rdo])
  | const v => simp [opd] at h; subst h; rfl
  | func f => simp [opd] at h; subst h; rfl
  | global g => simp [opd] at h; subst h; rfl

theorem wp_value {P : Program} {o : Oper} {a : Act} {W W' : World} {v : Value} {K : Act → World → Prop} {Q : Exit → Act → World → Prop}
    (h : (execOp a.eval o).run P W = .ok (.value v) W') (hk : K (a.put o.dst v) W') : o.wp P a W K Q := by
  unfold Oper.wp
  rw [h]
  exact hk
theorem wp_done {P : Program} {o : Oper} {a : Act} {W W' : World} {K : Act → World → Prop} {Q : Exit → Act → World → Prop}
    (h : (execOp a.eval o).run P W = .ok .skip W') (hk : K (a.put o.dst undef) W') : o.wp P a W K Q := by
  unfold Oper.wp
  rw [h]
  exact hk

/-! ### steps of the walk -/
section
variable {P : Program} {n N : Nat} {ops : Array Oper} {Q : Exit → Act → World → Prop} {Rf : Toks} {F : Fr} {L : Tk} {K : List Rec → Fr → Tk → Prop} {l : List Oper}

theorem lx_end (h : K [] F L) : LexK P n N ops Q Rf [] F L K := ⟨[], F, L, .nil F L, h⟩

theorem exec_of {o : Oper} {r : Rec} (hg : o.guard = none) (h : Loc n N (OpRun P o) o.dst r) : Loc n N (Exec P ops Q o) o.dst r := by
  intro σ W R a K h1 h2 h3 h4 h5 h6 h7 h8 h9
  unfold Exec
  rw [if_pos (by simp [Region.wanted, hg])]
  exact .inl (h σ W R a K h1 h2 h3 h4 h5 h6 h7 h8 h9 Q)

theorem lx_any {o : Oper} {r : Rec} (hg : o.guard = none) (h : OpJ P n N F (tkf L Rf) o r) (hd : ∀ d, o.dst = some d → d < n)
    (hk : LexK P n N ops Q Rf l (setF F o.dst r.φ) (updL L r) (fun rs => K (r :: rs))) : LexK P n N ops Q Rf (o :: l) F L K := by
  obtain ⟨rs, F', L', hl, hK⟩ := hk
  exact ⟨r :: rs, F', L', .cons (exec_of hg h.loc) hd h.rd h.use h.del h.add hl, hK⟩

def gslot (ops : Array Oper) (g : Nat) : Option Nat := (ops[g]?).bind (·.dst)

/-- a guard that lets the operation run -/
theorem exec_of_guard {d : Option Nat} {op : Op} {T : TypeId} {pos : String} {after : Array Edge} {g s : Nat} {w : Bool} {r : Rec} (hs : gslot ops g = some s) (hsn : s < n)
    (h : Loc n N (OpRun P ⟨d, op, T, pos, after, none⟩) d r) : Loc n N (Exec P ops Q ⟨d, op, T, pos, after, some (g, w)⟩) d { r with rd := (s, eqP (.bool w)) :: r.rd } := by
  intro σ W R a K h1 h2 h3 h4 h5 h6 h7 h8 h9
  unfold Exec
  have hv : a.tmps.getD s undef = .bool w := h4 (s, eqP (.bool w)) (List.mem_cons_self ..)
  have hy : yielded ops a.tmps g = some w := by
    unfold yielded
    unfold gslot at hs
    rw [hs]
    have hlt : s < a.tmps.size := by omega
    simp only [Option.bind_some, Array.getElem?_eq_getElem hlt]
    simp [Array.getD, hlt] at hv
    rw [hv]
  rw [if_pos (by simp [Region.wanted, hy])]
  exact .inl (h σ W R a K h1 h2 h3 (fun x hx => h4 x (List.mem_cons_of_mem _ hx)) h5 h6 h7 h8 h9 Q)

theorem lx_run {d : Option Nat} {op : Op} {T : TypeId} {pos : String} {after : Array Edge} {g s : Nat} {w : Bool} {r : Rec} (hs : gslot ops g = some s) (hsn : Nat.blt s n = true) (hb : lk F s = some (eqP (.bool w)))
    (h : OpJ P n N F (tkf L Rf) ⟨d, op, T, pos, after, none⟩ r) (hd : ∀ x, d = some x → x < n)
    (hk : LexK P n N ops Q Rf l (setF F d r.φ) (updL L r) (fun rs => K ({ r with rd := (s, eqP (.bool w)) :: r.rd } :: rs))) : LexK P n N ops Q Rf (⟨d, op, T, pos, after, some (g, w)⟩ :: l) F L K := by
  obtain ⟨rs, F', L', hl, hK⟩ := hk
  refine ⟨_, F', L', .cons (exec_of_guard hs (by have := Nat.le_of_ble_eq_true hsn; omega) h.loc) hd ?_ h.use h.del h.add hl, hK⟩
  intro x hx
  rcases List.mem_cons.1 hx with rfl | hx
  · exact hb
  · exact h.rd x hx

def notThe (w : Bool) (p : Pred) : Prop := ∀ σ v, p.h σ v → v ≠ .bool w
theorem notThe_bool {b w : Bool} (h : (b != w) = true) : notThe w (eqP (.bool b)) := fun _ _ e => by cases e; simpa using h
theorem notThe_undef {w : Bool} : notThe w (eqP undef) := fun _ _ e => by cases e; simp [undef]

def dOK (n : Nat) (d : Option Nat) : Bool := match d with | some t => Nat.blt t n | none => true
theorem dOK_spec {n : Nat} {d : Option Nat} (h : dOK n d = true) : ∀ x, d = some x → x < n := by
  intro x hx
  subst hx
  have := Nat.le_of_ble_eq_true h
  omega

/-- a guard that passes the operation over -/
theorem lx_skip {t : Nat} {op : Op} {T : TypeId} {pos : String} {after : Array Edge} {g s : Nat} {w : Bool} {p : Pred} (hs : gslot ops g = some s) (hsn : Nat.blt s n = true) (hb : lk F s = some p) (hp : notThe w p)
    (hd : Nat.blt t n = true) (hk : LexK P n N ops Q Rf l ((t, eqP undef) :: F) L (fun rs => K (⟨[(s, p)], [], [], [], [], eqP undef⟩ :: rs))) : LexK P n N ops Q Rf (⟨some t, op, T, pos, after, some (g, w)⟩ :: l) F L K := by
  obtain ⟨rs, F', L', hl, hK⟩ := hk
  refine ⟨_, F', L', .cons (r := ⟨[(s, p)], [], [], [], [], eqP undef⟩) ?_ ?_ ?_ (by simp) (by simp) (by simp) hl, hK⟩
  · intro σ W R a K h1 h2 h3 h4 h5 h6 h7 h8 h9
    have hv := h4 (s, p) (List.mem_cons_self ..)
    have hne := hp _ _ hv
    have hlt : s < a.tmps.size := by have := Nat.le_of_ble_eq_true hsn; omega
    have hy : yielded ops a.tmps g ≠ some w := by
      unfold yielded
      unfold gslot at hs
      rw [hs]
      simp only [Option.bind_some, Array.getElem?_eq_getElem hlt]
      simp [Array.getD, hlt] at hne
      split
      · rename_i b hb'
        simp at hb'
        intro e
        simp at e
        subst e
        exact hne hb'
      · simp
    unfold Exec
    rw [if_neg (by simp [Region.wanted, hy])]
    have hu : updR R ⟨[(s, p)], [], [], [], [], eqP undef⟩ = R := by funext m; simp [updR]
    exact h9 σ W undef (Le.refl σ) (fun _ _ _ => rfl) (by rw [hu]; exact h1) rfl
  · exact dOK_spec (d := some t) hd
  · intro x hx
    simp at hx
    subst hx
    exact hb

/-- the plain step: a value, nothing of the call's own turns -/
theorem lx {t : Nat} {op : Op} {T : TypeId} {pos : String} {after : Array Edge} {rd : List (Nat × Pred)} {use : List (Nat × Id × Res)} {φ : Pred} (h : OpJ P n N F (tkf L Rf) ⟨some t, op, T, pos, after, none⟩ ⟨rd, use, [], [], [], φ⟩)
    (hd : Nat.blt t n = true) (hk : LexK P n N ops Q Rf l ((t, φ) :: F) L (fun rs => K (⟨rd, use, [], [], [], φ⟩ :: rs))) : LexK P n N ops Q Rf (⟨some t, op, T, pos, after, none⟩ :: l) F L K :=
  lx_any rfl h (dOK_spec (d := some t) hd) hk
theorem lxg {t : Nat} {op : Op} {T : TypeId} {pos : String} {after : Array Edge} {g s : Nat} {w : Bool} {rd : List (Nat × Pred)} {use : List (Nat × Id × Res)} {φ : Pred} (hs : gslot ops g = some s) (hsn : Nat.blt s n = true) (hb : lk F s = some (eqP (.bool w)))
    (h : OpJ P n N F (tkf L Rf) ⟨some t, op, T, pos, after, none⟩ ⟨rd, use, [], [], [], φ⟩) (hd : Nat.blt t n = true)
    (hk : LexK P n N ops Q Rf l ((t, φ) :: F) L (fun rs => K (⟨(s, eqP (.bool w)) :: rd, use, [], [], [], φ⟩ :: rs))) : LexK P n N ops Q Rf (⟨some t, op, T, pos, after, some (g, w)⟩ :: l) F L K :=
  lx_run hs hsn hb h (dOK_spec (d := some t) hd) hk
/-- a step that lays one token -/
theorem lxn {t m : Nat} {x : Id × Res} {op : Op} {T : TypeId} {pos : String} {after : Array Edge} {rd : List (Nat × Pred)} {use : List (Nat × Id × Res)} {new : List Nat} {φ : Pred} (h : OpJ P n N F (tkf L Rf) ⟨some t, op, T, pos, after, none⟩ ⟨rd, use, [], [(m, x)], new, φ⟩)
    (hd : Nat.blt t n = true) (hk : LexK P n N ops Q Rf l ((t, φ) :: F) ((m, some x) :: L) (fun rs => K (⟨rd, use, [], [(m, x)], new, φ⟩ :: rs))) : LexK P n N ops Q Rf (⟨some t, op, T, pos, after, none⟩ :: l) F L K :=
  lx_any rfl h (dOK_spec (d := some t) hd) hk
theorem lxng {t m : Nat} {x : Id × Res} {op : Op} {T : TypeId} {pos : String} {after : Array Edge} {g s : Nat} {w : Bool} {rd : List (Nat × Pred)} {use : List (Nat × Id × Res)} {new : List Nat} {φ : Pred} (hs : gslot ops g = some s) (hsn : Nat.blt s n = true) (hb : lk F s = some (eqP (.bool w)))
    (h : OpJ P n N F (tkf L Rf) ⟨some t, op, T, pos, after, none⟩ ⟨rd, use, [], [(m, x)], new, φ⟩) (hd : Nat.blt t n = true)
    (hk : LexK P n N ops Q Rf l ((t, φ) :: F) ((m, some x) :: L) (fun rs => K (⟨(s, eqP (.bool w)) :: rd, use, [], [(m, x)], new, φ⟩ :: rs))) : LexK P n N ops Q Rf (⟨some t, op, T, pos, after, some (g, w)⟩ :: l) F L K :=
  lx_run hs hsn hb h (dOK_spec (d := some t) hd) hk
/-- a step that turns one token into another -/
theorem lxr {d : Option Nat} {m m' : Nat} {x x' : Id × Res} {op : Op} {T : TypeId} {pos : String} {after : Array Edge} {rd : List (Nat × Pred)} {use : List (Nat × Id × Res)} {new : List Nat} {φ : Pred} (h : OpJ P n N F (tkf L Rf) ⟨d, op, T, pos, after, none⟩ ⟨rd, use, [(m, x)], [(m', x')], new, φ⟩)
    (hd : dOK n d = true) (hk : LexK P n N ops Q Rf l (setF F d φ) ((m', some x') :: (m, none) :: L) (fun rs => K (⟨rd, use, [(m, x)], [(m', x')], new, φ⟩ :: rs))) : LexK P n N ops Q Rf (⟨d, op, T, pos, after, none⟩ :: l) F L K :=
  lx_any rfl h (dOK_spec hd) hk
/-- part on a bool ahead of what follows -/
theorem lx_cases (b : Bool) (ht : b = true → LexK P n N ops Q Rf l F L K) (hf : b = false → LexK P n N ops Q Rf l F L K) : LexK P n N ops Q Rf l F L K := by
  cases hb : b
  · exact hf hb
  · exact ht hb
/-- say otherwise what is known of a slot: not by entailment, by equality -/
theorem lx_eqF {F' : Fr} (h : F = F') (hk : LexK P n N ops Q Rf l F' L K) : LexK P n N ops Q Rf l F L K := h ▸ hk
end

/-! ### pure operations -/
section
variable {P : Program} {n N : Nat} {F : Fr} {R : Toks} {d : Option Nat} {T : TypeId} {pos : String} {after : Array Edge}

theorem updR_same (R : Toks) (rd : List (Nat × Pred)) (use : List (Nat × Id × Res)) (new : List Nat) (φ : Pred) : updR R ⟨rd, use, [], [], new, φ⟩ = R := by funext m; simp [updR]

/-- an operation that computes a value from what it reads -/
theorem opj_pure {o : Oper} {rd : List (Nat × Pred)} {φ : Pred} (hrd : ∀ y ∈ rd, lk F y.1 = some y.2)
    (h : ∀ (σ : Sg) (W : World) (a : Act), (∀ y ∈ rd, y.2.h σ (a.tmps.getD y.1 undef)) → ∃ v, (execOp a.eval o).run P W = .ok (.value v) W ∧ φ.h σ v) : OpJ P n N F R o ⟨rd, [], [], [], [], φ⟩ where
  loc := by
    intro σ W R a K h1 h2 h3 h4 h5 h6 h7 h8 h9 Q
    obtain ⟨v, hv, hφ⟩ := h σ W a h4
    exact wp_value hv (h9 σ W v (Le.refl σ) (fun _ _ _ => rfl) (by rw [updR_same]; exact h1) hφ)
  rd := hrd
  use := by simp
  del := by simp
  add := by simp

theorem opj1 {o : Oper} {x : Operand} {p φ : Pred} (hx : opd F x = some p)
    (h : ∀ (σ : Sg) (W : World) (a : Act), p.h σ (a.eval x) → ∃ v, (execOp a.eval o).run P W = .ok (.value v) W ∧ φ.h σ v) : OpJ P n N F R o ⟨rdo x p, [], [], [], [], φ⟩ :=
  opj_pure (rd_of hx) fun σ W a hr => h σ W a (holds_of hx hr)
theorem opj2 {o : Oper} {x y : Operand} {p q φ : Pred} (hx : opd F x = some p) (hy : opd F y = some q)
    (h : ∀ (σ : Sg) (W : World) (a : Act), p.h σ (a.eval x) → q.h σ (a.eval y) → ∃ v, (execOp a.eval o).run P W = .ok (.value v) W ∧ φ.h σ v) : OpJ P n N F R o ⟨rdo x p ++ rdo y q, [], [], [], [], φ⟩ :=
  opj_pure (rd_app (rd_of hx) (rd_of hy)) fun σ W a hr => h σ W a (holds_of hx fun z hz => hr z (List.mem_append_left _ hz)) (holds_of hy fun z hz => hr z (List.mem_append_right _ hz))

theorem op_move {x : Operand} {p : Pred} (hx : opd F x = some p) : OpJ P n N F R ⟨d, .move x, T, pos, after, none⟩ ⟨rdo x p, [], [], [], [], p⟩ :=
  opj1 hx fun σ W a h => ⟨a.eval x, by simp [execOp], h⟩
theorem op_assign {x : Operand} {p : Pred} (hx : opd F x = some p) : OpJ P n N F R ⟨d, .assign x, T, pos, after, none⟩ ⟨rdo x p, [], [], [], [], p⟩ :=
  opj1 hx fun σ W a h => ⟨a.eval x, by simp [execOp], h⟩
theorem op_pick_t {c x y : Operand} {p : Pred} (hc : opd F c = some (eqP (.bool true))) (hx : opd F x = some p) : OpJ P n N F R ⟨d, .pick c x y, T, pos, after, none⟩ ⟨rdo c (eqP (.bool true)) ++ rdo x p, [], [], [], [], p⟩ :=
  opj2 hc hx fun σ W a h1 h2 => ⟨a.eval x, by simp [execOp, (show a.eval c = .bool true from h1), asBool], h2⟩
theorem op_pick_f {c x y : Operand} {p : Pred} (hc : opd F c = some (eqP (.bool false))) (hy : opd F y = some p) : OpJ P n N F R ⟨d, .pick c x y, T, pos, after, none⟩ ⟨rdo c (eqP (.bool false)) ++ rdo y p, [], [], [], [], p⟩ :=
  opj2 hc hy fun σ W a h1 h2 => ⟨a.eval y, by simp [execOp, (show a.eval c = .bool false from h1), asBool], h2⟩
theorem op_not {x : Operand} {b : Bool} {t : TypeId} (hx : opd F x = some (eqP (.bool b))) : OpJ P n N F R ⟨d, .unOp .not t x, T, pos, after, none⟩ ⟨rdo x (eqP (.bool b)), [], [], [], [], eqP (.bool !b)⟩ :=
  opj1 hx fun σ W a h => ⟨.bool !b, by simp [execOp, (show a.eval x = .bool b from h), Op.unary], rfl⟩
theorem op_not_b {x : Operand} {φ : Bool → Prop} {t : TypeId} (hx : opd F x = some (bP φ)) : OpJ P n N F R ⟨d, .unOp .not t x, T, pos, after, none⟩ ⟨rdo x (bP φ), [], [], [], [], bP (fun b => φ !b)⟩ :=
  opj1 hx fun σ W a ⟨b, h, hφ⟩ => ⟨.bool !b, by simp [execOp, h, Op.unary], !b, rfl, by simpa using hφ⟩
theorem op_extract {x : Operand} {ps : List Pred} {p : Pred} {i : Nat} (hx : opd F x = some (tupP ps)) (hi : ps[i]? = some p) : OpJ P n N F R ⟨d, .extract x i, T, pos, after, none⟩ ⟨rdo x (tupP ps), [], [], [], [], p⟩ :=
  opj1 hx fun σ W a ⟨cs, hv, hl, hc⟩ => by
    have hlt : i < cs.length := by rw [hl]; exact (List.getElem?_eq_some_iff.1 hi).1
    refine ⟨cs[i], ?_, hc i p _ hi (List.getElem?_eq_getElem hlt)⟩
    simp [execOp, hv, Instr.extract, hlt]

section
variable {x y : Operand} {k : IntKind} {u v : Int} {t t' : TypeId}
theorem op_bin_raw {op : BinOp} {a b c : Value} (hx : opd F x = some (eqP a)) (hy : opd F y = some (eqP b)) (hr : ∀ W, (do eqGuard op t x y a b; binOp op t a b).run P W = .ok c W) :
    OpJ P n N F R ⟨d, .binOp op t x y t', T, pos, after, none⟩ ⟨rdo x (eqP a) ++ rdo y (eqP b), [], [], [], [], eqP c⟩ :=
  opj2 hx hy fun σ W ac h1 h2 => ⟨c, by
    have e1 : ac.eval x = a := h1
    have e2 : ac.eval y = b := h2
    have := hr W
    simp only [execOp, e1, e2, Sem.run_bind] at this ⊢
    rw [this]
    rfl, rfl⟩
theorem op_add (hx : opd F x = some (eqP (.int .i64 u))) (hy : opd F y = some (eqP (.int .i64 v))) (h : -9223372036854775808 ≤ u + v ∧ u + v ≤ 9223372036854775807) :
    OpJ P n N F R ⟨d, .binOp .add t x y t', T, pos, after, none⟩ ⟨rdo x (eqP (.int .i64 u)) ++ rdo y (eqP (.int .i64 v)), [], [], [], [], eqP (.int .i64 (u + v))⟩ :=
  op_bin_raw hx hy fun W => by simp [binOp, eqGuard, Op.intArith, IntWalk.i64_in _ h]
theorem op_sub (hx : opd F x = some (eqP (.int .i64 u))) (hy : opd F y = some (eqP (.int .i64 v))) (h : -9223372036854775808 ≤ u - v ∧ u - v ≤ 9223372036854775807) :
    OpJ P n N F R ⟨d, .binOp .sub t x y t', T, pos, after, none⟩ ⟨rdo x (eqP (.int .i64 u)) ++ rdo y (eqP (.int .i64 v)), [], [], [], [], eqP (.int .i64 (u - v))⟩ :=
  op_bin_raw hx hy fun W => by simp [binOp, eqGuard, Op.intArith, IntWalk.i64_in _ h]
theorem op_mul (hx : opd F x = some (eqP (.int .i64 u))) (hy : opd F y = some (eqP (.int .i64 v))) (h : -9223372036854775808 ≤ u * v ∧ u * v ≤ 9223372036854775807) :
    OpJ P n N F R ⟨d, .binOp .mul t x y t', T, pos, after, none⟩ ⟨rdo x (eqP (.int .i64 u)) ++ rdo y (eqP (.int .i64 v)), [], [], [], [], eqP (.int .i64 (u * v))⟩ :=
  op_bin_raw hx hy fun W => by simp [binOp, eqGuard, Op.intArith, IntWalk.i64_in _ h]
theorem op_eql (hx : opd F x = some (eqP (.int k u))) (hy : opd F y = some (eqP (.int k v))) :
    OpJ P n N F R ⟨d, .binOp .eql t x y t', T, pos, after, none⟩ ⟨rdo x (eqP (.int k u)) ++ rdo y (eqP (.int k v)), [], [], [], [], eqP (.bool (decide (u = v)))⟩ :=
  op_bin_raw hx hy fun W => by
    rw [eqGuard_at_int, binOp_eql]
    simp [Bool.beq_eq_decide_eq]
theorem op_neq (hx : opd F x = some (eqP (.int k u))) (hy : opd F y = some (eqP (.int k v))) :
    OpJ P n N F R ⟨d, .binOp .neq t x y t', T, pos, after, none⟩ ⟨rdo x (eqP (.int k u)) ++ rdo y (eqP (.int k v)), [], [], [], [], eqP (.bool (decide (u ≠ v)))⟩ :=
  op_bin_raw hx hy fun W => by
    rw [eqGuard_at_int, binOp_neq]
    simp [bne, Bool.beq_eq_decide_eq]
theorem op_lss (hx : opd F x = some (eqP (.int k u))) (hy : opd F y = some (eqP (.int k v))) :
    OpJ P n N F R ⟨d, .binOp .lss t x y t', T, pos, after, none⟩ ⟨rdo x (eqP (.int k u)) ++ rdo y (eqP (.int k v)), [], [], [], [], eqP (.bool (decide (u < v)))⟩ :=
  op_bin_raw hx hy fun W => by rw [eqGuard_lss, binOp_lss]; simp
theorem op_leq (hx : opd F x = some (eqP (.int k u))) (hy : opd F y = some (eqP (.int k v))) :
    OpJ P n N F R ⟨d, .binOp .leq t x y t', T, pos, after, none⟩ ⟨rdo x (eqP (.int k u)) ++ rdo y (eqP (.int k v)), [], [], [], [], eqP (.bool (decide (u ≤ v)))⟩ :=
  op_bin_raw hx hy fun W => by rw [eqGuard_leq, binOp_leq]; simp
theorem op_gtr (hx : opd F x = some (eqP (.int k u))) (hy : opd F y = some (eqP (.int k v))) :
    OpJ P n N F R ⟨d, .binOp .gtr t x y t', T, pos, after, none⟩ ⟨rdo x (eqP (.int k u)) ++ rdo y (eqP (.int k v)), [], [], [], [], eqP (.bool (decide (v < u)))⟩ :=
  op_bin_raw hx hy fun W => by rw [eqGuard_gtr, binOp_gtr]; simp
theorem op_geq (hx : opd F x = some (eqP (.int k u))) (hy : opd F y = some (eqP (.int k v))) :
    OpJ P n N F R ⟨d, .binOp .geq t x y t', T, pos, after, none⟩ ⟨rdo x (eqP (.int k u)) ++ rdo y (eqP (.int k v)), [], [], [], [], eqP (.bool (decide (v ≤ u)))⟩ :=
  op_bin_raw hx hy fun W => by rw [eqGuard_geq, binOp_geq]; simp
theorem op_eql_bool {b c : Bool} (ht : P.underlying t = some .bool) (hx : opd F x = some (eqP (.bool b))) (hy : opd F y = some (eqP (.bool c))) :
    OpJ P n N F R ⟨d, .binOp .eql t x y t', T, pos, after, none⟩ ⟨rdo x (eqP (.bool b)) ++ rdo y (eqP (.bool c)), [], [], [], [], eqP (.bool (b == c))⟩ :=
  op_bin_raw hx hy fun W => by rw [eqGuard_at_bool]; simp [run_eql_bool W t b c ht]
theorem op_neq_bool {b c : Bool} (ht : P.underlying t = some .bool) (hx : opd F x = some (eqP (.bool b))) (hy : opd F y = some (eqP (.bool c))) :
    OpJ P n N F R ⟨d, .binOp .neq t x y t', T, pos, after, none⟩ ⟨rdo x (eqP (.bool b)) ++ rdo y (eqP (.bool c)), [], [], [], [], eqP (.bool (!(b == c)))⟩ :=
  op_bin_raw hx hy fun W => by rw [eqGuard_at_bool]; simp [run_neq_bool W t b c ht]
end
end
end Go.AL
