/- An abstract-state logic over the walk: ghost states, predicates on values, owned resources, and regions in any order. -/
import Derived.WalkKit
namespace Go.AL
open Go.RowKit

abbrev Id := Nat × Nat

structure Sg where
  w0 : World
  n0 : Nat
  ρ : Id → Option (Option Nat)
  z : Id → Nat
  c : Nat → Nat → Option Value

structure Le (σ τ : Sg) : Prop where
  w0 : τ.w0 = σ.w0
  n0 : τ.n0 = σ.n0
  ρ : ∀ i b, σ.ρ i = some b → τ.ρ i = some b
  z : ∀ i b, σ.ρ i = some b → τ.z i = σ.z i
  c : ∀ b i v, σ.c b i = some v → τ.c b i = some v

theorem Le.refl (σ : Sg) : Le σ σ := ⟨rfl, rfl, fun _ _ h => h, fun _ _ _ => rfl, fun _ _ _ h => h⟩
theorem Le.trans {a b c : Sg} (h : Le a b) (k : Le b c) : Le a c :=
  ⟨k.w0.trans h.w0, k.n0.trans h.n0, fun i x hx => k.ρ i x (h.ρ i x hx), fun i x hx => (k.z i x (h.ρ i x hx)).trans (h.z i x hx), fun x i v hv => k.c x i v (h.c x i v hv)⟩

structure Pred where
  h : Sg → Value → Prop
  m : ∀ σ τ v, Le σ τ → h σ v → h τ v

structure Res where
  h : Sg → Id → Nat → Obj → Prop
  m : ∀ σ τ id b o, Le σ τ → σ.ρ id = some (some b) → (∀ i, τ.c b i = σ.c b i) → h σ id b o → h τ id b o

abbrev Toks := Nat → Option (Id × Res)

structure Models (σ : Sg) (R : Toks) (W : World) : Prop where
  base : Below σ.n0 σ.w0 W
  n0 : σ.n0 ≤ W.heap.size
  imm : ∀ b i v, σ.c b i = some v → W.cell? ⟨b, i, none⟩ = some v
  res : ∀ n id r, R n = some (id, r) → ∀ b, σ.ρ id = some (some b) → σ.n0 ≤ b ∧ ∃ o, W.heap[b]? = some o ∧ r.h σ id b o
  sep : ∀ n m x y b, n ≠ m → R n = some x → R m = some y → σ.ρ x.1 = some (some b) → σ.ρ y.1 ≠ some (some b)
  used : ∀ n x, R n = some x → σ.ρ x.1 ≠ none
  fin : ∃ M, ∀ N, M ≤ N → ∀ j, σ.ρ (N, j) = none

theorem Models.reindex {σ : Sg} {R R' : Toks} {W : World} (h : Models σ R W) (g : Nat → Nat) (hg : ∀ n m, n ≠ m → R' n ≠ none → R' m ≠ none → g n ≠ g m)
    (hr : ∀ n x, R' n = some x → R (g n) = some x) : Models σ R' W where
  base := h.base
  n0 := h.n0
  imm := h.imm
  res n id r hn := h.res (g n) id r (hr _ _ hn)
  sep n m x y b hnm hx hy := h.sep (g n) (g m) x y b (hg n m hnm (by simp [hx]) (by simp [hy])) (hr _ _ hx) (hr _ _ hy)
  used n x hx := h.used (g n) x (hr _ _ hx)
  fin := h.fin

theorem Models.sub {σ : Sg} {R R' : Toks} {W : World} (h : Models σ R W) (hr : ∀ n x, R' n = some x → R n = some x) : Models σ R' W :=
  h.reindex id (fun _ _ hnm _ _ => hnm) hr

theorem Models.drew {σ : Sg} {R : Toks} {W : World} (h : Models σ R W) : Models σ R W.drew :=
  ⟨h.base.drew, h.n0, h.imm, h.res, h.sep, h.used, h.fin⟩

/-! ### association lists -/
def lk {α : Type} : List (Nat × α) → Nat → Option α
  | [], _ => none
  | (k, x) :: l, t => match Nat.beq k t with | true => some x | false => lk l t

theorem lk_cons {α : Type} (k : Nat) (x : α) (l : List (Nat × α)) (t : Nat) : lk ((k, x) :: l) t = if k = t then some x else lk l t := by
  simp only [lk]
  by_cases h : k = t
  · subst h; simp
  · have : Nat.beq k t = false := by rw [Bool.eq_false_iff]; intro hb; exact h (Nat.eq_of_beq_eq_true hb)
    simp [this, h]

abbrev Fr := List (Nat × Pred)
abbrev Tk := List (Nat × Option (Id × Res))

def tkf (L : Tk) (Rf : Toks) : Toks := fun n => match lk L n with | some x => x | none => Rf n

def setF (F : Fr) (d : Option Nat) (p : Pred) : Fr := match d with | some t => (t, p) :: F | none => F

structure Rec where
  rd : List (Nat × Pred)
  use : List (Nat × Id × Res)
  del : List (Nat × Id × Res)
  add : List (Nat × Id × Res)
  new : List Nat
  φ : Pred

def delL (L : Tk) : List (Nat × Id × Res) → Tk
  | [] => L
  | x :: l => (x.1, none) :: delL L l
def addL (L : Tk) : List (Nat × Id × Res) → Tk
  | [] => L
  | x :: l => (x.1, some x.2) :: addL L l
def updL (L : Tk) (r : Rec) : Tk := addL (delL L r.del) r.add

/-- the resources behind an operation -/
def updR (R : Toks) (r : Rec) : Toks := fun n =>
  match r.add.find? (fun x => x.1 == n) with
  | some x => some x.2
  | none => if r.del.any (fun x => x.1 == n) then none else R n

theorem tkf_updL (L : Tk) (Rf : Toks) (r : Rec) : tkf (updL L r) Rf = updR (tkf L Rf) r := by
  obtain ⟨rd, use, del, add, new, φ⟩ := r
  funext n
  simp only [updL, updR]
  induction add with
  | nil =>
    simp only [addL, List.find?_nil]
    induction del with
    | nil => simp [delL]
    | cons x l ih =>
      obtain ⟨k, y⟩ := x
      simp only [delL, tkf, lk_cons, List.any_cons] at ih ⊢
      by_cases h : k = n
      · simp [h]
      · have h' : (k == n) = false := by simpa using h
        simp only [h, if_false, h', Bool.false_or]
        exact ih
  | cons x l ih =>
    obtain ⟨k, y⟩ := x
    simp only [addL, tkf, lk_cons, List.find?_cons] at ih ⊢
    by_cases h : k = n
    · simp [h]
    · have h' : (k == n) = false := by simpa using h
      simp only [h, if_false, h']
      exact ih

/-! ### one operation -/
def Keep (N : Nat) (new : List Nat) (σ τ : Sg) : Prop := ∀ id : Id, id.1 ≤ N → (∀ k ∈ new, id ≠ (N, k)) → τ.ρ id = σ.ρ id

def Exec (P : Program) (ops : Array Oper) (Q : Exit → Act → World → Prop) (o : Oper) (K : Act → World → Prop) (a : Act) (W : World) : Prop :=
  if Region.wanted o (yielded ops a.tmps) then o.wp P a W K Q ∨ (o.asks P a W ∧ LetsOut Q) else K (a.put o.dst undef) W

/-- the operation may run in every state of which its record's parts are known -/
def Loc (n N : Nat) (run : (Act → World → Prop) → Act → World → Prop) (dst : Option Nat) (r : Rec) : Prop :=
  ∀ (σ : Sg) (W : World) (R : Toks) (a : Act) (K : Act → World → Prop),
    Models σ R W → a.tmps.size = n → a.defers = [] →
    (∀ x ∈ r.rd, x.2.h σ (a.tmps.getD x.1 undef)) →
    (∀ x ∈ r.use, R x.1 = some x.2) → (∀ x ∈ r.del, R x.1 = some x.2) → (∀ x ∈ r.add, R x.1 = none ∨ r.del.any (fun y => y.1 == x.1) = true) →
    (∀ k ∈ r.new, σ.ρ (N, k) = none) →
    (∀ σ' W' v, Le σ σ' → Keep N r.new σ σ' → Models σ' (updR R r) W' → r.φ.h σ' v → K (a.put dst v) W') →
    run K a W

/-- the operations in the order of the text -/
inductive LexOK (P : Program) (n N : Nat) (ops : Array Oper) (Q : Exit → Act → World → Prop) (Rf : Toks) : List Oper → Fr → Tk → List Rec → Fr → Tk → Prop
  | nil (F : Fr) (L : Tk) : LexOK P n N ops Q Rf [] F L [] F L
  | cons {o : Oper} {l : List Oper} {F F' : Fr} {L L' : Tk} {r : Rec} {rs : List Rec}
      (hloc : Loc n N (Exec P ops Q o) o.dst r)
      (hd : ∀ d, o.dst = some d → d < n)
      (hrd : ∀ x ∈ r.rd, lk F x.1 = some x.2)
      (huse : ∀ x ∈ r.use, tkf L Rf x.1 = some x.2) (hdel : ∀ x ∈ r.del, tkf L Rf x.1 = some x.2)
      (hadd : ∀ x ∈ r.add, tkf L Rf x.1 = none ∨ r.del.any (fun y => y.1 == x.1) = true)
      (hl : LexOK P n N ops Q Rf l (setF F o.dst r.φ) (updL L r) rs F' L') : LexOK P n N ops Q Rf (o :: l) F L (r :: rs) F' L'

/-- what holds of a frame and a world at a ghost state -/
structure Holds (n : Nat) (F : Nat → Option Pred) (R : Toks) (σ : Sg) (a : Act) (W : World) : Prop where
  size : a.tmps.size = n
  defers : a.defers = []
  mod : Models σ R W
  fr : ∀ t p, F t = some p → p.h σ (a.tmps.getD t undef)

theorem put_size (a : Act) (d : Option Tmp) (v : Value) : (a.put d v).tmps.size = a.tmps.size := by
  cases d <;> simp [Act.put]
theorem put_defers (a : Act) (d : Option Tmp) (v : Value) : (a.put d v).defers = a.defers := by
  cases d <;> simp [Act.put]
theorem put_same (a : Act) (d : Nat) (v : Value) (h : d < a.tmps.size) : (a.put (some d) v).tmps.getD d undef = v := by
  simp [Act.put, Array.getD, h]
theorem put_other (a : Act) (d : Option Nat) (v : Value) (t : Nat) (h : d ≠ some t) : (a.put d v).tmps.getD t undef = a.tmps.getD t undef := by
  cases d with
  | none => rfl
  | some e =>
    have hne : e ≠ t := fun x => h (by rw [x])
    simp [Act.put, Array.getElem?_setIfInBounds_ne hne]

def updFn (f : Nat → Option Pred) (d : Option Nat) (p : Pred) : Nat → Option Pred := fun t => if d = some t then some p else f t

theorem lk_setF (F : Fr) (d : Option Nat) (p : Pred) : lk (setF F d p) = updFn (lk F) d p := by
  funext t
  cases d with
  | none => simp [setF, updFn]
  | some e => simp [setF, updFn, lk_cons]

/-- one operation taken -/
theorem Holds.step {n N : Nat} {run : (Act → World → Prop) → Act → World → Prop} {dst : Option Nat} {r : Rec} {f : Nat → Option Pred} {R : Toks}
    {σ : Sg} {a : Act} {W : World} {K : Act → World → Prop} (hloc : Loc n N run dst r) (hd : ∀ d, dst = some d → d < n) (h : Holds n f R σ a W)
    (hrd : ∀ x ∈ r.rd, f x.1 = some x.2) (huse : ∀ x ∈ r.use, R x.1 = some x.2) (hdel : ∀ x ∈ r.del, R x.1 = some x.2)
    (hadd : ∀ x ∈ r.add, R x.1 = none ∨ r.del.any (fun y => y.1 == x.1) = true) (hnew : ∀ k ∈ r.new, σ.ρ (N, k) = none)
    (hK : ∀ σ' a' W', Le σ σ' → Keep N r.new σ σ' → Holds n (updFn f dst r.φ) (updR R r) σ' a' W' → K a' W') : run K a W := by
  refine hloc σ W R a K h.mod h.size h.defers (fun x hx => h.fr _ _ (hrd x hx)) huse hdel hadd hnew ?_
  intro σ' W' v hle hkeep hmod hφ
  refine hK σ' _ W' hle hkeep ⟨(put_size _ _ _).trans h.size, (put_defers _ _ _).trans h.defers, hmod, ?_⟩
  intro t p hp
  unfold updFn at hp
  split at hp
  · rename_i ht
    simp only [Option.some.injEq] at hp
    subst hp
    subst ht
    rw [put_same a t v (by rw [h.size]; exact hd t rfl)]
    exact hφ
  · rename_i ht
    rw [put_other a dst v t ht]
    exact p.m _ _ _ hle (h.fr t p hp)

/-! ### a region in the order of the text -/
def Fresh (N : Nat) (ks : List Nat) (σ : Sg) : Prop := ∀ k ∈ ks, σ.ρ (N, k) = none

theorem Keep.trans {N : Nat} {k1 k2 : List Nat} {a b c : Sg} (h : Keep N k1 a b) (h' : Keep N k2 b c) : Keep N (k1 ++ k2) a c := fun id hid hk =>
  (h' id hid fun k hkk => hk k (List.mem_append_right _ hkk)).trans (h id hid fun k hkk => hk k (List.mem_append_left _ hkk))

theorem LexOK.wpList {P : Program} {n N : Nat} {ops : Array Oper} {Q : Exit → Act → World → Prop} {Rf : Toks} {l : List Oper} {F F' : Fr} {L L' : Tk} {rs : List Rec}
    (hl : LexOK P n N ops Q Rf l F L rs F' L') (hnd : (rs.flatMap (·.new)).Nodup) :
    ∀ {σ : Sg} {a : Act} {W : World}, Holds n (lk F) (tkf L Rf) σ a W → Fresh N (rs.flatMap (·.new)) σ →
      (∀ σ' a' W', Le σ σ' → Keep N (rs.flatMap (·.new)) σ σ' → Holds n (lk F') (tkf L' Rf) σ' a' W' → Q .normal a' W') → Go.wpList P ops Q l a W := by
  induction hl with
  | nil F L =>
    intro σ a W h _ hQ
    exact hQ σ a W (Le.refl σ) (fun _ _ _ => rfl) h
  | @cons o l F F' L L' r rs hloc hd hrd huse hdel hadd hl ih =>
    intro σ a W h hfr hQ
    simp only [List.flatMap_cons] at hnd hfr hQ
    have hnd' := List.nodup_append.1 hnd
    have := Holds.step hloc hd h hrd huse hdel hadd (fun k hk => hfr k (List.mem_append_left _ hk))
      (K := Go.wpList P ops Q l) (fun σ' a' W' hle hkeep hh => by
        rw [← lk_setF, ← tkf_updL] at hh
        refine ih hnd'.2.1 hh ?_ ?_
        · intro k hk
          rw [hkeep (N, k) (Nat.le_refl _) (fun k' hk' e => by
            cases e
            exact hnd'.2.2 _ hk' _ hk rfl)]
          exact hfr k (List.mem_append_right _ hk)
        · intro σ'' a'' W'' hle' hkeep' hh'
          exact hQ σ'' a'' W'' (hle.trans hle') (hkeep.trans hkeep') hh')
    exact this

end Go.AL
