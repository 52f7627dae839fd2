/- Parts of a proof that share one text: AlCore, AlDraw, AlPred, AlTr, AlOps, AlMem, AlMem2, AlCall, AlApp, AlApp2, AlApp3, AlEnd, AlEq, AlRow, AlMut. -/
import Derived.WalkKit
import Derived.Orders
import Derived.WalkSpells
set_option linter.unusedVariables false
set_option linter.unusedSimpArgs false

namespace Go.AL
open Go.RowKit
abbrev Id := Nat × Nat
structure Sg where
  w0 : World
  n0 : Nat
  ρ : Id → Option (Option Nat)
  z : Id → Nat
  c : Nat → Nat → Option Value
structure Le (σ τ : Sg) : Prop where
  w0 : τ.w0 = σ.w0
  n0 : τ.n0 = σ.n0
  ρ : ∀ i b, σ.ρ i = some b → τ.ρ i = some b
  z : ∀ i b, σ.ρ i = some b → τ.z i = σ.z i
  c : ∀ b i v, σ.c b i = some v → τ.c b i = some v
theorem Le.refl (σ : Sg) : Le σ σ := ⟨rfl, rfl, fun _ _ h => h, fun _ _ _ => rfl, fun _ _ _ h => h⟩
theorem Le.trans {a b c : Sg} (h : Le a b) (k : Le b c) : Le a c :=
  ⟨k.w0.trans h.w0, k.n0.trans h.n0, fun i x hx => k.ρ i x (h.ρ i x hx), fun i x hx => (k.z i x (h.ρ i x hx)).trans (h.z i x hx), fun x i v hv => k.c x i v (h.c x i v hv)⟩
structure Pred where
  h : Sg → Value → Prop
  m : ∀ σ τ v, Le σ τ → h σ v → h τ v
structure Res where
  h : Sg → Id → Nat → Obj → Prop
  m : ∀ σ τ id b o, Le σ τ → σ.ρ id = some (some b) → (∀ i, τ.c b i = σ.c b i) → h σ id b o → h τ id b o
abbrev Toks := Nat → Option (Id × Res)
structure Models (σ : Sg) (R : Toks) (W : World) : Prop where
  base : Below σ.n0 σ.w0 W
  n0 : σ.n0 ≤ W.heap.size
  imm : ∀ b i v, σ.c b i = some v → W.cell? ⟨b, i, none⟩ = some v
  res : ∀ n id r, R n = some (id, r) → ∀ b, σ.ρ id = some (some b) → σ.n0 ≤ b ∧ ∃ o, W.heap[b]? = some o ∧ r.h σ id b o
  sep : ∀ n m x y b, n ≠ m → R n = some x → R m = some y → σ.ρ x.1 = some (some b) → σ.ρ y.1 ≠ some (some b)
  used : ∀ n x, R n = some x → σ.ρ x.1 ≠ none
  fin : ∃ M, ∀ N, M ≤ N → ∀ j, σ.ρ (N, j) = none
theorem Models.reindex {σ : Sg} {R R' : Toks} {W : World} (h : Models σ R W) (g : Nat → Nat) (hg : ∀ n m, n ≠ m → R' n ≠ none → R' m ≠ none → g n ≠ g m)
    (hr : ∀ n x, R' n = some x → R (g n) = some x) : Models σ R' W where
  base := h.base
  n0 := h.n0
  imm := h.imm
  res n id r hn := h.res (g n) id r (hr _ _ hn)
  sep n m x y b hnm hx hy := h.sep (g n) (g m) x y b (hg n m hnm (by simp [hx]) (by simp [hy])) (hr _ _ hx) (hr _ _ hy)
  used n x hx := h.used (g n) x (hr _ _ hx)
  fin := h.fin
theorem Models.sub {σ : Sg} {R R' : Toks} {W : World} (h : Models σ R W) (hr : ∀ n x, R' n = some x → R n = some x) : Models σ R' W :=
  h.reindex id (fun _ _ hnm _ _ => hnm) hr
theorem Models.drew {σ : Sg} {R : Toks} {W : World} (h : Models σ R W) : Models σ R W.drew :=
  ⟨h.base.drew, h.n0, h.imm, h.res, h.sep, h.used, h.fin⟩
def lk {α : Type} : List (Nat × α) → Nat → Option α
  | [], _ => none
  | (k, x) :: l, t => match Nat.beq k t with | true => some x | false => lk l t
theorem lk_cons {α : Type} (k : Nat) (x : α) (l : List (Nat × α)) (t : Nat) : lk ((k, x) :: l) t = if k = t then some x else lk l t := by
  simp only [lk]
  by_cases h : k = t
  · subst h; simp
  · have : Nat.beq k t = false := by rw [Bool.eq_false_iff]; intro hb; exact h (Nat.eq_of_beq_eq_true hb)
    simp [this, h]
abbrev Fr := List (Nat × Pred)
abbrev Tk := List (Nat × Option (Id × Res))
def tkf (L : Tk) (Rf : Toks) : Toks := fun n => match lk L n with | some x => x | none => Rf n
def setF (F : Fr) (d : Option Nat) (p : Pred) : Fr := match d with | some t => (t, p) :: F | none => F
structure Rec where
  rd : List (Nat × Pred)
  use : List (Nat × Id × Res)
  del : List (Nat × Id × Res)
  add : List (Nat × Id × Res)
  new : List Nat
  φ : Pred
def delL (L : Tk) : List (Nat × Id × Res) → Tk
  | [] => L
  | x :: l => (x.1, none) :: delL L l
def addL (L : Tk) : List (Nat × Id × Res) → Tk
  | [] => L
  | x :: l => (x.1, some x.2) :: addL L l
def updL (L : Tk) (r : Rec) : Tk := addL (delL L r.del) r.add
/-- the resources behind an operation -/
def updR (R : Toks) (r : Rec) : Toks := fun n =>
  match r.add.find? (fun x => x.1 == n) with
  | some x => some x.2
  | none => if r.del.any (fun x => x.1 == n) then none else R n
theorem tkf_updL (L : Tk) (Rf : Toks) (r : Rec) : tkf (updL L r) Rf = updR (tkf L Rf) r := by
  obtain ⟨rd, use, del, add, new, φ⟩ := r
  funext n
  simp only [updL, updR]
  induction add with
  | nil =>
    simp only [addL, List.find?_nil]
    induction del with
    | nil => simp [delL]
    | cons x l ih =>
      obtain ⟨k, y⟩ := x
      simp only [delL, tkf, lk_cons, List.any_cons] at ih ⊢
      by_cases h : k = n
      · simp [h]
      · have h' : (k == n) = false := by simpa using h
        simp only [h, if_false, h', Bool.false_or]
        exact ih
  | cons x l ih =>
    obtain ⟨k, y⟩ := x
    simp only [addL, tkf, lk_cons, List.find?_cons] at ih ⊢
    by_cases h : k = n
    · simp [h]
    · have h' : (k == n) = false := by simpa using h
      simp only [h, if_false, h']
      exact ih
def Keep (N : Nat) (new : List Nat) (σ τ : Sg) : Prop := ∀ id : Id, id.1 ≤ N → (∀ k ∈ new, id ≠ (N, k)) → τ.ρ id = σ.ρ id
def Exec (P : Program) (ops : Array Oper) (Q : Exit → Act → World → Prop) (o : Oper) (K : Act → World → Prop) (a : Act) (W : World) : Prop :=
  if Region.wanted o (yielded ops a.tmps) then o.wp P a W K Q ∨ (o.asks P a W ∧ LetsOut Q) else K (a.put o.dst undef) W
/-- the operation may run in every state of which its record's parts are known -/
def Loc (n N : Nat) (run : (Act → World → Prop) → Act → World → Prop) (dst : Option Nat) (r : Rec) : Prop :=
  ∀ (σ : Sg) (W : World) (R : Toks) (a : Act) (K : Act → World → Prop),
    Models σ R W → a.tmps.size = n → a.defers = [] →
    (∀ x ∈ r.rd, x.2.h σ (a.tmps.getD x.1 undef)) →
    (∀ x ∈ r.use, R x.1 = some x.2) → (∀ x ∈ r.del, R x.1 = some x.2) → (∀ x ∈ r.add, R x.1 = none ∨ r.del.any (fun y => y.1 == x.1) = true) →
    (∀ k ∈ r.new, σ.ρ (N, k) = none) →
    (∀ σ' W' v, Le σ σ' → Keep N r.new σ σ' → Models σ' (updR R r) W' → r.φ.h σ' v → K (a.put dst v) W') →
    run K a W
/-- the operations in the order of the text -/
inductive LexOK (P : Program) (n N : Nat) (ops : Array Oper) (Q : Exit → Act → World → Prop) (Rf : Toks) : List Oper → Fr → Tk → List Rec → Fr → Tk → Prop
  | nil (F : Fr) (L : Tk) : LexOK P n N ops Q Rf [] F L [] F L
  | cons {o : Oper} {l : List Oper} {F F' : Fr} {L L' : Tk} {r : Rec} {rs : List Rec}
      (hloc : Loc n N (Exec P ops Q o) o.dst r)
      (hd : ∀ d, o.dst = some d → d < n)
      (hrd : ∀ x ∈ r.rd, lk F x.1 = some x.2)
      (huse : ∀ x ∈ r.use, tkf L Rf x.1 = some x.2) (hdel : ∀ x ∈ r.del, tkf L Rf x.1 = some x.2)
      (hadd : ∀ x ∈ r.add, tkf L Rf x.1 = none ∨ r.del.any (fun y => y.1 == x.1) = true)
      (hl : LexOK P n N ops Q Rf l (setF F o.dst r.φ) (updL L r) rs F' L') : LexOK P n N ops Q Rf (o :: l) F L (r :: rs) F' L'
/-- what holds of a frame and a world at a ghost state -/
structure Holds (n : Nat) (F : Nat → Option Pred) (R : Toks) (σ : Sg) (a : Act) (W : World) : Prop where
  size : a.tmps.size = n
  defers : a.defers = []
  mod : Models σ R W
  fr : ∀ t p, F t = some p → p.h σ (a.tmps.getD t undef)
theorem put_size (a : Act) (d : Option Tmp) (v : Value) : (a.put d v).tmps.size = a.tmps.size := by
  cases d <;> simp [Act.put]
theorem put_defers (a : Act) (d : Option Tmp) (v : Value) : (a.put d v).defers = a.defers := by
  cases d <;> simp [Act.put]
theorem put_same (a : Act) (d : Nat) (v : Value) (h : d < a.tmps.size) : (a.put (some d) v).tmps.getD d undef = v := by
  simp [Act.put, Array.getD, h]
theorem put_other (a : Act) (d : Option Nat) (v : Value) (t : Nat) (h : d ≠ some t) : (a.put d v).tmps.getD t undef = a.tmps.getD t undef := by
  cases d with
  | none => rfl
  | some e =>
    have hne : e ≠ t := fun x => h (by rw [x])
    simp [Act.put, Array.getElem?_setIfInBounds_ne hne]
def updFn (f : Nat → Option Pred) (d : Option Nat) (p : Pred) : Nat → Option Pred := fun t => if d = some t then some p else f t
theorem lk_setF (F : Fr) (d : Option Nat) (p : Pred) : lk (setF F d p) = updFn (lk F) d p := by
  funext t
  cases d with
  | none => simp [setF, updFn]
  | some e => simp [setF, updFn, lk_cons]
/-- one operation taken -/
theorem Holds.step {n N : Nat} {run : (Act → World → Prop) → Act → World → Prop} {dst : Option Nat} {r : Rec} {f : Nat → Option Pred} {R : Toks}
    {σ : Sg} {a : Act} {W : World} {K : Act → World → Prop} (hloc : Loc n N run dst r) (hd : ∀ d, dst = some d → d < n) (h : Holds n f R σ a W)
    (hrd : ∀ x ∈ r.rd, f x.1 = some x.2) (huse : ∀ x ∈ r.use, R x.1 = some x.2) (hdel : ∀ x ∈ r.del, R x.1 = some x.2)
    (hadd : ∀ x ∈ r.add, R x.1 = none ∨ r.del.any (fun y => y.1 == x.1) = true) (hnew : ∀ k ∈ r.new, σ.ρ (N, k) = none)
    (hK : ∀ σ' a' W', Le σ σ' → Keep N r.new σ σ' → Holds n (updFn f dst r.φ) (updR R r) σ' a' W' → K a' W') : run K a W := by
  refine hloc σ W R a K h.mod h.size h.defers (fun x hx => h.fr _ _ (hrd x hx)) huse hdel hadd hnew ?_
  intro σ' W' v hle hkeep hmod hφ
  refine hK σ' _ W' hle hkeep ⟨(put_size _ _ _).trans h.size, (put_defers _ _ _).trans h.defers, hmod, ?_⟩
  intro t p hp
  unfold updFn at hp
  split at hp
  · rename_i ht
    simp only [Option.some.injEq] at hp
    subst hp
    subst ht
    rw [put_same a t v (by rw [h.size]; exact hd t rfl)]
    exact hφ
  · rename_i ht
    rw [put_other a dst v t ht]
    exact p.m _ _ _ hle (h.fr t p hp)
def Fresh (N : Nat) (ks : List Nat) (σ : Sg) : Prop := ∀ k ∈ ks, σ.ρ (N, k) = none
theorem Keep.trans {N : Nat} {k1 k2 : List Nat} {a b c : Sg} (h : Keep N k1 a b) (h' : Keep N k2 b c) : Keep N (k1 ++ k2) a c := fun id hid hk =>
  (h' id hid fun k hkk => hk k (List.mem_append_right _ hkk)).trans (h id hid fun k hkk => hk k (List.mem_append_left _ hkk))
theorem LexOK.wpList {P : Program} {n N : Nat} {ops : Array Oper} {Q : Exit → Act → World → Prop} {Rf : Toks} {l : List Oper} {F F' : Fr} {L L' : Tk} {rs : List Rec}
    (hl : LexOK P n N ops Q Rf l F L rs F' L') (hnd : (rs.flatMap (·.new)).Nodup) :
    ∀ {σ : Sg} {a : Act} {W : World}, Holds n (lk F) (tkf L Rf) σ a W → Fresh N (rs.flatMap (·.new)) σ →
      (∀ σ' a' W', Le σ σ' → Keep N (rs.flatMap (·.new)) σ σ' → Holds n (lk F') (tkf L' Rf) σ' a' W' → Q .normal a' W') → Go.wpList P ops Q l a W := by
  induction hl with
  | nil F L =>
    intro σ a W h _ hQ
    exact hQ σ a W (Le.refl σ) (fun _ _ _ => rfl) h
  | @cons o l F F' L L' r rs hloc hd hrd huse hdel hadd hl ih =>
    intro σ a W h hfr hQ
    simp only [List.flatMap_cons] at hnd hfr hQ
    have hnd' := List.nodup_append.1 hnd
    have := Holds.step hloc hd h hrd huse hdel hadd (fun k hk => hfr k (List.mem_append_left _ hk))
      (K := Go.wpList P ops Q l) (fun σ' a' W' hle hkeep hh => by
        rw [← lk_setF, ← tkf_updL] at hh
        refine ih hnd'.2.1 hh ?_ ?_
        · intro k hk
          rw [hkeep (N, k) (Nat.le_refl _) (fun k' hk' e => by
            cases e
            exact hnd'.2.2 _ hk' _ hk rfl)]
          exact hfr k (List.mem_append_right _ hk)
        · intro σ'' a'' W'' hle' hkeep' hh'
          exact hQ σ'' a'' W'' (hle.trans hle') (hkeep.trans hkeep') hh')
    exact this
end Go.AL


namespace Go.AL
open Go.RowKit
abbrev Z := Oper × Rec
def hits (r : Rec) (d : Option Nat) : Bool := match d with | some t => r.rd.any (fun x => Nat.beq x.1 t) | none => false
def sameDst (d e : Option Nat) : Bool := match d, e with | some x, some y => Nat.beq x y | _, _ => false
def toks (r : Rec) : List Nat := r.del.map (·.1) ++ r.add.map (·.1)
def meets (l m : List Nat) : Bool := l.any fun x => m.any fun y => Nat.beq x y
/-- two operations that do not commute -/
def conf (x y : Z) : Bool :=
  hits y.2 x.1.dst || hits x.2 y.1.dst || sameDst x.1.dst y.1.dst || meets (toks x.2) (toks y.2) || meets (toks x.2) (y.2.use.map (·.1)) || meets (x.2.use.map (·.1)) (toks y.2)
def edgeIn (acc : List Nat) (s : Nat) (e : Edge) : Nat := if Region.binds .any e then s ||| (2 ^ e.on ||| acc.getD e.on 0) else s
def maskOf (acc : List Nat) (o : Oper) : Nat := o.after.toList.foldl (edgeIn acc) 0
def edgesLow (i : Nat) (o : Oper) : Bool := o.after.toList.all fun e => !Region.binds .any e || Nat.blt e.on i
/-- the check: 'zs' what is left, 'done' what came before, 'acc' its masks -/
def chkGo : List Z → List Z → List Nat → Bool
  | [], _, _ => true
  | z :: zs, done, acc =>
    let m := maskOf acc z.1
    edgesLow acc.length z.1 && (done.zipIdx.all fun x => !conf x.1 z || m.testBit x.2) && chkGo zs (done ++ [z]) (acc ++ [m])
def chk (l : List Oper) (rs : List Rec) : Bool := chkGo (l.zip rs) [] []
def Closed (zs : List Z) (S : Nat → Bool) : Prop := ∀ i z, zs[i]? = some z → S i = true → ∀ e ∈ z.1.after, Region.binds .any e = true → S e.on = true
structure Checked (zs : List Z) : Prop where
  low : ∀ i z, zs[i]? = some z → ∀ e ∈ z.1.after, Region.binds .any e = true → e.on < i
  ord : ∀ j i x z, j < i → zs[j]? = some x → zs[i]? = some z → conf x z = true → ∀ S, Closed zs S → S i = true → S j = true
theorem testBit_two_pow' (k j : Nat) (h : (2 ^ k).testBit j = true) : j = k := by
  rw [Nat.testBit_two_pow] at h
  simpa using (Eq.symm (by simpa using h : k = j))
theorem edges_fold (acc : List Nat) (S : Nat → Bool) (hacc : ∀ i, S i = true → ∀ j, (acc.getD i 0).testBit j = true → S j = true) :
    ∀ (es : List Edge) (s : Nat), (∀ e ∈ es, Region.binds .any e = true → S e.on = true) → (∀ j, s.testBit j = true → S j = true) →
      ∀ j, (es.foldl (edgeIn acc) s).testBit j = true → S j = true
  | [], s, _, hs => hs
  | e :: es, s, he, hs => by
    simp only [List.foldl_cons]
    refine edges_fold acc S hacc es _ (fun e' h' => he e' (List.mem_cons_of_mem _ h')) ?_
    intro j hj
    unfold edgeIn at hj
    split at hj
    · rename_i hb
      rw [Nat.testBit_or, Nat.testBit_or] at hj
      have hS := he e (List.mem_cons_self ..) hb
      rcases Bool.or_eq_true_iff.1 hj with h | h
      · exact hs j h
      · rcases Bool.or_eq_true_iff.1 h with h | h
        · rw [testBit_two_pow' _ _ h]; exact hS
        · exact hacc e.on hS j h
    · exact hs j hj
theorem chkGo_spec : ∀ (zs done : List Z) (acc : List Nat), chkGo zs done acc = true → acc.length = done.length →
    (∀ S, Closed (done ++ zs) S → ∀ i, S i = true → ∀ j, (acc.getD i 0).testBit j = true → S j = true) →
    (∀ i z, zs[i]? = some z → ∀ e ∈ z.1.after, Region.binds .any e = true → e.on < done.length + i) ∧
    (∀ j i x z, j < done.length + i → (done ++ zs)[j]? = some x → zs[i]? = some z → conf x z = true → ∀ S, Closed (done ++ zs) S → S (done.length + i) = true → S j = true)
  | [], done, acc, _, _, _ => ⟨fun i z h => by simp at h, fun j i x z _ _ h => by simp at h⟩
  | z :: zs, done, acc, hc, hlen, hacc => by
    simp only [chkGo, Bool.and_eq_true] at hc
    obtain ⟨⟨h1, h2⟩, h3⟩ := hc
    have hnew : ∀ S, Closed (done ++ z :: zs) S → S done.length = true → ∀ j, (maskOf acc z.1).testBit j = true → S j = true := by
      intro S hS hd j hj
      refine edges_fold acc S (hacc S hS) z.1.after.toList 0 ?_ (by simp) j hj
      intro e he hb
      exact hS done.length z (by simp) hd e (by simpa using he) hb
    have happ : done ++ [z] ++ zs = done ++ z :: zs := by simp
    have ih := chkGo_spec zs (done ++ [z]) (acc ++ [maskOf acc z.1]) h3 (by simp [hlen]) (by
      rw [happ]
      intro S hS i hi j hj
      by_cases hia : i < acc.length
      · rw [List.getD_eq_getElem?_getD, List.getElem?_append_left hia, ← List.getD_eq_getElem?_getD] at hj
        exact hacc S hS i hi j hj
      · by_cases hie : i = acc.length
        · subst hie
          simp [List.getD] at hj
          rw [hlen] at hi
          exact hnew S hS hi j hj
        · rw [List.getD_eq_getElem?_getD, List.getElem?_eq_none (by simp; omega)] at hj
          simp at hj)
    rw [happ] at ih
    simp only [List.length_append, List.length_singleton] at ih
    refine ⟨?_, ?_⟩
    · intro i y hi
      cases i with
      | zero =>
        simp at hi
        subst hi
        intro e he hb
        unfold edgesLow at h1
        rw [List.all_eq_true] at h1
        have := h1 e (by simpa using he)
        simp [hb] at this
        omega
      | succ i =>
        intro e he hb
        have := ih.1 i y (by simpa using hi) e he hb
        omega
    · intro j i x y hj hx hi
      cases i with
      | zero =>
        simp at hi
        subst hi
        intro hcf S hS hd
        have hj' : j < done.length := by omega
        rw [List.getElem?_append_left hj'] at hx
        rw [List.all_eq_true] at h2
        have := h2 (x, j) (by rw [List.mk_mem_zipIdx_iff_getElem?]; exact hx)
        simp only [hcf, Bool.not_true, Bool.false_or] at this
        exact hnew S hS (by simpa using hd) j this
      | succ i =>
        intro hcf S hS hd
        exact ih.2 j i x y (by omega) hx (by simpa using hi) hcf S hS (by rw [show done.length + 1 + i = done.length + (i + 1) by omega]; exact hd)
theorem chk_spec {l : List Oper} {rs : List Rec} (h : chk l rs = true) : Checked (l.zip rs) := by
  have := chkGo_spec (l.zip rs) [] [] h rfl (by simp)
  simp only [List.nil_append, List.length_nil, Nat.zero_add] at this
  exact ⟨this.1, fun j i x z hj hx hz => this.2 j i x z hj hx hz⟩
def runF (b : Nat → Bool) : Nat → List Z → (Nat → Option Pred) → (Nat → Option Pred)
  | _, [], f => f
  | k, z :: zs, f => runF b (k + 1) zs (if b k then updFn f z.1.dst z.2.φ else f)
def runR (b : Nat → Bool) : Nat → List Z → Toks → Toks
  | _, [], f => f
  | k, z :: zs, f => runR b (k + 1) zs (if b k then updR f z.2 else f)
theorem runF_append (b : Nat → Bool) : ∀ (xs ys : List Z) (k : Nat) (f : Nat → Option Pred), runF b k (xs ++ ys) f = runF b (k + xs.length) ys (runF b k xs f)
  | [], ys, k, f => by simp [runF]
  | z :: xs, ys, k, f => by
    simp only [List.cons_append, runF, List.length_cons]
    rw [runF_append b xs ys (k + 1)]
    congr 1
    omega
theorem runR_append (b : Nat → Bool) : ∀ (xs ys : List Z) (k : Nat) (f : Toks), runR b k (xs ++ ys) f = runR b (k + xs.length) ys (runR b k xs f)
  | [], ys, k, f => by simp [runR]
  | z :: xs, ys, k, f => by
    simp only [List.cons_append, runR, List.length_cons]
    rw [runR_append b xs ys (k + 1)]
    congr 1
    omega
theorem runF_congr {b b' : Nat → Bool} : ∀ (zs : List Z) (k : Nat) (f : Nat → Option Pred), (∀ j, j < zs.length → b (k + j) = b' (k + j)) → runF b k zs f = runF b' k zs f
  | [], _, _, _ => rfl
  | z :: zs, k, f, h => by
    simp only [runF]
    have h0 := h 0 (by simp)
    simp only [Nat.add_zero] at h0
    rw [h0]
    exact runF_congr zs (k + 1) _ fun j hj => by have := h (j + 1) (by simp; omega); rwa [show k + (j + 1) = k + 1 + j by omega] at this
theorem runR_congr {b b' : Nat → Bool} : ∀ (zs : List Z) (k : Nat) (f : Toks), (∀ j, j < zs.length → b (k + j) = b' (k + j)) → runR b k zs f = runR b' k zs f
  | [], _, _, _ => rfl
  | z :: zs, k, f, h => by
    simp only [runR]
    have h0 := h 0 (by simp)
    simp only [Nat.add_zero] at h0
    rw [h0]
    exact runR_congr zs (k + 1) _ fun j hj => by have := h (j + 1) (by simp; omega); rwa [show k + (j + 1) = k + 1 + j by omega] at this
/-- what is behind does not write slot t -/
theorem runF_at (b : Nat → Bool) (t : Nat) : ∀ (zs : List Z) (k : Nat) (f : Nat → Option Pred), (∀ j z, zs[j]? = some z → b (k + j) = true → z.1.dst ≠ some t) → runF b k zs f t = f t
  | [], _, _, _ => rfl
  | z :: zs, k, f, h => by
    simp only [runF]
    rw [runF_at b t zs (k + 1) _ (fun j y hy hb => h (j + 1) y (by simpa using hy) (by rwa [show k + (j + 1) = k + 1 + j by omega]))]
    split
    · rename_i hb
      unfold updFn
      rw [if_neg (h 0 z rfl (by simpa using hb))]
    · rfl
/-- what has not run does not write slot t -/
theorem runF_all (b : Nat → Bool) (t : Nat) : ∀ (zs : List Z) (k : Nat) (f g : Nat → Option Pred), (∀ j z, zs[j]? = some z → b (k + j) = false → z.1.dst ≠ some t) → f t = g t →
    runF b k zs f t = runF (fun _ => true) k zs g t
  | [], _, _, _, _, h => h
  | z :: zs, k, f, g, h, hfg => by
    simp only [runF]
    refine runF_all b t zs (k + 1) _ _ (fun j y hy hb => h (j + 1) y (by simpa using hy) (by rwa [show k + (j + 1) = k + 1 + j by omega])) ?_
    by_cases hb : b k = true
    · simp only [hb, if_true]
      unfold updFn
      rw [hfg]
    · rw [if_neg hb]
      simp only [if_true]
      unfold updFn
      rw [if_neg (h 0 z rfl (by simpa using hb)), hfg]
theorem updR_miss {R : Toks} {r : Rec} {n : Nat} (h : n ∉ toks r) : updR R r n = R n := by
  unfold toks at h
  rw [List.mem_append, not_or] at h
  unfold updR
  have h1 : r.add.find? (fun x => x.1 == n) = none := by
    rw [List.find?_eq_none]
    intro x hx he
    exact h.2 (List.mem_map.2 ⟨x, hx, by simpa using he⟩)
  have h2 : r.del.any (fun x => x.1 == n) = false := by
    rw [List.any_eq_false]
    intro x hx he
    exact h.1 (List.mem_map.2 ⟨x, hx, by simpa using he⟩)
  rw [h1, h2]
  rfl
theorem updR_hit {R R' : Toks} {r : Rec} {n : Nat} (h : n ∈ toks r) : updR R r n = updR R' r n := by
  unfold toks at h
  unfold updR
  cases h1 : r.add.find? (fun x => x.1 == n) with
  | some x => rfl
  | none =>
    have h2 : r.del.any (fun x => x.1 == n) = true := by
      rw [List.mem_append] at h
      rcases h with h | h
      · obtain ⟨x, hx, he⟩ := List.mem_map.1 h
        exact List.any_eq_true.2 ⟨x, hx, by simpa using he⟩
      · obtain ⟨x, hx, he⟩ := List.mem_map.1 h
        rw [List.find?_eq_none] at h1
        exact absurd (by simpa using he) (h1 x hx)
    simp [h2]
theorem runR_at (b : Nat → Bool) (n : Nat) : ∀ (zs : List Z) (k : Nat) (f : Toks), (∀ j z, zs[j]? = some z → b (k + j) = true → n ∉ toks z.2) → runR b k zs f n = f n
  | [], _, _, _ => rfl
  | z :: zs, k, f, h => by
    simp only [runR]
    rw [runR_at b n zs (k + 1) _ (fun j y hy hb => h (j + 1) y (by simpa using hy) (by rwa [show k + (j + 1) = k + 1 + j by omega]))]
    split
    · rename_i hb
      exact updR_miss (h 0 z rfl (by simpa using hb))
    · rfl
theorem runR_all (b : Nat → Bool) (n : Nat) : ∀ (zs : List Z) (k : Nat) (f g : Toks), (∀ j z, zs[j]? = some z → b (k + j) = false → n ∉ toks z.2) → f n = g n →
    runR b k zs f n = runR (fun _ => true) k zs g n
  | [], _, _, _, _, h => h
  | z :: zs, k, f, g, h, hfg => by
    simp only [runR]
    refine runR_all b n zs (k + 1) _ _ (fun j y hy hb => h (j + 1) y (by simpa using hy) (by rwa [show k + (j + 1) = k + 1 + j by omega])) ?_
    by_cases hb : b k = true
    · simp only [hb, if_true]
      by_cases hn : n ∈ toks z.2
      · exact updR_hit hn
      · rw [updR_miss hn, updR_miss hn, hfg]
    · rw [if_neg hb]
      simp only [if_true]
      rw [updR_miss (h 0 z rfl (by simpa using hb)), ← hfg]
/-- one more operation, taken out of its turn -/
theorem runF_late (b : Nat → Bool) (d : Option Nat) (p : Pred) : ∀ (zs : List Z) (k : Nat) (f : Nat → Option Pred), (∀ j z, zs[j]? = some z → b (k + j) = true → sameDst d z.1.dst = false) →
    runF b k zs (updFn f d p) = updFn (runF b k zs f) d p
  | [], _, _, _ => rfl
  | z :: zs, k, f, h => by
    simp only [runF]
    rw [← runF_late b d p zs (k + 1) _ (fun j y hy hb => h (j + 1) y (by simpa using hy) (by rwa [show k + (j + 1) = k + 1 + j by omega]))]
    by_cases hb : b k = true
    · simp only [hb, if_true]
      congr 1
      have h0 := h 0 z rfl (by simpa using hb)
      funext t
      unfold updFn
      by_cases h1 : d = some t
      · by_cases h2 : z.1.dst = some t
        · rw [h1, h2] at h0; simp [sameDst] at h0
        · simp [h1, h2]
      · simp [h1]
    · simp [hb]
theorem runR_late (b : Nat → Bool) (r : Rec) : ∀ (zs : List Z) (k : Nat) (f : Toks), (∀ j z, zs[j]? = some z → b (k + j) = true → ∀ n ∈ toks r, n ∉ toks z.2) →
    runR b k zs (updR f r) = updR (runR b k zs f) r
  | [], _, _, _ => rfl
  | z :: zs, k, f, h => by
    simp only [runR]
    rw [← runR_late b r zs (k + 1) _ (fun j y hy hb => h (j + 1) y (by simpa using hy) (by rwa [show k + (j + 1) = k + 1 + j by omega]))]
    by_cases hb : b k = true
    · simp only [hb, if_true]
      congr 1
      have h0 := h 0 z rfl (by simpa using hb)
      funext n
      by_cases h1 : n ∈ toks r
      · rw [updR_miss (h0 n h1), updR_hit (R' := updR f z.2) h1]
      · by_cases h2 : n ∈ toks z.2
        · rw [updR_miss (R := updR f z.2) h1, updR_hit (R' := f) h2]
        · rw [updR_miss h2, updR_miss h1, updR_miss h1, updR_miss h2]
    · simp [hb]
structure Con (P : Program) (n N : Nat) (ops : Array Oper) (Q : Exit → Act → World → Prop) (f : Nat → Option Pred) (R : Toks) (z : Z) : Prop where
  loc : Loc n N (Exec P ops Q z.1) z.1.dst z.2
  d : ∀ d, z.1.dst = some d → d < n
  rd : ∀ x ∈ z.2.rd, f x.1 = some x.2
  use : ∀ x ∈ z.2.use, R x.1 = some x.2
  del : ∀ x ∈ z.2.del, R x.1 = some x.2
  add : ∀ x ∈ z.2.add, R x.1 = none ∨ z.2.del.any (fun y => y.1 == x.1) = true
theorem LexOK.con {P : Program} {n N : Nat} {ops : Array Oper} {Q : Exit → Act → World → Prop} {Rf : Toks} {l : List Oper} {F F' : Fr} {L L' : Tk} {rs : List Rec}
    (hl : LexOK P n N ops Q Rf l F L rs F' L') : (∀ k,
      runF (fun _ => true) k (l.zip rs) (lk F) = lk F' ∧ runR (fun _ => true) k (l.zip rs) (tkf L Rf) = tkf L' Rf ∧
      ∀ i z, (l.zip rs)[i]? = some z → Con P n N ops Q (runF (fun _ => true) k ((l.zip rs).take i) (lk F)) (runR (fun _ => true) k ((l.zip rs).take i) (tkf L Rf)) z) ∧
      l.length = rs.length := by
  induction hl with
  | nil F L => exact ⟨fun k => ⟨rfl, rfl, fun i z h => by simp at h⟩, rfl⟩
  | @cons o l F F' L L' r rs hloc hd hrd huse hdel hadd hl ih =>
    refine ⟨fun k => ?_, by simp [ih.2]⟩
    have ih' := ih.1 (k + 1)
    rw [lk_setF, tkf_updL] at ih'
    simp only [List.zip_cons_cons, runF, runR, if_true]
    refine ⟨ih'.1, ih'.2.1, fun i z hz => ?_⟩
    cases i with
    | zero =>
      simp at hz
      subst hz
      exact ⟨hloc, hd, hrd, huse, hdel, hadd⟩
    | succ i =>
      simp only [List.take_succ_cons, runF, runR, if_true]
      exact ih'.2.2 i z (by simpa using hz)
def unl (listed : Array Bool) : Nat → Nat
  | 0 => 0
  | m + 1 => unl listed m + if listed.getD m true = false then 1 else 0
theorem getD_set (listed : Array Bool) (i j : Nat) (hi : i < listed.size) : (listed.setIfInBounds i true).getD j true = if i = j then true else listed.getD j true := by
  simp only [Array.getD_eq_getD_getElem?, Array.getElem?_setIfInBounds]
  by_cases h : i = j
  · subst h; simp [hi]
  · simp [h]
theorem unl_set (listed : Array Bool) (i : Nat) (hi : i < listed.size) (hf : listed.getD i true = false) : ∀ m, unl (listed.setIfInBounds i true) m + (if i < m then 1 else 0) = unl listed m
  | 0 => by simp [unl]
  | m + 1 => by
    have ih := unl_set listed i hi hf m
    simp only [unl, getD_set listed i m hi]
    by_cases him : i = m
    · subst him
      simp [hf] at ih ⊢
      omega
    · simp only [him, if_false]
      by_cases h : i < m
      · simp only [h, if_true, show i < m + 1 by omega] at ih ⊢
        omega
      · simp only [h, if_false, show ¬ i < m + 1 by omega] at ih ⊢
        omega
theorem unl_zero (listed : Array Bool) : ∀ m, unl listed m = 0 → ∀ i, i < m → listed.getD i true = true
  | 0, _, i, hi => by omega
  | m + 1, h, i, hi => by
    simp only [unl] at h
    by_cases him : i = m
    · subst him
      cases hb : listed.getD i true with
      | true => rfl
      | false => rw [hb] at h; simp at h
    · exact unl_zero listed m (by omega) i (by omega)
theorem least_unlisted (listed : Array Bool) : ∀ m, (∃ i, i < m ∧ listed.getD i true = false) → ∃ i, i < m ∧ listed.getD i true = false ∧ ∀ j, j < i → listed.getD j true = true
  | 0, ⟨i, hi, _⟩ => by omega
  | m + 1, ⟨i, hi, hf⟩ => by
    by_cases h : ∃ i, i < m ∧ listed.getD i true = false
    · obtain ⟨k, hk, h1, h2⟩ := least_unlisted listed m h
      exact ⟨k, by omega, h1, h2⟩
    · refine ⟨i, hi, hf, fun j hj => ?_⟩
      cases hb : listed.getD j true with
      | true => rfl
      | false => exact absurd ⟨j, by omega, hb⟩ h
structure Inv (zs : List Z) (n N : Nat) (f0 : Nat → Option Pred) (R0 : Toks) (σ0 : Sg) (listed : Array Bool) (σ : Sg) (a : Act) (W : World) : Prop where
  size : listed.size = zs.length
  closed : Closed zs (fun i => listed.getD i true)
  holds : Holds n (runF (fun i => listed.getD i true) 0 zs f0) (runR (fun i => listed.getD i true) 0 zs R0) σ a W
  fresh : ∀ i z, zs[i]? = some z → listed.getD i true = false → ∀ k ∈ z.2.new, σ.ρ (N, k) = none
  le : Le σ0 σ
  keep : Keep N (zs.flatMap (·.2.new)) σ0 σ
theorem meets_false {l m : List Nat} (h : meets l m = false) : ∀ n ∈ l, n ∉ m := by
  intro n hn hm
  unfold meets at h
  rw [List.any_eq_false] at h
  have := h n hn
  rw [List.any_eq_true] at this
  exact this ⟨n, hm, Nat.beq_refl n⟩
structure Apart (x y : Z) : Prop where
  h1 : ∀ t, x.1.dst = some t → ∀ u ∈ y.2.rd, u.1 ≠ t
  h2 : ∀ t, y.1.dst = some t → ∀ u ∈ x.2.rd, u.1 ≠ t
  h3 : sameDst x.1.dst y.1.dst = false
  h4 : ∀ n ∈ toks x.2, n ∉ toks y.2
  h5 : ∀ n ∈ toks x.2, n ∉ y.2.use.map (·.1)
  h6 : ∀ n ∈ x.2.use.map (·.1), n ∉ toks y.2
theorem hits_false {r : Rec} {d : Option Nat} (h : hits r d = false) : ∀ t, d = some t → ∀ u ∈ r.rd, u.1 ≠ t := by
  intro t ht u hu he
  subst ht
  unfold hits at h
  simp only [List.any_eq_false] at h
  exact h u hu (by rw [he]; exact Nat.beq_refl t)
theorem apart_of {x y : Z} (h : conf x y = false) : Apart x y := by
  unfold conf at h
  simp only [Bool.or_eq_false_iff] at h
  obtain ⟨⟨⟨⟨⟨a, b⟩, c⟩, d⟩, e⟩, f⟩ := h
  exact ⟨hits_false a, hits_false b, c, meets_false d, meets_false e, meets_false f⟩
theorem sameDst_comm (d e : Option Nat) : sameDst d e = sameDst e d := by
  cases d <;> cases e <;> simp [sameDst]
  rename_i x y
  by_cases h : x = y
  · subst h; rfl
  · have h1 : Nat.beq x y = false := by rw [Bool.eq_false_iff]; intro hb; exact h (Nat.eq_of_beq_eq_true hb)
    have h2 : Nat.beq y x = false := by rw [Bool.eq_false_iff]; intro hb; exact h (Nat.eq_of_beq_eq_true hb).symm
    simp [h1, h2]
theorem Apart.symm {x y : Z} (h : Apart x y) : Apart y x :=
  ⟨h.h2, h.h1, by rw [sameDst_comm]; exact h.h3, fun n hn hm => h.h4 n hm hn, fun n hn hm => h.h6 n hm hn, fun n hn hm => h.h5 n hm hn⟩
theorem any_drawn {P : Program} {n N : Nat} {ops : Array Oper} {Q : Exit → Act → World → Prop} {zs : List Z} {f0 : Nat → Option Pred} {R0 : Toks} {σ0 : Sg}
    (hops : zs.map (·.1) = ops.toList) (hc : Checked zs) (hnd : (zs.flatMap (·.2.new)).Nodup)
    (hcon : ∀ i z, zs[i]? = some z → Con P n N ops Q (runF (fun _ => true) 0 (zs.take i) f0) (runR (fun _ => true) 0 (zs.take i) R0) z)
    (hQ : ∀ σ a W, Le σ0 σ → Keep N (zs.flatMap (·.2.new)) σ0 σ → Holds n (runF (fun _ => true) 0 zs f0) (runR (fun _ => true) 0 zs R0) σ a W → Q .normal a W) :
    ∀ (fuel : Nat) (listed : Array Bool) (σ : Sg) (a : Act) (W : World), Inv zs n N f0 R0 σ0 listed σ a W → unl listed zs.length ≤ fuel → wpAny P .any ops Q fuel listed a W := by
  have hsz : ops.size = zs.length := by rw [← Array.length_toList, ← hops, List.length_map]
  have hop : ∀ (i : Nat) (z : Z), zs[i]? = some z → ops[i]? = some z.1 := by
    intro i z hz
    rw [← Array.getElem?_toList, ← hops, List.getElem?_map, hz]
    rfl
  have hzop : ∀ (i : Nat) (o : Oper), ops[i]? = some o → ∃ r : Rec, zs[i]? = some (o, r) := by
    intro i o ho
    rw [← Array.getElem?_toList, ← hops, List.getElem?_map] at ho
    cases hz : zs[i]? with
    | none => rw [hz] at ho; simp at ho
    | some z => rw [hz] at ho; simp at ho; exact ⟨z.2, by rw [← ho]⟩
  have hdone : ∀ (listed : Array Bool) (σ : Sg) (a : Act) (W : World), Inv zs n N f0 R0 σ0 listed σ a W → (∀ i, i < zs.length → listed.getD i true = true) → Q .normal a W := by
    intro listed σ a W hI hall
    refine hQ σ a W hI.le hI.keep ?_
    have h1 := runF_congr (b := fun i => listed.getD i true) (b' := fun _ => true) zs 0 f0 (fun j hj => by simpa using hall j hj)
    have h2 := runR_congr (b := fun i => listed.getD i true) (b' := fun _ => true) zs 0 R0 (fun j hj => by simpa using hall j hj)
    rw [← h1, ← h2]
    exact hI.holds
  have hempty : ∀ (listed : Array Bool), Region.ready .any ops listed = [] → ∀ i, i < zs.length → listed.getD i true = true := by
    intro listed hr i hi
    cases hb : listed.getD i true with
    | true => rfl
    | false =>
      obtain ⟨k, hk, h1, h2⟩ := least_unlisted listed zs.length ⟨i, hi, hb⟩
      have hz : zs[k]? = some zs[k] := List.getElem?_eq_getElem hk
      have hmem : k ∈ Region.ready .any ops listed := mem_ready.2 ⟨h1, zs[k].1, hop k _ hz, fun e he hbd => by
        have hlow := hc.low k _ hz e he hbd
        have := h2 e.on hlow
        have hlt : e.on < listed.size := by
          rcases Nat.lt_or_ge e.on listed.size with h | h
          · exact h
          · exfalso
            have hk' : listed.size ≤ k := by omega
            simp [Array.getD, Nat.not_lt.2 hk'] at h1
        simp [Array.getD, hlt] at this ⊢
        exact this⟩
      rw [hr] at hmem
      cases hmem
  intro fuel
  induction fuel with
  | zero =>
    intro listed σ a W hI hu
    have hall := unl_zero listed zs.length (by omega)
    refine ⟨?_, hdone listed σ a W hI hall⟩
    cases hr : Region.ready .any ops listed with
    | nil => rfl
    | cons i rest =>
      have hm : i ∈ Region.ready .any ops listed := by rw [hr]; exact List.mem_cons_self ..
      obtain ⟨h1, o, ho, _⟩ := mem_ready.1 hm
      have hi : i < zs.length := by rw [← hsz]; exact (Array.getElem?_eq_some_iff.1 ho).1
      rw [hall i hi] at h1
      cases h1
  | succ fuel ih =>
    intro listed σ a W hI hu
    refine ⟨fun hr => hdone listed σ a W hI (hempty listed hr), fun i hi => ?_⟩
    obtain ⟨hun, o, ho, hpred⟩ := mem_ready.1 hi
    obtain ⟨r, hz⟩ := hzop i o ho
    have hlen : i < zs.length := (List.getElem?_eq_some_iff.1 hz).1
    have hil : i < listed.size := by rw [hI.size]; exact hlen
    let b : Nat → Bool := fun j => listed.getD j true
    let listed' := listed.setIfInBounds i true
    let b' : Nat → Bool := fun j => listed'.getD j true
    have hb' : ∀ j, b' j = if i = j then true else b j := fun j => getD_set listed i j hil
    have hbi : b i = false := hun
    have hcl' : Closed zs b' := by
      intro k z hk hbk e he hbd
      rw [hb'] at hbk
      by_cases hik : i = k
      · subst hik
        rw [hz] at hk
        cases hk
        have := hpred e he hbd
        rw [hb']
        split
        · rfl
        · show listed.getD e.on true = true
          simp only [Array.getD] at this ⊢
          split at this
          · rename_i h; simp [h] at this ⊢; exact this
          · cases this
      · rw [if_neg hik] at hbk
        have := hI.closed k z hk hbk e he hbd
        rw [hb']
        split
        · rfl
        · exact this
    -- what has come up and lies behind i is apart from it; what has not and lies ahead, too
    have hafter : ∀ (k : Nat) (z : Z), i < k → zs[k]? = some z → b k = true → Apart (o, r) z := by
      intro k z hik hk hbk
      apply apart_of
      cases hcf : conf (o, r) z with
      | false => rfl
      | true =>
        have : b i = true := hc.ord i k (o, r) z hik hz hk hcf b hI.closed hbk
        rw [hbi] at this
        cases this
    have hahead : ∀ (j : Nat) (x : Z), j < i → zs[j]? = some x → b j = false → Apart x (o, r) := by
      intro j x hji hj hbj
      apply apart_of
      cases hcf : conf x (o, r) with
      | false => rfl
      | true =>
        have : b' j = true := hc.ord j i x (o, r) hji hj hz hcf b' hcl' (by rw [hb']; simp)
        rw [hb', if_neg (by omega), hbj] at this
        cases this
    have hsplit : zs = zs.take i ++ (o, r) :: zs.drop (i + 1) := by
      have h1 : zs.drop i = (o, r) :: zs.drop (i + 1) := by
        rw [List.drop_eq_getElem_cons hlen]
        have := (List.getElem?_eq_some_iff.1 hz).2
        rw [this]
      rw [← h1, List.take_append_drop]
    have htl : (zs.take i).length = i := by rw [List.length_take]; omega
    have hfirst : ∀ (j : Nat) x, (zs.take i)[j]? = some x → j < i ∧ zs[j]? = some x := by
      intro j x hx
      have hj : j < (zs.take i).length := (List.getElem?_eq_some_iff.1 hx).1
      rw [htl] at hj
      exact ⟨hj, by rw [List.getElem?_take_of_lt hj] at hx; exact hx⟩
    have hlast : ∀ (j : Nat) x, (zs.drop (i + 1))[j]? = some x → zs[i + 1 + j]? = some x := by
      intro j x hx
      rwa [List.getElem?_drop] at hx
    have hF : runF b 0 zs f0 = runF b (i + 1) (zs.drop (i + 1)) (runF b 0 (zs.take i) f0) := by
      conv => lhs; rw [hsplit]
      rw [runF_append]
      simp only [runF, htl, Nat.zero_add, hbi, Bool.false_eq_true, if_false]
    have hR : runR b 0 zs R0 = runR b (i + 1) (zs.drop (i + 1)) (runR b 0 (zs.take i) R0) := by
      conv => lhs; rw [hsplit]
      rw [runR_append]
      simp only [runR, htl, Nat.zero_add, hbi, Bool.false_eq_true, if_false]
    have hbeq : ∀ j, j ≠ i → b' j = b j := fun j hj => by rw [hb', if_neg (fun e => hj e.symm)]
    have hF' : runF b' 0 zs f0 = updFn (runF b 0 zs f0) o.dst r.φ := by
      conv => lhs; rw [hsplit]
      rw [runF_append]
      simp only [runF, htl, Nat.zero_add]
      rw [hb' i]
      simp only [if_true]
      rw [runF_congr (b' := b) (zs.take i) 0 f0 (fun j hj => hbeq _ (by rw [htl] at hj; omega)), runF_congr (b' := b) (zs.drop (i + 1)) (i + 1) _ (fun j _ => hbeq _ (by omega)),
        runF_late b o.dst r.φ, hF]
      intro j z hj hbj
      exact (hafter _ z (by omega) (hlast j z hj) hbj).h3
    have hR' : runR b' 0 zs R0 = updR (runR b 0 zs R0) r := by
      conv => lhs; rw [hsplit]
      rw [runR_append]
      simp only [runR, htl, Nat.zero_add]
      rw [hb' i]
      simp only [if_true]
      rw [runR_congr (b' := b) (zs.take i) 0 R0 (fun j hj => hbeq _ (by rw [htl] at hj; omega)), runR_congr (b' := b) (zs.drop (i + 1)) (i + 1) _ (fun j _ => hbeq _ (by omega)),
        runR_late b r, hR]
      intro j z hj hbj n hn
      exact (hafter _ z (by omega) (hlast j z hj) hbj).h4 n hn
    have hc0 := hcon i (o, r) hz
    have hreadF : ∀ t p, (∀ (j : Nat) (x : Z), j < i → zs[j]? = some x → b j = false → x.1.dst ≠ some t) → (∀ (k : Nat) (z : Z), i < k → zs[k]? = some z → b k = true → z.1.dst ≠ some t) →
        runF (fun _ => true) 0 (zs.take i) f0 t = some p → runF b 0 zs f0 t = some p := by
      intro t p h1 h2 h
      rw [hF, runF_at b t _ _ _ (fun j z hj hbj => h2 _ z (by omega) (hlast j z hj) hbj),
        runF_all b t _ _ _ f0 (fun j x hj hbj => by
          obtain ⟨hji, hj'⟩ := hfirst j x hj
          exact h1 j x hji hj' (by simpa using hbj)) rfl]
      exact h
    have hreadR : ∀ m, (∀ (j : Nat) (x : Z), j < i → zs[j]? = some x → b j = false → m ∉ toks x.2) → (∀ (k : Nat) (z : Z), i < k → zs[k]? = some z → b k = true → m ∉ toks z.2) →
        runR b 0 zs R0 m = runR (fun _ => true) 0 (zs.take i) R0 m := by
      intro m h1 h2
      rw [hR, runR_at b m _ _ _ (fun j z hj hbj => h2 _ z (by omega) (hlast j z hj) hbj),
        runR_all b m _ _ _ R0 (fun j x hj hbj => by
          obtain ⟨hji, hj'⟩ := hfirst j x hj
          exact h1 j x hji hj' (by simpa using hbj)) rfl]
    have huse : ∀ x ∈ r.use, runR b 0 zs R0 x.1 = some x.2 := by
      intro x hx
      rw [hreadR x.1 (fun j y hj hy hb0 hm => (hahead j y hj hy hb0).h5 x.1 hm (List.mem_map.2 ⟨x, hx, rfl⟩))
        (fun k z hk hz' hb0 hm => (hafter k z hk hz' hb0).h6 x.1 (List.mem_map.2 ⟨x, hx, rfl⟩) hm)]
      exact hc0.use x hx
    have htoks : ∀ m, m ∈ toks r → runR b 0 zs R0 m = runR (fun _ => true) 0 (zs.take i) R0 m := by
      intro m hm
      exact hreadR m (fun j y hj hy hb0 hm' => (hahead j y hj hy hb0).h4 m hm' hm) (fun k z hk hz' hb0 hm' => (hafter k z hk hz' hb0).h4 m hm hm')
    have hdel : ∀ x ∈ r.del, runR b 0 zs R0 x.1 = some x.2 := by
      intro x hx
      rw [htoks x.1 (List.mem_append_left _ (List.mem_map.2 ⟨x, hx, rfl⟩))]
      exact hc0.del x hx
    have hadd : ∀ x ∈ r.add, runR b 0 zs R0 x.1 = none ∨ r.del.any (fun y => y.1 == x.1) = true := by
      intro x hx
      rw [htoks x.1 (List.mem_append_right _ (List.mem_map.2 ⟨x, hx, rfl⟩))]
      exact hc0.add x hx
    have hrd : ∀ x ∈ r.rd, runF b 0 zs f0 x.1 = some x.2 := by
      intro x hx
      refine hreadF x.1 x.2 (fun j y hj hy hb0 he => (hahead j y hj hy hb0).h1 _ he x hx rfl) (fun k z hk hz' hb0 he => (hafter k z hk hz' hb0).h2 _ he x hx rfl) (hc0.rd x hx)
    have hstep := Holds.step (K := wpAny P .any ops Q fuel listed') hc0.loc hc0.d hI.holds hrd huse hdel hadd (fun k hk => hI.fresh i (o, r) hz hun k hk) (fun σ' a' W' hle hkeep hh => by
      refine ih listed' σ' a' W' ⟨by simp [listed', hI.size], hcl', ?_, ?_, hI.le.trans hle, ?_⟩ ?_
      · show Holds n (runF b' 0 zs f0) (runR b' 0 zs R0) σ' a' W'
        rw [hF', hR']
        exact hh
      · intro k z hk hbk m hm
        have hki : k ≠ i := fun e => by subst e; have : b' k = false := hbk; rw [hb'] at this; simp at this
        have hbk' : b k = false := by rw [← hbeq k hki]; exact hbk
        rw [hkeep (N, m) (Nat.le_refl _) ?_]
        · exact hI.fresh k z hk hbk' m hm
        · intro m' hm' he
          cases he
          -- new numbers are distinct
          have hdis : ∀ (p q : Nat) (x y : Z), p < q → zs[p]? = some x → zs[q]? = some y → m ∈ x.2.new → m ∈ y.2.new → False := by
            intro p q x y hpq hx hy hmx hmy
            have hq : q < zs.length := (List.getElem?_eq_some_iff.1 hy).1
            have e : zs = zs.take q ++ zs.drop q := (List.take_append_drop q zs).symm
            rw [e, List.flatMap_append] at hnd
            refine (List.nodup_append.1 hnd).2.2 m ?_ m ?_ rfl
            · refine List.mem_flatMap.2 ⟨x, ?_, hmx⟩
              exact List.mem_of_getElem? (i := p) (by rw [List.getElem?_take_of_lt hpq]; exact hx)
            · refine List.mem_flatMap.2 ⟨y, ?_, hmy⟩
              exact List.mem_of_getElem? (i := 0) (by rw [List.getElem?_drop]; simpa using hy)
          rcases Nat.lt_or_ge k i with h | h
          · exact hdis k i z (o, r) h hk hz hm hm'
          · exact hdis i k (o, r) z (by omega) hz hk hm' hm
      · intro id hid hk
        rw [hkeep id hid (fun k hk' => hk k (List.mem_flatMap.2 ⟨(o, r), List.mem_of_getElem? hz, hk'⟩))]
        exact hI.keep id hid hk
      · have := unl_set listed i hil hun zs.length
        simp only [hlen, if_true] at this
        show unl (listed.setIfInBounds i true) zs.length ≤ fuel
        omega)
    unfold wpOp
    rw [ho]
    exact hstep
/-- **a region whose order is drawn** -/
theorem LexOK.drawn {P : Program} {n N : Nat} {ops : Array Oper} {Q : Exit → Act → World → Prop} {Rf : Toks} {F F' : Fr} {L L' : Tk} {rs : List Rec} {id : Nat}
    (hm : P.follows .mixedOrders = true) (hl : LexOK P n N ops Q Rf ops.toList F L rs F' L') (hnd : (rs.flatMap (·.new)).Nodup) (hc : chk ops.toList rs = true)
    {σ : Sg} {a : Act} {W : World} (h : Holds n (lk F) (tkf L Rf) σ a W) (hfr : Fresh N (rs.flatMap (·.new)) σ)
    (hQ : ∀ σ' a' W', Le σ σ' → Keep N (rs.flatMap (·.new)) σ σ' → Holds n (lk F') (tkf L' Rf) σ' a' W' → Q .normal a' W') : (Code.region id ops true).wp P Q a W := by
  obtain ⟨hcon, hlen⟩ := hl.con
  have hcon := hcon 0
  have hfm : (ops.toList.zip rs).flatMap (·.2.new) = rs.flatMap (·.new) := by
    have : rs = (ops.toList.zip rs).map (·.2) := by
      rw [List.map_snd_zip]
      omega
    conv => rhs; rw [this]
    rw [List.flatMap_map]
  have hmap : (ops.toList.zip rs).map (·.1) = ops.toList := by
    rw [List.map_fst_zip]
    omega
  refine wp_region_any hm ?_
  have hzl : (ops.toList.zip rs).length = ops.size := by rw [← Array.length_toList, ← hmap, List.length_map, hmap]
  refine any_drawn (σ0 := σ) (f0 := lk F) (R0 := tkf L Rf) hmap (chk_spec hc) (by rw [hfm]; exact hnd) (fun i z hz => hcon.2.2 i z hz) ?_ ops.size _ σ a _ ?_ ?_
  · intro σ' a' W' hle hkeep hh
    rw [hfm] at hkeep
    rw [hcon.1, hcon.2.1] at hh
    exact hQ σ' a' W' hle hkeep hh
  · have hall : ∀ i, i < ops.size → (Array.replicate ops.size false).getD i true = false := by
      intro i hi
      simp [Array.getD, hi]
    have hrF : ∀ (zs : List Z) (k : Nat) (f : Nat → Option Pred) (b : Nat → Bool), (∀ j, j < zs.length → b (k + j) = false) → runF b k zs f = f := by
      intro zs
      induction zs with
      | nil => intro k f b _; rfl
      | cons z zs ih =>
        intro k f b hb
        simp only [runF]
        have h0 := hb 0 (by simp)
        simp only [Nat.add_zero] at h0
        rw [h0, if_neg (by simp)]
        exact ih (k + 1) f b (fun j hj => by have := hb (j + 1) (by simp; omega); rwa [show k + (j + 1) = k + 1 + j by omega] at this)
    have hrR : ∀ (zs : List Z) (k : Nat) (f : Toks) (b : Nat → Bool), (∀ j, j < zs.length → b (k + j) = false) → runR b k zs f = f := by
      intro zs
      induction zs with
      | nil => intro k f b _; rfl
      | cons z zs ih =>
        intro k f b hb
        simp only [runR]
        have h0 := hb 0 (by simp)
        simp only [Nat.add_zero] at h0
        rw [h0, if_neg (by simp)]
        exact ih (k + 1) f b (fun j hj => by have := hb (j + 1) (by simp; omega); rwa [show k + (j + 1) = k + 1 + j by omega] at this)
    refine ⟨by rw [hzl]; simp, ?_, ?_, ?_, Le.refl σ, fun _ _ _ => rfl⟩
    · intro i z hz hb
      have hi : i < ops.size := by rw [← hzl]; exact (List.getElem?_eq_some_iff.1 hz).1
      simp only [hall i hi] at hb
      cases hb
    · rw [hrF _ _ _ _ (fun j hj => by simpa using hall j (by rw [hzl] at hj; exact hj)), hrR _ _ _ _ (fun j hj => by simpa using hall j (by rw [hzl] at hj; exact hj))]
      exact ⟨h.size, h.defers, h.mod.drew, h.fr⟩
    · intro i z hz _ k hk
      refine hfr k ?_
      rw [← hfm]
      exact List.mem_flatMap.2 ⟨z, List.mem_of_getElem? hz, hk⟩
  · have : ∀ m, unl (Array.replicate ops.size false) m ≤ m := by
      intro m
      induction m with
      | zero => simp [unl]
      | succ m ih => simp only [unl]; split <;> omega
    have := this (ops.toList.zip rs).length
    omega
end Go.AL


namespace Go.AL
open Go.RowKit
def anyP : Pred := ⟨fun _ _ => True, fun _ _ _ _ _ => trivial⟩
def eqP (x : Value) : Pred := ⟨fun _ v => v = x, fun _ _ _ _ h => h⟩
/-- a bool of which something is known -/
def bP (φ : Bool → Prop) : Pred := ⟨fun _ v => ∃ b, v = .bool b ∧ φ b, fun _ _ _ _ h => h⟩
def Pred.cell (p : Pred) (σ : Sg) (u : Value) : Prop := p.h σ u ∧ u.oneCell' = true
theorem Pred.cell.mono {p : Pred} {σ τ : Sg} {u : Value} (h : p.cell σ u) (hle : Le σ τ) : p.cell τ u := ⟨p.m _ _ _ hle h.1, h.2⟩
/-- a list of cells -/
def Vs (σ : Sg) (ps : List Pred) (vs : List Value) : Prop := vs.length = ps.length ∧ ∀ (j : Nat) (p : Pred) (u : Value), ps[j]? = some p → vs[j]? = some u → p.cell σ u
theorem Vs.mono {σ τ : Sg} {ps : List Pred} {vs : List Value} (h : Vs σ ps vs) (hle : Le σ τ) : Vs τ ps vs := ⟨h.1, fun j p u hp hu => (h.2 j p u hp hu).mono hle⟩
/-- immutable cells -/
def Cs (σ : Sg) (b off : Nat) (ps : List Pred) : Prop := ∀ (j : Nat) (p : Pred), ps[j]? = some p → ∃ u, σ.c b (off + j) = some u ∧ p.cell σ u
theorem Cs.mono {σ τ : Sg} {b off : Nat} {ps : List Pred} (h : Cs σ b off ps) (hle : Le σ τ) : Cs τ b off ps := fun j p hp => by
  obtain ⟨u, hu, hc⟩ := h j p hp
  exact ⟨u, hle.c _ _ _ hu, hc.mono hle⟩
def ptrP (id : Id) (off : Nat) : Pred := ⟨fun σ v => ∃ b, σ.ρ id = some (some b) ∧ v = .pointer (some ⟨b, off, none⟩), fun _ _ _ hle ⟨b, hb, hv⟩ => ⟨b, hle.ρ _ _ hb, hv⟩⟩
def cellsP (ps : List Pred) : Pred := ⟨fun σ v => ∃ b off, v = .pointer (some ⟨b, off, none⟩) ∧ Cs σ b off ps, fun _ _ _ hle ⟨b, off, hv, hc⟩ => ⟨b, off, hv, hc.mono hle⟩⟩
def aggP (ps : List Pred) : Pred := ⟨fun σ v => ∃ cs : List Value, v = .agg cs.toArray ∧ Vs σ ps cs, fun _ _ _ hle ⟨cs, hv, h⟩ => ⟨cs, hv, h.mono hle⟩⟩
/-- results of several parts -/
def tupP (ps : List Pred) : Pred := ⟨fun σ v => ∃ cs : List Value, v = .tuple cs.toArray ∧ cs.length = ps.length ∧ ∀ (j : Nat) (p : Pred) (u : Value), ps[j]? = some p → cs[j]? = some u → p.h σ u,
  fun _ _ _ hle ⟨cs, hv, hl, h⟩ => ⟨cs, hv, hl, fun j p u hp hu => p.m _ _ _ hle (h j p u hp hu)⟩⟩
/-- a slice that reads as a list: element x has the cells f x, n of them -/
def slP {α : Type} (f : α → List Pred) (n : Nat) (xs : List α) : Pred :=
  ⟨fun σ v => ∃ a cap, v = .slice a xs.length cap ∧ xs.length ≤ cap ∧ cap ≤ maxLen ∧ (0 < xs.length → ∃ b off, a = some ⟨b, off, none⟩ ∧ ∀ (i : Nat) (x : α), xs[i]? = some x → Cs σ b (off + i * n) (f x)),
   fun _ _ _ hle ⟨a, cap, hv, h1, h2, h3⟩ => ⟨a, cap, hv, h1, h2, fun h => by
     obtain ⟨b, off, ha, hc⟩ := h3 h
     exact ⟨b, off, ha, fun i x hx => (hc i x hx).mono hle⟩⟩⟩
/-- a slice that the call owns: it may be appended to in place -/
def rowP {α : Type} (id : Id) (f : α → List Pred) (n : Nat) (xs : List α) : Pred :=
  ⟨fun σ v => (v = .slice none 0 0 ∧ xs = []) ∨
     ∃ b, v = .slice (some ⟨b, 0, none⟩) xs.length (σ.z id) ∧ σ.ρ id = some (some b) ∧ xs.length ≤ σ.z id ∧ σ.z id ≤ maxLen ∧ ∀ (i : Nat) (x : α), xs[i]? = some x → Cs σ b (i * n) (f x),
   fun σ τ v hle h => by
     rcases h with h | ⟨b, hv, hb, h1, h2, h3⟩
     · exact .inl h
     · refine .inr ⟨b, ?_, hle.ρ _ _ hb, ?_, ?_, fun i x hx => (h3 i x hx).mono hle⟩ <;> rw [hle.z _ _ hb] <;> assumption⟩
/-- a slice over a block of the call's own (its cells may be written) -/
def mslP (id : Id) (off len cap : Nat) : Pred := ⟨fun σ v => ∃ b, σ.ρ id = some (some b) ∧ v = .slice (some ⟨b, off, none⟩) len cap, fun _ _ _ hle ⟨b, hb, hv⟩ => ⟨b, hle.ρ _ _ hb, hv⟩⟩
/-- a block of the call's own: all its cells -/
def blkX (κ : Nat) (T : TypeId) (ps : List Pred) : Res :=
  ⟨fun σ id b o => ∃ cs rest : List Value, o = .cells (cs ++ rest).toArray T (0, 0) ∧ Vs σ ps cs ∧ (κ ≠ 0 → (cs ++ rest).length = σ.z id * κ) ∧ ∀ i, σ.c b i = none,
   fun _ _ _ _ _ hle hb hc ⟨cs, rest, ho, hv, hz, hn⟩ => ⟨cs, rest, ho, hv.mono hle, fun h => by rw [hle.z _ _ hb]; exact hz h, fun i => (hc i).trans (hn i)⟩⟩
abbrev blk (T : TypeId) (ps : List Pred) : Res := blkX 0 T ps
/-- the right to append: the cells from the m-th on are nobody's (an element has n cells) -/
def tail (T : TypeId) (n m : Nat) : Res :=
  ⟨fun σ id b o => ∃ cs : List Value, o = .cells cs.toArray T (0, 0) ∧ cs.length = σ.z id * n ∧ ∀ i, m ≤ i → σ.c b i = none,
   fun _ _ _ _ _ hle hb hc ⟨cs, ho, hv, hn⟩ => ⟨cs, ho, by rw [hle.z _ _ hb]; exact hv, fun i hi => (hc i).trans (hn i hi)⟩⟩
def Ent (p q : Pred) : Prop := ∀ σ v, p.h σ v → q.h σ v
theorem Ent.refl (p : Pred) : Ent p p := fun _ _ h => h
theorem Ent.of_eq {p q : Pred} (h : p = q) : Ent p q := h ▸ Ent.refl p
theorem Ent.trans {p q r : Pred} (h : Ent p q) (k : Ent q r) : Ent p r := fun σ v x => k σ v (h σ v x)
theorem Ent.any (p : Pred) : Ent p anyP := fun _ _ _ => trivial
inductive Ents : List Pred → List Pred → Prop
  | nil : Ents [] []
  | cons {p q : Pred} {ps qs : List Pred} (h : Ent p q) (t : Ents ps qs) : Ents (p :: ps) (q :: qs)
theorem Ents.refl : ∀ ps : List Pred, Ents ps ps
  | [] => .nil
  | p :: ps => .cons (Ent.refl p) (Ents.refl ps)
theorem Ents.length {ps qs : List Pred} (h : Ents ps qs) : ps.length = qs.length := by
  induction h with
  | nil => rfl
  | cons _ _ ih => simp [ih]
theorem Ents.at_ {ps qs : List Pred} (h : Ents ps qs) : ∀ (j : Nat) (q : Pred), qs[j]? = some q → ∃ p, ps[j]? = some p ∧ Ent p q := by
  induction h with
  | nil => intro j q hq; simp at hq
  | @cons p q' ps qs h t ih =>
    intro j q hq
    cases j with
    | zero => simp at hq; subst hq; exact ⟨p, by simp, h⟩
    | succ j => obtain ⟨p', hp', he⟩ := ih j q (by simpa using hq); exact ⟨p', by simpa using hp', he⟩
theorem Vs.ents {σ : Sg} {ps qs : List Pred} {vs : List Value} (h : Vs σ ps vs) (he : Ents ps qs) : Vs σ qs vs := by
  refine ⟨h.1.trans he.length, fun j q u hq hu => ?_⟩
  obtain ⟨p, hp, hpq⟩ := he.at_ j q hq
  have := h.2 j p u hp hu
  exact ⟨hpq _ _ this.1, this.2⟩
theorem Ent.agg {ps qs : List Pred} (h : Ents ps qs) : Ent (aggP ps) (aggP qs) := fun _ _ ⟨cs, hv, hc⟩ => ⟨cs, hv, hc.ents h⟩
theorem Ent.tup {ps qs : List Pred} (h : Ents ps qs) : Ent (tupP ps) (tupP qs) := fun _ _ ⟨cs, hv, hl, hc⟩ => ⟨cs, hv, hl.trans h.length, fun j q u hq hu => by
  obtain ⟨p, hp, hpq⟩ := h.at_ j q hq
  exact hpq _ _ (hc j p u hp hu)⟩
theorem Ent.row {α : Type} (id : Id) (f : α → List Pred) (n : Nat) (xs : List α) : Ent (rowP id f n xs) (slP f n xs) := by
  rintro σ v (⟨rfl, rfl⟩ | ⟨b, rfl, hb, h1, h2, h3⟩)
  · exact ⟨none, 0, rfl, Nat.le_refl _, by simp [maxLen], fun h => by simp at h⟩
  · exact ⟨_, _, rfl, h1, h2, fun _ => ⟨b, 0, rfl, fun i x hx => by simpa using h3 i x hx⟩⟩
theorem Ent.nil {α : Type} (f : α → List Pred) (n : Nat) : Ent (eqP (.slice none 0 0)) (slP f n []) := fun _ _ h => ⟨none, 0, h, by simp, by simp [maxLen], fun h => by simp at h⟩
theorem Ent.sl {α β : Type} {f : α → List Pred} {g : β → List Pred} {n : Nat} {xs : List α} {ys : List β} (h : xs.length = ys.length)
    (he : ∀ (i : Nat) (x : α) (y : β), xs[i]? = some x → ys[i]? = some y → Ents (f x) (g y)) : Ent (slP f n xs) (slP g n ys) := by
  rintro σ v ⟨a, cap, hv, h1, h2, h3⟩
  refine ⟨a, cap, by rw [← h]; exact hv, by rw [← h]; exact h1, h2, fun hp => ?_⟩
  obtain ⟨b, off, ha, hc⟩ := h3 (by omega)
  refine ⟨b, off, ha, fun i y hy => ?_⟩
  have hi : i < xs.length := by rw [h]; exact (List.getElem?_eq_some_iff.1 hy).1
  have hx : xs[i]? = some xs[i] := List.getElem?_eq_getElem hi
  intro j q hq
  obtain ⟨p, hp, hpq⟩ := (he i _ y hx hy).at_ j q hq
  obtain ⟨u, hu, hcu⟩ := hc i _ hx j p hp
  exact ⟨u, hu, hpq _ _ hcu.1, hcu.2⟩
theorem Ent.bool {b : Bool} {φ : Bool → Prop} (h : φ b) : Ent (eqP (.bool b)) (bP φ) := fun _ _ e => ⟨b, e, h⟩
theorem Ent.cells {ps qs : List Pred} (h : Ents ps qs) : Ent (cellsP ps) (cellsP qs) := by
  rintro σ v ⟨b, off, hv, hc⟩
  refine ⟨b, off, hv, fun j q hq => ?_⟩
  obtain ⟨p, hp, hpq⟩ := h.at_ j q hq
  obtain ⟨u, hu, hcu⟩ := hc j p hp
  exact ⟨u, hu, hpq _ _ hcu.1, hcu.2⟩
def One (p : Pred) : Prop := ∀ σ v, p.h σ v → v.oneCell' = true
theorem One.eq {x : Value} (h : x.oneCell' = true) : One (eqP x) := fun _ _ e => by cases e; exact h
theorem One.b (φ : Bool → Prop) : One (bP φ) := fun _ _ ⟨_, h, _⟩ => by subst h; rfl
theorem One.ptr (id : Id) (off : Nat) : One (ptrP id off) := fun _ _ ⟨_, _, h⟩ => by subst h; rfl
theorem One.cells (ps : List Pred) : One (cellsP ps) := fun _ _ ⟨_, _, h, _⟩ => by subst h; rfl
theorem One.sl {α : Type} (f : α → List Pred) (n : Nat) (xs : List α) : One (slP f n xs) := fun _ _ ⟨_, _, h, _⟩ => by subst h; rfl
theorem One.row {α : Type} (id : Id) (f : α → List Pred) (n : Nat) (xs : List α) : One (rowP id f n xs) := by
  rintro σ v (⟨rfl, _⟩ | ⟨b, rfl, _⟩) <;> rfl
theorem One.msl (id : Id) (off len cap : Nat) : One (mslP id off len cap) := fun _ _ ⟨_, _, h⟩ => by subst h; rfl
theorem Models.ptr_lt {σ : Sg} {R : Toks} {W : World} (h : Models σ R W) {n : Nat} {id : Id} {r : Res} {b : Nat} (hn : R n = some (id, r)) (hb : σ.ρ id = some (some b)) : b < W.heap.size := by
  obtain ⟨_, o, ho, _⟩ := h.res n id r hn b hb
  exact (Array.getElem?_eq_some_iff.1 ho).1
theorem Models.imm_lt {σ : Sg} {R : Toks} {W : World} (h : Models σ R W) {b i : Nat} {v : Value} (hc : σ.c b i = some v) : b < W.heap.size := block_lt_of_cell (h.imm b i v hc)
/-- σ with one id more -/
def bind (σ : Sg) (id : Id) (b : Option Nat) (z : Nat) : Sg := { σ with ρ := fun i => if i = id then some b else σ.ρ i, z := fun i => if i = id then z else σ.z i }
theorem le_bind {σ : Sg} {id : Id} {b : Option Nat} {z : Nat} (h : σ.ρ id = none) : Le σ (bind σ id b z) :=
  ⟨rfl, rfl, fun i x hx => by
    have : i ≠ id := fun e => by subst e; rw [h] at hx; cases hx
    simpa [bind, this] using hx, fun i x hx => by
    have : i ≠ id := fun e => by subst e; rw [h] at hx; cases hx
    simp [bind, this], fun _ _ _ h => h⟩
theorem bind_at (σ : Sg) (id : Id) (b : Option Nat) (z : Nat) : (bind σ id b z).ρ id = some b := by simp [bind]
theorem bind_z (σ : Sg) (id : Id) (b : Option Nat) (z : Nat) : (bind σ id b z).z id = z := by simp [bind]
theorem bind_ne (σ : Sg) (id i : Id) (b : Option Nat) (z : Nat) (h : i ≠ id) : (bind σ id b z).ρ i = σ.ρ i := by simp [bind, h]
theorem keep_bind {σ : Sg} {N k z : Nat} {b : Option Nat} : Keep N [k] σ (bind σ (N, k) b z) := fun id _ hk => bind_ne _ _ _ _ _ (hk k (by simp))
/-- immutable cells added -/
def addC (σ : Sg) (c : Nat → Nat → Option Value) : Sg := { σ with c := fun b i => (σ.c b i).or (c b i) }
theorem le_addC (σ : Sg) (c : Nat → Nat → Option Value) : Le σ (addC σ c) :=
  ⟨rfl, rfl, fun _ _ h => h, fun _ _ _ => rfl, fun b i v h => by simp [addC, h]⟩
theorem addC_new {σ : Sg} {c : Nat → Nat → Option Value} {b i : Nat} (h : σ.c b i = none) : (addC σ c).c b i = c b i := by simp [addC, h]
/-- THE STEP: the world moves to W', one token n is laid (anew, or in the place of the old one); what the other tokens own is untouched -/
theorem Models.move {σ τ : Sg} {R : Toks} {W W' : World} (h : Models σ R W) (hle : Le σ τ) (n : Nat) (id : Id) (r : Res)
    (hρ : ∀ i, i ≠ id → τ.ρ i = σ.ρ i) (hid : τ.ρ id ≠ none)
    (hn : R n = none ∨ ∃ r', R n = some (id, r')) (hother : ∀ m x, m ≠ n → R m = some x → x.1 ≠ id)
    (hbase : Below σ.n0 W W')
    (hblk : ∀ m x b, m ≠ n → R m = some x → σ.ρ x.1 = some (some b) → W'.heap[b]? = W.heap[b]? ∧ ∀ i, τ.c b i = σ.c b i)
    (himm : ∀ b i v, τ.c b i = some v → W'.cell? ⟨b, i, none⟩ = some v)
    (hr : ∀ b, τ.ρ id = some (some b) → σ.n0 ≤ b ∧ ∃ o, W'.heap[b]? = some o ∧ r.h τ id b o)
    (hsep : ∀ m x b, m ≠ n → R m = some x → τ.ρ id = some (some b) → σ.ρ x.1 ≠ some (some b)) :
    Models τ (fun m => if m = n then some (id, r) else R m) W' where
  base := by rw [hle.w0, hle.n0]; exact h.base.trans hbase
  n0 := by rw [hle.n0]; exact Nat.le_trans h.n0 hbase.size
  imm := himm
  res m i r' hm b hb := by
    rw [hle.n0]
    by_cases hmn : m = n
    · simp only [hmn, if_true, Option.some.injEq, Prod.mk.injEq] at hm
      obtain ⟨rfl, rfl⟩ := hm
      exact hr b hb
    · simp only [hmn, if_false] at hm
      have hne := hother m _ hmn hm
      rw [hρ i hne] at hb
      obtain ⟨h1, o, ho, hro⟩ := h.res m i r' hm b hb
      obtain ⟨h2, h3⟩ := hblk m _ b hmn hm hb
      exact ⟨h1, o, h2.trans ho, r'.m _ _ _ _ _ hle hb h3 hro⟩
  sep a m x y b ham hx hy hxb hyb := by
    by_cases han : a = n
    · by_cases hmn : m = n
      · exact ham (han.trans hmn.symm)
      · simp only [han, if_true, Option.some.injEq] at hx
        subst hx
        simp only [hmn, if_false] at hy
        rw [hρ _ (hother m y hmn hy)] at hyb
        exact hsep m y b hmn hy hxb hyb
    · simp only [han, if_false] at hx
      rw [hρ _ (hother a x han hx)] at hxb
      by_cases hmn : m = n
      · simp only [hmn, if_true, Option.some.injEq] at hy
        subst hy
        exact hsep a x b han hx hyb hxb
      · simp only [hmn, if_false] at hy
        rw [hρ _ (hother m y hmn hy)] at hyb
        exact h.sep a m x y b ham hx hy hxb hyb
  used m x hm := by
    by_cases hmn : m = n
    · simp only [hmn, if_true, Option.some.injEq] at hm
      subst hm
      exact hid
    · simp only [hmn, if_false] at hm
      rw [hρ _ (hother m x hmn hm)]
      exact h.used m x hm
  fin := by
    obtain ⟨M, hM⟩ := h.fin
    refine ⟨max M (id.1 + 1), fun N hN j => ?_⟩
    have : (N, j) ≠ id := fun e => by subst e; simp at hN; omega
    rw [hρ _ this]
    exact hM N (by omega) j
/-- a new block -/
theorem Models.alloc {σ : Sg} {R : Toks} {W : World} (h : Models σ R W) {id : Id} {z n : Nat} {r : Res} {o : Obj} (hid : σ.ρ id = none) (hn : R n = none)
    (hr : r.h (bind σ id (some W.heap.size) z) id W.heap.size o) :
    Models (bind σ id (some W.heap.size) z) (fun m => if m = n then some (id, r) else R m) (W.alloc o) := by
  refine h.move (le_bind hid) n id r (fun i hi => bind_ne _ _ _ _ _ hi) (by rw [bind_at]; simp) (.inl hn) ?_ ((Below.refl _ _).alloc h.n0 o) ?_ ?_ ?_ ?_
  · intro m x _ hm e
    subst e
    exact h.used m x hm hid
  · intro m x b _ hm hb
    exact ⟨Below.heap_alloc W o b (h.ptr_lt (r := x.2) hm hb), fun _ => rfl⟩
  · intro b i v hv
    have hlt := h.imm_lt (b := b) (i := i) (v := v) hv
    rw [World.cell?_alloc_lt W o ⟨b, i, none⟩ hlt]
    exact h.imm b i v hv
  · intro b hb
    rw [bind_at] at hb
    simp only [Option.some.injEq] at hb
    subst hb
    exact ⟨h.n0, o, heap_alloc_new W o, hr⟩
  · intro m x b _ hm hb hxb
    rw [bind_at] at hb
    simp only [Option.some.injEq] at hb
    subst hb
    have := h.ptr_lt (r := x.2) hm hxb
    omega
theorem no_imm_new {σ : Sg} {R : Toks} {W : World} (h : Models σ R W) (i : Nat) : σ.c W.heap.size i = none := by
  cases hc : σ.c W.heap.size i with
  | none => rfl
  | some v => have := h.imm_lt hc; omega
/-- a block of cells laid -/
theorem Models.box {σ : Sg} {R : Toks} {W : World} (h : Models σ R W) {id : Id} {n : Nat} {T : TypeId} {ps : List Pred} {cs : List Value} (hid : σ.ρ id = none) (hn : R n = none) (hc : Vs σ ps cs) :
    Models (bind σ id (some W.heap.size) 0) (fun m => if m = n then some (id, blk T ps) else R m) (W.alloc (.cells cs.toArray T)) :=
  h.alloc hid hn ⟨cs, [], by simp, hc.mono (le_bind hid), fun h => absurd rfl h, fun i => no_imm_new h i⟩
/-- a block of the call's own is written -/
theorem Models.write {σ : Sg} {R : Toks} {W W' : World} (h : Models σ R W) {id : Id} {n b : Nat} {κ : Nat} {T : TypeId} {ps qs : List Pred} {cs rest : List Value} (hn : R n = some (id, blkX κ T ps)) (hb : σ.ρ id = some (some b))
    (hW : W'.heap[b]? = some (.cells (cs ++ rest).toArray T (0, 0))) (hκ : κ ≠ 0 → (cs ++ rest).length = σ.z id * κ) (hother : ∀ k, k ≠ b → W'.heap[k]? = W.heap[k]?) (hsz : W'.heap.size = W.heap.size) (hos : W'.os = W.os) (htape : W'.tape = W.tape) (hout : W'.output = W.output)
    (hc : Vs σ qs cs) : Models σ (fun m => if m = n then some (id, blkX κ T qs) else R m) W' := by
  obtain ⟨hge, o, ho, cs0, rest0, rfl, hv0, hz0, hnone⟩ := h.res n id _ hn b hb
  have hne : ∀ m x, m ≠ n → R m = some x → x.1 ≠ id := by
    intro m x hmn hm e
    have := h.sep n m _ x b (fun e => hmn e.symm) hn hm hb
    rw [e] at this
    exact this hb
  refine h.move (Le.refl σ) n id _ (fun _ _ => rfl) (by rw [hb]; simp) (.inr ⟨_, hn⟩) hne ⟨hos, htape, hout, by omega, fun k hk => hother k (by omega)⟩ ?_ ?_ ?_ ?_
  · intro m x b' hmn hm hb'
    refine ⟨hother b' ?_, fun _ => rfl⟩
    intro e
    subst e
    exact h.sep n m _ x b' (fun e => hmn e.symm) hn hm hb hb'
  · intro b' i v hv
    have hbb : b' ≠ b := fun e => by subst e; rw [hnone i] at hv; cases hv
    rw [World.cell?_of_block (w := W) (a := ⟨b', i, none⟩) (hother b' hbb)]
    exact h.imm b' i v hv
  · intro b' hb'
    rw [hb] at hb'
    simp only [Option.some.injEq] at hb'
    subst hb'
    exact ⟨hge, _, hW, cs, rest, rfl, hc, hκ, hnone⟩
  · intro m x b' hmn hm hb'
    exact fun hx => h.sep n m _ x b' (fun e => hmn e.symm) hn hm hb' hx
end Go.AL


namespace Go.AL
open Go.RowKit
structure Cx where
  σ0 : Sg
  M : Nat
  ex : List Id
  Rf : Toks
  n : Nat
structure CxOK (C : Cx) : Prop where
  low : ∀ m, m < 1000000 → C.Rf m = none
def KeepB (C : Cx) (σ : Sg) : Prop := ∀ id : Id, id.1 < C.M → id ∉ C.ex → σ.ρ id = C.σ0.ρ id
def St (C : Cx) (F : Fr) (L : Tk) (a : Act) (W : World) : Prop := ∃ σ, Le C.σ0 σ ∧ KeepB C σ ∧ Holds C.n (lk F) (tkf L C.Rf) σ a W
def Post (C : Cx) (F : Fr) (L : Tk) (K : Act → World → Prop) : Prop := ∀ a W, St C F L a W → K a W
def Tr (P : Program) (C : Cx) (c : Code) (F : Fr) (L : Tk) (Q : Exit → Act → World → Prop) : Prop := Post C F L (c.wp P Q)
inductive SubF (F : Fr) : Fr → Prop
  | nil : SubF F []
  | cons {t : Nat} {p : Pred} {l : Fr} (h : lk F t = some p) (hl : SubF F l) : SubF F ((t, p) :: l)
  | ent {t : Nat} {p q : Pred} {l : Fr} (h : lk F t = some p) (he : Ent p q) (hl : SubF F l) : SubF F ((t, q) :: l)
theorem SubF.at_ {F F' : Fr} (h : SubF F F') : ∀ t q, lk F' t = some q → ∃ p, lk F t = some p ∧ Ent p q := by
  induction h with
  | nil => intro t q hq; simp [lk] at hq
  | @cons k p l hk _ ih =>
    intro t q hq
    rw [lk_cons] at hq
    split at hq
    · rename_i e; subst e; simp at hq; subst hq; exact ⟨p, hk, Ent.refl _⟩
    · exact ih t q hq
  | @ent k p p' l hk he _ ih =>
    intro t q hq
    rw [lk_cons] at hq
    split at hq
    · rename_i e; subst e; simp at hq; subst hq; exact ⟨p, hk, he⟩
    · exact ih t q hq
def lowL (L : Tk) : Bool := L.all fun x => Nat.blt x.1 1000000
inductive SubL (L : Tk) : Tk → Prop
  | nil : SubL L []
  | cons {t : Nat} {x : Id × Res} {l : Tk} (h : lk L t = some (some x)) (hl : SubL L l) : SubL L ((t, some x) :: l)
theorem lk_low {L : Tk} (h : lowL L = true) {m : Nat} (hm : 1000000 ≤ m) : lk L m = none := by
  induction L with
  | nil => rfl
  | cons x l ih =>
    obtain ⟨k, y⟩ := x
    simp only [lowL, List.all_cons, Bool.and_eq_true] at h
    have h1 : k < 1000000 := by have := Nat.le_of_ble_eq_true h.1; omega
    rw [lk_cons, if_neg (by omega)]
    exact ih h.2
theorem SubL.sub {C : Cx} (hC : CxOK C) {L L' : Tk} (h : SubL L L') (hlow : lowL L = true) : ∀ m x, tkf L' C.Rf m = some x → tkf L C.Rf m = some x := by
  induction h with
  | nil =>
    intro m x hx
    simp only [tkf, lk] at hx
    by_cases hm : m < 1000000
    · rw [hC.low m hm] at hx; cases hx
    · simp only [tkf, lk_low hlow (Nat.le_of_not_lt hm)]; exact hx
  | @cons t y l ht _ ih =>
    intro m x hx
    simp only [tkf, lk_cons] at hx
    by_cases e : t = m
    · subst e
      simp at hx
      subst hx
      simp [tkf, ht]
    · simp only [e, if_false] at hx
      exact ih m x hx
theorem St.sub {C : Cx} (hC : CxOK C) {F F' : Fr} {L L' : Tk} {a : Act} {W : World} (h : St C F L a W) (hF : SubF F F') (hL : SubL L L') (hlow : lowL L = true) : St C F' L' a W := by
  obtain ⟨σ, h1, h2, h3⟩ := h
  refine ⟨σ, h1, h2, h3.size, h3.defers, h3.mod.sub (hL.sub hC hlow), fun t q hq => ?_⟩
  obtain ⟨p, hp, he⟩ := hF.at_ t q hq
  exact he _ _ (h3.fr t p hp)
theorem Post.sub {C : Cx} (hC : CxOK C) {F F' : Fr} {L L' : Tk} {K : Act → World → Prop} (h : Post C F' L' K) (hF : SubF F F') (hL : SubL L L') (hlow : lowL L = true) : Post C F L K :=
  fun a W hs => h a W (hs.sub hC hF hL hlow)
def LexK (P : Program) (n N : Nat) (ops : Array Oper) (Q : Exit → Act → World → Prop) (Rf : Toks) (l : List Oper) (F : Fr) (L : Tk) (K : List Rec → Fr → Tk → Prop) : Prop :=
  ∃ rs F' L', LexOK P n N ops Q Rf l F L rs F' L' ∧ K rs F' L'
def nodupB : List Nat → Bool
  | [] => true
  | x :: l => !(l.any fun y => Nat.beq y x) && nodupB l
theorem nodup_of {l : List Nat} (h : nodupB l = true) : l.Nodup := by
  induction l with
  | nil => exact List.nodup_nil
  | cons x l ih =>
    simp only [nodupB, Bool.and_eq_true, Bool.not_eq_true'] at h
    refine List.nodup_cons.2 ⟨fun hx => ?_, ih h.2⟩
    rw [List.any_eq_false] at h
    exact h.1 x hx (Nat.beq_refl x)
theorem fresh_N {σ : Sg} {R : Toks} {W : World} (h : Models σ R W) (M : Nat) : ∃ N, M ≤ N ∧ ∀ k, σ.ρ (N, k) = none := by
  obtain ⟨m, hm⟩ := h.fin
  exact ⟨max M m, by omega, hm (max M m) (by omega)⟩
theorem keepB_of {C : Cx} {σ τ : Sg} {N : Nat} {ks : List Nat} (hN : C.M ≤ N) (h : KeepB C σ) (hk : Keep N ks σ τ) : KeepB C τ := fun id hid hex => by
  rw [hk id (by omega) (fun k _ e => by subst e; simp at hid; omega)]
  exact h id hid hex
/-- a region in the order of the text -/
theorem tr_region {P : Program} {C : Cx} {id : Nat} {l : List Oper} {F : Fr} {L : Tk} {Q : Exit → Act → World → Prop}
    (h : ∀ N, C.M ≤ N → LexK P C.n N l.toArray Q C.Rf l F L (fun rs F' L' => nodupB (rs.flatMap (·.new)) = true ∧ Post C F' L' (Q .normal))) : Tr P C (.region id l.toArray false) F L Q := by
  rintro a W ⟨σ, h1, h2, h3⟩
  obtain ⟨N, hN, hfr⟩ := fresh_N h3.mod C.M
  obtain ⟨rs, F', L', hl, hnd, hQ⟩ := h N hN
  refine wp_region_lit ?_
  refine hl.wpList (nodup_of hnd) h3 (fun k _ => hfr k) ?_
  intro σ' a' W' hle hkeep hh
  exact hQ a' W' ⟨σ', h1.trans hle, keepB_of hN h2 hkeep, hh⟩
/-- a region that draws its order -/
theorem tr_drawn {P : Program} {C : Cx} {id : Nat} {l : List Oper} {F : Fr} {L : Tk} {Q : Exit → Act → World → Prop} (hm : P.follows .mixedOrders = true)
    (h : ∀ N, C.M ≤ N → LexK P C.n N l.toArray Q C.Rf l F L (fun rs F' L' => (nodupB (rs.flatMap (·.new)) && chk l rs) = true ∧ Post C F' L' (Q .normal))) : Tr P C (.region id l.toArray true) F L Q := by
  rintro a W ⟨σ, h1, h2, h3⟩
  obtain ⟨N, hN, hfr⟩ := fresh_N h3.mod C.M
  obtain ⟨rs, F', L', hl, hnd, hQ⟩ := h N hN
  rw [Bool.and_eq_true] at hnd
  refine LexOK.drawn (Rf := C.Rf) (F' := F') (L' := L') hm (rs := rs) (by simpa using hl) (nodup_of hnd.1) (by simpa using hnd.2) h3 (fun k _ => hfr k) ?_
  intro σ' a' W' hle hkeep hh
  exact hQ a' W' ⟨σ', h1.trans hle, keepB_of hN h2 hkeep, hh⟩
section
variable {P : Program} {C : Cx} {F : Fr} {L : Tk} {Q : Exit → Act → World → Prop}
theorem tr_seq {x y : Code} (h : Tr P C x F L (Exit.then (y.wp P Q) Q)) : Tr P C (.seq x y) F L Q := fun a W hs => wp_seq (h a W hs)
theorem tr_skip (h : Post C F L (Q .normal)) : Tr P C .skip F L Q := fun a W hs => wp_skip (h a W hs)
theorem tr_ret (h : Post C F L (Q .ret)) : Tr P C .ret F L Q := fun a W hs => wp_ret (h a W hs)
theorem tr_exit {id : Nat} (h : Post C F L (Q (.exit id))) : Tr P C (.exit id) F L Q := fun a W hs => wp_exit (h a W hs)
theorem tr_block {id : Nat} {c : Code} (h : Tr P C c F L (Exit.inBlock id Q)) : Tr P C (.block id c) F L Q := fun a W hs => wp_block (h a W hs)
theorem tr_cond {t : Nat} {x y : Code} {b : Bool} (hb : lk F t = some (eqP (.bool b))) (ht : b = true → Tr P C x F L Q) (hf : b = false → Tr P C y F L Q) : Tr P C (.cond (.tmp t) x y) F L Q := by
  rintro a W ⟨σ, h1, h2, h3⟩
  have hv : a.eval (.tmp t) = .bool b := h3.fr t _ hb
  exact wp_cond_split hv (fun e => ht e a W ⟨σ, h1, h2, h3⟩) (fun e => hf e a W ⟨σ, h1, h2, h3⟩)
theorem tr_cond_b {t : Nat} {x y : Code} {φ : Bool → Prop} (hb : lk F t = some (bP φ)) (ht : φ true → Tr P C x F L Q) (hf : φ false → Tr P C y F L Q) : Tr P C (.cond (.tmp t) x y) F L Q := by
  rintro a W ⟨σ, h1, h2, h3⟩
  obtain ⟨b, hv, hφ⟩ := h3.fr t _ hb
  exact wp_cond_split hv (fun e => by subst e; exact ht hφ a W ⟨σ, h1, h2, h3⟩) (fun e => by subst e; exact hf hφ a W ⟨σ, h1, h2, h3⟩)
/-- a loop: 'x' is what the rounds change -/
theorem tr_loop {α : Type} {c : Code} (x0 : α) (Fi : α → Fr) (Li : α → Tk) (μ : α → Nat) (h0 : Post C F L (fun a W => St C (Fi x0) (Li x0) a W))
    (round : ∀ x, Tr P C c (Fi x) (Li x) (Exit.then (fun a W => ∃ y, μ y < μ x ∧ St C (Fi y) (Li y) a W) Q)) : Tr P C (.loop c) F L Q := by
  intro a W hs b k cs
  have key : ∀ n x, μ x = n → ∀ a w, St C (Fi x) (Li x) a w →
      ∃ e a' w', Q e a' w' ∧ Arrives P (lone (b.at a (.code c :: .inLoop c :: k)) cs w) b k cs e a' w' := by
    intro n
    induction n using Nat.strongRecOn with
    | _ n ih =>
      intro x hx a w hst
      obtain ⟨e, a1, w1, hq, harr⟩ := round x a w hst b (.inLoop c :: k) cs
      cases e with
      | normal =>
        obtain ⟨y, hy, hst'⟩ := hq
        obtain ⟨e2, a2, w2, hq2, harr2⟩ := ih (μ y) (hx ▸ hy) y rfl a1 w1 hst'
        exact ⟨e2, a2, w2, hq2, .of_steps (Steps.trans harr (.one step_inLoop)) harr2⟩
      | exit id => exact ⟨_, a1, w1, hq, .pass (x := .inLoop c) rfl (fun _ _ => .inl (by simp)) harr⟩
      | goto l => exact ⟨_, a1, w1, hq, .pass (x := .inLoop c) rfl (fun _ _ => .inl (by simp)) harr⟩
      | ret => exact ⟨_, a1, w1, hq, .pass (x := .inLoop c) rfl (fun _ _ => .inl (by simp)) harr⟩
      | panic ch => exact ⟨_, a1, w1, hq, .pass (x := .inLoop c) rfl (fun _ _ => .inl (by simp)) harr⟩
      | outgrown => exact ⟨_, a1, w1, hq, .pass (x := .inLoop c) rfl (fun _ _ => .inl (by simp)) harr⟩
  obtain ⟨e, a', w', hq, harr⟩ := key _ x0 rfl a W (h0 a W hs)
  exact ⟨e, a', w', hq, .of_steps (.one step_loop) harr⟩
theorem pe_then_normal {y : Code} {Q' : Exit → Act → World → Prop} (h : Tr P C y F L Q) : Post C F L (Exit.then (y.wp P Q) Q' .normal) := h
theorem pe_then_ret {K : Act → World → Prop} (h : Post C F L (Q .ret)) : Post C F L (Exit.then K Q .ret) := h
theorem pe_then_exit {K : Act → World → Prop} {id : Nat} (h : Post C F L (Q (.exit id))) : Post C F L (Exit.then K Q (.exit id)) := h
theorem pe_block_normal {id : Nat} (h : Post C F L (Q .normal)) : Post C F L (Exit.inBlock id Q .normal) := h
theorem pe_block_ret {id : Nat} (h : Post C F L (Q .ret)) : Post C F L (Exit.inBlock id Q .ret) := h
theorem pe_block_eq {id : Nat} (h : Post C F L (Q .normal)) : Post C F L (Exit.inBlock id Q (.exit id)) := fun a W hs => by
  show if id = id then Q .normal a W else Q (.exit id) a W
  rw [if_pos rfl]
  exact h a W hs
theorem pe_round {α : Type} {Fi : α → Fr} {Li : α → Tk} {μ : α → Nat} {n : Nat} (y : α) (hμ : μ y < n) (h : Post C F L (St C (Fi y) (Li y))) :
    Post C F L (Exit.then (fun a W => ∃ y, μ y < n ∧ St C (Fi y) (Li y) a W) Q .normal) := fun a W hs => ⟨y, hμ, h a W hs⟩
theorem pe_st {F1 : Fr} {L1 : Tk} (hC : CxOK C) (hF : SubF F F1) (hL : SubL L L1) (hlow : lowL L = true) : Post C F L (St C F1 L1) := fun _ _ hs => hs.sub hC hF hL hlow
theorem tr_sub {c : Code} {F1 : Fr} {L1 : Tk} (hC : CxOK C) (hF : SubF F F1) (hL : SubL L L1) (hlow : lowL L = true) (h : Tr P C c F1 L1 Q) : Tr P C c F L Q := Post.sub hC h hF hL hlow
end
def FnOK (P : Program) (f : FuncId) (pre : List Pred) (need : List (Id × Res)) (k : Nat) (post : (Nat → Id) → Pred) (prod : (Nat → Id) → List (Id × Res)) : Prop :=
  ∀ (σ : Sg) (W : World) (R : Toks) (args : Array Value) (ι : Nat → Id) (M : Nat), Models σ R W → (∀ n, n < 1000000 → R n = need[n]?) →
    (∀ N, M ≤ N → ∀ j, σ.ρ (N, j) = none) → (∀ j, j < k → (ι j).1 < M ∧ σ.ρ (ι j) = none) → (∀ i j, i < k → j < k → ι i = ι j → i = j) →
    args.size = pre.length → (∀ (i : Nat) (p : Pred), pre[i]? = some p → p.h σ (args.getD i undef)) →
    Calls P f args W fun e W' => ∃ v σ', e = .returned v ∧ Le σ σ' ∧ (∀ id : Id, id.1 < M → (∀ j, j < k → id ≠ ι j) → σ'.ρ id = σ.ρ id) ∧
      Models σ' (fun n => if n < 1000000 then (prod ι)[n]? else R n) W' ∧ (post ι).h σ' v
def FnP (P : Program) (f : FuncId) (pre : List Pred) (post : Pred) : Prop := FnOK P f pre [] 0 (fun _ => post) (fun _ => [])
/-- the parameters' slots -/
def frameOf : Nat → List Pred → Fr
  | _, [] => []
  | k, p :: ps => (k, p) :: frameOf (k + 1) ps
theorem lk_frameOf : ∀ (ps : List Pred) (k t : Nat), lk (frameOf k ps) t = if k ≤ t then ps[t - k]? else none
  | [], k, t => by simp [frameOf, lk]
  | p :: ps, k, t => by
    rw [frameOf, lk_cons, lk_frameOf ps (k + 1) t]
    by_cases h : k = t
    · subst h; simp
    · by_cases h1 : k ≤ t
      · rw [if_neg h, if_pos (by omega), if_pos h1, show t - k = (t - (k + 1)) + 1 by omega]
        simp
      · rw [if_neg h, if_neg (by omega), if_neg h1]
def tokOf : Nat → List (Id × Res) → Tk
  | _, [] => []
  | k, x :: l => (k, some x) :: tokOf (k + 1) l
theorem lk_tokOf : ∀ (l : List (Id × Res)) (k t : Nat), lk (tokOf k l) t = if k ≤ t then (l[t - k]?).map some else none
  | [], k, t => by simp [tokOf, lk]
  | p :: ps, k, t => by
    rw [tokOf, lk_cons, lk_tokOf ps (k + 1) t]
    by_cases h : k = t
    · subst h; simp
    · by_cases h1 : k ≤ t
      · rw [if_neg h, if_pos (by omega), if_pos h1, show t - k = (t - (k + 1)) + 1 by omega]
        simp
      · rw [if_neg h, if_neg (by omega), if_neg h1]
theorem fn_enter {P : Program} {f : FuncId} {fn : Func} {c : Code} {pre : List Pred} {need : List (Id × Res)} {k : Nat} {post : (Nat → Id) → Pred} {prod : (Nat → Id) → List (Id × Res)}
    (hf : P.funcs[f]? = some fn) (hb : fn.body = some c) (hn : pre.length ≤ fn.ntmps) (hneed : need.length ≤ 1000000)
    (h : ∀ (C : Cx) (ι : Nat → Id) (R : Ending → World → Prop), CxOK C → C.n = fn.ntmps → C.ex = (List.range k).map ι → (∀ j, j < k → C.σ0.ρ (ι j) = none) → (∀ i j, i < k → j < k → ι i = ι j → i = j) →
      (∀ v W σ, Le C.σ0 σ → KeepB C σ → Models σ (fun n => if n < 1000000 then (prod ι)[n]? else C.Rf n) W → (post ι).h σ v → R (.returned v) W) →
      Tr P C c (frameOf 0 pre) (tokOf 0 need) (bodyPost P fn R)) : FnOK P f pre need k post prod := by
  intro σ W R args ι M hmod hR hM hι hinj hsz hargs
  let C : Cx := { σ0 := σ, M := M, ex := (List.range k).map ι, Rf := fun n => if n < 1000000 then none else R n, n := fn.ntmps }
  refine calls_of_wp hf hb ?_
  refine h C ι _ ⟨fun m hm => by simp [C, hm]⟩ rfl rfl (fun j hj => (hι j hj).2) hinj ?_ _ W ⟨σ, Le.refl σ, fun _ _ _ => rfl, ?_⟩
  · intro v W' σ' hle hkeep hmod' hpost
    refine ⟨v, σ', rfl, hle, ?_, hmod'.sub ?_, hpost⟩
    · intro id hid hne
      refine hkeep id hid ?_
      intro hmem
      obtain ⟨j, hj, rfl⟩ := List.mem_map.1 hmem
      exact hne j (List.mem_range.1 hj) rfl
    · intro n x hx
      by_cases hn' : n < 1000000
      · simpa [hn'] using hx
      · simpa [hn', C] using hx
  · refine ⟨by simp [C]; omega, rfl, hmod.sub ?_, ?_⟩
    · intro n x hx
      simp only [tkf, lk_tokOf, Nat.zero_le, if_true, Nat.sub_zero] at hx
      by_cases hn' : n < 1000000
      · rw [hR n hn']
        cases hnd : need[n]? with
        | none => rw [hnd] at hx; simp [C, hn'] at hx
        | some y => rw [hnd] at hx; simpa using hx
      · have : need[n]? = none := by rw [List.getElem?_eq_none_iff]; omega
        rw [this] at hx
        simpa [C, hn'] using hx
    · intro t p hp
      rw [lk_frameOf] at hp
      simp only [Nat.zero_le, if_true, Nat.sub_zero] at hp
      have ht : t < args.size := by rw [hsz]; exact (List.getElem?_eq_some_iff.1 hp).1
      have := hargs t p hp
      have e : (args ++ Array.replicate (fn.ntmps - args.size) undef).getD t undef = args.getD t undef := by
        simp [Array.getD, ht, show t < args.size + (fn.ntmps - args.size) by omega]
      show p.h σ ((args ++ Array.replicate (fn.ntmps - args.size) undef).getD t undef)
      rw [e]
      exact this
end Go.AL


namespace Go.AL
open Go.RowKit
def opd (F : Fr) : Operand → Option Pred
  | .tmp t => lk F t
  | .const v => some (eqP v)
  | .func f => some (eqP (.func (.func f) #[] #[]))
  | .global g => some (eqP (.pointer (some ⟨g, 0, none⟩)))
def rdo (x : Operand) (p : Pred) : List (Nat × Pred) := match x with | .tmp t => [(t, p)] | _ => []
def OpRun (P : Program) (o : Oper) : (Act → World → Prop) → Act → World → Prop := fun K a W => ∀ Q, o.wp P a W K Q
structure OpJ (P : Program) (n N : Nat) (F : Fr) (R : Toks) (o : Oper) (r : Rec) : Prop where
  loc : Loc n N (OpRun P o) o.dst r
  rd : ∀ x ∈ r.rd, lk F x.1 = some x.2
  use : ∀ x ∈ r.use, R x.1 = some x.2
  del : ∀ x ∈ r.del, R x.1 = some x.2
  add : ∀ x ∈ r.add, R x.1 = none ∨ r.del.any (fun y => y.1 == x.1) = true
theorem rd_of {F : Fr} {x : Operand} {p : Pred} (h : opd F x = some p) : ∀ y ∈ rdo x p, lk F y.1 = some y.2 := by
  intro y hy
  cases x <;> simp [rdo] at hy
  subst hy
  exact h
theorem rd_app {F : Fr} {a b : List (Nat × Pred)} (h : ∀ y ∈ a, lk F y.1 = some y.2) (k : ∀ y ∈ b, lk F y.1 = some y.2) : ∀ y ∈ a ++ b, lk F y.1 = some y.2 := fun y hy => by
  rcases List.mem_append.1 hy with h' | h'
  · exact h y h'
  · exact k y h'
theorem holds_of {F : Fr} {σ : Sg} {a : Act} {x : Operand} {p : Pred} (h : opd F x = some p) (hr : ∀ y ∈ rdo x p, y.2.h σ (a.tmps.getD y.1 undef)) : p.h σ (a.eval x) := by
  cases x with
  | tmp t => exact hr (t, p) (by simp [rdo])
  | const v => simp [opd] at h; subst h; rfl
  | func f => simp [opd] at h; subst h; rfl
  | global g => simp [opd] at h; subst h; rfl
theorem wp_value {P : Program} {o : Oper} {a : Act} {W W' : World} {v : Value} {K : Act → World → Prop} {Q : Exit → Act → World → Prop}
    (h : (execOp a.eval o).run P W = .ok (.value v) W') (hk : K (a.put o.dst v) W') : o.wp P a W K Q := by
  unfold Oper.wp
  rw [h]
  exact hk
theorem wp_done {P : Program} {o : Oper} {a : Act} {W W' : World} {K : Act → World → Prop} {Q : Exit → Act → World → Prop}
    (h : (execOp a.eval o).run P W = .ok .skip W') (hk : K (a.put o.dst undef) W') : o.wp P a W K Q := by
  unfold Oper.wp
  rw [h]
  exact hk
section
variable {P : Program} {n N : Nat} {ops : Array Oper} {Q : Exit → Act → World → Prop} {Rf : Toks} {F : Fr} {L : Tk} {K : List Rec → Fr → Tk → Prop} {l : List Oper}
theorem lx_end (h : K [] F L) : LexK P n N ops Q Rf [] F L K := ⟨[], F, L, .nil F L, h⟩
theorem exec_of {o : Oper} {r : Rec} (hg : o.guard = none) (h : Loc n N (OpRun P o) o.dst r) : Loc n N (Exec P ops Q o) o.dst r := by
  intro σ W R a K h1 h2 h3 h4 h5 h6 h7 h8 h9
  unfold Exec
  rw [if_pos (by simp [Region.wanted, hg])]
  exact .inl (h σ W R a K h1 h2 h3 h4 h5 h6 h7 h8 h9 Q)
theorem lx_any {o : Oper} {r : Rec} (hg : o.guard = none) (h : OpJ P n N F (tkf L Rf) o r) (hd : ∀ d, o.dst = some d → d < n)
    (hk : LexK P n N ops Q Rf l (setF F o.dst r.φ) (updL L r) (fun rs => K (r :: rs))) : LexK P n N ops Q Rf (o :: l) F L K := by
  obtain ⟨rs, F', L', hl, hK⟩ := hk
  exact ⟨r :: rs, F', L', .cons (exec_of hg h.loc) hd h.rd h.use h.del h.add hl, hK⟩
def gslot (ops : Array Oper) (g : Nat) : Option Nat := (ops[g]?).bind (·.dst)
/-- a guard that lets the operation run -/
theorem exec_of_guard {d : Option Nat} {op : Op} {T : TypeId} {pos : String} {after : Array Edge} {g s : Nat} {w : Bool} {r : Rec} (hs : gslot ops g = some s) (hsn : s < n)
    (h : Loc n N (OpRun P ⟨d, op, T, pos, after, none⟩) d r) : Loc n N (Exec P ops Q ⟨d, op, T, pos, after, some (g, w)⟩) d { r with rd := (s, eqP (.bool w)) :: r.rd } := by
  intro σ W R a K h1 h2 h3 h4 h5 h6 h7 h8 h9
  unfold Exec
  have hv : a.tmps.getD s undef = .bool w := h4 (s, eqP (.bool w)) (List.mem_cons_self ..)
  have hy : yielded ops a.tmps g = some w := by
    unfold yielded
    unfold gslot at hs
    rw [hs]
    have hlt : s < a.tmps.size := by omega
    simp only [Option.bind_some, Array.getElem?_eq_getElem hlt]
    simp [Array.getD, hlt] at hv
    rw [hv]
  rw [if_pos (by simp [Region.wanted, hy])]
  exact .inl (h σ W R a K h1 h2 h3 (fun x hx => h4 x (List.mem_cons_of_mem _ hx)) h5 h6 h7 h8 h9 Q)
theorem lx_run {d : Option Nat} {op : Op} {T : TypeId} {pos : String} {after : Array Edge} {g s : Nat} {w : Bool} {r : Rec} (hs : gslot ops g = some s) (hsn : Nat.blt s n = true) (hb : lk F s = some (eqP (.bool w)))
    (h : OpJ P n N F (tkf L Rf) ⟨d, op, T, pos, after, none⟩ r) (hd : ∀ x, d = some x → x < n)
    (hk : LexK P n N ops Q Rf l (setF F d r.φ) (updL L r) (fun rs => K ({ r with rd := (s, eqP (.bool w)) :: r.rd } :: rs))) : LexK P n N ops Q Rf (⟨d, op, T, pos, after, some (g, w)⟩ :: l) F L K := by
  obtain ⟨rs, F', L', hl, hK⟩ := hk
  refine ⟨_, F', L', .cons (exec_of_guard hs (by have := Nat.le_of_ble_eq_true hsn; omega) h.loc) hd ?_ h.use h.del h.add hl, hK⟩
  intro x hx
  rcases List.mem_cons.1 hx with rfl | hx
  · exact hb
  · exact h.rd x hx
def notThe (w : Bool) (p : Pred) : Prop := ∀ σ v, p.h σ v → v ≠ .bool w
theorem notThe_bool {b w : Bool} (h : (b != w) = true) : notThe w (eqP (.bool b)) := fun _ _ e => by cases e; simpa using h
theorem notThe_undef {w : Bool} : notThe w (eqP undef) := fun _ _ e => by cases e; simp [undef]
def dOK (n : Nat) (d : Option Nat) : Bool := match d with | some t => Nat.blt t n | none => true
theorem dOK_spec {n : Nat} {d : Option Nat} (h : dOK n d = true) : ∀ x, d = some x → x < n := by
  intro x hx
  subst hx
  have := Nat.le_of_ble_eq_true h
  omega
/-- a guard that passes the operation over -/
theorem lx_skip {t : Nat} {op : Op} {T : TypeId} {pos : String} {after : Array Edge} {g s : Nat} {w : Bool} {p : Pred} (hs : gslot ops g = some s) (hsn : Nat.blt s n = true) (hb : lk F s = some p) (hp : notThe w p)
    (hd : Nat.blt t n = true) (hk : LexK P n N ops Q Rf l ((t, eqP undef) :: F) L (fun rs => K (⟨[(s, p)], [], [], [], [], eqP undef⟩ :: rs))) : LexK P n N ops Q Rf (⟨some t, op, T, pos, after, some (g, w)⟩ :: l) F L K := by
  obtain ⟨rs, F', L', hl, hK⟩ := hk
  refine ⟨_, F', L', .cons (r := ⟨[(s, p)], [], [], [], [], eqP undef⟩) ?_ ?_ ?_ (by simp) (by simp) (by simp) hl, hK⟩
  · intro σ W R a K h1 h2 h3 h4 h5 h6 h7 h8 h9
    have hv := h4 (s, p) (List.mem_cons_self ..)
    have hne := hp _ _ hv
    have hlt : s < a.tmps.size := by have := Nat.le_of_ble_eq_true hsn; omega
    have hy : yielded ops a.tmps g ≠ some w := by
      unfold yielded
      unfold gslot at hs
      rw [hs]
      simp only [Option.bind_some, Array.getElem?_eq_getElem hlt]
      simp [Array.getD, hlt] at hne
      split
      · rename_i b hb'
        simp at hb'
        intro e
        simp at e
        subst e
        exact hne hb'
      · simp
    unfold Exec
    rw [if_neg (by simp [Region.wanted, hy])]
    have hu : updR R ⟨[(s, p)], [], [], [], [], eqP undef⟩ = R := by funext m; simp [updR]
    exact h9 σ W undef (Le.refl σ) (fun _ _ _ => rfl) (by rw [hu]; exact h1) rfl
  · exact dOK_spec (d := some t) hd
  · intro x hx
    simp at hx
    subst hx
    exact hb
/-- the plain step: a value, nothing of the call's own turns -/
theorem lx {t : Nat} {op : Op} {T : TypeId} {pos : String} {after : Array Edge} {rd : List (Nat × Pred)} {use : List (Nat × Id × Res)} {φ : Pred} (h : OpJ P n N F (tkf L Rf) ⟨some t, op, T, pos, after, none⟩ ⟨rd, use, [], [], [], φ⟩)
    (hd : Nat.blt t n = true) (hk : LexK P n N ops Q Rf l ((t, φ) :: F) L (fun rs => K (⟨rd, use, [], [], [], φ⟩ :: rs))) : LexK P n N ops Q Rf (⟨some t, op, T, pos, after, none⟩ :: l) F L K :=
  lx_any rfl h (dOK_spec (d := some t) hd) hk
theorem lxg {t : Nat} {op : Op} {T : TypeId} {pos : String} {after : Array Edge} {g s : Nat} {w : Bool} {rd : List (Nat × Pred)} {use : List (Nat × Id × Res)} {φ : Pred} (hs : gslot ops g = some s) (hsn : Nat.blt s n = true) (hb : lk F s = some (eqP (.bool w)))
    (h : OpJ P n N F (tkf L Rf) ⟨some t, op, T, pos, after, none⟩ ⟨rd, use, [], [], [], φ⟩) (hd : Nat.blt t n = true)
    (hk : LexK P n N ops Q Rf l ((t, φ) :: F) L (fun rs => K (⟨(s, eqP (.bool w)) :: rd, use, [], [], [], φ⟩ :: rs))) : LexK P n N ops Q Rf (⟨some t, op, T, pos, after, some (g, w)⟩ :: l) F L K :=
  lx_run hs hsn hb h (dOK_spec (d := some t) hd) hk
/-- a step that lays one token -/
theorem lxn {t m : Nat} {x : Id × Res} {op : Op} {T : TypeId} {pos : String} {after : Array Edge} {rd : List (Nat × Pred)} {use : List (Nat × Id × Res)} {new : List Nat} {φ : Pred} (h : OpJ P n N F (tkf L Rf) ⟨some t, op, T, pos, after, none⟩ ⟨rd, use, [], [(m, x)], new, φ⟩)
    (hd : Nat.blt t n = true) (hk : LexK P n N ops Q Rf l ((t, φ) :: F) ((m, some x) :: L) (fun rs => K (⟨rd, use, [], [(m, x)], new, φ⟩ :: rs))) : LexK P n N ops Q Rf (⟨some t, op, T, pos, after, none⟩ :: l) F L K :=
  lx_any rfl h (dOK_spec (d := some t) hd) hk
/-- a step that turns one token into another -/
theorem lxr {d : Option Nat} {m m' : Nat} {x x' : Id × Res} {op : Op} {T : TypeId} {pos : String} {after : Array Edge} {rd : List (Nat × Pred)} {use : List (Nat × Id × Res)} {new : List Nat} {φ : Pred} (h : OpJ P n N F (tkf L Rf) ⟨d, op, T, pos, after, none⟩ ⟨rd, use, [(m, x)], [(m', x')], new, φ⟩)
    (hd : dOK n d = true) (hk : LexK P n N ops Q Rf l (setF F d φ) ((m', some x') :: (m, none) :: L) (fun rs => K (⟨rd, use, [(m, x)], [(m', x')], new, φ⟩ :: rs))) : LexK P n N ops Q Rf (⟨d, op, T, pos, after, none⟩ :: l) F L K :=
  lx_any rfl h (dOK_spec hd) hk
end
section
variable {P : Program} {n N : Nat} {F : Fr} {R : Toks} {d : Option Nat} {T : TypeId} {pos : String} {after : Array Edge}
theorem updR_same (R : Toks) (rd : List (Nat × Pred)) (use : List (Nat × Id × Res)) (new : List Nat) (φ : Pred) : updR R ⟨rd, use, [], [], new, φ⟩ = R := by funext m; simp [updR]
/-- an operation that computes a value from what it reads -/
theorem opj_pure {o : Oper} {rd : List (Nat × Pred)} {φ : Pred} (hrd : ∀ y ∈ rd, lk F y.1 = some y.2)
    (h : ∀ (σ : Sg) (W : World) (a : Act), (∀ y ∈ rd, y.2.h σ (a.tmps.getD y.1 undef)) → ∃ v, (execOp a.eval o).run P W = .ok (.value v) W ∧ φ.h σ v) : OpJ P n N F R o ⟨rd, [], [], [], [], φ⟩ where
  loc := by
    intro σ W R a K h1 h2 h3 h4 h5 h6 h7 h8 h9 Q
    obtain ⟨v, hv, hφ⟩ := h σ W a h4
    exact wp_value hv (h9 σ W v (Le.refl σ) (fun _ _ _ => rfl) (by rw [updR_same]; exact h1) hφ)
  rd := hrd
  use := by simp
  del := by simp
  add := by simp
theorem opj1 {o : Oper} {x : Operand} {p φ : Pred} (hx : opd F x = some p)
    (h : ∀ (σ : Sg) (W : World) (a : Act), p.h σ (a.eval x) → ∃ v, (execOp a.eval o).run P W = .ok (.value v) W ∧ φ.h σ v) : OpJ P n N F R o ⟨rdo x p, [], [], [], [], φ⟩ :=
  opj_pure (rd_of hx) fun σ W a hr => h σ W a (holds_of hx hr)
theorem opj2 {o : Oper} {x y : Operand} {p q φ : Pred} (hx : opd F x = some p) (hy : opd F y = some q)
    (h : ∀ (σ : Sg) (W : World) (a : Act), p.h σ (a.eval x) → q.h σ (a.eval y) → ∃ v, (execOp a.eval o).run P W = .ok (.value v) W ∧ φ.h σ v) : OpJ P n N F R o ⟨rdo x p ++ rdo y q, [], [], [], [], φ⟩ :=
  opj_pure (rd_app (rd_of hx) (rd_of hy)) fun σ W a hr => h σ W a (holds_of hx fun z hz => hr z (List.mem_append_left _ hz)) (holds_of hy fun z hz => hr z (List.mem_append_right _ hz))
theorem op_move {x : Operand} {p : Pred} (hx : opd F x = some p) : OpJ P n N F R ⟨d, .move x, T, pos, after, none⟩ ⟨rdo x p, [], [], [], [], p⟩ :=
  opj1 hx fun σ W a h => ⟨a.eval x, by simp [execOp], h⟩
theorem op_assign {x : Operand} {p : Pred} (hx : opd F x = some p) : OpJ P n N F R ⟨d, .assign x, T, pos, after, none⟩ ⟨rdo x p, [], [], [], [], p⟩ :=
  opj1 hx fun σ W a h => ⟨a.eval x, by simp [execOp], h⟩
theorem op_pick_t {c x y : Operand} {p : Pred} (hc : opd F c = some (eqP (.bool true))) (hx : opd F x = some p) : OpJ P n N F R ⟨d, .pick c x y, T, pos, after, none⟩ ⟨rdo c (eqP (.bool true)) ++ rdo x p, [], [], [], [], p⟩ :=
  opj2 hc hx fun σ W a h1 h2 => ⟨a.eval x, by simp [execOp, (show a.eval c = .bool true from h1), asBool], h2⟩
theorem op_pick_f {c x y : Operand} {p : Pred} (hc : opd F c = some (eqP (.bool false))) (hy : opd F y = some p) : OpJ P n N F R ⟨d, .pick c x y, T, pos, after, none⟩ ⟨rdo c (eqP (.bool false)) ++ rdo y p, [], [], [], [], p⟩ :=
  opj2 hc hy fun σ W a h1 h2 => ⟨a.eval y, by simp [execOp, (show a.eval c = .bool false from h1), asBool], h2⟩
theorem op_not {x : Operand} {b : Bool} {t : TypeId} (hx : opd F x = some (eqP (.bool b))) : OpJ P n N F R ⟨d, .unOp .not t x, T, pos, after, none⟩ ⟨rdo x (eqP (.bool b)), [], [], [], [], eqP (.bool !b)⟩ :=
  opj1 hx fun σ W a h => ⟨.bool !b, by simp [execOp, (show a.eval x = .bool b from h), Op.unary], rfl⟩
theorem op_not_b {x : Operand} {φ : Bool → Prop} {t : TypeId} (hx : opd F x = some (bP φ)) : OpJ P n N F R ⟨d, .unOp .not t x, T, pos, after, none⟩ ⟨rdo x (bP φ), [], [], [], [], bP (fun b => φ !b)⟩ :=
  opj1 hx fun σ W a ⟨b, h, hφ⟩ => ⟨.bool !b, by simp [execOp, h, Op.unary], !b, rfl, by simpa using hφ⟩
theorem op_extract {x : Operand} {ps : List Pred} {p : Pred} {i : Nat} (hx : opd F x = some (tupP ps)) (hi : ps[i]? = some p) : OpJ P n N F R ⟨d, .extract x i, T, pos, after, none⟩ ⟨rdo x (tupP ps), [], [], [], [], p⟩ :=
  opj1 hx fun σ W a ⟨cs, hv, hl, hc⟩ => by
    have hlt : i < cs.length := by rw [hl]; exact (List.getElem?_eq_some_iff.1 hi).1
    refine ⟨cs[i], ?_, hc i p _ hi (List.getElem?_eq_getElem hlt)⟩
    simp [execOp, hv, Instr.extract, hlt]
section
variable {x y : Operand} {k : IntKind} {u v : Int} {t t' : TypeId}
theorem op_bin_raw {op : BinOp} {a b c : Value} (hx : opd F x = some (eqP a)) (hy : opd F y = some (eqP b)) (hr : ∀ W, (do eqGuard op t x y a b; binOp op t a b).run P W = .ok c W) :
    OpJ P n N F R ⟨d, .binOp op t x y t', T, pos, after, none⟩ ⟨rdo x (eqP a) ++ rdo y (eqP b), [], [], [], [], eqP c⟩ :=
  opj2 hx hy fun σ W ac h1 h2 => ⟨c, by
    have e1 : ac.eval x = a := h1
    have e2 : ac.eval y = b := h2
    have := hr W
    simp only [execOp, e1, e2, Sem.run_bind] at this ⊢
    rw [this]
    rfl, rfl⟩
theorem op_add (hx : opd F x = some (eqP (.int .i64 u))) (hy : opd F y = some (eqP (.int .i64 v))) (h : -9223372036854775808 ≤ u + v ∧ u + v ≤ 9223372036854775807) :
    OpJ P n N F R ⟨d, .binOp .add t x y t', T, pos, after, none⟩ ⟨rdo x (eqP (.int .i64 u)) ++ rdo y (eqP (.int .i64 v)), [], [], [], [], eqP (.int .i64 (u + v))⟩ :=
  op_bin_raw hx hy fun W => by simp [binOp, eqGuard, Op.intArith, IntWalk.i64_in _ h]
theorem op_sub (hx : opd F x = some (eqP (.int .i64 u))) (hy : opd F y = some (eqP (.int .i64 v))) (h : -9223372036854775808 ≤ u - v ∧ u - v ≤ 9223372036854775807) :
    OpJ P n N F R ⟨d, .binOp .sub t x y t', T, pos, after, none⟩ ⟨rdo x (eqP (.int .i64 u)) ++ rdo y (eqP (.int .i64 v)), [], [], [], [], eqP (.int .i64 (u - v))⟩ :=
  op_bin_raw hx hy fun W => by simp [binOp, eqGuard, Op.intArith, IntWalk.i64_in _ h]
theorem op_mul (hx : opd F x = some (eqP (.int .i64 u))) (hy : opd F y = some (eqP (.int .i64 v))) (h : -9223372036854775808 ≤ u * v ∧ u * v ≤ 9223372036854775807) :
    OpJ P n N F R ⟨d, .binOp .mul t x y t', T, pos, after, none⟩ ⟨rdo x (eqP (.int .i64 u)) ++ rdo y (eqP (.int .i64 v)), [], [], [], [], eqP (.int .i64 (u * v))⟩ :=
  op_bin_raw hx hy fun W => by simp [binOp, eqGuard, Op.intArith, IntWalk.i64_in _ h]
theorem op_eql (hx : opd F x = some (eqP (.int k u))) (hy : opd F y = some (eqP (.int k v))) :
    OpJ P n N F R ⟨d, .binOp .eql t x y t', T, pos, after, none⟩ ⟨rdo x (eqP (.int k u)) ++ rdo y (eqP (.int k v)), [], [], [], [], eqP (.bool (decide (u = v)))⟩ :=
  op_bin_raw hx hy fun W => by
    rw [eqGuard_at_int, binOp_eql]
    simp [Bool.beq_eq_decide_eq]
theorem op_neq (hx : opd F x = some (eqP (.int k u))) (hy : opd F y = some (eqP (.int k v))) :
    OpJ P n N F R ⟨d, .binOp .neq t x y t', T, pos, after, none⟩ ⟨rdo x (eqP (.int k u)) ++ rdo y (eqP (.int k v)), [], [], [], [], eqP (.bool (decide (u ≠ v)))⟩ :=
  op_bin_raw hx hy fun W => by
    rw [eqGuard_at_int, binOp_neq]
    simp [bne, Bool.beq_eq_decide_eq]
theorem op_lss (hx : opd F x = some (eqP (.int k u))) (hy : opd F y = some (eqP (.int k v))) :
    OpJ P n N F R ⟨d, .binOp .lss t x y t', T, pos, after, none⟩ ⟨rdo x (eqP (.int k u)) ++ rdo y (eqP (.int k v)), [], [], [], [], eqP (.bool (decide (u < v)))⟩ :=
  op_bin_raw hx hy fun W => by rw [eqGuard_lss, binOp_lss]; simp
theorem op_leq (hx : opd F x = some (eqP (.int k u))) (hy : opd F y = some (eqP (.int k v))) :
    OpJ P n N F R ⟨d, .binOp .leq t x y t', T, pos, after, none⟩ ⟨rdo x (eqP (.int k u)) ++ rdo y (eqP (.int k v)), [], [], [], [], eqP (.bool (decide (u ≤ v)))⟩ :=
  op_bin_raw hx hy fun W => by rw [eqGuard_leq, binOp_leq]; simp
theorem op_gtr (hx : opd F x = some (eqP (.int k u))) (hy : opd F y = some (eqP (.int k v))) :
    OpJ P n N F R ⟨d, .binOp .gtr t x y t', T, pos, after, none⟩ ⟨rdo x (eqP (.int k u)) ++ rdo y (eqP (.int k v)), [], [], [], [], eqP (.bool (decide (v < u)))⟩ :=
  op_bin_raw hx hy fun W => by rw [eqGuard_gtr, binOp_gtr]; simp
theorem op_geq (hx : opd F x = some (eqP (.int k u))) (hy : opd F y = some (eqP (.int k v))) :
    OpJ P n N F R ⟨d, .binOp .geq t x y t', T, pos, after, none⟩ ⟨rdo x (eqP (.int k u)) ++ rdo y (eqP (.int k v)), [], [], [], [], eqP (.bool (decide (v ≤ u)))⟩ :=
  op_bin_raw hx hy fun W => by rw [eqGuard_geq, binOp_geq]; simp
theorem op_eql_bool {b c : Bool} (ht : P.underlying t = some .bool) (hx : opd F x = some (eqP (.bool b))) (hy : opd F y = some (eqP (.bool c))) :
    OpJ P n N F R ⟨d, .binOp .eql t x y t', T, pos, after, none⟩ ⟨rdo x (eqP (.bool b)) ++ rdo y (eqP (.bool c)), [], [], [], [], eqP (.bool (b == c))⟩ :=
  op_bin_raw hx hy fun W => by rw [eqGuard_at_bool]; simp [run_eql_bool W t b c ht]
theorem op_neq_bool {b c : Bool} (ht : P.underlying t = some .bool) (hx : opd F x = some (eqP (.bool b))) (hy : opd F y = some (eqP (.bool c))) :
    OpJ P n N F R ⟨d, .binOp .neq t x y t', T, pos, after, none⟩ ⟨rdo x (eqP (.bool b)) ++ rdo y (eqP (.bool c)), [], [], [], [], eqP (.bool (!(b == c)))⟩ :=
  op_bin_raw hx hy fun W => by rw [eqGuard_at_bool]; simp [run_neq_bool W t b c ht]
end
end
end Go.AL


namespace Go.AL
open Go.RowKit
def isAggD : TypeDesc → Bool
  | .struct _ | .array _ _ => true
  | _ => false
def aggB (P : Program) (T : TypeId) : Option Bool := (P.underlying T).map isAggD
def sizeB (P : Program) (T : TypeId) : Option Nat := (P.info? T).map (·.size)
def bytesB (P : Program) (T : TypeId) : Option Nat := (P.info? T).map (·.bytes)
def zeroB (P : Program) (T : TypeId) : Option (Option Value) := (P.info? T).map (·.zero)
def fldB (P : Program) (s : TypeId) (i : Nat) : Option (Nat × TypeId) := match P.underlying s with | some (.struct fs) => (fs[i]?).map fun f => (f.offset, f.type) | _ => none
def elemB (P : Program) (t : TypeId) : Option TypeId := match P.underlying t with | some (.slice e) => some e | _ => none
def arrB (P : Program) (t : TypeId) : Option (Nat × TypeId) := match P.underlying t with | some (.array n e) => some (n, e) | _ => none
section
variable {P : Program} {T s t e : TypeId} {n i off : Nat}
theorem run_isAgg {b : Bool} (h : aggB P T = some b) (W : World) : (isAgg T).run P W = .ok b W := by
  unfold aggB at h
  cases hu : P.underlying T with
  | none => rw [hu] at h; cases h
  | some d =>
    rw [hu] at h
    simp only [Option.map_some, Option.some.injEq] at h
    subst h
    unfold isAgg
    simp only [Sem.run_bind, run_underlying hu, Result.andThen_ok]
    cases d <;> rfl
theorem run_sizeOf' (h : sizeB P T = some n) (W : World) : (sizeOf T).run P W = .ok n W := by
  unfold sizeB at h
  cases hi : P.info? T with
  | none => rw [hi] at h; cases h
  | some i => rw [hi] at h; simp at h; subst h; simp [sizeOf, typeInfo, hi]
theorem run_zero {z : Value} (h : zeroB P T = some (some z)) (W : World) : (zeroValue T).run P W = .ok z W := by
  unfold zeroB at h
  cases hi : P.info? T with
  | none => rw [hi] at h; cases h
  | some i => rw [hi] at h; simp at h; simp [zeroValue, typeInfo, hi, h]
theorem fld_of {s f : TypeId} (h : fldB P s i = some (off, f)) : ∃ fs fd, P.underlying s = some (.struct fs) ∧ fs[i]? = some fd ∧ fd.offset = off ∧ fd.type = f := by
  unfold fldB at h
  split at h
  · rename_i fs hu
    cases hf : fs[i]? with
    | none => rw [hf] at h; cases h
    | some fd => rw [hf] at h; simp at h; exact ⟨fs, fd, hu, hf, h.1, h.2⟩
  · cases h
theorem elem_of (h : elemB P t = some e) : P.underlying t = some (.slice e) := by
  unfold elemB at h
  split at h
  · rename_i hu; simp at h; subst h; exact hu
  · cases h
end
theorem addr_add (b off j : Nat) : (⟨b, off, none⟩ : Addr).add j = ⟨b, off + j, none⟩ := by
  unfold Addr.add
  by_cases h : j = 0 <;> simp [h]
theorem run_cells {P : Program} {W : World} {b off : Nat} {cs : List Value} (h : ∀ (j : Nat) (v : Value), cs[j]? = some v → W.cell? ⟨b, off + j, none⟩ = some v) : (loadCells ⟨b, off, none⟩ cs.length).run P W = .ok cs.toArray W :=
  run_loadCells_list W ⟨b, off, none⟩ cs fun j v hv => by rw [addr_add]; exact h j v hv
theorem Cs.read {σ : Sg} {R : Toks} {W : World} (hm : Models σ R W) {b off : Nat} {ps : List Pred} (h : Cs σ b off ps) : ∃ cs : List Value, Vs σ ps cs ∧ ∀ (j : Nat) (v : Value), cs[j]? = some v → W.cell? ⟨b, off + j, none⟩ = some v := by
  have hex : ∀ j, j < ps.length → ∃ u, σ.c b (off + j) = some u := fun j hj => by
    obtain ⟨u, hu, _⟩ := h j ps[j] (List.getElem?_eq_getElem hj)
    exact ⟨u, hu⟩
  refine ⟨(List.range ps.length).map fun j => (σ.c b (off + j)).getD undef, ⟨by simp, ?_⟩, ?_⟩
  · intro j p u hp hu
    obtain ⟨u', hu', hc⟩ := h j p hp
    have hj : j < ps.length := (List.getElem?_eq_some_iff.1 hp).1
    simp [List.getElem?_map, List.getElem?_range hj, hu'] at hu
    subst hu
    exact hc
  · intro j v hv
    rcases Nat.lt_or_ge j ps.length with hj | hj
    · obtain ⟨u, hu⟩ := hex j hj
      simp [List.getElem?_map, List.getElem?_range hj, hu] at hv
      subst hv
      exact hm.imm _ _ _ hu
    · rw [List.getElem?_eq_none (by simpa using hj)] at hv
      cases hv
theorem blk_read {σ : Sg} {R : Toks} {W : World} (hm : Models σ R W) {m : Nat} {id : Id} {b κ : Nat} {T : TypeId} {ps : List Pred} (hn : R m = some (id, blkX κ T ps)) (hb : σ.ρ id = some (some b)) :
    ∃ cs rest : List Value, W.heap[b]? = some (.cells (cs ++ rest).toArray T (0, 0)) ∧ Vs σ ps cs ∧ (κ ≠ 0 → (cs ++ rest).length = σ.z id * κ) ∧ σ.n0 ≤ b := by
  obtain ⟨h1, o, ho, cs, rest, rfl, hv, hz, _⟩ := hm.res m id _ hn b hb
  exact ⟨cs, rest, ho, hv, hz, h1⟩
theorem cell_blk {W : World} {b : Nat} {cs rest : List Value} {T : TypeId} (h : W.heap[b]? = some (.cells (cs ++ rest).toArray T (0, 0))) {i : Nat} {v : Value} (hv : cs[i]? = some v) : W.cell? ⟨b, i, none⟩ = some v := by
  rw [cell_of_row W b i _ T (0, 0) h, List.getElem?_toArray, List.getElem?_append_left (List.getElem?_eq_some_iff.1 hv).1]
  exact hv
theorem Vs.drop {σ : Sg} {ps : List Pred} {cs : List Value} (h : Vs σ ps cs) (off n : Nat) : Vs σ ((ps.drop off).take n) ((cs.drop off).take n) := by
  refine ⟨by simp [h.1], fun j p u hp hu => ?_⟩
  rw [List.getElem?_take] at hp hu
  split at hp
  · rename_i hj
    rw [if_pos hj] at hu
    rw [List.getElem?_drop] at hp hu
    exact h.2 _ p u hp hu
  · cases hp
section
variable {P : Program} {n N : Nat} {F : Fr} {R : Toks} {d : Option Nat} {T Ty : TypeId} {pos : String} {after : Array Edge}
/-- an operation that reads memory, too -/
theorem opj_read {o : Oper} {rd : List (Nat × Pred)} {use : List (Nat × Id × Res)} {φ : Pred} (hrd : ∀ y ∈ rd, lk F y.1 = some y.2) (huse : ∀ y ∈ use, R y.1 = some y.2)
    (h : ∀ (σ : Sg) (W : World) (R : Toks) (a : Act), Models σ R W → (∀ y ∈ rd, y.2.h σ (a.tmps.getD y.1 undef)) → (∀ y ∈ use, R y.1 = some y.2) → ∃ v, (execOp a.eval o).run P W = .ok (.value v) W ∧ φ.h σ v) :
    OpJ P n N F R o ⟨rd, use, [], [], [], φ⟩ where
  loc := by
    intro σ W R a K h1 h2 h3 h4 h5 h6 h7 h8 h9 Q
    obtain ⟨v, hv, hφ⟩ := h σ W R a h1 h4 h5
    exact wp_value hv (h9 σ W v (Le.refl σ) (fun _ _ _ => rfl) (by rw [updR_same]; exact h1) hφ)
  rd := hrd
  use := huse
  del := by simp
  add := by simp
/-- a load of a whole aggregate out of immutable cells -/
theorem op_load_agg {x : Operand} {ps : List Pred} {k : Nat} (hx : opd F x = some (cellsP ps)) (ha : aggB P Ty = some true) (hs : sizeB P Ty = some k) (hk : Nat.ble k ps.length = true) :
    OpJ P n N F R ⟨d, .load Ty x, T, pos, after, none⟩ ⟨rdo x (cellsP ps), [], [], [], [], aggP (ps.take k)⟩ :=
  opj_read (rd_of hx) (by simp) fun σ W R a hm hr _ => by
    obtain ⟨b, off, hv, hc⟩ := holds_of hx hr
    obtain ⟨cs, hcs, hcell⟩ := hc.read hm
    have hlen : (cs.take k).length = k := by rw [List.length_take, hcs.1]; have := Nat.le_of_ble_eq_true hk; omega
    refine ⟨.agg (cs.take k).toArray, ?_, cs.take k, rfl, by simpa using hcs.drop 0 k⟩
    have := run_cells (P := P) (W := W) (b := b) (off := off) (cs := cs.take k) (fun j v hv => by
      rw [List.getElem?_take] at hv
      split at hv
      · exact hcell j v hv
      · cases hv)
    rw [hlen] at this
    simp [execOp, Instr.loadAt, Instr.sureAddr, hv, loadVar, run_isAgg ha, run_sizeOf' hs, this]
/-- a load of one cell -/
theorem op_load_one {x : Operand} {ps : List Pred} {p : Pred} (hx : opd F x = some (cellsP ps)) (ha : aggB P Ty = some false) (hp : ps[0]? = some p) :
    OpJ P n N F R ⟨d, .load Ty x, T, pos, after, none⟩ ⟨rdo x (cellsP ps), [], [], [], [], p⟩ :=
  opj_read (rd_of hx) (by simp) fun σ W R a hm hr _ => by
    obtain ⟨b, off, hv, hc⟩ := holds_of hx hr
    obtain ⟨u, hu, hcu⟩ := hc 0 p hp
    refine ⟨u, ?_, hcu.1⟩
    have := hm.imm _ _ _ hu
    simp only [Nat.add_zero] at this
    simp [execOp, Instr.loadAt, Instr.sureAddr, hv, loadVar, run_isAgg ha, run_load, this]
/-- a load out of a block of the call's own: the whole of it; a part; one cell -/
theorem op_bload_part {x : Operand} {id : Id} {off m k κ : Nat} {B : TypeId} {ps qs : List Pred} (hx : opd F x = some (ptrP id off)) (hR : R m = some (id, blkX κ B ps)) (ha : aggB P Ty = some true) (hs : sizeB P Ty = some k)
    (hk : Nat.ble (off + k) ps.length = true) (hq : (ps.drop off).take k = qs) :
    OpJ P n N F R ⟨d, .load Ty x, T, pos, after, none⟩ ⟨rdo x (ptrP id off), [(m, id, blkX κ B ps)], [], [], [], aggP qs⟩ :=
  opj_read (rd_of hx) (by simpa using hR) fun σ W R a hm hr hu => by
    obtain ⟨b, hb, hv⟩ := holds_of hx hr
    obtain ⟨cs, rest, hcs, hvs, _⟩ := blk_read hm (hu _ (List.mem_cons_self ..)) hb
    have hlen : ((cs.drop off).take k).length = k := by rw [List.length_take, List.length_drop, hvs.1]; have := Nat.le_of_ble_eq_true hk; omega
    refine ⟨.agg ((cs.drop off).take k).toArray, ?_, _, rfl, by rw [← hq]; exact hvs.drop off k⟩
    have := run_cells (P := P) (W := W) (b := b) (off := off) (cs := (cs.drop off).take k) (fun j v hv => by
      rw [List.getElem?_take] at hv
      split at hv
      · rw [List.getElem?_drop] at hv
        exact cell_blk hcs hv
      · cases hv)
    rw [hlen] at this
    simp [execOp, Instr.loadAt, Instr.sureAddr, hv, loadVar, run_isAgg ha, run_sizeOf' hs, this]
theorem op_bload {x : Operand} {id : Id} {m κ : Nat} {B : TypeId} {ps : List Pred} (hx : opd F x = some (ptrP id 0)) (hR : R m = some (id, blkX κ B ps)) (ha : aggB P Ty = some true) (hs : sizeB P Ty = some ps.length) :
    OpJ P n N F R ⟨d, .load Ty x, T, pos, after, none⟩ ⟨rdo x (ptrP id 0), [(m, id, blkX κ B ps)], [], [], [], aggP ps⟩ :=
  op_bload_part hx hR ha hs (by simp) (by simp)
theorem op_bload_one {x : Operand} {id : Id} {off m κ : Nat} {B : TypeId} {ps : List Pred} {p : Pred} (hx : opd F x = some (ptrP id off)) (hR : R m = some (id, blkX κ B ps)) (ha : aggB P Ty = some false) (hp : ps[off]? = some p) :
    OpJ P n N F R ⟨d, .load Ty x, T, pos, after, none⟩ ⟨rdo x (ptrP id off), [(m, id, blkX κ B ps)], [], [], [], p⟩ :=
  opj_read (rd_of hx) (by simpa using hR) fun σ W R a hm hr hu => by
    obtain ⟨b, hb, hv⟩ := holds_of hx hr
    obtain ⟨cs, rest, hcs, hvs, _⟩ := blk_read hm (hu _ (List.mem_cons_self ..)) hb
    have hlt : off < cs.length := by rw [hvs.1]; exact (List.getElem?_eq_some_iff.1 hp).1
    have hc := List.getElem?_eq_getElem hlt
    refine ⟨cs[off], ?_, (hvs.2 off p _ hp hc).1⟩
    have := cell_blk hcs hc
    simp [execOp, Instr.loadAt, Instr.sureAddr, hv, loadVar, run_isAgg ha, run_load, this]
theorem op_fieldAddr {x : Operand} {id : Id} {off i fo fs : Nat} {s f : TypeId} (hx : opd F x = some (ptrP id off)) (hf : fldB P s i = some (fo, f)) (hs : sizeB P f = some (fs + 1)) :
    OpJ P n N F R ⟨d, .fieldAddr s x i, T, pos, after, none⟩ ⟨rdo x (ptrP id off), [], [], [], [], ptrP id (off + fo)⟩ :=
  opj1 hx fun σ W a ⟨b, hb, hv⟩ => by
    obtain ⟨fs', fd, hu, hfd, rfl, rfl⟩ := fld_of hf
    refine ⟨.pointer (some ⟨b, off + fd.offset, none⟩), ?_, b, hb, rfl⟩
    simp [execOp, Instr.fieldAt, run_underlying hu, hfd, Instr.sureAddr, hv, fieldPlace, run_sizeOf' hs, addr_add]
theorem op_fieldCells {x : Operand} {ps : List Pred} {i fo fs : Nat} {s f : TypeId} (hx : opd F x = some (cellsP ps)) (hf : fldB P s i = some (fo, f)) (hs : sizeB P f = some (fs + 1)) :
    OpJ P n N F R ⟨d, .fieldAddr s x i, T, pos, after, none⟩ ⟨rdo x (cellsP ps), [], [], [], [], cellsP (ps.drop fo)⟩ :=
  opj1 hx fun σ W a ⟨b, off, hv, hc⟩ => by
    obtain ⟨fs', fd, hu, hfd, rfl, rfl⟩ := fld_of hf
    refine ⟨.pointer (some ⟨b, off + fd.offset, none⟩), ?_, b, _, rfl, ?_⟩
    · simp [execOp, Instr.fieldAt, run_underlying hu, hfd, Instr.sureAddr, hv, fieldPlace, run_sizeOf' hs, addr_add]
    · intro j p hp
      rw [List.getElem?_drop] at hp
      have := hc _ p hp
      rwa [Nat.add_assoc]
section
variable {α : Type} {f : α → List Pred} {k : Nat} {xs : List α} {t e : TypeId} {ik : IntKind}
/-- the address of an element -/
theorem op_index {x y : Operand} {i : Int} {j : Nat} {z : α} (hx : opd F x = some (slP f k xs)) (hy : opd F y = some (eqP (.int ik i))) (ht : elemB P t = some e) (hs : sizeB P e = some k) (hi : i = (j : Int)) (hz : xs[j]? = some z) :
    OpJ P n N F R ⟨d, .indexAddr t x y, T, pos, after, none⟩ ⟨rdo x (slP f k xs) ++ rdo y (eqP (.int ik i)), [], [], [], [], cellsP (f z)⟩ :=
  opj2 hx hy fun σ W a ⟨ad, cap, hv, h1, h2, h3⟩ h4 => by
    have hj : j < xs.length := (List.getElem?_eq_some_iff.1 hz).1
    obtain ⟨b, off, rfl, hc⟩ := h3 (by omega)
    have e2 : a.eval y = .int ik i := h4
    refine ⟨.pointer (some ⟨b, off + j * k, none⟩), ?_, b, _, rfl, hc j z hz⟩
    subst hi
    simp [execOp, Instr.indexAt, e2, asIntOf, hv, run_underlying (elem_of ht), run_sizeOf' hs, hj, addr_add]
theorem op_len {x : Operand} (hx : opd F x = some (slP f k xs)) (ht : elemB P t = some e) :
    OpJ P n N F R ⟨d, .call { callee := .builtin .len, args := #[x], argTypes := #[t] }, T, pos, after, none⟩ ⟨rdo x (slP f k xs), [], [], [], [], eqP (.int .i64 xs.length)⟩ :=
  opj1 hx fun σ W a ⟨ad, cap, hv, h1, h2, h3⟩ => by
    refine ⟨.int .i64 xs.length, ?_, rfl⟩
    simp [execOp, resolve, invoke, builtin, Builtin.len_, hv, run_underlying (elem_of ht), goInt]
theorem op_len_row {x : Operand} {id : Id} (hx : opd F x = some (rowP id f k xs)) (ht : elemB P t = some e) :
    OpJ P n N F R ⟨d, .call { callee := .builtin .len, args := #[x], argTypes := #[t] }, T, pos, after, none⟩ ⟨rdo x (rowP id f k xs), [], [], [], [], eqP (.int .i64 xs.length)⟩ :=
  opj1 hx fun σ W a h => by
    obtain ⟨ad, cap, hv, h1, h2, h3⟩ := Ent.row id f k xs σ _ h
    refine ⟨.int .i64 xs.length, ?_, rfl⟩
    simp [execOp, resolve, invoke, builtin, Builtin.len_, hv, run_underlying (elem_of ht), goInt]
/-- 's == nil' on a slice of which nothing is known but what it reads as: where it is so, it is empty -/
theorem op_eqnil {x : Operand} {c : Nat} (hx : opd F x = some (slP f k xs)) (ht : elemB P t = some e) {T' : TypeId} :
    OpJ P n N F R ⟨d, .binOp .eql t x (.const (.slice none 0 c)) T', T, pos, after, none⟩ ⟨rdo x (slP f k xs), [], [], [], [], bP (fun b => b = true → xs = [])⟩ :=
  opj1 hx fun σ W a ⟨ad, cap, hv, h1, h2, h3⟩ => by
    refine ⟨.bool ad.isNone, ?_, _, rfl, ?_⟩
    · have hc : a.eval (.const (.slice none 0 c)) = .slice none 0 c := rfl
      have hr := Lib.run_eql_slice_nil (P := P) W t e ad xs.length cap 0 c (elem_of ht)
      simp only [execOp, hv, hc, eqGuard_at_slice, Sem.run_bind, Sem.run_pure, Result.andThen_ok, hr]
    · intro hn
      cases xs with
      | nil => rfl
      | cons y ys => obtain ⟨b, off, rfl, _⟩ := h3 (by simp); cases hn
end
end
end Go.AL


namespace Go.AL
open Go.RowKit
theorem Models.congr {σ : Sg} {R R' : Toks} {W : World} (h : Models σ R W) (e : R' = R) : Models σ R' W := e ▸ h
theorem updR_new (R : Toks) (rd : List (Nat × Pred)) (use : List (Nat × Id × Res)) (m : Nat) (x : Id × Res) (new : List Nat) (φ : Pred) :
    updR R ⟨rd, use, [], [(m, x)], new, φ⟩ = fun k => if k = m then some x else R k := by
  funext k
  by_cases h : k = m
  · subst h; simp [updR]
  · have : (m == k) = false := by simpa using fun e => h e.symm
    simp [updR, this, h]
theorem updR_turn (R : Toks) (rd : List (Nat × Pred)) (use : List (Nat × Id × Res)) (m : Nat) (x x' : Id × Res) (new : List Nat) (φ : Pred) :
    updR R ⟨rd, use, [(m, x)], [(m, x')], new, φ⟩ = fun k => if k = m then some x' else R k := by
  funext k
  by_cases h : k = m
  · subst h; simp [updR]
  · have : (m == k) = false := by simpa using fun e => h e.symm
    simp [updR, this, h]
/-- a store: what it leaves of a list of predicates -/
def splice (ps : List Pred) (off : Nat) (qs : List Pred) : List Pred := ps.take off ++ qs ++ ps.drop (off + qs.length)
theorem Vs.append {σ : Sg} {ps qs : List Pred} {cs ds : List Value} (h : Vs σ ps cs) (k : Vs σ qs ds) : Vs σ (ps ++ qs) (cs ++ ds) := by
  refine ⟨by simp [h.1, k.1], fun j p u hp hu => ?_⟩
  rcases Nat.lt_or_ge j ps.length with hj | hj
  · rw [List.getElem?_append_left hj] at hp
    rw [List.getElem?_append_left (by rw [h.1]; exact hj)] at hu
    exact h.2 j p u hp hu
  · rw [List.getElem?_append_right hj] at hp
    rw [List.getElem?_append_right (by rw [h.1]; exact hj), h.1] at hu
    exact k.2 _ p u hp hu
theorem Vs.take' {σ : Sg} {ps : List Pred} {cs : List Value} (h : Vs σ ps cs) (n : Nat) : Vs σ (ps.take n) (cs.take n) := by simpa using h.drop 0 n
theorem Vs.drop' {σ : Sg} {ps : List Pred} {cs : List Value} (h : Vs σ ps cs) (n : Nat) : Vs σ (ps.drop n) (cs.drop n) := by
  have := h.drop n ps.length
  rw [List.take_of_length_le (by simp), List.take_of_length_le (by rw [List.length_drop, h.1]; omega)] at this
  exact this
theorem Vs.splice {σ : Sg} {ps qs : List Pred} {cs ds : List Value} (h : Vs σ ps cs) (k : Vs σ qs ds) (off : Nat) : Vs σ (splice ps off qs) (cs.take off ++ ds ++ cs.drop (off + ds.length)) := by
  unfold AL.splice
  rw [k.1]
  exact ((h.take' off).append k).append (h.drop' _)
theorem Vs.one {σ : Sg} {p : Pred} {u : Value} (h : p.h σ u) (h1 : One p) : Vs σ [p] [u] := ⟨rfl, fun j q w hq hw => by
  cases j with
  | zero => simp at hq hw; subst hq; subst hw; exact ⟨h, h1 _ _ h⟩
  | succ j => simp at hq⟩
theorem Vs.eqs {σ : Sg} {zs : List Value} (h : zs.all Value.oneCell' = true) : Vs σ (zs.map eqP) zs := ⟨by simp, fun j p u hp hu => by
  rw [List.getElem?_map, hu] at hp
  simp at hp
  subst hp
  exact ⟨rfl, List.all_eq_true.1 h u (List.mem_of_getElem? hu)⟩⟩
theorem Vs.ones {σ : Sg} {ps : List Pred} {cs : List Value} (h : Vs σ ps cs) : ∀ v ∈ cs, v.oneCell' = true := fun v hv => by
  obtain ⟨j, hj, e⟩ := List.getElem_of_mem hv
  have hp : j < ps.length := by rw [← h.1]; exact hj
  exact (h.2 j ps[j] v (List.getElem?_eq_getElem hp) (by rw [← e]; exact List.getElem?_eq_getElem hj)).2
/-- what a value is, cell by cell -/
inductive Val (p : Pred) : List Pred → Prop
  | one (h : One p) : Val p [p]
  | agg {ps : List Pred} (h : p = aggP ps) : Val p ps
theorem Val.cells {p : Pred} {ps : List Pred} (h : Val p ps) {σ : Sg} {v : Value} (hv : p.h σ v) : Vs σ ps v.cells.toList := by
  cases h with
  | one h1 =>
    have h2 := h1 σ v hv
    have : v.cells = #[v] := by cases v <;> first | rfl | (simp [Value.oneCell'] at h2)
    rw [this]
    exact Vs.one hv h1
  | agg h =>
    subst h
    obtain ⟨cs, rfl, hc⟩ := hv
    exact hc
section
variable {P : Program} {n N : Nat} {F : Fr} {R : Toks} {d : Option Nat} {T Ty : TypeId} {pos : String} {after : Array Edge}
theorem op_alloc {m k : Nat} {z : Value} {ps : List Pred} (hz : zeroB P Ty = some (some z)) (hps : z.cells.toList.map eqP = ps) (h1 : z.cells.toList.all Value.oneCell' = true) (hm : R m = none) :
    OpJ P n N F R ⟨d, .alloc Ty, T, pos, after, none⟩ ⟨[], [], [], [(m, (N, k), blk Ty ps)], [k], ptrP (N, k) 0⟩ where
  loc := by
    intro σ W R a K hm1 h2 h3 h4 h5 h6 h7 h8 h9 Q
    have hnew := h8 k (by simp)
    have hR : R m = none := by have h := h7 (m, (N, k), blk Ty ps) (by simp); simpa using h
    have hbox := hm1.box (n := m) (T := Ty) (ps := ps) (cs := z.cells.toList) hnew hR (by rw [← hps]; exact Vs.eqs h1)
    refine wp_value (v := .pointer (some ⟨W.heap.size, 0, none⟩)) (W' := W.alloc (.cells z.cells Ty)) ?_ (h9 _ _ _ (le_bind hnew) keep_bind (hbox.congr (updR_new ..)) ⟨_, bind_at .., rfl⟩)
    simp [execOp, Instr.alloc, run_zero hz, newVar, newRow]
  rd := by simp
  use := by simp
  del := by simp
  add := by simpa using hm
theorem op_box {x : Operand} {p : Pred} {ps : List Pred} {m k : Nat} (hx : opd F x = some p) (hv : Val p ps) (hm : R m = none) :
    OpJ P n N F R ⟨d, .box Ty x, T, pos, after, none⟩ ⟨rdo x p, [], [], [(m, (N, k), blk Ty ps)], [k], ptrP (N, k) 0⟩ where
  loc := by
    intro σ W R a K hm1 h2 h3 h4 h5 h6 h7 h8 h9 Q
    have hnew := h8 k (by simp)
    have hR : R m = none := by have h := h7 (m, (N, k), blk Ty ps) (by simp); simpa using h
    have hbox := hm1.box (n := m) (T := Ty) hnew hR (hv.cells (holds_of hx h4))
    refine wp_value (v := .pointer (some ⟨W.heap.size, 0, none⟩)) (W' := W.alloc (.cells (a.eval x).cells Ty)) ?_ (h9 _ _ _ (le_bind hnew) keep_bind (hbox.congr (updR_new ..)) ⟨_, bind_at .., rfl⟩)
    simp [execOp, Instr.box, newVar, newRow]
  rd := rd_of hx
  use := by simp
  del := by simp
  add := by simpa using hm
/-- a store into a block of the call's own -/
theorem op_store {x y : Operand} {id : Id} {off m k κ : Nat} {B : TypeId} {ps qs rs : List Pred} {p : Pred} (hx : opd F x = some (ptrP id off)) (hy : opd F y = some p) (hR : R m = some (id, blkX κ B ps)) (hv : Val p qs)
    (hs : sizeB P Ty = some k) (hk : Nat.beq qs.length k = true) (hl : Nat.ble (off + k) ps.length = true) (hrs : splice ps off qs = rs) :
    OpJ P n N F R ⟨none, .store Ty x y, T, pos, after, none⟩ ⟨rdo x (ptrP id off) ++ rdo y p, [], [(m, id, blkX κ B ps)], [(m, id, blkX κ B rs)], [], eqP undef⟩ where
  loc := by
    intro σ W R a K hm1 h2 h3 h4 h5 h6 h7 h8 h9 Q
    obtain ⟨b, hb, hpv⟩ := holds_of hx fun z hz => h4 z (List.mem_append_left _ hz)
    have hyv := hv.cells (holds_of hy fun z hz => h4 z (List.mem_append_right _ hz))
    have hRm := h6 _ (List.mem_cons_self ..)
    obtain ⟨cs, rest, hcs, hvs, hz, _⟩ := blk_read hm1 hRm hb
    have hk' : qs.length = k := Nat.eq_of_beq_eq_true hk
    have hl' : off + k ≤ ps.length := Nat.le_of_ble_eq_true hl
    have hsz : (a.eval y).cells.size = k := by rw [← Array.length_toList, hyv.1, hk']
    have hst := run_storeCells_at P b off B (a.eval y).cells.toList 0 (cs ++ rest).toArray W hcs (by simp only [Array.length_toList, List.size_toArray, List.length_append, hvs.1, Nat.add_zero]; omega) hyv.ones
    simp only [Nat.add_zero] at hst
    have hspl : (cs ++ rest).take off ++ (a.eval y).cells.toList ++ (cs ++ rest).drop (off + (a.eval y).cells.toList.length) = (cs.take off ++ (a.eval y).cells.toList ++ cs.drop (off + (a.eval y).cells.toList.length)) ++ rest := by
      have l1 := hvs.1
      have l2 : (a.eval y).cells.toList.length = k := by simpa using hsz
      rw [List.take_append_of_le_length (by omega), List.drop_append_of_le_length (by omega)]
      simp
    have hst2 : ((cs ++ rest).take off ++ (a.eval y).cells.toList ++ (cs ++ rest).drop (off + (a.eval y).cells.toList.length)).toArray = ((cs.take off ++ (a.eval y).cells.toList ++ cs.drop (off + (a.eval y).cells.toList.length)) ++ rest).toArray := by rw [hspl]
    have hw := hm1.write (rest := rest) (W' := W.setRow b ((cs.take off ++ (a.eval y).cells.toList ++ cs.drop (off + (a.eval y).cells.toList.length)) ++ rest).toArray) hRm hb (setRow_heap W b _ _ B (0, 0) hcs) (fun h => by
        rw [← hz h]
        have l1 := hvs.1
        have l2 : (a.eval y).cells.toList.length = k := by simpa using hsz
        simp only [List.length_append, List.length_take, List.length_drop]
        omega) (fun k hk => setRow_other W b k _ hk) (by simp) rfl rfl rfl
      (hvs.splice hyv off)
    rw [hrs] at hw
    refine wp_done (W' := W.setRow b ((cs.take off ++ (a.eval y).cells.toList ++ cs.drop (off + (a.eval y).cells.toList.length)) ++ rest).toArray) ?_ (h9 σ _ undef (Le.refl σ) (fun _ _ _ => rfl) (hw.congr (updR_turn ..)) rfl)
    simp only [hspl] at hst
    simp only [execOp, Instr.storeAt, hpv, Instr.sureAddr, storeVar, Sem.run_bind, Sem.run_pure, Result.andThen_ok, run_sizeOf' hs, hsz]
    simp [hst]
  rd := rd_app (rd_of hx) (rd_of hy)
  use := by simp
  del := by simpa using hR
  add := by simp
inductive Parts (P : Program) (F : Fr) (s : TypeId) : List (Nat × Operand) → List (Nat × Pred) → List (Nat × List Pred) → Prop
  | nil : Parts P F s [] [] []
  | cons {i : Nat} {x : Operand} {p : Pred} {qs : List Pred} {off k : Nat} {f : TypeId} {l : List (Nat × Operand)} {rd : List (Nat × Pred)} {ps : List (Nat × List Pred)} (hx : opd F x = some p) (hv : Val p qs)
      (hf : fldB P s i = some (off, f)) (hs : sizeB P f = some k) (hk : Nat.beq qs.length k = true) (hl : Parts P F s l rd ps) : Parts P F s ((i, x) :: l) (rdo x p ++ rd) ((off, qs) :: ps)
def splices (zs : List Pred) : List (Nat × List Pred) → List Pred
  | [] => zs
  | (off, qs) :: l => splices (splice zs off qs) l
theorem fill_cells (off : Nat) : ∀ (vs : List Value) (j : Nat) (acc : Array Value), off + j + vs.length ≤ acc.size →
    ((vs.zipIdx j).foldl (fun cs (x : Value × Nat) => cs.setIfInBounds (off + x.2) x.1) acc).toList = acc.toList.take (off + j) ++ vs ++ acc.toList.drop (off + j + vs.length)
  | [], j, acc, _ => by simp
  | v :: vs, j, acc, h => by
    simp only [List.zipIdx_cons, List.foldl_cons, List.length_cons] at h ⊢
    rw [fill_cells off vs (j + 1) _ (by simp; omega)]
    have e := list_seg_step acc.toList (off + j) v vs (by simp; omega)
    simpa [Array.toList_setIfInBounds, Nat.add_assoc] using e
theorem run_fill {P : Program} {F : Fr} {s : TypeId} {l : List (Nat × Operand)} {rd : List (Nat × Pred)} {ps : List (Nat × List Pred)} (hp : Parts P F s l rd ps) {σ : Sg} {a : Act} (hr : ∀ y ∈ rd, y.2.h σ (a.tmps.getD y.1 undef)) {fs : Array Field}
    (hu : P.underlying s = some (.struct fs)) (place : Nat → Option (Nat × Nat)) (hplace : ∀ (i : Nat) (fd : Field) (k : Nat), fs[i]? = some fd → sizeB P fd.type = some k → place i = some (fd.offset, k)) :
    ∀ (zs : List Pred) (cells : Array Value), Vs σ zs cells.toList → (∀ x ∈ ps, x.1 + x.2.length ≤ zs.length) →
      ∃ cells', Instr.fill place cells (l.map fun (i, x) => (i, a.eval x)) = some cells' ∧ Vs σ (splices zs ps) cells'.toList := by
  induction hp with
  | nil => intro zs cells hz _; exact ⟨cells, rfl, hz⟩
  | @cons i x p qs off k f l rd ps hx hv hf hs hk _ ih =>
    intro zs cells hz hle
    obtain ⟨fs', fd, hu', hfd, rfl, rfl⟩ := fld_of hf
    rw [hu] at hu'
    cases hu'
    have hvc := hv.cells (holds_of hx fun z hz => hr z (List.mem_append_left _ hz))
    have hk' : qs.length = k := Nat.eq_of_beq_eq_true hk
    have hsz : (a.eval x).cells.size = k := by rw [← Array.length_toList, hvc.1, hk']
    have hcz : cells.size = zs.length := by rw [← Array.length_toList, hz.1]
    have h0 := hle _ (List.mem_cons_self ..)
    simp only at h0
    have hfit : fd.offset + (a.eval x).cells.size ≤ cells.size := by rw [hsz, hcz, ← hk']; exact h0
    have hnew : Vs σ (splice zs fd.offset qs) ((a.eval x).cells.zipIdx.foldl (fun cs (c, j) => cs.setIfInBounds (fd.offset + j) c) cells).toList := by
      rw [← Array.foldl_toList, Array.toList_zipIdx]
      have e := fill_cells fd.offset (a.eval x).cells.toList 0 cells (by simpa using hfit)
      simp only [Nat.add_zero] at e
      rw [show (fun (cs : Array Value) (x : Value × Nat) => match x with | (c, j) => cs.setIfInBounds (fd.offset + j) c) = (fun cs x => cs.setIfInBounds (fd.offset + x.2) x.1) from rfl, e]
      exact hz.splice hvc _
    have hlen : (splice zs fd.offset qs).length = zs.length := by
      unfold splice
      simp
      omega
    obtain ⟨cells', hc', hv'⟩ := ih (fun y hy => hr y (List.mem_append_right _ hy)) (splice zs fd.offset qs) _ hnew (fun y hy => by rw [hlen]; exact hle y (List.mem_cons_of_mem _ hy))
    refine ⟨cells', ?_, hv'⟩
    simp only [List.map_cons, Instr.fill, hplace i fd k hfd hs]
    rw [if_neg (by simp [hsz]; rw [← hsz]; exact hfit)]
    exact hc'
def fitB (n : Nat) : List (Nat × List Pred) → Bool
  | [] => true
  | (off, qs) :: l => Nat.ble (off + qs.length) n && fitB n l
theorem fitB_spec {n : Nat} : ∀ {l : List (Nat × List Pred)}, fitB n l = true → ∀ x ∈ l, x.1 + x.2.length ≤ n
  | [], _, x, hx => by cases hx
  | (off, qs) :: l, h, x, hx => by
    simp only [fitB, Bool.and_eq_true] at h
    rcases List.mem_cons.1 hx with rfl | hx
    · exact Nat.le_of_ble_eq_true h.1
    · exact fitB_spec h.2 x hx
/-- a field of known size, each of the struct's -/
def sizesB (P : Program) (s : TypeId) : Bool := match P.underlying s with | some (.struct fs) => fs.all fun f => (sizeB P f.type).isSome | _ => false
theorem run_places {P : Program} {fs : Array Field} (h : (fs.all fun f => (sizeB P f.type).isSome) = true) (W : World) :
    (fs.mapM fun f => (do pure (f.offset, ← sizeOf f.type) : Sem (Nat × Nat))).run P W = .ok (fs.map fun f => (f.offset, (sizeB P f.type).getD 0)) W := by
  rw [Array.mapM_eq_mapM_toList]
  have : ∀ l : List Field, (∀ f ∈ l, (sizeB P f.type).isSome = true) → (l.mapM fun f => (do pure (f.offset, ← sizeOf f.type) : Sem (Nat × Nat))).run P W = .ok (l.map fun f => (f.offset, (sizeB P f.type).getD 0)) W := by
    intro l hl
    induction l with
    | nil => simp
    | cons f l ih =>
      obtain ⟨k, hk⟩ := Option.isSome_iff_exists.1 (hl f (by simp))
      simp only [List.mapM_cons, Sem.run_bind, run_sizeOf' hk, Result.andThen_ok, Sem.run_pure, ih (fun g hg => hl g (List.mem_cons_of_mem _ hg)), List.map_cons, hk, Option.getD_some]
  simp only [Sem.run_map]
  rw [this fs.toList (fun f hf => by
    rw [Array.all_eq_true_iff_forall_mem] at h
    exact h f (by simpa using hf))]
  simp only [Result.andThen_ok]
  congr 1
  apply Array.ext'
  simp
theorem op_build {s : TypeId} {parts : List (Nat × Operand)} {rd : List (Nat × Pred)} {ps : List (Nat × List Pred)} {z : Value} {zs qs : List Pred} (hz : zeroB P s = some (some z)) (hzs : z.cells.toList.map eqP = zs) (h1 : z.cells.toList.all Value.oneCell' = true)
    (hsz : sizesB P s = true) (hp : Parts P F s parts rd ps) (hfit : fitB zs.length ps = true) (hqs : splices zs ps = qs) :
    OpJ P n N F R ⟨d, .build s parts.toArray, T, pos, after, none⟩ ⟨rd, [], [], [], [], aggP qs⟩ := by
  have hrd : ∀ y ∈ rd, lk F y.1 = some y.2 := by
    clear hfit hqs
    induction hp with
    | nil => intro y hy; cases hy
    | cons hx _ _ _ _ _ ih => exact rd_app (rd_of hx) ih
  refine opj_pure hrd fun σ W a hr => ?_
  unfold sizesB at hsz
  split at hsz
  · rename_i fs hu
    have hpl := run_places hsz W
    obtain ⟨cells', hc', hv'⟩ := run_fill hp hr hu (fun i => (fs.map fun f => (f.offset, (sizeB P f.type).getD 0))[i]?) (fun i fd k hfd hk => by simp [hfd, hk]) zs z.cells (by rw [← hzs]; exact Vs.eqs h1) (fitB_spec hfit)
    refine ⟨.agg cells', ?_, cells'.toList, rfl, by rw [← hqs]; exact hv'⟩
    have hl : (parts.toArray.map fun (i, x) => (i, a.eval x)).toList = parts.map fun (i, x) => (i, a.eval x) := by simp
    simp only [execOp, Instr.build, Sem.run_bind, run_zero hz, Result.andThen_ok, run_underlying hu, hpl, hl, hc', Sem.run_pure]
  · cases hsz
end
end Go.AL


namespace Go.AL
open Go.RowKit
/-- a function that a call enters -/
def fnB (P : Program) (f : FuncId) : Bool := match P.funcs[f]? with | some fn => fn.name != "runtime.NumGoroutine" && fn.body.isSome | none => false
theorem run_callFunc {P : Program} {f : FuncId} (h : fnB P f = true) (args : Array Value) (W : World) : (callFunc f args).run P W = .ok (.enter f args) W := by
  unfold fnB at h
  split at h
  · rename_i fn hf
    simp only [Bool.and_eq_true, bne_iff_ne, ne_eq] at h
    cases hb : fn.body with
    | none => rw [hb] at h; simp at h
    | some c => simp [callFunc, run_program, hf, h.1, hb]
  · cases h
theorem upon_call {P : Program} {o : Oper} {a : Act} {W : World} {f : FuncId} {args : Array Value} {K : Act → World → Prop} {Q : Exit → Act → World → Prop}
    (h : (execOp a.eval o).run P W = .ok (.enter f args) W) (hc : Calls P f args W fun e W' => ∃ v, e = .returned v ∧ K (a.put o.dst v) W') : o.wp P a W K Q := by
  unfold Oper.wp
  rw [h]
  show Calls P f args W _
  refine hc.mono ?_
  rintro e W' ⟨v, rfl, hk⟩
  exact hk
/-- the arguments -/
inductive Args (F : Fr) : List Operand → List Pred → List (Nat × Pred) → Prop
  | nil : Args F [] [] []
  | cons {x : Operand} {p : Pred} {l : List Operand} {ps : List Pred} {rd : List (Nat × Pred)} (hx : opd F x = some p) (hl : Args F l ps rd) : Args F (x :: l) (p :: ps) (rdo x p ++ rd)
  | ent {x : Operand} {p q : Pred} {l : List Operand} {ps : List Pred} {rd : List (Nat × Pred)} (hx : opd F x = some p) (he : Ent p q) (hl : Args F l ps rd) : Args F (x :: l) (q :: ps) (rdo x p ++ rd)
theorem Args.rd {F : Fr} {l : List Operand} {ps : List Pred} {rd : List (Nat × Pred)} (h : Args F l ps rd) : ∀ y ∈ rd, lk F y.1 = some y.2 := by
  induction h with
  | nil => intro y hy; cases hy
  | cons hx _ ih => exact rd_app (rd_of hx) ih
  | ent hx _ _ ih => exact rd_app (rd_of hx) ih
theorem Args.len {F : Fr} {l : List Operand} {ps : List Pred} {rd : List (Nat × Pred)} (h : Args F l ps rd) : l.length = ps.length := by
  induction h with
  | nil => rfl
  | cons _ _ ih => simp [ih]
  | ent _ _ _ ih => simp [ih]
theorem Args.holds {F : Fr} {l : List Operand} {ps : List Pred} {rd : List (Nat × Pred)} (h : Args F l ps rd) {σ : Sg} {a : Act} (hr : ∀ y ∈ rd, y.2.h σ (a.tmps.getD y.1 undef)) :
    ∀ (i : Nat) (p : Pred), ps[i]? = some p → p.h σ (((l.map a.eval)[i]?).getD undef) := by
  induction h with
  | nil => intro i p hp; simp at hp
  | cons hx _ ih =>
    intro i q hq
    cases i with
    | zero => simp at hq ⊢; subst hq; exact holds_of hx fun z hz => hr z (List.mem_append_left _ hz)
    | succ i => simpa using ih (fun z hz => hr z (List.mem_append_right _ hz)) i q (by simpa using hq)
  | ent hx he _ ih =>
    intro i q hq
    cases i with
    | zero => simp at hq ⊢; subst hq; exact he _ _ (holds_of hx fun z hz => hr z (List.mem_append_left _ hz))
    | succ i => simpa using ih (fun z hz => hr z (List.mem_append_right _ hz)) i q (by simpa using hq)
theorem fresh_M {σ : Sg} {R : Toks} {W : World} (h : Models σ R W) (N : Nat) : ∃ M, N < M ∧ ∀ N', M ≤ N' → ∀ j, σ.ρ (N', j) = none := by
  obtain ⟨m, hm⟩ := h.fin
  exact ⟨max (N + 1) m, by omega, fun N' hN' j => hm N' (by omega) j⟩
section
variable {P : Program} {n N : Nat} {F : Fr} {R : Toks} {d : Option Nat} {T : TypeId} {pos : String} {after : Array Edge}
theorem args_ok {F : Fr} {l : List Operand} {ps : List Pred} {rd : List (Nat × Pred)} (h : Args F l ps rd) {σ : Sg} {a : Act} (hr : ∀ y ∈ rd, y.2.h σ (a.tmps.getD y.1 undef)) :
    (l.toArray.map a.eval).size = ps.length ∧ ∀ (i : Nat) (p : Pred), ps[i]? = some p → p.h σ ((l.toArray.map a.eval).getD i undef) := by
  refine ⟨by simp [h.len], fun i p hp => ?_⟩
  have := h.holds hr i p hp
  simpa [Array.getD_eq_getD_getElem?, List.getElem?_toArray] using this
theorem run_call_func {o : Oper} {f : FuncId} {l : List Operand} {ts : Array TypeId} (ho : o.op = .call { callee := .value (.func f), args := l.toArray, argTypes := ts }) (hf : fnB P f = true) (a : Act) (W : World) :
    (execOp a.eval o).run P W = .ok (.enter f (l.toArray.map a.eval)) W := by
  simp only [execOp, ho, resolve, Act.eval, Deferred.ofValue, Sem.run_bind, Sem.run_pure, Result.andThen_ok, invoke]
  rw [show ∀ x : Array Value, (#[] ++ x) ++ #[] = x by intro x; simp]
  exact run_callFunc hf _ W
/-- **a call of a function that keeps nothing of the caller's own** -/
theorem op_call {f : FuncId} {l : List Operand} {ts : Array TypeId} {pre : List Pred} {post : Pred} {rd : List (Nat × Pred)} (hc : FnP P f pre post) (hargs : Args F l pre rd) (hf : fnB P f = true) :
    OpJ P n N F R ⟨d, .call { callee := .value (.func f), args := l.toArray, argTypes := ts }, T, pos, after, none⟩ ⟨rd, [], [], [], [], post⟩ where
  loc := by
    intro σ W R a K hm h2 h3 h4 h5 h6 h7 h8 h9 Q
    refine upon_call (run_call_func rfl hf a W) ?_
    obtain ⟨M, hNM, hM⟩ := fresh_M hm N
    obtain ⟨h10, h11⟩ := args_ok hargs h4
    have := hc σ W (fun k => if k < 1000000 then none else R (k - 1000000)) (l.toArray.map a.eval) (fun _ => (0, 0)) M
      (hm.reindex (fun k => k - 1000000) (fun x y hxy hx hy => by
        by_cases h1 : x < 1000000
        · simp [h1] at hx
        · by_cases h2 : y < 1000000
          · simp [h2] at hy
          · omega) (fun k x hx => by
        by_cases h1 : k < 1000000
        · simp [h1] at hx
        · simpa [h1] using hx))
      (fun k hk => by simp [hk]) hM (fun j hj => by omega) (fun i j hi => by omega) h10 h11
    refine this.mono ?_
    rintro e W' ⟨v, σ', rfl, hle, hkeep, hmod, hpost⟩
    refine ⟨v, rfl, h9 σ' W' v hle ?_ ?_ hpost⟩
    · intro id hid _
      exact hkeep id (by omega) (fun j hj => by omega)
    · rw [updR_same]
      refine hmod.reindex (fun k => k + 1000000) (fun x y hxy _ _ => by omega) (fun k x hx => ?_)
      simp only [show ¬ k + 1000000 < 1000000 by omega, if_false, Nat.add_sub_cancel]
      exact hx
  rd := hargs.rd
  use := by simp
  del := by simp
  add := by simp
theorem run_call_value {o : Oper} {f : FuncId} {x : Operand} {l : List Operand} {ts : Array TypeId} {first caps : List Value} (ho : o.op = .call { callee := .value x, args := l.toArray, argTypes := ts }) (hf : fnB P f = true) (a : Act)
    (hx : a.eval x = .func (.func f) first.toArray caps.toArray) (W : World) : (execOp a.eval o).run P W = .ok (.enter f (first ++ l.map a.eval ++ caps).toArray) W := by
  simp only [execOp, ho, resolve, hx, Deferred.ofValue, Sem.run_bind, Sem.run_pure, Result.andThen_ok, invoke]
  rw [run_callFunc hf]
  congr 2
  simp
end
inductive RV (P : Program) (F : Fr) (L : Tk) : List ResultVar → List Pred → Prop
  | nil : RV P F L [] []
  | tmp {t : Nat} {p : Pred} {l : List ResultVar} {ps : List Pred} (h : lk F t = some p) (hl : RV P F L l ps) : RV P F L (.tmp t :: l) (p :: ps)
  | cell {t m κ : Nat} {T B : TypeId} {id : Id} {qs : List Pred} {l : List ResultVar} {ps : List Pred} (h : lk F t = some (ptrP id 0)) (hL : lk L m = some (some (id, blkX κ B qs))) (ha : aggB P T = some true) (hs : sizeB P T = some qs.length)
      (hl : RV P F L l ps) : RV P F L (.cell t T :: l) (aggP qs :: ps)
  | cell1 {t m κ : Nat} {T B : TypeId} {id : Id} {p : Pred} {l : List ResultVar} {ps : List Pred} (h : lk F t = some (ptrP id 0)) (hL : lk L m = some (some (id, blkX κ B [p]))) (ha : aggB P T = some false)
      (hl : RV P F L l ps) : RV P F L (.cell t T :: l) (p :: ps)
def rvf (a : Act) (x : ResultVar) : Sem Value := match x with | .tmp t => pure (a.tmps.getD t undef) | .cell c t => do loadVar t (← asAddr (a.tmps.getD c undef))
theorem RV.run {P : Program} {F : Fr} {L : Tk} {Rf : Toks} {n : Nat} {rs : List ResultVar} {ps : List Pred} (h : RV P F L rs ps) {σ : Sg} {a : Act} {W : World} (hh : Holds n (lk F) (tkf L Rf) σ a W) :
    ∃ vs : List Value, (rs.mapM (rvf a)).run P W = .ok vs W ∧
      vs.length = ps.length ∧ ∀ (j : Nat) (p : Pred) (u : Value), ps[j]? = some p → vs[j]? = some u → p.h σ u := by
  induction h with
  | nil => exact ⟨[], rfl, rfl, fun j p u hp => by simp at hp⟩
  | @tmp t p l ps h _ ih =>
    obtain ⟨vs, hr, hl, hv⟩ := ih
    refine ⟨a.tmps.getD t undef :: vs, ?_, by simp [hl], fun j q u hq hu => ?_⟩
    · have e0 : (rvf a (.tmp t)).run P W = .ok (a.tmps.getD t undef) W := rfl
      simp only [List.mapM_cons, Sem.run_bind, Sem.run_pure, Result.andThen_ok, e0, hr]
    · cases j with
      | zero => simp at hq; simp only [List.getElem?_cons_zero, Option.some.injEq] at hu; subst hq; subst hu; exact hh.fr t p h
      | succ j => exact hv j q u (by simpa using hq) (by simpa using hu)
  | @cell t m κ T B id qs l ps h hL ha hs _ ih =>
    obtain ⟨vs, hr, hl, hv⟩ := ih
    obtain ⟨b, hb, hp⟩ := hh.fr t _ h
    obtain ⟨cs, rest, hcs, hvs, _⟩ := blk_read hh.mod (show tkf L Rf m = some (id, blkX κ B qs) by simp [tkf, hL]) hb
    have hc := run_cells (P := P) (W := W) (b := b) (off := 0) (cs := cs) (fun j v hv => by rw [Nat.zero_add]; exact cell_blk hcs hv)
    rw [hvs.1] at hc
    refine ⟨.agg cs.toArray :: vs, ?_, by simp [hl], fun j q u hq hu => ?_⟩
    · have e0 : (rvf a (.cell t T)).run P W = .ok (.agg cs.toArray) W := by
        simp only [rvf, Sem.run_bind, Sem.run_pure, Result.andThen_ok, hp, asAddr, loadVar, run_isAgg ha, run_sizeOf' hs, hc, if_true]
      simp only [List.mapM_cons, Sem.run_bind, Sem.run_pure, Result.andThen_ok, e0, hr]
    · cases j with
      | zero => simp at hq; simp only [List.getElem?_cons_zero, Option.some.injEq] at hu; subst hq; subst hu; exact ⟨cs, rfl, hvs⟩
      | succ j => exact hv j q u (by simpa using hq) (by simpa using hu)
  | @cell1 t m κ T B id p l ps h hL ha _ ih =>
    obtain ⟨vs, hr, hl, hv⟩ := ih
    obtain ⟨b, hb, hp⟩ := hh.fr t _ h
    obtain ⟨cs, rest, hcs, hvs, _⟩ := blk_read hh.mod (show tkf L Rf m = some (id, blkX κ B [p]) by simp [tkf, hL]) hb
    obtain ⟨u, rfl⟩ : ∃ u, cs = [u] := by
      have := hvs.1
      match cs, this with
      | [u], _ => exact ⟨u, rfl⟩
    have hcell : W.cell? ⟨b, 0, none⟩ = some u := cell_blk hcs rfl
    refine ⟨u :: vs, ?_, by simp [hl], fun j q v hq hu => ?_⟩
    · have e0 : (rvf a (.cell t T)).run P W = .ok u W := by
        simp only [rvf, Sem.run_bind, Sem.run_pure, Result.andThen_ok, hp, asAddr, loadVar, run_isAgg ha, run_load, hcell, Bool.false_eq_true, if_false]
      simp only [List.mapM_cons, Sem.run_bind, Sem.run_pure, Result.andThen_ok, e0, hr]
    · cases j with
      | zero => simp at hq; simp only [List.getElem?_cons_zero, Option.some.injEq] at hu; subst hq; subst hu; exact (hvs.2 0 p u rfl rfl).1
      | succ j => exact hv j q v (by simpa using hq) (by simpa using hu)
theorem run_results' {P : Program} {fn : Func} {rs : List ResultVar} (h : fn.results = rs.toArray) (a : Act) (W : World) {vs : List Value}
    (hr : (rs.mapM (rvf a)).run P W = .ok vs W) :
    (results fn a.tmps).run P W = .ok (if h : vs.length = 1 then vs[0] else .tuple vs.toArray) W := by
  have e0 : results fn a.tmps = (do let vs ← fn.results.mapM (rvf a); pure (if h : vs.size = 1 then vs[0] else .tuple vs)) := rfl
  rw [e0, h, Array.mapM_eq_mapM_toList]
  simp only [Sem.run_bind, Sem.run_map, hr, Result.andThen_ok, Sem.run_pure, List.size_toArray]
  by_cases h1 : vs.length = 1
  · simp [h1]
  · simp [h1]
section
variable {P : Program} {C : Cx} {F : Fr} {L : Tk} {fn : Func} {R : Ending → World → Prop} {k : Nat} {post : (Nat → Id) → Pred} {prod : (Nat → Id) → List (Id × Res)} {ι : Nat → Id}
/-- what the end of a function owes; nothing is handed to the caller -/
def Owes (C : Cx) (R : Ending → World → Prop) (post : Pred) : Prop := ∀ v W σ, Le C.σ0 σ → KeepB C σ → Models σ (fun n => if n < 1000000 then none else C.Rf n) W → post.h σ v → R (.returned v) W
theorem ret_mod {Rf : Toks} {σ : Sg} {W : World} (hlow : lowL L = true) (hm : Models σ (tkf L Rf) W) : Models σ (fun n => if n < 1000000 then none else Rf n) W :=
  hm.sub fun m x hx => by
    by_cases h : m < 1000000
    · simp [h] at hx
    · simp only [h, if_false] at hx
      simp only [tkf, lk_low hlow (Nat.le_of_not_lt h)]
      exact hx
theorem pe_ret1 {r : ResultVar} {p q : Pred} (hres : fn.results = #[r]) (ho : Owes C R q) (hlow : lowL L = true) (hr : RV P F L [r] [p]) (he : Ent p q) : Post C F L (bodyPost P fn R .ret) := by
  rintro a W ⟨σ, h1, h2, h3⟩
  obtain ⟨vs, hrun, hl, hv⟩ := hr.run h3
  obtain ⟨v, rfl⟩ : ∃ v, vs = [v] := by
    match vs, hl with
    | [v], _ => exact ⟨v, rfl⟩
  refine ⟨h3.defers, v, run_results' (rs := [r]) hres a W hrun, ?_⟩
  exact ho v W σ h1 h2 (ret_mod hlow h3.mod) (he _ _ (hv 0 p v rfl rfl))
theorem pe_retN {rs : List ResultVar} {ps : List Pred} {q : Pred} (hres : fn.results = rs.toArray) (hlen : Nat.beq ps.length 1 = false) (ho : Owes C R q) (hlow : lowL L = true) (hr : RV P F L rs ps) (he : Ent (tupP ps) q) : Post C F L (bodyPost P fn R .ret) := by
  rintro a W ⟨σ, h1, h2, h3⟩
  obtain ⟨vs, hrun, hl, hv⟩ := hr.run h3
  have hne : ¬ vs.length = 1 := fun e => by rw [hl] at e; rw [e] at hlen; simp at hlen
  refine ⟨h3.defers, .tuple vs.toArray, ?_, ?_⟩
  · have := run_results' (P := P) hres a W hrun
    rwa [dif_neg hne] at this
  · exact ho _ W σ h1 h2 (ret_mod hlow h3.mod) (he _ _ ⟨vs, rfl, hl, hv⟩)
end
/-- the beginning of a function that keeps nothing of the caller's own -/
theorem fn_pure {P : Program} {f : FuncId} {fn : Func} {c : Code} {pre : List Pred} {post : Pred} (hf : P.funcs[f]? = some fn) (hb : fn.body = some c) (hn : Nat.ble pre.length fn.ntmps = true)
    (h : ∀ (C : Cx) (R : Ending → World → Prop), CxOK C → C.n = fn.ntmps → Owes C R post → Tr P C c (frameOf 0 pre) [] (bodyPost P fn R)) : FnP P f pre post :=
  fn_enter hf hb (Nat.le_of_ble_eq_true hn) (by simp) fun C _ R hC hCn _ _ _ ho => h C R hC hCn fun v W σ h1 h2 h3 h4 => ho v W σ h1 h2 (h3.sub fun m x hx => by simpa using hx) h4
end Go.AL


namespace Go.AL
open Go.RowKit
theorem flatMap_len {α : Type} {f : α → List Pred} {k : Nat} (hk : ∀ z, (f z).length = k) : ∀ xs : List α, (xs.flatMap f).length = xs.length * k
  | [] => by simp
  | x :: xs => by rw [List.flatMap_cons, List.length_append, hk, flatMap_len hk xs, List.length_cons, Nat.succ_mul]; omega
theorem flatten_replicate_range {z : Array Value} {k : Nat} (hz : z.size = k) (hk : 0 < k) : ∀ m : Nat, (List.range (m * k)).map (z[· % z.size]!) = (List.replicate m z.toList).flatten
  | 0 => by simp
  | m + 1 => by
    rw [Nat.succ_mul, List.range_add, List.map_append, flatten_replicate_range hz hk m, List.replicate_succ', List.flatten_append]
    congr 1
    simp only [List.map_map, List.flatten_cons, List.flatten_nil, List.append_nil]
    apply List.ext_getElem
    · simp [hz]
    · intro i h1 h2
      simp at h1 h2
      have : (m * k + i) % k = i := by rw [Nat.mul_comm, Nat.mul_add_mod]; exact Nat.mod_eq_of_lt h1
      have h2' : i < z.size := by omega
      simp [hz, this, getElem!_pos z i h2']
section
variable {P : Program} {n N : Nat} {F : Fr} {R : Toks} {d : Option Nat} {T : TypeId} {pos : String} {after : Array Edge} {α : Type} {f : α → List Pred} {k : Nat} {xs ys : List α} {t e : TypeId}
inductive Elems (F : Fr) (f : α → List Pred) : Nat → List (Nat × Operand) → List α → List (Nat × Pred) → Prop
  | nil {j : Nat} : Elems F f j [] [] []
  | cons {j : Nat} {x : Operand} {p : Pred} {z : α} {l : List (Nat × Operand)} {zs : List α} {rd : List (Nat × Pred)} (hx : opd F x = some p) (hv : Val p (f z)) (hl : Elems F f (j + 1) l zs rd) : Elems F f j ((j, x) :: l) (z :: zs) (rdo x p ++ rd)
theorem Elems.rd {j : Nat} {l : List (Nat × Operand)} {zs : List α} {rd : List (Nat × Pred)} (h : Elems F f j l zs rd) : ∀ y ∈ rd, lk F y.1 = some y.2 := by
  induction h with
  | nil => intro y hy; cases hy
  | cons hx _ _ ih => exact rd_app (rd_of hx) ih
theorem Elems.len {j : Nat} {l : List (Nat × Operand)} {zs : List α} {rd : List (Nat × Pred)} (h : Elems F f j l zs rd) : l.length = zs.length := by
  induction h with
  | nil => rfl
  | cons _ _ _ ih => simp [ih]
theorem run_elems {j : Nat} {l : List (Nat × Operand)} {zs : List α} {rd : List (Nat × Pred)} (h : Elems F f j l zs rd) (hk : ∀ z, (f z).length = k) {σ : Sg} {a : Act} (hr : ∀ y ∈ rd, y.2.h σ (a.tmps.getD y.1 undef)) :
    ∀ (ps : List Pred) (cells : Array Value), Vs σ ps cells.toList → ps.length = (j + zs.length) * k →
      ∃ cells', Instr.fill (fun i => some (i * k, k)) cells (l.map fun (i, x) => (i, a.eval x)) = some cells' ∧ Vs σ (ps.take (j * k) ++ zs.flatMap f) cells'.toList := by
  induction h with
  | @nil j =>
    intro ps cells hz hl
    refine ⟨cells, rfl, ?_⟩
    simp only [List.length_nil, Nat.add_zero] at hl
    rw [List.take_of_length_le (by omega)]
    simpa using hz
  | @cons j x p z l zs rd hx hv _ ih =>
    intro ps cells hz hl
    have hvc := hv.cells (holds_of hx fun z hz => hr z (List.mem_append_left _ hz))
    have hsz : (a.eval x).cells.size = k := by rw [← Array.length_toList, hvc.1, hk]
    have hcz : cells.size = ps.length := by rw [← Array.length_toList, hz.1]
    simp only [List.length_cons] at hl
    have hfit : j * k + (a.eval x).cells.size ≤ cells.size := by
      rw [hsz, hcz, hl, ← Nat.succ_mul]
      exact Nat.mul_le_mul_right _ (by omega)
    have hnew : Vs σ (splice ps (j * k) (f z)) ((a.eval x).cells.zipIdx.foldl (fun cs (c, i) => cs.setIfInBounds (j * k + i) c) cells).toList := by
      rw [← Array.foldl_toList, Array.toList_zipIdx]
      have e := fill_cells (j * k) (a.eval x).cells.toList 0 cells (by simpa using hfit)
      simp only [Nat.add_zero] at e
      rw [show (fun (cs : Array Value) (x : Value × Nat) => match x with | (c, i) => cs.setIfInBounds (j * k + i) c) = (fun cs x => cs.setIfInBounds (j * k + x.2) x.1) from rfl, e]
      exact hz.splice hvc _
    have hple : j * k + k ≤ ps.length := by rw [hl, ← Nat.succ_mul]; exact Nat.mul_le_mul_right _ (by omega)
    have hlen : (splice ps (j * k) (f z)).length = ps.length := by
      unfold splice
      simp [hk]
      omega
    obtain ⟨cells', hc', hv'⟩ := ih (fun y hy => hr y (List.mem_append_right _ hy)) _ _ hnew (by rw [hlen, hl]; congr 1; omega)
    refine ⟨cells', ?_, ?_⟩
    · simp only [List.map_cons, Instr.fill]
      rw [if_neg (by rw [hsz] at hfit ⊢; simp; exact hfit)]
      exact hc'
    · have : (splice ps (j * k) (f z)).take ((j + 1) * k) = ps.take (j * k) ++ f z := by
        unfold splice
        rw [List.take_append_of_le_length (by simp [hk]; rw [Nat.succ_mul]; omega), List.take_of_length_le]
        simp [hk]
        rw [Nat.succ_mul]
        omega
      rw [this] at hv'
      simpa using hv'
/-- new cells that nobody will write: they are laid into the immutable ones -/
theorem Models.lay {σ : Sg} {R : Toks} {W : World} (h : Models σ R W) {T : TypeId} (cs : List Value) :
    Models (addC σ (fun b i => if b = W.heap.size then cs[i]? else none)) R (W.alloc (.cells cs.toArray T)) where
  base := h.base.trans ((Below.refl _ _).alloc h.n0 _)
  n0 := by show σ.n0 ≤ _; rw [World.size_alloc]; have := h.n0; omega
  imm b i v hv := by
    by_cases hb : b = W.heap.size
    · subst hb
      rw [addC_new (no_imm_new h i)] at hv
      simp only [if_true] at hv
      rw [cell_of_row _ W.heap.size i cs.toArray T (0, 0) (heap_alloc_new W _)]
      simpa using hv
    · have hv' : σ.c b i = some v := by simpa [addC, hb] using hv
      rw [World.cell?_alloc_lt W _ ⟨b, i, none⟩ (h.imm_lt hv')]
      exact h.imm b i v hv'
  res m id r hm b hb := by
    obtain ⟨h1, o, ho, hro⟩ := h.res m id r hm b hb
    have hlt := (Array.getElem?_eq_some_iff.1 ho).1
    refine ⟨h1, o, (Below.heap_alloc W _ b hlt).trans ho, r.m _ _ _ _ _ (le_addC ..) hb (fun i => ?_) hro⟩
    have hne : b ≠ W.heap.size := by omega
    simp [addC, hne]
  sep := h.sep
  used := h.used
  fin := h.fin
theorem Cs_lay {σ : Sg} {R : Toks} {W : World} (h : Models σ R W) {ps : List Pred} {cs : List Value} (hv : Vs σ ps cs) (off : Nat) (qs : List Pred) (hq : ∀ (j : Nat) (p : Pred), qs[j]? = some p → ps[off + j]? = some p) :
    Cs (addC σ (fun b i => if b = W.heap.size then cs[i]? else none)) W.heap.size off qs := by
  intro j p hp
  have hp' := hq j p hp
  have hlt : off + j < cs.length := by rw [hv.1]; exact (List.getElem?_eq_some_iff.1 hp').1
  refine ⟨cs[off + j], ?_, (hv.2 _ p _ hp' (List.getElem?_eq_getElem hlt)).mono (le_addC ..)⟩
  rw [addC_new (no_imm_new h _)]
  simp [List.getElem?_eq_getElem hlt]
theorem flatMap_at {f : α → List Pred} (hk : ∀ z, (f z).length = k) : ∀ (zs : List α) (i : Nat) (z : α), zs[i]? = some z → ∀ (j : Nat) (p : Pred), (f z)[j]? = some p → (zs.flatMap f)[i * k + j]? = some p
  | [], i, z, h, _, _, _ => by simp at h
  | y :: zs, 0, z, h, j, p, hp => by
    simp at h
    subst h
    rw [List.flatMap_cons, Nat.zero_mul, Nat.zero_add, List.getElem?_append_left (List.getElem?_eq_some_iff.1 hp).1]
    exact hp
  | y :: zs, i + 1, z, h, j, p, hp => by
    rw [List.flatMap_cons, List.getElem?_append_right (by rw [hk, Nat.succ_mul]; omega), hk, show (i + 1) * k + j - k = i * k + j by rw [Nat.succ_mul]; omega]
    exact flatMap_at hk zs i z (by simpa using h) j p hp
theorem op_buildSlice {len : Nat} {l : List (Nat × Operand)} {rd : List (Nat × Pred)} {z : Value} (hz : zeroB P e = some (some z)) (h1 : z.cells.toList.all Value.oneCell' = true) (hzs : z.cells.size = k) (hk0 : 0 < k) (ht : elemB P t = some e) (hs : sizeB P e = some k)
    (hk : ∀ z, (f z).length = k) (hl : Elems F f 0 l xs rd) (hlen : xs.length = len) (hbig : len * k ≤ 16777216) :
    OpJ P n N F R ⟨d, .buildSlice t len l.toArray, T, pos, after, none⟩ ⟨rd, [], [], [], [], slP f k xs⟩ where
  loc := by
    intro σ W R a K hm h2 h3 h4 h5 h6 h7 h8 h9 Q
    subst hlen
    have hzc : Vs σ ((List.replicate xs.length (z.cells.toList.map eqP)).flatten) ((Array.range (xs.length * k)).map (z.cells[· % z.cells.size]!)).toList := by
      have e1 : ((Array.range (xs.length * k)).map (z.cells[· % z.cells.size]!)).toList = (List.replicate xs.length z.cells.toList).flatten := by
        have := @flatten_replicate_range z.cells k hzs hk0 xs.length
        simpa using this
      rw [e1]
      have e2 : (List.replicate xs.length (z.cells.toList.map eqP)).flatten = ((List.replicate xs.length z.cells.toList).flatten).map eqP := by simp [List.map_flatten]
      rw [e2]
      exact Vs.eqs (by
        rw [List.all_eq_true]
        intro v hv
        obtain ⟨y, hy, hv⟩ := List.mem_flatten.1 hv
        rw [List.mem_replicate] at hy
        rw [hy.2] at hv
        exact List.all_eq_true.1 h1 v hv)
    obtain ⟨cells', hc', hv'⟩ := run_elems hl hk h4 _ _ hzc (by simp [hzs])
    simp only [Nat.zero_mul, List.take_zero, List.nil_append] at hv'
    have hcl : cells'.toList.length = xs.length * k := by rw [hv'.1]; exact flatMap_len hk xs
    refine wp_value (v := .slice (some ⟨W.heap.size, 0, none⟩) xs.length xs.length) (W' := W.alloc (.cells cells'.toList.toArray e)) ?_ (h9 _ _ _ (le_addC ..) (fun _ _ _ => rfl) ((hm.lay cells'.toList).congr (updR_same ..)) ?_)
    · have hla : (l.toArray.map fun (i, x) => (i, a.eval x)).toList = l.map fun (i, x) => (i, a.eval x) := by simp
      simp only [execOp, Instr.buildSlice, Sem.run_bind, run_underlying (elem_of ht), Result.andThen_ok, run_sizeOf' hs]
      rw [show (2 : Nat) ^ 24 = 16777216 from rfl, if_neg (by omega)]
      by_cases h0 : xs.length * k = 0
      · have hr0 : (Array.range (xs.length * k)).map ((#[] : Array Value)[· % (#[] : Array Value).size]!) = (Array.range (xs.length * k)).map (z.cells[· % z.cells.size]!) := by simp [h0]
        simp only [if_pos h0, Sem.run_bind, Sem.run_pure, Result.andThen_ok, hr0, hla, hc', newRow]
        simp
      · simp only [if_neg h0, Sem.run_bind, run_zero hz, Sem.run_pure, Result.andThen_ok, hla, hc', newRow]
        simp
    · refine ⟨_, _, rfl, Nat.le_refl _, by unfold maxLen; rcases Nat.eq_zero_or_pos xs.length with h | h
                                           · omega
                                           · have : xs.length * 1 ≤ xs.length * k := Nat.mul_le_mul_left _ hk0
                                             omega, fun _ => ⟨W.heap.size, 0, rfl, fun i x hx => ?_⟩⟩
      rw [Nat.zero_add]
      exact Cs_lay hm hv' (i * k) (f x) (fun j p hp => flatMap_at hk xs i x hx j p hp)
  rd := hl.rd
  use := by simp
  del := by simp
  add := by simp
end
end Go.AL


namespace Go.AL
open Go.RowKit
theorem updR_row (R : Toks) (rd : List (Nat × Pred)) (use : List (Nat × Id × Res)) (m m' : Nat) (x x' : Id × Res) (new : List Nat) (φ : Pred) :
    updR R ⟨rd, use, [(m, x)], [(m', x')], new, φ⟩ = fun k => if k = m' then some x' else if k = m then none else R k := by
  funext k
  by_cases h : k = m'
  · subst h; simp [updR]
  · have h1 : (m' == k) = false := by simpa using fun e => h e.symm
    by_cases h2 : k = m
    · subst h2; simp [updR, h1, h]
    · have h3 : (m == k) = false := by simpa using fun e => h2 e.symm
      simp [updR, h1, h, h2, h3]
section
variable {α : Type} {f : α → List Pred} {k : Nat} {e : TypeId} {σ : Sg} {R : Toks} {W : World} {id' : Id} {m' : Nat}
/-- cells laid in one block from lo on -/
def putC (b lo : Nat) (vals : List Value) : Nat → Nat → Option Value := fun b' i => if b' = b ∧ lo ≤ i then vals[i - lo]? else none
theorem zc_len (z : Array Value) (n : Nat) : (Builtin.zeroCells z n).toList.length = n * z.size := (Array.length_toList (xs := Builtin.zeroCells z n)).trans (size_zeroCells z n)
theorem addC_ne {c : Nat → Nat → Option Value} {b : Nat} (h : ∀ i, c b i = none) (i : Nat) : (addC σ c).c b i = σ.c b i := by simp [addC, h i]
theorem le_bindC {c : Nat → Nat → Option Value} {b : Option Nat} {z : Nat} (h : σ.ρ id' = none) : Le σ (bind (addC σ c) id' b z) := (le_addC σ c).trans (le_bind h)
/-- a row in a new block -/
theorem Models.rowNew (h : Models σ R W) (hid : σ.ρ id' = none) (hm' : R m' = none) {xs : List α} (hk : ∀ z, (f z).length = k) {vals rest : List Value} {cap : Nat}
    (hv : Vs σ (xs.flatMap f) vals) (hlen : (vals ++ rest).length = cap * k) (hcap : xs.length ≤ cap) (hmax : cap ≤ maxLen) :
    ∀ τ, τ = bind (addC σ (putC W.heap.size 0 vals)) id' (some W.heap.size) cap →
    Models τ (fun n => if n = m' then some (id', tail e k (xs.length * k)) else R n) (W.alloc (.cells (vals ++ rest).toArray e)) ∧ (rowP id' f k xs).h τ (.slice (some ⟨W.heap.size, 0, none⟩) xs.length cap) := by
  rintro τ rfl
  have hvl : vals.length = xs.length * k := by rw [hv.1, flatMap_len hk]
  have hold : ∀ b i, b ≠ W.heap.size → (bind (addC σ (putC W.heap.size 0 vals)) id' (some W.heap.size) cap).c b i = σ.c b i := fun b i hb => addC_ne (c := putC W.heap.size 0 vals) (fun i => by simp [putC, hb]) i
  have hnew : ∀ i, (bind (addC σ (putC W.heap.size 0 vals)) id' (some W.heap.size) cap).c W.heap.size i = vals[i]? := fun i => by
    show (addC σ (putC W.heap.size 0 vals)).c W.heap.size i = _
    rw [addC_new (no_imm_new h i)]
    simp [putC]
  refine ⟨h.move (le_bindC hid) m' id' _ (fun i hi => bind_ne _ _ _ _ _ hi) (by rw [bind_at]; simp) (.inl hm') ?_ ((Below.refl _ _).alloc h.n0 _) ?_ ?_ ?_ ?_, ?_⟩
  · intro n x _ hn e
    subst e
    exact h.used n x hn hid
  · intro n x b _ hn hb
    have hlt := h.ptr_lt (r := x.2) hn hb
    exact ⟨Below.heap_alloc W _ b hlt, fun i => hold b i (by omega)⟩
  · intro b i v hv'
    by_cases hb : b = W.heap.size
    · subst hb
      rw [hnew] at hv'
      rw [cell_of_row _ W.heap.size i _ e (0, 0) (heap_alloc_new W _)]
      simp only [List.getElem?_toArray]
      rw [List.getElem?_append_left (List.getElem?_eq_some_iff.1 hv').1]
      exact hv'
    · rw [hold b i hb] at hv'
      rw [World.cell?_alloc_lt W _ ⟨b, i, none⟩ (h.imm_lt hv')]
      exact h.imm b i v hv'
  · intro b hb
    rw [bind_at] at hb
    simp only [Option.some.injEq] at hb
    subst hb
    refine ⟨h.n0, _, heap_alloc_new W _, vals ++ rest, rfl, by rw [bind_z]; exact hlen, fun i hi => ?_⟩
    rw [hnew, List.getElem?_eq_none (by omega)]
  · intro n x b _ hn hb hxb
    rw [bind_at] at hb
    simp only [Option.some.injEq] at hb
    subst hb
    have := h.ptr_lt (r := x.2) hn hxb
    omega
  · refine .inr ⟨W.heap.size, by rw [bind_z], bind_at .., by rw [bind_z]; exact hcap, by rw [bind_z]; exact hmax, fun i x hx j p hp => ?_⟩
    have hp' := flatMap_at hk xs i x hx j p hp
    have hlt : i * k + j < vals.length := by rw [hv.1]; exact (List.getElem?_eq_some_iff.1 hp').1
    refine ⟨vals[i * k + j], ?_, (hv.2 _ p _ hp' (List.getElem?_eq_getElem hlt)).mono (le_bindC hid)⟩
    rw [hnew, List.getElem?_eq_getElem hlt]
/-- an owned row gets another name -/
theorem Models.rowSame {id : Id} {m n0 : Nat} {ob : Option Nat} (h : Models σ R W) (hid : σ.ρ id' = none) (hm : R m = some (id, tail e k n0)) (hm' : m' = m ∨ R m' = none) (hb : σ.ρ id = some ob) :
    Models (bind σ id' ob (σ.z id)) (fun n => if n = m' then some (id', tail e k n0) else if n = m then none else R n) W := by
  have h' : Models σ (fun n => if n = m then none else R n) W := h.sub fun n x hx => by
    split at hx
    · cases hx
    · exact hx
  refine h'.move (le_bind hid) m' id' _ (fun i hi => bind_ne _ _ _ _ _ hi) (by rw [bind_at]; simp) (.inl ?_) ?_ (Below.refl _ _) (fun n x b _ hn hb => ⟨rfl, fun _ => rfl⟩) (fun b i v hv => h.imm b i v hv) ?_ ?_
  · rcases hm' with rfl | hm'
    · simp
    · simp only [hm']; split <;> rfl
  · intro n x _ hn e
    subst e
    exact h'.used n x hn hid
  · intro b hb'
    rw [bind_at] at hb'
    simp only [Option.some.injEq] at hb'
    subst hb'
    obtain ⟨h1, o, ho, cs, rfl, hl, hn⟩ := h.res m id _ hm b hb
    exact ⟨h1, _, ho, cs, rfl, by rw [bind_z]; exact hl, hn⟩
  · intro n x b hnm hn hb' hxb
    rw [bind_at] at hb'
    simp only [Option.some.injEq] at hb'
    subst hb'
    by_cases hnm' : n = m
    · simp [hnm'] at hn
    · simp only [hnm', if_false] at hn
      exact h.sep n m x _ b hnm' hn hm hxb hb
/-- an owned row grows in its own block -/
theorem Models.rowIn {id : Id} {m b : Nat} {xs ys : List α} (h : Models σ R W) (hid : σ.ρ id' = none) (hm : R m = some (id, tail e k (xs.length * k))) (hm' : m' = m ∨ R m' = none) (hb : σ.ρ id = some (some b))
    (hk : ∀ z, (f z).length = k) {news : List Value} (hv : Vs σ (ys.flatMap f) news) {cs : List Value} (hcs : W.heap[b]? = some (.cells cs.toArray e (0, 0))) (hroom : xs.length + ys.length ≤ σ.z id) (hmax : σ.z id ≤ maxLen)
    (hx : ∀ (i : Nat) (x : α), xs[i]? = some x → Cs σ b (i * k) (f x)) :
    ∀ τ, τ = bind (addC σ (putC b (xs.length * k) news)) id' (some b) (σ.z id) →
    Models τ (fun n => if n = m' then some (id', tail e k ((xs ++ ys).length * k)) else if n = m then none else R n) (W.setRow b (cs.take (xs.length * k) ++ news ++ cs.drop (xs.length * k + news.length)).toArray) ∧
      (rowP id' f k (xs ++ ys)).h τ (.slice (some ⟨b, 0, none⟩) (xs.length + ys.length) (σ.z id)) := by
  intro τ hτ
  have h' : Models σ (fun n => if n = m then none else R n) W := h.sub fun n x hx => by
    split at hx
    · cases hx
    · exact hx
  obtain ⟨hge, o, ho, cs', rfl, hl, hnone⟩ := h.res m id _ hm b hb
  rw [hcs] at ho
  have hcc : cs = cs' := by
    simp only [Option.some.injEq, Obj.cells.injEq] at ho
    exact List.toArray_inj ho.1
  subst hcc
  have hnl : news.length = ys.length * k := by rw [hv.1, flatMap_len hk]
  have hsum : (xs.length + ys.length) * k = xs.length * k + news.length := by rw [Nat.add_mul, hnl]
  have hfit : xs.length * k + news.length ≤ cs.length := by rw [← hsum, hl]; exact Nat.mul_le_mul_right _ hroom
  have hold : ∀ b' i, b' ≠ b → τ.c b' i = σ.c b' i := fun b' i hb' => by
    rw [hτ]
    exact addC_ne (c := putC b (xs.length * k) news) (fun i => by simp [putC, hb']) i
  have hlow : ∀ i, i < xs.length * k → τ.c b i = σ.c b i := fun i hi => by
    rw [hτ]
    show (addC σ (putC b (xs.length * k) news)).c b i = _
    simp [addC, putC, show ¬ xs.length * k ≤ i by omega]
  have hnew : ∀ i, xs.length * k ≤ i → τ.c b i = news[i - xs.length * k]? := fun i hi => by
    rw [hτ]
    show (addC σ (putC b (xs.length * k) news)).c b i = _
    rw [addC_new (hnone i hi)]
    simp [putC, hi]
  have hle : Le σ τ := by rw [hτ]; exact le_bindC hid
  have hρ : ∀ i, i ≠ id' → τ.ρ i = σ.ρ i := fun i hi => by rw [hτ]; exact bind_ne _ _ _ _ _ hi
  have hat : τ.ρ id' = some (some b) := by rw [hτ]; exact bind_at ..
  have hz' : τ.z id' = σ.z id := by rw [hτ]; exact bind_z ..
  have hrow := setRow_heap W b cs.toArray (cs.take (xs.length * k) ++ news ++ cs.drop (xs.length * k + news.length)).toArray e (0, 0) hcs
  have hcell : ∀ i, (W.setRow b (cs.take (xs.length * k) ++ news ++ cs.drop (xs.length * k + news.length)).toArray).cell? ⟨b, i, none⟩ = (cs.take (xs.length * k) ++ news ++ cs.drop (xs.length * k + news.length))[i]? := fun i => by
    rw [cell_of_row _ b i _ e (0, 0) hrow]
    simp
  have htl : (cs.take (xs.length * k)).length = xs.length * k := by rw [List.length_take]; omega
  refine ⟨h'.move hle m' id' _ hρ (by rw [hat]; simp) (.inl ?_) ?_ ⟨rfl, rfl, rfl, by simp, fun q hq => setRow_other W b q _ (by omega)⟩ ?_ ?_ ?_ ?_, ?_⟩
  · rcases hm' with rfl | hm'
    · simp
    · simp only [hm']; split <;> rfl
  · intro n x _ hn e
    subst e
    exact h'.used n x hn hid
  · intro n x b' hnm hn hb'
    by_cases hnm' : n = m
    · simp [hnm'] at hn
    · simp only [hnm', if_false] at hn
      have hne : b' ≠ b := fun e' => by subst e'; exact h.sep n m x _ b' hnm' hn hm hb' hb
      exact ⟨setRow_other W b b' _ hne, fun i => hold b' i hne⟩
  · intro b' i v hv'
    by_cases hbb : b' = b
    · subst hbb
      rw [hcell]
      by_cases hi : i < xs.length * k
      · rw [hlow i hi] at hv'
        have := h.imm b' i v hv'
        rw [cell_of_row _ b' i _ e (0, 0) hcs] at this
        rw [List.append_assoc, List.getElem?_append_left (by omega), List.getElem?_take_of_lt hi]
        simpa using this
      · rw [hnew i (by omega)] at hv'
        have hi2 := (List.getElem?_eq_some_iff.1 hv').1
        rw [List.getElem?_append_left (by rw [List.length_append, htl]; omega), List.getElem?_append_right (by omega), htl]
        exact hv'
    · rw [hold b' i hbb] at hv'
      rw [World.cell?_of_block (w := W) (a := ⟨b', i, none⟩) (setRow_other W b b' _ hbb)]
      exact h.imm b' i v hv'
  · intro b' hb'
    rw [hat] at hb'
    simp only [Option.some.injEq] at hb'
    subst hb'
    refine ⟨hge, _, hrow, _, rfl, ?_, fun i hi => ?_⟩
    · rw [hz', ← hl]
      simp [htl]
      omega
    · rw [List.length_append] at hi
      rw [Nat.add_mul] at hi
      rw [hnew i (by omega), List.getElem?_eq_none (by omega)]
  · intro n x b' hnm hn hb' hxb
    rw [hat] at hb'
    simp only [Option.some.injEq] at hb'
    subst hb'
    by_cases hnm' : n = m
    · simp [hnm'] at hn
    · simp only [hnm', if_false] at hn
      exact h.sep n m x _ b hnm' hn hm hxb hb
  · refine .inr ⟨b, by rw [hz', List.length_append], hat, by rw [hz', List.length_append]; exact hroom, by rw [hz']; exact hmax, fun i x hxi => ?_⟩
    by_cases hi : i < xs.length
    · rw [List.getElem?_append_left hi] at hxi
      exact (hx i x hxi).mono hle
    · rw [List.getElem?_append_right (by omega)] at hxi
      intro j p hp
      have hp' := flatMap_at hk ys (i - xs.length) x hxi j p hp
      have hlt : (i - xs.length) * k + j < news.length := by rw [hv.1]; exact (List.getElem?_eq_some_iff.1 hp').1
      have hij : i * k + j = xs.length * k + ((i - xs.length) * k + j) := by
        have : i * k = xs.length * k + (i - xs.length) * k := by rw [← Nat.add_mul]; congr 1; omega
        omega
      refine ⟨news[(i - xs.length) * k + j], ?_, (hv.2 _ p _ hp' (List.getElem?_eq_getElem hlt)).mono hle⟩
      rw [hnew _ (by omega), hij, Nat.add_sub_cancel_left, List.getElem?_eq_getElem hlt]
/-- the cells of a slice, as they lie -/
theorem slP_cells (h : Models σ R W) (hk : ∀ z, (f z).length = k) {xs : List α} {b off : Nat} (hc : ∀ (i : Nat) (x : α), xs[i]? = some x → Cs σ b (off + i * k) (f x)) :
    ∃ vals : List Value, Vs σ (xs.flatMap f) vals ∧ ∀ (j : Nat) (v : Value), vals[j]? = some v → W.cell? ⟨b, off + j, none⟩ = some v := by
  have : Cs σ b off (xs.flatMap f) := by
    intro j p hp
    have hj : j < xs.length * k := by have := (List.getElem?_eq_some_iff.1 hp).1; rwa [flatMap_len hk] at this
    have hk0 : 0 < k := by
      rcases Nat.eq_zero_or_pos k with h0 | h0
      · subst h0; simp at hj
      · exact h0
    have hd : j / k < xs.length := by rw [Nat.div_lt_iff_lt_mul hk0]; exact hj
    have hx : xs[j / k]? = some xs[j / k] := List.getElem?_eq_getElem hd
    have hj2 : j % k < (f xs[j / k]).length := by rw [hk]; exact Nat.mod_lt _ hk0
    have hp2 := flatMap_at hk xs (j / k) _ hx (j % k) _ (List.getElem?_eq_getElem hj2)
    have hjj : j / k * k + j % k = j := by rw [Nat.mul_comm]; exact Nat.div_add_mod j k
    rw [hjj, hp] at hp2
    obtain ⟨u, hu, hcu⟩ := hc (j / k) _ hx (j % k) _ (List.getElem?_eq_getElem hj2)
    refine ⟨u, ?_, ?_⟩
    · rw [← hu]; congr 1; omega
    · simp only [Option.some.injEq] at hp2
      rw [hp2]
      exact hcu
  obtain ⟨vals, hv, hcell⟩ := this.read h
  exact ⟨vals, hv, hcell⟩
end
section
variable {P : Program} {n N : Nat} {F : Fr} {R : Toks} {d : Option Nat} {T : TypeId} {pos : String} {after : Array Edge} {α : Type} {f : α → List Pred} {k bytes : Nat} {xs ys : List α} {t e : TypeId}
theorem run_append_zero {i : TypeInfo} (ht : P.underlying t = some (.slice e)) (hi : P.info? e = some i) (a b : Option Addr) (n c c' : Nat) (hnc : n ≤ c) (ty : TypeId) (W : World) :
    (Builtin.append_ #[t, t] ty #[.slice a n c, .slice b 0 c']).run P W = .ok (.slice a n c) W := by
  have hfc : (Builtin.firstCells i.size 0 (.slice b 0 c')).run P W = .ok #[] W := by
    cases b with
    | none => rfl
    | some b => simp [Builtin.firstCells, loadCells, loadCellsFrom]
  cases a <;> simp [Builtin.append_, run_underlying ht, sizeOf, typeInfo, hi, Builtin.lenOf, hnc, hfc, storeCells]
/-- **append to a row of the call's own** -/
theorem op_append {x y : Operand} {id : Id} {m m' kk : Nat} {z : Value} (hx : opd F x = some (rowP id f k xs)) (hy : opd F y = some (slP f k ys)) (hR : R m = some (id, tail e k (xs.length * k))) (hm' : m' = m ∨ R m' = none)
    (ht : elemB P t = some e) (hz : zeroB P e = some (some z)) (hs : sizeB P e = some k) (hby : bytesB P e = some bytes) (hzs : z.cells.size = k) (hk : ∀ z, (f z).length = k)
    (h63 : xs.length + ys.length ≤ 1152921504606846976) (hbytes : (xs.length + ys.length) * bytes ≤ 140737488355328) :
    OpJ P n N F R ⟨d, .call { callee := .builtin .append, args := #[x, y], argTypes := #[t, t] }, T, pos, after, none⟩
      ⟨rdo x (rowP id f k xs) ++ rdo y (slP f k ys), [], [(m, (id, tail e k (xs.length * k)))], [(m', ((N, kk), tail e k ((xs ++ ys).length * k)))], [kk], rowP (N, kk) f k (xs ++ ys)⟩ where
  loc := by
    intro σ W R a K hm h2 h3 h4 h5 h6 h7 h8 h9 Q
    have hid := h8 kk (by simp)
    have hRm := h6 _ (List.mem_cons_self ..)
    have hRm' : m' = m ∨ R m' = none := by
      rcases h7 (m', ((N, kk), tail e k ((xs ++ ys).length * k))) (by simp) with h | h
      · exact .inr h
      · left; simp at h; exact h.symm
    have hxv := holds_of hx fun w hw => h4 w (List.mem_append_left _ hw)
    obtain ⟨ad, cap, hyv, hy1, hy2, hy3⟩ := holds_of hy fun w hw => h4 w (List.mem_append_right _ hw)
    have ht' := elem_of ht
    obtain ⟨i, hi, hiz, his, hib⟩ : ∃ i, P.info? e = some i ∧ i.zero = some z ∧ i.size = k ∧ i.bytes = bytes := by
      unfold zeroB at hz; unfold sizeB at hs; unfold bytesB at hby
      cases hi : P.info? e with
      | none => rw [hi] at hz; cases hz
      | some i => rw [hi] at hz hs hby; simp at hz hs hby; exact ⟨i, rfl, hz, hs, hby⟩
    have hexec : ∀ {v v' : Value} {W' : World}, a.eval x = v → (Builtin.append_ #[t, t] T #[v, .slice ad ys.length cap]).run P W = .ok v' W' →
        (execOp a.eval ⟨d, .call { callee := .builtin .append, args := #[x, y], argTypes := #[t, t] }, T, pos, after, none⟩).run P W = .ok (.value v') W' := by
      intro v v' W' hv hr
      simp only [execOp, resolve, invoke, builtin, Sem.run_bind, Sem.run_pure, Result.andThen_ok, List.map_toArray, List.map_cons, List.map_nil, hv, hyv, hr]
    obtain ⟨ob, hob⟩ : ∃ ob, σ.ρ id = some ob := Option.ne_none_iff_exists'.1 (hm.used m _ hRm)
    by_cases hy0 : ys.length = 0
    · -- nothing comes
      have hys : ys = [] := List.eq_nil_of_length_eq_zero hy0
      subst hys
      have hmod := hm.rowSame hid hRm hRm' hob
      obtain ⟨a0, n0, c0, hv, hc⟩ : ∃ (a0 : Option Addr) (n0 c0 : Nat), a.eval x = .slice a0 n0 c0 ∧ n0 ≤ c0 := by
        rcases hxv with ⟨h, _⟩ | ⟨b, h, _, h', _⟩
        · exact ⟨_, _, _, h, Nat.le_refl _⟩
        · exact ⟨_, _, _, h, h'⟩
      refine wp_value (hexec hv (by rw [hy0]; exact run_append_zero ht' hi a0 ad n0 c0 cap hc T W)) (h9 _ W _ (le_bind hid) keep_bind (hmod.congr ?_) ?_)
      · rw [updR_row, List.append_nil]
      · rw [List.append_nil]
        rcases hxv with ⟨h, hxe⟩ | ⟨b, h, hb, hc1, hc2, hcs⟩
        · exact .inl ⟨hv.symm.trans h, hxe⟩
        · rw [hb] at hob
          cases hob
          refine .inr ⟨b, by rw [bind_z]; exact hv.symm.trans h, bind_at .., by rw [bind_z]; exact hc1, by rw [bind_z]; exact hc2, fun i x hxi => (hcs i x hxi).mono (le_bind hid)⟩
    · obtain ⟨yb, yo, rfl, hyc⟩ := hy3 (by omega)
      obtain ⟨news, hnv, hncell⟩ := slP_cells hm hk hyc
      have hnl : news.length = ys.length * k := by rw [hnv.1, flatMap_len hk]
      have hnews : ∀ (j : Nat) (v : Value), news[j]? = some v → W.cell? ((⟨yb, yo, none⟩ : Addr).add j) = some v := fun j v hv => by rw [addr_add]; exact hncell j v hv
      have hmdrop : Models σ (fun q => if q = m then none else R q) W := hm.sub fun q y hq => by
        split at hq
        · cases hq
        · exact hq
      have hfree : (fun q => if q = m then none else R q) m' = none := by
        rcases hRm' with rfl | h
        · simp
        · simp only [h]; split <;> rfl
      have hgrown : ∀ (need old : Nat), need = xs.length + ys.length → need ≤ grownCap W need old e ∧ grownCap W need old e ≤ maxLen := fun need old hn =>
        ⟨grownCap_ge W need old e, grownCap_le_maxLen W need old e (by unfold maxLen; omega)⟩
      rcases hxv with ⟨hv, hxe⟩ | ⟨b, hv, hb, hc1, hc2, hcs⟩
      · -- nil
        subst hxe
        have hr := run_append_nil (P := P) W t T e i z ht' hi hiz ⟨yb, yo, none⟩ ys.length cap news (by rw [his]; exact hnl) hnews (by omega) (by simp at h63; omega) (by rw [hib]; simp at hbytes; omega)
        obtain ⟨g1, g2⟩ := hgrown ys.length 0 (by simp)
        obtain ⟨hmod, hrow⟩ := hmdrop.drew.rowNew (e := e) (xs := ys) (rest := (Builtin.zeroCells z.cells (grownCap W ys.length 0 e - ys.length)).toList) hid hfree hk hnv (cap := grownCap W ys.length 0 e)
          (by rw [List.length_append, hnl, zc_len, hzs, ← Nat.add_mul]; congr 1; omega) g1 g2 _ rfl
        refine wp_value (hexec hv hr) ?_
        have hW : W.drew.alloc (.cells (news.toArray ++ Builtin.zeroCells z.cells (grownCap W ys.length 0 e - ys.length)) e) = W.drew.alloc (.cells (news ++ (Builtin.zeroCells z.cells (grownCap W ys.length 0 e - ys.length)).toList).toArray e) := by
          congr 2
          apply Array.ext'
          simp
        rw [hW]
        refine h9 _ _ _ (le_bindC hid) (fun q _ hq => bind_ne _ _ _ _ _ (hq kk (by simp))) (hmod.congr ?_) hrow
        rw [updR_row]
        simp
      · by_cases hroom : xs.length + ys.length ≤ σ.z id
        · -- in its own block
          obtain ⟨_, o, ho, cs, rfl, hl, _⟩ := hm.res m id _ hRm b hb
          have hr := run_append_room (P := P) W t T e i ht' hi b xs.length (σ.z id) cs.toArray ho ⟨yb, yo, none⟩ ys.length cap news (by rw [his]; exact hnl) hnews hnv.ones hroom
            (by rw [his, hnl, List.size_toArray, hl, ← Nat.add_mul]; exact Nat.mul_le_mul_right _ hroom)
          rw [his] at hr
          obtain ⟨hmod, hrow⟩ := hm.rowIn hid hRm hRm' hb hk hnv ho hroom hc2 hcs _ rfl
          refine wp_value (hexec hv hr) (h9 _ _ _ (le_bindC hid) (fun q _ hq => bind_ne _ _ _ _ _ (hq kk (by simp))) (hmod.congr ?_) hrow)
          rw [updR_row]
        · -- a new one
          obtain ⟨olds, hov, hocell⟩ := slP_cells (off := 0) hm hk (by simpa using hcs)
          have hol : olds.length = xs.length * k := by rw [hov.1, flatMap_len hk]
          have hr := run_append_grow (P := P) W t T e i z ht' hi hiz ⟨b, 0, none⟩ xs.length (σ.z id) olds (by rw [his]; exact hol) (fun j v hjv => by rw [addr_add]; exact hocell j v hjv) ⟨yb, yo, none⟩ ys.length cap news (by rw [his]; exact hnl) hnews
            (by omega) (by omega) (by rw [hib]; exact growslice_fits (by omega) hbytes)
          obtain ⟨g1, g2⟩ := hgrown (xs.length + ys.length) (σ.z id) rfl
          have hall : Vs σ ((xs ++ ys).flatMap f) (olds ++ news) := by rw [List.flatMap_append]; exact hov.append hnv
          obtain ⟨hmod, hrow⟩ := hmdrop.drew.rowNew (e := e) (xs := xs ++ ys) (rest := (Builtin.zeroCells z.cells (grownCap W (xs.length + ys.length) (σ.z id) e - (xs.length + ys.length))).toList) hid hfree hk hall (cap := grownCap W (xs.length + ys.length) (σ.z id) e)
            (by rw [List.length_append, List.length_append, hol, hnl, zc_len, hzs, ← Nat.add_mul, ← Nat.add_mul]; congr 1; omega) (by rw [List.length_append]; exact g1) g2 _ rfl
          refine wp_value (hexec hv hr) ?_
          have hW : W.drew.alloc (.cells (olds.toArray ++ news.toArray ++ Builtin.zeroCells z.cells (grownCap W (xs.length + ys.length) (σ.z id) e - (xs.length + ys.length))) e) =
              W.drew.alloc (.cells (olds ++ news ++ (Builtin.zeroCells z.cells (grownCap W (xs.length + ys.length) (σ.z id) e - (xs.length + ys.length))).toList).toArray e) := by
            congr 2
            apply Array.ext'
            simp
          rw [hW]
          rw [List.length_append] at hrow
          refine h9 _ _ _ (le_bindC hid) (fun q _ hq => bind_ne _ _ _ _ _ (hq kk (by simp))) (hmod.congr ?_) hrow
          rw [updR_row]
  rd := rd_app (rd_of hx) (rd_of hy)
  use := by simp
  del := by simpa using hR
  add := by
    intro y hy
    simp at hy
    subst hy
    rcases hm' with rfl | h
    · right; simp
    · left; exact h
end
end Go.AL


namespace Go.AL
open Go.RowKit
/-- a name for a row that is nil -/
theorem Models.rowNil {σ : Sg} {R : Toks} {W : World} {id' : Id} {m' : Nat} {e : TypeId} {k : Nat} (h : Models σ R W) (hid : σ.ρ id' = none) (hm' : R m' = none) :
    Models (bind σ id' none 0) (fun n => if n = m' then some (id', tail e k 0) else R n) W := by
  refine h.move (le_bind hid) m' id' _ (fun i hi => bind_ne _ _ _ _ _ hi) (by rw [bind_at]; simp) (.inl hm') ?_ (Below.refl _ _) (fun n x b _ hn hb => ⟨rfl, fun _ => rfl⟩) (fun b i v hv => h.imm b i v hv) ?_ ?_
  · intro n x _ hn e
    subst e
    exact h.used n x hn hid
  · intro b hb; rw [bind_at] at hb; cases hb
  · intro n x b _ _ hb; rw [bind_at] at hb; cases hb
section
variable {P : Program} {n N : Nat} {F : Fr} {R : Toks} {d : Option Nat} {T : TypeId} {pos : String} {after : Array Edge} {α : Type} {f : α → List Pred} {k bytes : Nat} {xs ys : List α} {t e : TypeId}
/-- '[]T{}': a row of the call's own, empty -/
theorem op_buildEmpty {m' kk : Nat} (ht : elemB P t = some e) (hs : sizeB P e = some k) (hm' : R m' = none) :
    OpJ P n N F R ⟨d, .buildSlice t 0 #[], T, pos, after, none⟩ ⟨[], [], [], [(m', ((N, kk), tail e k 0))], [kk], rowP (N, kk) f k []⟩ where
  loc := by
    intro σ W R a K hm h2 h3 h4 h5 h6 h7 h8 h9 Q
    have hid := h8 kk (by simp)
    have hRm' : R m' = none := by have h := h7 (m', ((N, kk), tail e k 0)) (by simp); simpa using h
    have hmod := hm.alloc (id := (N, kk)) (z := 0) (n := m') (r := tail e k 0) (o := .cells ([] : List Value).toArray e) hid hRm' ⟨[], rfl, by rw [bind_z]; simp, fun i _ => no_imm_new hm i⟩
    refine wp_value (v := .slice (some ⟨W.heap.size, 0, none⟩) 0 0) (W' := W.alloc (.cells ([] : List Value).toArray e)) ?_ (h9 _ _ _ (le_bind hid) keep_bind (hmod.congr (updR_new ..)) ?_)
    · simp [execOp, Instr.buildSlice, run_underlying (elem_of ht), run_sizeOf' hs, Instr.fill, newRow, Array.range_zero']
    · exact .inr ⟨W.heap.size, by rw [bind_z]; rfl, bind_at .., by rw [bind_z]; simp, by rw [bind_z]; simp [maxLen], fun i x hx => by simp at hx⟩
  rd := by simp
  use := by simp
  del := by simp
  add := by simpa using hm'
end
theorem tkf_cons (m : Nat) (x : Option (Id × Res)) (L : Tk) (Rf : Toks) : tkf ((m, x) :: L) Rf = fun n => if n = m then x else tkf L Rf n := by
  funext n
  simp only [tkf, lk_cons]
  by_cases h : m = n
  · subst h; simp
  · rw [if_neg h, if_neg (fun e => h e.symm)]
def FEnt (id : Id) (ps : List Pred) (p q : Pred) : Prop := ∀ σ v, (∀ b, σ.ρ id = some (some b) → Cs σ b 0 ps) → p.h σ v → q.h σ v
theorem FEnt.of {id : Id} {ps : List Pred} {p q : Pred} (h : Ent p q) : FEnt id ps p q := fun σ v _ hp => h σ v hp
theorem FEnt.ptr {id : Id} {ps : List Pred} {off : Nat} : FEnt id ps (ptrP id off) (cellsP (ps.drop off)) := fun σ v h ⟨b, hb, hv⟩ => ⟨b, off, hv, fun j p hp => by
  rw [List.getElem?_drop] at hp
  have := h b hb _ p hp
  rwa [Nat.zero_add] at this⟩
inductive SubZ (id : Id) (ps : List Pred) (F : Fr) : Fr → Prop
  | nil : SubZ id ps F []
  | cons {t : Nat} {p : Pred} {l : Fr} (h : lk F t = some p) (hl : SubZ id ps F l) : SubZ id ps F ((t, p) :: l)
  | ent {t : Nat} {p q : Pred} {l : Fr} (h : lk F t = some p) (he : FEnt id ps p q) (hl : SubZ id ps F l) : SubZ id ps F ((t, q) :: l)
theorem SubZ.at_ {id : Id} {ps : List Pred} {F F' : Fr} (h : SubZ id ps F F') : ∀ t q, lk F' t = some q → ∃ p, lk F t = some p ∧ FEnt id ps p q := by
  induction h with
  | nil => intro t q hq; simp [lk] at hq
  | @cons k p l hk _ ih =>
    intro t q hq
    rw [lk_cons] at hq
    split at hq
    · rename_i e; subst e; simp at hq; subst hq; exact ⟨p, hk, .of (Ent.refl _)⟩
    · exact ih t q hq
  | @ent k p p' l hk he _ ih =>
    intro t q hq
    rw [lk_cons] at hq
    split at hq
    · rename_i e; subst e; simp at hq; subst hq; exact ⟨p, hk, he⟩
    · exact ih t q hq
section
variable {P : Program} {C : Cx} {F : Fr} {L : Tk} {Q : Exit → Act → World → Prop} {c : Code}
/-- a nil slice of the call's own gets a name, so that it may be appended to -/
theorem tr_nilrow {α : Type} (f : α → List Pred) (k : Nat) (e : TypeId) (t m : Nat) (ht : lk F t = some (eqP (.slice none 0 0))) (hm : tkf L C.Rf m = none)
    (h : ∀ id, Tr P C c ((t, rowP id f k []) :: F) ((m, some (id, tail e k 0)) :: L) Q) : Tr P C c F L Q := by
  rintro a W ⟨σ, h1, h2, h3⟩
  obtain ⟨N, hN, hfr⟩ := fresh_N h3.mod C.M
  refine h (N, 0) a W ⟨bind σ (N, 0) none 0, h1.trans (le_bind (hfr 0)), keepB_of hN h2 keep_bind, h3.size, h3.defers, (h3.mod.rowNil (e := e) (k := k) (hfr 0) hm).congr ?_, ?_⟩
  · rw [tkf_cons]
  · intro t' p hp
    rw [lk_cons] at hp
    split at hp
    · rename_i e'
      subst e'
      simp at hp
      subst hp
      exact .inl ⟨h3.fr t _ ht, rfl⟩
    · exact p.m _ _ _ (le_bind (hfr 0)) (h3.fr t' p hp)
/-- a block of the call's own is written no more: its cells become immutable -/
theorem tr_freeze {F' : Fr} {id : Id} {m κ : Nat} {B : TypeId} {ps : List Pred} (hm : lk L m = some (some (id, blkX κ B ps)))
    (hF : SubZ id ps F F')
    (h : Tr P C c F' ((m, none) :: L) Q) : Tr P C c F L Q := by
  rintro a W ⟨σ, h1, h2, h3⟩
  have hmod := h3.mod
  have hR : tkf L C.Rf m = some (id, blkX κ B ps) := by simp [tkf, hm]
  obtain ⟨ob, hob⟩ : ∃ ob, σ.ρ id = some ob := Option.ne_none_iff_exists'.1 (hmod.used m _ hR)
  cases ob with
  | none =>
    refine h a W ⟨σ, h1, h2, h3.size, h3.defers, hmod.sub ?_, ?_⟩
    · intro n x hx
      rw [tkf_cons] at hx
      simp only at hx
      split at hx
      · cases hx
      · exact hx
    · intro t q hq
      obtain ⟨p, hp, hpq⟩ := hF.at_ t q hq
      exact hpq _ _ (fun b hb => by rw [hob] at hb; cases hb) (h3.fr t p hp)
  | some b =>
    obtain ⟨hge, o, ho, cs, rest, rfl, hvs, hz, hnone⟩ := hmod.res m id _ hR b hob
    let τ := addC σ (putC b 0 cs)
    have hle : Le σ τ := le_addC ..
    have hnew : ∀ i, τ.c b i = cs[i]? := fun i => by
      show (addC σ (putC b 0 cs)).c b i = _
      rw [addC_new (hnone i)]
      simp [putC]
    have hold : ∀ b' i, b' ≠ b → τ.c b' i = σ.c b' i := fun b' i hb' => addC_ne (c := putC b 0 cs) (fun i => by simp [putC, hb']) i
    have hcs : ∀ b', τ.ρ id = some (some b') → Cs τ b' 0 ps := by
      intro b' hb'
      have : b' = b := by
        have h' : σ.ρ id = some (some b') := hb'
        rw [hob] at h'
        simpa using h'.symm
      subst this
      intro j p hp
      have hlt : j < cs.length := by rw [hvs.1]; exact (List.getElem?_eq_some_iff.1 hp).1
      refine ⟨cs[j], ?_, (hvs.2 j p _ hp (List.getElem?_eq_getElem hlt)).mono hle⟩
      rw [Nat.zero_add, hnew, List.getElem?_eq_getElem hlt]
    refine h a W ⟨τ, h1.trans hle, h2, h3.size, h3.defers, ?_, ?_⟩
    · have hsub : Models σ (fun n => if n = m then none else tkf L C.Rf n) W := hmod.sub fun n x hx => by
        split at hx
        · cases hx
        · exact hx
      rw [tkf_cons]
      refine ⟨hsub.base, hsub.n0, ?_, ?_, hsub.sep, hsub.used, hsub.fin⟩
      · intro b' i v hv
        by_cases hb' : b' = b
        · subst hb'
          rw [hnew] at hv
          exact cell_blk ho hv
        · rw [hold b' i hb'] at hv
          exact hmod.imm b' i v hv
      · intro n id' r hn b' hb'
        obtain ⟨g1, o, go, gr⟩ := hsub.res n id' r hn b' hb'
        refine ⟨g1, o, go, r.m _ _ _ _ _ hle hb' (fun i => hold b' i ?_) gr⟩
        intro e
        subst e
        by_cases hnm : n = m
        · simp [hnm] at hn
        · simp only [hnm, if_false] at hn
          exact hmod.sep n m _ _ b' hnm hn hR hb' hob
    · intro t q hq
      obtain ⟨p, hp, hpq⟩ := hF.at_ t q hq
      exact hpq _ _ hcs (p.m _ _ _ hle (h3.fr t p hp))
end
end Go.AL


namespace Go.AL
open Go.RowKit
def vsP (vs : List Value) : List Pred := vs.map eqP
theorem agg_exact {σ : Sg} {vs : List Value} {v : Value} (h : (aggP (vsP vs)).h σ v) : v = .agg vs.toArray := by
  obtain ⟨cs, rfl, hc⟩ := h
  have : cs = vs := by
    apply List.ext_getElem
    · simpa [vsP] using hc.1
    · intro i h1 h2
      have := (hc.2 i (eqP vs[i]) cs[i] (by simp [vsP, h2]) (by simp [h1])).1
      exact this
  rw [this]
def EqLaw (P : Program) (t : TypeId) (vs us : List Value) (b : Bool) : Prop := P.eqGuardType P.depth t = false ∧ ∀ W, (binOp .eql t (.agg vs.toArray) (.agg us.toArray)).run P W = .ok (.bool b) W
section
variable {P : Program} {n N : Nat} {F : Fr} {R : Toks} {d : Option Nat} {T t t' : TypeId} {pos : String} {after : Array Edge} {x y : Operand}
theorem op_eql_agg {vs us : List Value} {b : Bool} (hx : opd F x = some (aggP (vsP vs))) (hy : opd F y = some (aggP (vsP us))) (h : EqLaw P t vs us b) :
    OpJ P n N F R ⟨d, .binOp .eql t x y t', T, pos, after, none⟩ ⟨rdo x (aggP (vsP vs)) ++ rdo y (aggP (vsP us)), [], [], [], [], eqP (.bool b)⟩ :=
  opj2 hx hy fun σ W a h1 h2 => ⟨.bool b, by
    have e1 := agg_exact h1
    have e2 := agg_exact h2
    simp only [execOp, e1, e2, Sem.run_bind, run_eqGuard_agg W .eql t x y _ _ h.1, Result.andThen_ok, h.2 W, Sem.run_pure], rfl⟩
theorem op_neq_agg {vs us : List Value} {b : Bool} (hx : opd F x = some (aggP (vsP vs))) (hy : opd F y = some (aggP (vsP us))) (h : EqLaw P t vs us b) :
    OpJ P n N F R ⟨d, .binOp .neq t x y t', T, pos, after, none⟩ ⟨rdo x (aggP (vsP vs)) ++ rdo y (aggP (vsP us)), [], [], [], [], eqP (.bool (!b))⟩ :=
  opj2 hx hy fun σ W a h1 h2 => ⟨.bool (!b), by
    have e1 := agg_exact h1
    have e2 := agg_exact h2
    have h3 := h.2 W
    rw [run_eql_struct] at h3
    have h4 : (binOp .neq t (.agg vs.toArray) (.agg us.toArray)).run P W = .ok (.bool (!b)) W := by
      rw [run_neq_struct]
      cases hr : (Op.equalIn 10000 t (.agg vs.toArray) (.agg us.toArray)).run P W with
      | ok c w => rw [hr] at h3; simp at h3; obtain ⟨h3, h5⟩ := h3; subst h3; subst h5; rfl
      | halt c w => rw [hr] at h3; simp at h3
    simp only [execOp, e1, e2, Sem.run_bind, run_eqGuard_agg W .neq t x y _ _ h.1, Result.andThen_ok, h4, Sem.run_pure], rfl⟩
/-- a load of all that lies there -/
theorem op_load_all {Ty : TypeId} {ps : List Pred} (hx : opd F x = some (cellsP ps)) (ha : aggB P Ty = some true) (hs : sizeB P Ty = some ps.length) :
    OpJ P n N F R ⟨d, .load Ty x, T, pos, after, none⟩ ⟨rdo x (cellsP ps), [], [], [], [], aggP ps⟩ := by
  have := op_load_agg (d := d) (T := T) (pos := pos) (after := after) (P := P) (n := n) (N := N) (R := R) hx ha hs (by simp)
  rwa [List.take_length] at this
theorem op_store_all {Ty : TypeId} {id : Id} {m κ : Nat} {B : TypeId} {ps qs : List Pred} {p : Pred} (hx : opd F x = some (ptrP id 0)) (hy : opd F y = some p) (hR : R m = some (id, blkX κ B ps)) (hv : Val p qs)
    (hs : sizeB P Ty = some qs.length) (hl : Nat.beq qs.length ps.length = true) :
    OpJ P n N F R ⟨none, .store Ty x y, T, pos, after, none⟩ ⟨rdo x (ptrP id 0) ++ rdo y p, [], [(m, id, blkX κ B ps)], [(m, id, blkX κ B qs)], [], eqP undef⟩ := by
  have hl' := Nat.eq_of_beq_eq_true hl
  refine op_store hx hy hR hv hs (by simp) (by simp [hl']) ?_
  simp [splice, hl']
theorem op_convert {k k' : IntKind} {u : Int} {s s' : TypeId} (hx : opd F x = some (eqP (.int k u))) (hs : (P.underlying s).isSome = true) (hd : P.underlying s' = some (.int k')) :
    OpJ P n N F R ⟨d, .convert s s' x, T, pos, after, none⟩ ⟨rdo x (eqP (.int k u)), [], [], [], [], eqP (.int k' (k'.wrap u))⟩ :=
  opj1 hx fun σ W a h => ⟨_, by
    have e1 : a.eval x = .int k u := h
    obtain ⟨ds, hs'⟩ := Option.isSome_iff_exists.1 hs
    simp only [execOp, e1, convert, Sem.run_bind, run_underlying hs', run_underlying hd, Result.andThen_ok, Conv.intToInt, Sem.run_pure], rfl⟩
end
section
variable {P : Program} {n N : Nat} {ops : Array Oper} {Q : Exit → Act → World → Prop} {Rf : Toks} {F : Fr} {L : Tk} {K : List Rec → Fr → Tk → Prop} {l : List Oper} {t : Nat} {op : Op} {T : TypeId} {pos : String} {after : Array Edge}
  {rd : List (Nat × Pred)} {use : List (Nat × Id × Res)} {b : Bool}
/-- a test, parted on -/
theorem lxc (h : OpJ P n N F (tkf L Rf) ⟨some t, op, T, pos, after, none⟩ ⟨rd, use, [], [], [], eqP (.bool b)⟩) (hd : Nat.blt t n = true)
    (ht : b = true → LexK P n N ops Q Rf l ((t, eqP (.bool true)) :: F) L (fun rs => K (⟨rd, use, [], [], [], eqP (.bool true)⟩ :: rs)))
    (hf : b = false → LexK P n N ops Q Rf l ((t, eqP (.bool false)) :: F) L (fun rs => K (⟨rd, use, [], [], [], eqP (.bool false)⟩ :: rs))) : LexK P n N ops Q Rf (⟨some t, op, T, pos, after, none⟩ :: l) F L K := by
  cases hb : b
  · rw [hb] at h; exact lx h hd (hf hb)
  · rw [hb] at h; exact lx h hd (ht hb)
theorem lxgc {g s : Nat} {w : Bool} (hs : gslot ops g = some s) (hsn : Nat.blt s n = true) (hg : lk F s = some (eqP (.bool w))) (h : OpJ P n N F (tkf L Rf) ⟨some t, op, T, pos, after, none⟩ ⟨rd, use, [], [], [], eqP (.bool b)⟩) (hd : Nat.blt t n = true)
    (ht : b = true → LexK P n N ops Q Rf l ((t, eqP (.bool true)) :: F) L (fun rs => K (⟨(s, eqP (.bool w)) :: rd, use, [], [], [], eqP (.bool true)⟩ :: rs)))
    (hf : b = false → LexK P n N ops Q Rf l ((t, eqP (.bool false)) :: F) L (fun rs => K (⟨(s, eqP (.bool w)) :: rd, use, [], [], [], eqP (.bool false)⟩ :: rs))) : LexK P n N ops Q Rf (⟨some t, op, T, pos, after, some (g, w)⟩ :: l) F L K := by
  cases hb : b
  · rw [hb] at h; exact lxg hs hsn hg h hd (hf hb)
  · rw [hb] at h; exact lxg hs hsn hg h hd (ht hb)
end
/-- the beginning of a function that keeps nothing of the caller's own -/
theorem fn_pure' {P : Program} {f : FuncId} {fn : Func} {c : Code} {pre : List Pred} {post : Pred} {n : Nat} (hf : P.funcs[f]? = some fn) (hb : fn.body = some c) (hn : fn.ntmps = n) (hl : Nat.ble pre.length n = true)
    (h : ∀ (σ0 : Sg) (M : Nat) (ex : List Id) (Rf : Toks) (R : Ending → World → Prop), CxOK ⟨σ0, M, ex, Rf, n⟩ → Owes ⟨σ0, M, ex, Rf, n⟩ R post → Tr P ⟨σ0, M, ex, Rf, n⟩ c (frameOf 0 pre) [] (bodyPost P fn R)) : FnP P f pre post :=
  fn_pure hf hb (by rw [hn]; exact hl) fun C R hC hCn ho => by
    obtain ⟨σ0, M, ex, Rf, n'⟩ := C
    have e : n' = n := hCn.trans hn
    subst e
    exact h σ0 M ex Rf R hC ho
end Go.AL
namespace Go.AL
section
variable {P : Program} {C : Cx} {F : Fr} {L : Tk} {Q : Exit → Act → World → Prop}
theorem tr_cond_t {t : Nat} {x y : Code} (hb : lk F t = some (eqP (.bool true))) (h : Tr P C x F L Q) : Tr P C (.cond (.tmp t) x y) F L Q := tr_cond hb (fun _ => h) (fun e => by cases e)
end
end Go.AL


namespace Go.AL
open Go.RowKit
open Classical
inductive Leaf where
  | i (k : IntKind) | b | s
  deriving DecidableEq
def Leaf.ok : Leaf → Value → Bool
  | .i k, .int k' _ => k == k'
  | .b, .bool _ => true
  | .s, .string _ => true
  | _, _ => false
def typedB : List Leaf → List Value → Bool
  | [], [] => true
  | l :: ls, v :: vs => l.ok v && typedB ls vs
  | _, _ => false
def joinL (lf : TypeId → Option (List Leaf)) (P : Program) : List Field → Nat → Option (List Leaf)
  | [], _ => some []
  | f :: fs, n =>
    match lf f.type, aggB P f.type, sizeB P f.type with
    | some l, some _, some k => if (f.name != "_") && Nat.beq f.offset n && Nat.beq k l.length then (joinL lf P fs (n + l.length)).map (l ++ ·) else none
    | _, _, _ => none
def leafK (P : Program) : Nat → TypeId → Option (List Leaf)
  | 0, _ => none
  | d + 1, t =>
    match P.underlying t with
    | some (.int k) => some [.i k]
    | some .bool => some [.b]
    | some .string => some [.s]
    | some (.struct fs) => if P.stoodInHeld t then none else joinL (leafK P d) P fs.toList 0
    | _ => none
def pack (P : Program) (t : TypeId) (vs : List Value) : Value := if aggB P t = some true then .agg vs.toArray else vs.headD undef
theorem typedB_len : ∀ {ls : List Leaf} {vs : List Value}, typedB ls vs = true → vs.length = ls.length
  | [], [], _ => rfl
  | [], _ :: _, h => by simp [typedB] at h
  | _ :: _, [], h => by simp [typedB] at h
  | l :: ls, v :: vs, h => by simp only [typedB, Bool.and_eq_true] at h; simp [typedB_len h.2]
theorem typedB_append : ∀ {l1 l2 : List Leaf} {vs : List Value}, typedB (l1 ++ l2) vs = true → typedB l1 (vs.take l1.length) = true ∧ typedB l2 (vs.drop l1.length) = true
  | [], l2, vs, h => ⟨by simp [typedB], by simpa using h⟩
  | l :: l1, l2, [], h => by simp [typedB] at h
  | l :: l1, l2, v :: vs, h => by
    simp only [List.cons_append, typedB, Bool.and_eq_true] at h
    have := typedB_append h.2
    simp only [List.length_cons, List.take_succ_cons, List.drop_succ_cons, typedB, Bool.and_eq_true]
    exact ⟨⟨h.1, this.1⟩, this.2⟩
theorem typedB_one {l : Leaf} {vs : List Value} (h : typedB [l] vs = true) : ∃ v, vs = [v] ∧ l.ok v = true := by
  match vs, h with
  | [v], h => simp only [typedB, Bool.and_true] at h; exact ⟨v, rfl, h⟩
  | [], h => simp [typedB] at h
  | _ :: _ :: _, h => simp [typedB] at h
theorem run_part {P : Program} {T : TypeId} {b : Bool} {k : Nat} (ha : aggB P T = some b) (hs : sizeB P T = some k) (cs : List Value) (off : Nat) (h1 : b = false → k = 1) (hl : off + k ≤ cs.length) (W : World) :
    (part T cs.toArray off).run P W = .ok (pack P T ((cs.drop off).take k)) W := by
  cases b with
  | true => simp [part, run_isAgg ha, run_sizeOf' hs, pack, ha]
  | false =>
    have hk := h1 rfl
    subst hk
    have hlt : off < cs.length := by omega
    have : (cs.drop off).take 1 = [cs[off]] := by
      rw [List.drop_eq_getElem_cons hlt]
      rfl
    simp [part, run_isAgg ha, pack, ha, hlt, this]
theorem leaf_flat {P : Program} : ∀ (d : Nat) (t : TypeId) (ls : List Leaf), leafK P d t = some ls → aggB P t = some false → ls.length = 1
  | 0, _, _, h, _ => by simp [leafK] at h
  | d + 1, t, ls, h, ha => by
    unfold leafK at h
    unfold aggB at ha
    split at h
    · simp at h; subst h; rfl
    · simp at h; subst h; rfl
    · simp at h; subst h; rfl
    · rename_i hu; rw [hu] at ha; simp [isAggD] at ha
    · simp at h
theorem run_equal_flat {P : Program} : ∀ (d : Nat) (t : TypeId) (ls : List Leaf), leafK P d t = some ls → ∀ (e : Nat) (vs us : List Value) (W : World), typedB ls vs = true → typedB ls us = true →
    (Op.equalIn (d + e) t (pack P t vs) (pack P t us)).run P W = .ok (decide (vs = us)) W
  | 0, _, _, h, _, _, _, _, _, _ => by simp [leafK] at h
  | d + 1, t, ls, h, e, vs, us, W, h1, h2 => by
    unfold leafK at h
    rw [show d + 1 + e = (d + e) + 1 by omega]
    split at h
    · rename_i k hu
      simp at h; subst h
      obtain ⟨v, rfl, hv⟩ := typedB_one h1
      obtain ⟨u, rfl, hu'⟩ := typedB_one h2
      cases v <;> simp only [Leaf.ok, Bool.false_eq_true] at hv
      cases u <;> simp only [Leaf.ok, Bool.false_eq_true] at hu'
      rename_i k1 x k2 y
      have e1 : k = k1 := by simpa using hv
      have e2 : k = k2 := by simpa using hu'
      subst e1; subst e2
      have hp : aggB P t = some false := by simp [aggB, hu, isAggD]
      simp only [pack, hp, Option.some.injEq, Bool.false_eq_true, if_false, List.headD_cons]
      rw [run_equalIn_int W (d + e) t k k x y hu]
      simp [Bool.beq_eq_decide_eq]
    · rename_i hu
      simp at h; subst h
      obtain ⟨v, rfl, hv⟩ := typedB_one h1
      obtain ⟨u, rfl, hu'⟩ := typedB_one h2
      cases v <;> simp only [Leaf.ok, Bool.false_eq_true] at hv
      cases u <;> simp only [Leaf.ok, Bool.false_eq_true] at hu'
      have hp : aggB P t = some false := by simp [aggB, hu, isAggD]
      simp only [pack, hp, Option.some.injEq, Bool.false_eq_true, if_false, List.headD_cons]
      rw [run_equalIn_bool W (d + e) t _ _ hu]
      simp [Bool.beq_eq_decide_eq]
    · rename_i hu
      simp at h; subst h
      obtain ⟨v, rfl, hv⟩ := typedB_one h1
      obtain ⟨u, rfl, hu'⟩ := typedB_one h2
      cases v <;> simp only [Leaf.ok, Bool.false_eq_true] at hv
      cases u <;> simp only [Leaf.ok, Bool.false_eq_true] at hu'
      rename_i x y
      have hp : aggB P t = some false := by simp [aggB, hu, isAggD]
      simp only [pack, hp, Option.some.injEq, Bool.false_eq_true, if_false, List.headD_cons]
      have : (Op.equalIn (d + e + 1) t (.string x) (.string y)).run P W = .ok (x == y) W := by simp [Op.equalIn, run_underlying hu]
      rw [this]
      congr 1
      have hb : (x == y) = decide (x = y) := by
        obtain ⟨x⟩ := x
        obtain ⟨y⟩ := y
        rw [Bool.eq_iff_iff]
        show ((x == y) = true) ↔ _
        simp
      rw [hb]
      exact decide_eq_decide.mpr ⟨fun e => by rw [e], fun e => by simpa using e⟩
    · rename_i fs hu
      split at h
      · simp at h
      · rename_i hst
        have hst : P.stoodInHeld t = false := by simpa using hst
        have hp : aggB P t = some true := by simp [aggB, hu, isAggD]
        have hS : P.underlying t = some (.struct (P.fieldsOf t)) := by rw [hu]; simp [Program.fieldsOf, hu]
        have hF : P.fieldsOf t = fs := by simp [Program.fieldsOf, hu]
        simp only [pack, hp, if_true]
        rw [run_equalIn_struct W (d + e) t _ _ hS hst, hF]
        -- the fields, one by one
        have key : ∀ (l : List Field) (n : Nat) (ms : List Leaf), joinL (leafK P d) P l n = some ms → ∀ W, typedB ms (vs.drop n) = true → typedB ms (us.drop n) = true → n ≤ vs.length → n ≤ us.length →
            (Op.eqFields (d + e) vs.toArray us.toArray l).run P W = .ok (decide (vs.drop n = us.drop n)) W := by
          intro l
          induction l with
          | nil =>
            intro n ms hj W t1 t2 _ _
            simp [joinL] at hj
            subst hj
            have l1 := typedB_len t1
            have l2 := typedB_len t2
            have e1 : vs.drop n = [] := List.eq_nil_of_length_eq_zero l1
            have e2 : us.drop n = [] := List.eq_nil_of_length_eq_zero l2
            simp [Op.eqFields, e1, e2]
          | cons f l ih =>
            intro n ms hj W t1 t2 hn1 hn2
            unfold joinL at hj
            split at hj
            · rename_i l0 b0 k0 hl0 hb0 hk0
              split at hj
              · rename_i hc
                simp only [Bool.and_eq_true, bne_iff_ne, ne_eq] at hc
                obtain ⟨⟨hname, hoff⟩, hlen⟩ := hc
                have hoff := Nat.eq_of_beq_eq_true hoff
                have hlen := Nat.eq_of_beq_eq_true hlen
                cases hj2 : joinL (leafK P d) P l (n + l0.length) with
                | none => rw [hj2] at hj; simp at hj
                | some m2 =>
                  rw [hj2] at hj
                  simp at hj
                  subst hj
                  obtain ⟨a1, a2⟩ := typedB_append t1
                  obtain ⟨c1, c2⟩ := typedB_append t2
                  have g1 := typedB_len t1
                  have g2 := typedB_len t2
                  rw [List.length_drop, List.length_append] at g1 g2
                  have h1k : b0 = false → k0 = 1 := fun hb => by subst hb; rw [hlen]; exact leaf_flat d f.type l0 hl0 hb0
                  have p1 := run_part (P := P) hb0 hk0 vs f.offset h1k (by rw [hoff, hlen]; omega) W
                  have p2 := run_part (P := P) hb0 hk0 us f.offset h1k (by rw [hoff, hlen]; omega) W
                  rw [hoff, hlen] at p1 p2
                  have ihd := run_equal_flat d f.type l0 hl0 e _ _ W a1 c1
                  have ih2 := ih (n + l0.length) m2 hj2 W (by rw [List.drop_drop] at a2; exact a2) (by rw [List.drop_drop] at c2; exact c2) (by omega) (by omega)
                  have hsplit : decide (vs.drop n = us.drop n) = (decide ((vs.drop n).take l0.length = (us.drop n).take l0.length) && decide (vs.drop (n + l0.length) = us.drop (n + l0.length))) := by
                    rw [← Bool.decide_and]
                    apply decide_eq_decide.mpr
                    constructor
                    · intro hh; rw [hh]; refine ⟨rfl, ?_⟩
                      have := congrArg (List.drop l0.length) hh
                      rwa [List.drop_drop, List.drop_drop] at this
                    · rintro ⟨q1, q2⟩
                      rw [← List.take_append_drop l0.length (vs.drop n), ← List.take_append_drop l0.length (us.drop n), q1, List.drop_drop, List.drop_drop, q2]
                  simp only [Op.eqFields, hname, not_false_eq_true, if_true, Sem.run_bind, hoff, p1, p2, Result.andThen_ok, ihd, ne_eq]
                  rw [hsplit]
                  cases decide ((vs.drop n).take l0.length = (us.drop n).take l0.length) with
                  | false => simp
                  | true => simp [ih2]
              · simp at hj
            · simp at hj
        have := key fs.toList 0 ls h W (by simpa using h1) (by simpa using h2) (Nat.zero_le _) (Nat.zero_le _)
        simpa using this
    · simp at h
/-- the law of '==' at a struct of plain leaves -/
theorem eqLaw_flat {P : Program} {t : TypeId} {ls : List Leaf} {vs us : List Value} (hg : P.eqGuardType P.depth t = false) (ha : aggB P t = some true) (hl : leafK P 8 t = some ls) (h1 : typedB ls vs = true) (h2 : typedB ls us = true) : EqLaw P t vs us (decide (vs = us)) := by
  refine ⟨hg, fun W => ?_⟩
  have := run_equal_flat 8 t ls hl 9992 vs us W h1 h2
  simp only [pack, ha, if_true] at this
  rw [run_eql_struct]
  simp only [show (8 + 9992 : Nat) = 10000 from rfl] at this
  rw [this]
  rfl
theorem EqLaw.to {P : Program} {t : TypeId} {vs us : List Value} {b c : Bool} (h : EqLaw P t vs us b) (e : b = c) : EqLaw P t vs us c := e ▸ h
end Go.AL


namespace Go.AL
open Go.RowKit
def nodupN (l : List (Nat × Id × Res)) : Bool := nodupB (l.map (·.1))
theorem nodup_inj {α : Type} {l : List α} (h : l.Nodup) {i j : Nat} (hi : i < l.length) (hj : j < l.length) (e : l[i] = l[j]) : i = j := by
  have hp := List.pairwise_iff_getElem.1 h
  rcases Nat.lt_trichotomy i j with h1 | h1 | h1
  · exact absurd e (hp i j hi hj h1)
  · exact h1
  · exact absurd e.symm (hp j i hj hi h1)
section
variable {P : Program} {n N : Nat} {F : Fr} {R : Toks} {d : Option Nat} {T : TypeId} {pos : String} {after : Array Edge}
theorem opj_enter {o : Oper} {f : FuncId} {pre : List Pred} {k : Nat} {post : (Nat → Id) → Pred} {prod : (Nat → Id) → List (Id × Res)} {rd : List (Nat × Pred)} {del add : List (Nat × Id × Res)} {ks : List Nat}
    (hc : FnOK P f pre (del.map (·.2)) k post prod) (hk : ks.length = k) (hprod : prod (fun j => (N, ks.getD j 0)) = add.map (·.2)) (hnd : (nodupN del && nodupN add && nodupB ks && Nat.ble add.length 1000000) = true)
    (hrd : ∀ y ∈ rd, lk F y.1 = some y.2) (hdel : ∀ x ∈ del, R x.1 = some x.2) (hadd : ∀ x ∈ add, R x.1 = none ∨ del.any (fun y => y.1 == x.1) = true)
    (hrun : ∀ (σ : Sg) (W : World) (a : Act), (∀ y ∈ rd, y.2.h σ (a.tmps.getD y.1 undef)) → ∃ args : Array Value, (execOp a.eval o).run P W = .ok (.enter f args) W ∧ args.size = pre.length ∧ ∀ (i : Nat) (p : Pred), pre[i]? = some p → p.h σ (args.getD i undef)) :
    OpJ P n N F R o ⟨rd, [], del, add, ks, post (fun j => (N, ks.getD j 0))⟩ where
  loc := by
    intro σ W R a K hm h2 h3 h4 h5 h6 h7 h8 h9 Q
    obtain ⟨args, hex, hsz, hargs⟩ := hrun σ W a h4
    refine upon_call hex ?_
    simp only [Bool.and_eq_true] at hnd
    obtain ⟨⟨⟨hd1, hd2⟩, hd3⟩, hd4⟩ := hnd
    have hd4 := Nat.le_of_ble_eq_true hd4
    have hks := nodup_of hd3
    obtain ⟨M, hNM, hM⟩ := fresh_M hm N
    have := hc σ W (fun m => if m < 1000000 then (del.map (·.2))[m]? else if del.any (fun y => y.1 == m - 1000000) then none else R (m - 1000000)) args (fun j => (N, ks.getD j 0)) M
      (hm.reindex (fun m => if m < 1000000 then ((del.map (·.1))[m]?).getD 0 else m - 1000000) ?_ ?_)
      (fun m hm' => by simp [hm']) hM
      (fun j hj => ⟨hNM, h8 _ (by
        have : j < ks.length := by omega
        simp [List.getD, List.getElem?_eq_getElem this])⟩)
      (fun i j hi hj e => by
        have hi' : i < ks.length := by omega
        have hj' : j < ks.length := by omega
        simp only [Prod.mk.injEq, true_and, List.getD, List.getElem?_eq_getElem hi', List.getElem?_eq_getElem hj', Option.getD_some] at e
        exact nodup_inj hks hi' hj' e) hsz hargs
    · refine this.mono ?_
      rintro e W' ⟨v, σ', rfl, hle, hkeep, hmod, hpost⟩
      refine ⟨v, rfl, h9 σ' W' v hle ?_ ?_ hpost⟩
      · intro id hid hne
        refine hkeep id (by omega) (fun j hj e => ?_)
        have : j < ks.length := by omega
        exact hne _ (List.getElem_mem this) (by simpa [List.getD, List.getElem?_eq_getElem this] using e)
      · rw [hprod] at hmod
        refine hmod.reindex (fun m => match add.findIdx? (fun y => y.1 == m) with | some j => j | none => m + 1000000) ?_ ?_
        · intro x y hxy _ _ e
          cases hx : add.findIdx? (fun z => z.1 == x) with
          | some i =>
            rw [hx] at e
            obtain ⟨hi, hxi, _⟩ := List.findIdx?_eq_some_iff_getElem.1 hx
            cases hy : add.findIdx? (fun z => z.1 == y) with
            | some j =>
              rw [hy] at e
              simp only at e
              subst e
              obtain ⟨hj, hyj, _⟩ := List.findIdx?_eq_some_iff_getElem.1 hy
              simp at hxi hyj
              omega
            | none => rw [hy] at e; simp only at e; omega
          | none =>
            rw [hx] at e
            cases hy : add.findIdx? (fun z => z.1 == y) with
            | some j =>
              rw [hy] at e
              obtain ⟨hj, _, _⟩ := List.findIdx?_eq_some_iff_getElem.1 hy
              simp only at e
              omega
            | none => rw [hy] at e; simp only at e; omega
        · intro m x hx
          simp only [updR] at hx
          cases hf : add.findIdx? (fun z => z.1 == m) with
          | some j =>
            obtain ⟨hj, hmj, hlt⟩ := List.findIdx?_eq_some_iff_getElem.1 hf
            have hfind : add.find? (fun z => z.1 == m) = some add[j] := by
              rw [List.find?_eq_some_iff_getElem]
              exact ⟨hmj, j, hj, rfl, fun i hi => by simpa using hlt i hi⟩
            rw [hfind] at hx
            simp only at hx ⊢
            rw [if_pos (by omega)]
            simpa [List.getElem?_eq_getElem hj] using hx
          | none =>
            have hfind : add.find? (fun z => z.1 == m) = none := by
              rw [List.find?_eq_none]
              intro z hz
              have := List.findIdx?_eq_none_iff.1 hf z hz
              simpa using this
            rw [hfind] at hx
            have e9 : ¬ m + 1000000 < 1000000 := by omega
            have e8 : m + 1000000 - 1000000 = m := by omega
            generalize hM0 : m + 1000000 = M0 at e9 e8 ⊢
            simp only [e9, if_false, e8]
            exact hx
    · intro x y hxy hx hy
      by_cases h1 : x < 1000000
      · rw [if_pos h1] at hx
        have hx' : x < del.length := by
          cases hg : (del.map (·.2))[x]? with
          | none => exact absurd hg hx
          | some z => simpa using (List.getElem?_eq_some_iff.1 hg).1
        by_cases h2 : y < 1000000
        · rw [if_pos h2] at hy
          have hy' : y < del.length := by
            cases hg : (del.map (·.2))[y]? with
            | none => exact absurd hg hy
            | some z => simpa using (List.getElem?_eq_some_iff.1 hg).1
          simp only [h1, h2, if_true, List.getElem?_map, List.getElem?_eq_getElem hx', List.getElem?_eq_getElem hy', Option.map_some, Option.getD_some]
          intro e
          have hnd := nodup_of hd1
          have := nodup_inj hnd (i := x) (j := y) (by simpa using hx') (by simpa using hy') (by simpa using e)
          exact hxy this
        · rw [if_neg h2] at hy
          simp only [h1, h2, if_true, if_false, List.getElem?_map, List.getElem?_eq_getElem hx', Option.map_some, Option.getD_some]
          intro e
          split at hy
          · exact hy rfl
          · rename_i hno
            exact hno (List.any_eq_true.2 ⟨del[x], List.getElem_mem hx', by simp [e]⟩)
      · by_cases h2 : y < 1000000
        · rw [if_pos h2] at hy
          rw [if_neg h1] at hx
          have hy' : y < del.length := by
            cases hg : (del.map (·.2))[y]? with
            | none => exact absurd hg hy
            | some z => simpa using (List.getElem?_eq_some_iff.1 hg).1
          simp only [h1, h2, if_true, if_false, List.getElem?_map, List.getElem?_eq_getElem hy', Option.map_some, Option.getD_some]
          intro e
          split at hx
          · exact hx rfl
          · rename_i hno
            exact hno (List.any_eq_true.2 ⟨del[y], List.getElem_mem hy', by simp [e]⟩)
        · simp only [h1, h2, if_false]
          omega
    · intro m x hx
      by_cases h1 : m < 1000000
      · rw [if_pos h1] at hx ⊢
        have hx' : m < del.length := by simpa using (List.getElem?_eq_some_iff.1 hx).1
        simp only [List.getElem?_map, List.getElem?_eq_getElem hx', Option.map_some, Option.getD_some, Option.some.injEq] at hx ⊢
        rw [← hx]
        exact h6 _ (List.getElem_mem hx')
      · rw [if_neg h1] at hx ⊢
        split at hx
        · cases hx
        · exact hx
  rd := hrd
  use := by simp
  del := hdel
  add := hadd
def tokB (R : Toks) (l : List (Nat × Id × Res)) : Prop := ∀ x ∈ l, R x.1 = some x.2
/-- **a call of a function, blocks handed over and taken back** -/
theorem op_callG {f : FuncId} {l : List Operand} {ts : Array TypeId} {pre : List Pred} {k : Nat} {post : (Nat → Id) → Pred} {prod : (Nat → Id) → List (Id × Res)} {rd : List (Nat × Pred)} {del add : List (Nat × Id × Res)} {ks : List Nat}
    (hc : FnOK P f pre (del.map (·.2)) k post prod) (hargs : Args F l pre rd) (hf : fnB P f = true) (hk : ks.length = k) (hprod : prod (fun j => (N, ks.getD j 0)) = add.map (·.2)) (hnd : (nodupN del && nodupN add && nodupB ks && Nat.ble add.length 1000000) = true)
    (hdel : ∀ x ∈ del, R x.1 = some x.2) (hadd : ∀ x ∈ add, R x.1 = none ∨ del.any (fun y => y.1 == x.1) = true) :
    OpJ P n N F R ⟨d, .call { callee := .value (.func f), args := l.toArray, argTypes := ts }, T, pos, after, none⟩ ⟨rd, [], del, add, ks, post (fun j => (N, ks.getD j 0))⟩ :=
  opj_enter hc hk hprod hnd hargs.rd hdel hadd fun σ W a hr => by
    obtain ⟨h10, h11⟩ := args_ok hargs hr
    exact ⟨_, run_call_func rfl hf a W, h10, h11⟩
def Vals (σ : Sg) (ps : List Pred) (vs : List Value) : Prop := vs.length = ps.length ∧ ∀ (j : Nat) (p : Pred) (u : Value), ps[j]? = some p → vs[j]? = some u → p.h σ u
theorem Vals.mono {σ τ : Sg} {ps : List Pred} {vs : List Value} (h : Vals σ ps vs) (hle : Le σ τ) : Vals τ ps vs := ⟨h.1, fun j p u hp hu => p.m _ _ _ hle (h.2 j p u hp hu)⟩
theorem Vals.append {σ : Sg} {ps qs : List Pred} {vs us : List Value} (h : Vals σ ps vs) (k : Vals σ qs us) : Vals σ (ps ++ qs) (vs ++ us) := by
  refine ⟨by simp [h.1, k.1], fun j p u hp hu => ?_⟩
  by_cases hj : j < ps.length
  · rw [List.getElem?_append_left hj] at hp
    rw [List.getElem?_append_left (by rw [h.1]; exact hj)] at hu
    exact h.2 j p u hp hu
  · rw [List.getElem?_append_right (by omega)] at hp
    rw [List.getElem?_append_right (by rw [h.1]; omega)] at hu
    rw [h.1] at hu
    exact k.2 _ p u hp hu
/-- a function with its receiver (or none) and what it has captured -/
def clP (f : FuncId) (first caps : List Pred) : Pred :=
  ⟨fun σ v => ∃ fs cs : List Value, v = .func (.func f) fs.toArray cs.toArray ∧ Vals σ first fs ∧ Vals σ caps cs, fun _ _ _ hle ⟨fs, cs, hv, h1, h2⟩ => ⟨fs, cs, hv, h1.mono hle, h2.mono hle⟩⟩
theorem Ent.func (f : FuncId) : Ent (eqP (.func (.func f) #[] #[])) (clP f [] []) := fun _ _ h => ⟨[], [], h, ⟨rfl, by simp⟩, ⟨rfl, by simp⟩⟩
theorem One.cl (f : FuncId) (a b : List Pred) : One (clP f a b) := fun _ _ ⟨_, _, h, _⟩ => by subst h; rfl
theorem Args.vals {F : Fr} {l : List Operand} {ps : List Pred} {rd : List (Nat × Pred)} (h : Args F l ps rd) {σ : Sg} {a : Act} (hr : ∀ y ∈ rd, y.2.h σ (a.tmps.getD y.1 undef)) : Vals σ ps (l.map a.eval) := by
  refine ⟨by simp [h.len], fun j p u hp hu => ?_⟩
  have := h.holds hr j p hp
  rw [hu] at this
  exact this
theorem op_makeFunc {f : FuncId} {bs cs : List Operand} {ps qs : List Pred} {r1 r2 : List (Nat × Pred)} (hb : Args F bs ps r1) (hc : Args F cs qs r2) :
    OpJ P n N F R ⟨d, .makeFunc (.func f) bs.toArray cs.toArray, T, pos, after, none⟩ ⟨r1 ++ r2, [], [], [], [], clP f ps qs⟩ :=
  opj_pure (rd_app hb.rd hc.rd) fun σ W a hr => ⟨.func (.func f) (bs.map a.eval).toArray (cs.map a.eval).toArray, by
    simp [execOp, Instr.makeFunc], _, _, rfl, hb.vals fun z hz => hr z (List.mem_append_left _ hz), hc.vals fun z hz => hr z (List.mem_append_right _ hz)⟩
theorem vals_args {σ : Sg} {ps : List Pred} {vs : List Value} (h : Vals σ ps vs) : vs.toArray.size = ps.length ∧ ∀ (i : Nat) (p : Pred), ps[i]? = some p → p.h σ (vs.toArray.getD i undef) := by
  refine ⟨by simp [h.1], fun i p hp => ?_⟩
  have hlt : i < vs.length := by rw [h.1]; exact (List.getElem?_eq_some_iff.1 hp).1
  have := h.2 i p _ hp (List.getElem?_eq_getElem hlt)
  simpa [Array.getD, hlt] using this
/-- **a call of a function value** -/
theorem op_callVG {f : FuncId} {x : Operand} {l : List Operand} {ts : Array TypeId} {first pre caps : List Pred} {k : Nat} {post : (Nat → Id) → Pred} {prod : (Nat → Id) → List (Id × Res)} {rd : List (Nat × Pred)} {del add : List (Nat × Id × Res)} {ks : List Nat}
    (hx : opd F x = some (clP f first caps)) (hc : FnOK P f (first ++ pre ++ caps) (del.map (·.2)) k post prod) (hargs : Args F l pre rd) (hf : fnB P f = true) (hk : ks.length = k) (hprod : prod (fun j => (N, ks.getD j 0)) = add.map (·.2))
    (hnd : (nodupN del && nodupN add && nodupB ks && Nat.ble add.length 1000000) = true)
    (hdel : ∀ x ∈ del, R x.1 = some x.2) (hadd : ∀ x ∈ add, R x.1 = none ∨ del.any (fun y => y.1 == x.1) = true) :
    OpJ P n N F R ⟨d, .call { callee := .value x, args := l.toArray, argTypes := ts }, T, pos, after, none⟩ ⟨rdo x (clP f first caps) ++ rd, [], del, add, ks, post (fun j => (N, ks.getD j 0))⟩ :=
  opj_enter hc hk hprod hnd (rd_app (rd_of hx) hargs.rd) hdel hadd fun σ W a hr => by
    obtain ⟨fs, cs, hv, h1, h2⟩ := holds_of hx fun z hz => hr z (List.mem_append_left _ hz)
    have h3 := (h1.append (hargs.vals fun z hz => hr z (List.mem_append_right _ hz))).append h2
    obtain ⟨h10, h11⟩ := vals_args h3
    exact ⟨_, run_call_value rfl hf a hv W, h10, h11⟩
theorem op_callV {f : FuncId} {x : Operand} {l : List Operand} {ts : Array TypeId} {first pre caps : List Pred} {post : Pred} {rd : List (Nat × Pred)}
    (hx : opd F x = some (clP f first caps)) (hc : FnP P f (first ++ pre ++ caps) post) (hargs : Args F l pre rd) (hf : fnB P f = true) :
    OpJ P n N F R ⟨d, .call { callee := .value x, args := l.toArray, argTypes := ts }, T, pos, after, none⟩ ⟨rdo x (clP f first caps) ++ rd, [], [], [], [], post⟩ :=
  op_callVG (del := []) (add := []) (ks := []) hx hc hargs hf rfl rfl rfl (by simp) (by simp)
end
structure Ren (post : Id → Pred) (r : Res) : Prop where
  p : ∀ (σ : Sg) (id id' : Id) (v : Value), σ.ρ id' = σ.ρ id → σ.z id' = σ.z id → (post id).h σ v → (post id').h σ v
  r : ∀ (σ : Sg) (id id' : Id) (b : Nat) (o : Obj), σ.ρ id' = σ.ρ id → σ.z id' = σ.z id → r.h σ id b o → r.h σ id' b o
def Fn1 (P : Program) (f : FuncId) (pre : List Pred) (post : Id → Pred) (r : Res) : Prop := FnOK P f pre [] 1 (fun ι => post (ι 0)) (fun ι => [(ι 0, r)])
def Owes1 (C : Cx) (R : Ending → World → Prop) (post : Id → Pred) (r : Res) : Prop :=
  ∀ v W σ id, Le C.σ0 σ → KeepB C σ → Models σ (fun n => if n = 0 then some (id, r) else if n < 1000000 then none else C.Rf n) W → (post id).h σ v → R (.returned v) W
section
variable {P : Program} {C : Cx} {F : Fr} {L : Tk} {fn : Func} {R : Ending → World → Prop} {post : Id → Pred} {r : Res}
end
theorem Ren.row {α : Type} (f : α → List Pred) (k : Nat) (xs : List α) (e : TypeId) (m : Nat) : Ren (fun id => rowP id f k xs) (tail e k m) where
  p := by
    rintro σ id id' v h1 h2 (h | ⟨b, hv, hb, g1, g2, g3⟩)
    · exact .inl h
    · exact .inr ⟨b, by rw [h2]; exact hv, by rw [h1]; exact hb, by rw [h2]; exact g1, by rw [h2]; exact g2, g3⟩
  r := by
    rintro σ id id' b o h1 h2 ⟨cs, ho, hl, hn⟩
    exact ⟨cs, ho, by rw [h2]; exact hl, hn⟩
end Go.AL


namespace Go.AL
open Go.RowKit
/-- a view of a slice of the call's own: from the off-th element on, n of them; the block has room for z elements, c or more -/
def mvP (id : Id) (k off n c : Nat) : Pred :=
  ⟨fun σ v => ∃ a, v = .slice a n (σ.z id - off) ∧ (off + n ≤ σ.z id ∧ c ≤ σ.z id) ∧ σ.z id ≤ maxLen ∧ σ.ρ id ≠ none ∧ (off < σ.z id → ∃ b, σ.ρ id = some (some b) ∧ a = some ⟨b, off * k, none⟩),
   fun σ τ v hle ⟨a, hv, h1, h2, h3, h4⟩ => by
     obtain ⟨ob, hob⟩ := Option.ne_none_iff_exists'.1 h3
     have hz := hle.z _ _ hob
     refine ⟨a, by rw [hz]; exact hv, by rw [hz]; exact h1, by rw [hz]; exact h2, by rw [hle.ρ _ _ hob]; simp, fun h => ?_⟩
     obtain ⟨b, hb, ha⟩ := h4 (by rw [hz] at h; exact h)
     exact ⟨b, hle.ρ _ _ hb, ha⟩⟩
theorem One.mv (id : Id) (k off n c : Nat) : One (mvP id k off n c) := fun _ _ ⟨_, h, _⟩ => by subst h; rfl
theorem Ren.mv (k off n c κ : Nat) (T : TypeId) (ps : List Pred) : Ren (fun id => mvP id k off n c) (blkX κ T ps) where
  p := by
    rintro σ id id' v h1 h2 ⟨a, hv, g1, g2, g3, g4⟩
    exact ⟨a, by rw [h2]; exact hv, by rw [h2]; exact g1, by rw [h2]; exact g2, by rw [h1]; exact g3, by rw [h1, h2]; exact g4⟩
  r := by
    rintro σ id id' b o h1 h2 ⟨cs, rest, ho, hv, hz, hn⟩
    exact ⟨cs, rest, ho, hv, by rw [h2]; exact hz, hn⟩
/-- what is written no more reads as a list -/
theorem FEnt.mv {α : Type} {f : α → List Pred} {k : Nat} {id : Id} {ps : List Pred} {off n c : Nat} {xs : List α} (hn : n = xs.length) (hp : ∃ qs, (ps.drop (off * k)) = xs.flatMap f ++ qs) (hk : ∀ z, (f z).length = k) : FEnt id ps (mvP id k off n c) (slP f k xs) := by
  rintro σ v hcs ⟨a, hv, h1, h2, h3, h4⟩
  subst hn
  refine ⟨a, σ.z id - off, hv, by omega, by omega, fun hpos => ?_⟩
  obtain ⟨b, hb, rfl⟩ := h4 (by omega)
  refine ⟨b, off * k, rfl, fun i x hx j p hpj => ?_⟩
  have hp' := flatMap_at hk xs i x hx j p hpj
  obtain ⟨qs, hq⟩ := hp
  have h5 : ps[off * k + (i * k + j)]? = some p := by
    have : (ps.drop (off * k))[i * k + j]? = some p := by
      rw [hq, List.getElem?_append_left (List.getElem?_eq_some_iff.1 hp').1]
      exact hp'
    rwa [List.getElem?_drop] at this
  have := hcs b hb _ p h5
  rwa [show 0 + (off * k + (i * k + j)) = off * k + i * k + j by omega] at this
section
variable {P : Program} {n N : Nat} {F : Fr} {R : Toks} {d : Option Nat} {T : TypeId} {pos : String} {after : Array Edge} {k : Nat} {t e : TypeId} {ik : IntKind} {id : Id} {off len c : Nat}
theorem op_len_mv {x : Operand} (hx : opd F x = some (mvP id k off len c)) (ht : elemB P t = some e) :
    OpJ P n N F R ⟨d, .call { callee := .builtin .len, args := #[x], argTypes := #[t] }, T, pos, after, none⟩ ⟨rdo x (mvP id k off len c), [], [], [], [], eqP (.int .i64 len)⟩ :=
  opj1 hx fun σ W a ⟨b, hv, _⟩ => by
    refine ⟨.int .i64 len, ?_, rfl⟩
    simp [execOp, resolve, invoke, builtin, Builtin.len_, hv, run_underlying (elem_of ht), goInt]
theorem op_index_mv {x y : Operand} {i : Int} {j : Nat} (hx : opd F x = some (mvP id k off len c)) (hy : opd F y = some (eqP (.int ik i))) (ht : elemB P t = some e) (hs : sizeB P e = some k) (hi : i = (j : Int)) (hz : j < len) :
    OpJ P n N F R ⟨d, .indexAddr t x y, T, pos, after, none⟩ ⟨rdo x (mvP id k off len c) ++ rdo y (eqP (.int ik i)), [], [], [], [], ptrP id (off * k + j * k)⟩ :=
  opj2 hx hy fun σ W a ⟨ad, hv, h1, h2, h3, h4⟩ h5 => by
    obtain ⟨b, hb, rfl⟩ := h4 (by omega)
    have e2 : a.eval y = .int ik i := h5
    refine ⟨.pointer (some ⟨b, off * k + j * k, none⟩), ?_, b, hb, rfl⟩
    subst hi
    simp [execOp, Instr.indexAt, e2, asIntOf, hv, run_underlying (elem_of ht), run_sizeOf' hs, hz, addr_add]
theorem mv_cut {σ : Sg} {a : Option Addr} {lo hi : Nat} (h1 : off + len ≤ σ.z id ∧ c ≤ σ.z id) (h2 : σ.z id ≤ maxLen) (h3 : σ.ρ id ≠ none) (h4 : off < σ.z id → ∃ b, σ.ρ id = some (some b) ∧ a = some ⟨b, off * k, none⟩) (hlo : lo ≤ hi) (hhi : hi ≤ len) :
    (mvP id k (off + lo) (hi - lo) c).h σ (.slice (if σ.z id - off = lo then a else a.map (·.add (lo * k))) (hi - lo) (σ.z id - off - lo)) := by
  refine ⟨_, by rw [Nat.sub_sub], by omega, h2, h3, fun h => ?_⟩
  obtain ⟨b, hb, rfl⟩ := h4 (by omega)
  exact ⟨b, hb, by rw [if_neg (by omega)]; simp [addr_add, Nat.add_mul]⟩
theorem op_mslice_l {x y : Operand} {i : Int} {lo : Nat} (hx : opd F x = some (mvP id k off len c)) (hy : opd F y = some (eqP (.int ik i))) (ht : elemB P t = some e) (hs : sizeB P e = some k) (hi : i = (lo : Int)) (hlo : lo ≤ len) :
    OpJ P n N F R ⟨d, .slice t x (some y) none none, T, pos, after, none⟩ ⟨rdo x (mvP id k off len c) ++ rdo y (eqP (.int ik i)), [], [], [], [], mvP id k (off + lo) (len - lo) c⟩ :=
  opj2 hx hy fun σ W a ⟨ad, hv, h1, h2, h3, h5⟩ h4 => by
    have e2 : a.eval y = .int ik i := h4
    refine ⟨_, ?_, mv_cut h1 h2 h3 h5 hlo (Nat.le_refl _)⟩
    subst hi
    simp only [execOp, Instr.sliceAt, Sem.run_bind, run_underlying (elem_of ht), Result.andThen_ok, hv, Option.map_some, Option.map_none, e2]
    simp only [Instr.slice, Sem.run_bind, run_underlying (elem_of ht), Result.andThen_ok, Instr.sliceBounds, Sem.run_pure, Option.isSome_none, Instr.sliceBound, asIntOf]
    simp [hlo, run_sizeOf' hs]
theorem op_mslice_h {x y : Operand} {i : Int} {hi : Nat} (hx : opd F x = some (mvP id k off len c)) (hy : opd F y = some (eqP (.int ik i))) (ht : elemB P t = some e) (hs : sizeB P e = some k) (hii : i = (hi : Int)) (hhi : hi ≤ len) :
    OpJ P n N F R ⟨d, .slice t x none (some y) none, T, pos, after, none⟩ ⟨rdo x (mvP id k off len c) ++ rdo y (eqP (.int ik i)), [], [], [], [], mvP id k off hi c⟩ :=
  opj2 hx hy fun σ W a ⟨ad, hv, h1, h2, h3, h5⟩ h4 => by
    have e2 : a.eval y = .int ik i := h4
    have hc := mv_cut (c := c) (lo := 0) h1 h2 h3 h5 (Nat.zero_le _) hhi
    simp only [Nat.add_zero, Nat.sub_zero, Nat.zero_mul] at hc
    have hcap : hi ≤ σ.z id - off := by omega
    refine ⟨_, ?_, hc⟩
    subst hii
    simp only [execOp, Instr.sliceAt, Sem.run_bind, run_underlying (elem_of ht), Result.andThen_ok, hv, Option.map_some, Option.map_none, e2]
    simp only [Instr.slice, Sem.run_bind, run_underlying (elem_of ht), Result.andThen_ok, Instr.sliceBounds, Sem.run_pure, Option.isSome_none, Instr.sliceBound, asIntOf]
    simp [hcap, run_sizeOf' hs]
theorem info_of {z : Value} {bytes : Nat} (hz : zeroB P e = some (some z)) (hs : sizeB P e = some k) (hby : bytesB P e = some bytes) : ∃ i, P.info? e = some i ∧ i.zero = some z ∧ i.size = k ∧ i.bytes = bytes := by
  unfold zeroB at hz; unfold sizeB at hs; unfold bytesB at hby
  cases hi : P.info? e with
  | none => rw [hi] at hz; cases hz
  | some i => rw [hi] at hz hs hby; simp at hz hs hby; exact ⟨i, rfl, hz, hs, hby⟩
end
end Go.AL
