/- Predicates on values, and owned resources. -/
import Derived.Test.YtabfnclbehkcnaaAlDraw
namespace Go.AL
open Go.RowKit

def anyP : Pred := ⟨fun _ _ => True, fun _ _ _ _ _ => trivial⟩
def eqP (x : Value) : Pred := ⟨fun _ v => v = x, fun _ _ _ _ h => h⟩
/-- a bool of which something is known -/
def bP (φ : Bool → Prop) : Pred := ⟨fun _ v => ∃ b, v = .bool b ∧ φ b, fun _ _ _ _ h => h⟩

def Pred.cell (p : Pred) (σ : Sg) (u : Value) : Prop := p.h σ u ∧ u.oneCell' = true
theorem Pred.cell.mono {p : Pred} {σ τ : Sg} {u : Value} (h : p.cell σ u) (hle : Le σ τ) : p.cell τ u := ⟨p.m _ _ _ hle h.1, h.2⟩

/-- a list of cells -/
def Vs (σ : Sg) (ps : List Pred) (vs : List Value) : Prop := vs.length = ps.length ∧ ∀ (j : Nat) (p : Pred) (u : Value), ps[j]? = some p → vs[j]? = some u → p.cell σ u
theorem Vs.mono {σ τ : Sg} {ps : List Pred} {vs : List Value} (h : Vs σ ps vs) (hle : Le σ τ) : Vs τ ps vs := ⟨h.1, fun j p u hp hu => (h.2 j p u hp hu).mono hle⟩

/-- immutable cells -/
def Cs (σ : Sg) (b off : Nat) (ps : List Pred) : Prop := ∀ (j : Nat) (p : Pred), ps[j]? = some p → ∃ u, σ.c b (off + j) = some u ∧ p.cell σ u
theorem Cs.mono {σ τ : Sg} {b off : Nat} {ps : List Pred} (h : Cs σ b off ps) (hle : Le σ τ) : Cs τ b off ps := fun j p hp => by
  obtain ⟨u, hu, hc⟩ := h j p hp
  exact ⟨u, hle.c _ _ _ hu, hc.mono hle⟩

def ptrP (id : Id) (off : Nat) : Pred := ⟨fun σ v => ∃ b, σ.ρ id = some (some b) ∧ v = .pointer (some ⟨b, off, none⟩), fun _ _ _ hle ⟨b, hb, hv⟩ => ⟨b, hle.ρ _ _ hb, hv⟩⟩
def cellsP (ps : List Pred) : Pred := ⟨fun σ v => ∃ b off, v = .pointer (some ⟨b, off, none⟩) ∧ Cs σ b off ps, fun _ _ _ hle ⟨b, off, hv, hc⟩ => ⟨b, off, hv, hc.mono hle⟩⟩
def aggP (ps : List Pred) : Pred := ⟨fun σ v => ∃ cs : List Value, v = .agg cs.toArray ∧ Vs σ ps cs, fun _ _ _ hle ⟨cs, hv, h⟩ => ⟨cs, hv, h.mono hle⟩⟩
/-- results of several parts -/
def tupP (ps : List Pred) : Pred := ⟨fun σ v => ∃ cs : List Value, v = .tuple cs.toArray ∧ cs.length = ps.length ∧ ∀ (j : Nat) (p : Pred) (u : Value), ps[j]? = some p → cs[j]? = some u → p.h σ u,
  fun _ _ _ hle ⟨cs, hv, hl, h⟩ => ⟨cs, hv, hl, fun j p u hp hu => p.m _ _ _ hle (h j p u hp hu)⟩⟩

/-- a slice that reads as a list: element x has the cells f x, n of them -/
def slP {α : Type} (f : α → List Pred) (n : Nat) (xs : List α) : Pred :=
  ⟨fun σ v => ∃ a cap, v = .slice a xs.length cap ∧ xs.length ≤ cap ∧ cap ≤ maxLen ∧ (0 < xs.length → ∃ b off, a = some ⟨b, off, none⟩ ∧ ∀ (i : Nat) (x : α), xs[i]? = some x → Cs σ b (off + i * n) (f x)),
   fun _ _ _ hle ⟨a, cap, hv, h1, h2, h3⟩ => ⟨a, cap, hv, h1, h2, fun h => by
     obtain ⟨b, off, ha, hc⟩ := h3 h
     exact ⟨b, off, ha, fun i x hx => (hc i x hx).mono hle⟩⟩⟩

/-- a slice that the call owns: it may be appended to in place -/
def rowP {α : Type} (id : Id) (f : α → List Pred) (n : Nat) (xs : List α) : Pred :=
  ⟨fun σ v => (v = .slice none 0 0 ∧ xs = []) ∨
     ∃ b, v = .slice (some ⟨b, 0, none⟩) xs.length (σ.z id) ∧ σ.ρ id = some (some b) ∧ xs.length ≤ σ.z id ∧ σ.z id ≤ maxLen ∧ ∀ (i : Nat) (x : α), xs[i]? = some x → Cs σ b (i * n) (f x),
   fun σ τ v hle h => by
     rcases h with h | ⟨b, hv, hb, h1, h2, h3⟩
     · exact .inl h
     · refine .inr ⟨b, ?_, hle.ρ _ _ hb, ?_, ?_, fun i x hx => (h3 i x hx).mono hle⟩ <;> rw [hle.z _ _ hb] <;> assumption⟩

/-- a slice over a block of the call's own (its cells may be written) -/
def mslP (id : Id) (off len cap : Nat) : Pred := ⟨fun σ v => ∃ b, σ.ρ id = some (some b) ∧ v = .slice (some ⟨b, off, none⟩) len cap, fun _ _ _ hle ⟨b, hb, hv⟩ => ⟨b, hle.ρ _ _ hb, hv⟩⟩

/-- a block of the call's own: all its cells -/
def blkX (κ : Nat) (T : TypeId) (ps : List Pred) : Res :=
  ⟨fun σ id b o => ∃ cs rest : List Value, o = .cells (cs ++ rest).toArray T (0, 0) ∧ Vs σ ps cs ∧ (κ ≠ 0 → (cs ++ rest).length = σ.z id * κ) ∧ ∀ i, σ.c b i = none,
   fun _ _ _ _ _ hle hb hc ⟨cs, rest, ho, hv, hz, hn⟩ => ⟨cs, rest, ho, hv.mono hle, fun h => by rw [hle.z _ _ hb]; exact hz h, fun i => (hc i).trans (hn i)⟩⟩
abbrev blk (T : TypeId) (ps : List Pred) : Res := blkX 0 T ps

/-- the right to append: the cells from the m-th on are nobody's (an element has n cells) -/
def tail (T : TypeId) (n m : Nat) : Res :=
  ⟨fun σ id b o => ∃ cs : List Value, o = .cells cs.toArray T (0, 0) ∧ cs.length = σ.z id * n ∧ ∀ i, m ≤ i → σ.c b i = none,
   fun _ _ _ _ _ hle hb hc ⟨cs, ho, hv, hn⟩ => ⟨cs, ho, by rw [hle.z _ _ hb]; exact hv, fun i hi => (hc i).trans (hn i hi)⟩⟩

/-! ### one predicate for another -/
def Ent (p q : Pred) : Prop := ∀ σ v, p.h σ v → q.h σ v
theorem Ent.refl (p : Pred) : Ent p p := fun _ _ h => h
theorem Ent.of_eq {p q : Pred} (h : p = q) : Ent p q := h ▸ Ent.refl p
theorem Ent.trans {p q r : Pred} (h : Ent p q) (k : Ent q r) : Ent p r := fun σ v x => k σ v (h σ v x)
theorem Ent.any (p : Pred) : Ent p anyP := fun _ _ _ => trivial

inductive Ents : List Pred → List Pred → Prop
  | nil : Ents [] []
  | cons {p q : Pred} {ps qs : List Pred} (h : Ent p q) (t : Ents ps qs) : Ents (p :: ps) (q :: qs)

theorem Ents.refl : ∀ ps : List Pred, Ents ps ps
  | [] => .nil
  | p :: ps => .cons (Ent.refl p) (Ents.refl ps)
theorem Ents.length {ps qs : List Pred} (h : Ents ps qs) : ps.length = qs.length := by
  induction h with
  | nil => rfl
  | cons _ _ ih => simp [ih]
theorem Ents.at_ {ps qs : List Pred} (h : Ents ps qs) : ∀ (j : Nat) (q : Pred), qs[j]? = some q → ∃ p, ps[j]? = some p ∧ Ent p q := by
  induction h with
  | nil => intro j q hq; simp at hq
  | @cons p q' ps qs h t ih =>
    intro j q hq
    cases j with
    | zero => simp at hq; subst hq; exact ⟨p, by simp, h⟩
    | succ j => obtain ⟨p', hp', he⟩ := ih j q (by simpa using hq); exact ⟨p', by simpa using hp', he⟩

theorem Vs.ents {σ : Sg} {ps qs : List Pred} {vs : List Value} (h : Vs σ ps vs) (he : Ents ps qs) : Vs σ qs vs := by
  refine ⟨h.1.trans he.length, fun j q u hq hu => ?_⟩
  obtain ⟨p, hp, hpq⟩ := he.at_ j q hq
  have := h.2 j p u hp hu
  exact ⟨hpq _ _ this.1, this.2⟩
theorem Ent.agg {ps qs : List Pred} (h : Ents ps qs) : Ent (aggP ps) (aggP qs) := fun _ _ ⟨cs, hv, hc⟩ => ⟨cs, hv, hc.ents h⟩
theorem Ent.tup {ps qs : List Pred} (h : Ents ps qs) : Ent (tupP ps) (tupP qs) := fun _ _ ⟨cs, hv, hl, hc⟩ => ⟨cs, hv, hl.trans h.length, fun j q u hq hu => by
  obtain ⟨p, hp, hpq⟩ := h.at_ j q hq
  exact hpq _ _ (hc j p u hp hu)⟩
theorem Ent.row {α : Type} (id : Id) (f : α → List Pred) (n : Nat) (xs : List α) : Ent (rowP id f n xs) (slP f n xs) := by
  rintro σ v (⟨rfl, rfl⟩ | ⟨b, rfl, hb, h1, h2, h3⟩)
  · exact ⟨none, 0, rfl, Nat.le_refl _, by simp [maxLen], fun h => by simp at h⟩
  · exact ⟨_, _, rfl, h1, h2, fun _ => ⟨b, 0, rfl, fun i x hx => by simpa using h3 i x hx⟩⟩
theorem Ent.nil {α : Type} (f : α → List Pred) (n : Nat) : Ent (eqP (.slice none 0 0)) (slP f n []) := fun _ _ h => ⟨none, 0, h, by simp, by simp [maxLen], fun h => by simp at h⟩
theorem Ent.nilRow {α : Type} (id : Id) (f : α → List Pred) (n : Nat) : Ent (eqP (.slice none 0 0)) (rowP id f n []) := fun _ _ h => .inl ⟨h, rfl⟩
theorem Ent.sl {α β : Type} {f : α → List Pred} {g : β → List Pred} {n : Nat} {xs : List α} {ys : List β} (h : xs.length = ys.length)
    (he : ∀ (i : Nat) (x : α) (y : β), xs[i]? = some x → ys[i]? = some y → Ents (f x) (g y)) : Ent (slP f n xs) (slP g n ys) := by
  rintro σ v ⟨a, cap, hv, h1, h2, h3⟩
  refine ⟨a, cap, by rw [← h]; exact hv, by rw [← h]; exact h1, h2, fun hp => ?_⟩
  obtain ⟨b, off, ha, hc⟩ := h3 (by omega)
  refine ⟨b, off, ha, fun i y hy => ?_⟩
  have hi : i < xs.length := by rw [h]; exact (List.getElem?_eq_some_iff.1 hy).1
  have hx : xs[i]? = some xs[i] := List.getElem?_eq_getElem hi
  intro j q hq
  obtain ⟨p, hp, hpq⟩ := (he i _ y hx hy).at_ j q hq
  obtain ⟨u, hu, hcu⟩ := hc i _ hx j p hp
  exact ⟨u, hu, hpq _ _ hcu.1, hcu.2⟩
theorem Ent.bool {b : Bool} {φ : Bool → Prop} (h : φ b) : Ent (eqP (.bool b)) (bP φ) := fun _ _ e => ⟨b, e, h⟩
theorem Ent.cells {ps qs : List Pred} (h : Ents ps qs) : Ent (cellsP ps) (cellsP qs) := by
  rintro σ v ⟨b, off, hv, hc⟩
  refine ⟨b, off, hv, fun j q hq => ?_⟩
  obtain ⟨p, hp, hpq⟩ := h.at_ j q hq
  obtain ⟨u, hu, hcu⟩ := hc j p hp
  exact ⟨u, hu, hpq _ _ hcu.1, hcu.2⟩

/-! ### values of one cell -/
def One (p : Pred) : Prop := ∀ σ v, p.h σ v → v.oneCell' = true
theorem One.eq {x : Value} (h : x.oneCell' = true) : One (eqP x) := fun _ _ e => by cases e; exact h
theorem One.b (φ : Bool → Prop) : One (bP φ) := fun _ _ ⟨_, h, _⟩ => by subst h; rfl
theorem One.ptr (id : Id) (off : Nat) : One (ptrP id off) := fun _ _ ⟨_, _, h⟩ => by subst h; rfl
theorem One.cells (ps : List Pred) : One (cellsP ps) := fun _ _ ⟨_, _, h, _⟩ => by subst h; rfl
theorem One.sl {α : Type} (f : α → List Pred) (n : Nat) (xs : List α) : One (slP f n xs) := fun _ _ ⟨_, _, h, _⟩ => by subst h; rfl
theorem One.row {α : Type} (id : Id) (f : α → List Pred) (n : Nat) (xs : List α) : One (rowP id f n xs) := by
  rintro σ v (⟨rfl, _⟩ | ⟨b, rfl, _⟩) <;> rfl
theorem One.msl (id : Id) (off len cap : Nat) : One (mslP id off len cap) := fun _ _ ⟨_, _, h⟩ => by subst h; rfl

/-! ### steps of the world -/
theorem Models.ptr_lt {σ : Sg} {R : Toks} {W : World} (h : Models σ R W) {n : Nat} {id : Id} {r : Res} {b : Nat} (hn : R n = some (id, r)) (hb : σ.ρ id = some (some b)) : b < W.heap.size := by
  obtain ⟨_, o, ho, _⟩ := h.res n id r hn b hb
  exact (Array.getElem?_eq_some_iff.1 ho).1

theorem Models.imm_lt {σ : Sg} {R : Toks} {W : World} (h : Models σ R W) {b i : Nat} {v : Value} (hc : σ.c b i = some v) : b < W.heap.size := block_lt_of_cell (h.imm b i v hc)

/-- σ with one id more -/
def bind (σ : Sg) (id : Id) (b : Option Nat) (z : Nat) : Sg := { σ with ρ := fun i => if i = id then some b else σ.ρ i, z := fun i => if i = id then z else σ.z i }
theorem le_bind {σ : Sg} {id : Id} {b : Option Nat} {z : Nat} (h : σ.ρ id = none) : Le σ (bind σ id b z) :=
  ⟨rfl, rfl, fun i x hx => by
    have : i ≠ id := fun e => by subst e; rw [h] at hx; cases hx
    simpa [bind, this] using hx, fun i x hx => by
    have : i ≠ id := fun e => by subst e; rw [h] at hx; cases hx
    simp [bind, this], fun _ _ _ h => h⟩
theorem bind_at (σ : Sg) (id : Id) (b : Option Nat) (z : Nat) : (bind σ id b z).ρ id = some b := by simp [bind]
theorem bind_z (σ : Sg) (id : Id) (b : Option Nat) (z : Nat) : (bind σ id b z).z id = z := by simp [bind]
theorem bind_ne (σ : Sg) (id i : Id) (b : Option Nat) (z : Nat) (h : i ≠ id) : (bind σ id b z).ρ i = σ.ρ i := by simp [bind, h]

theorem keep_bind {σ : Sg} {N k z : Nat} {b : Option Nat} : Keep N [k] σ (bind σ (N, k) b z) := fun id _ hk => bind_ne _ _ _ _ _ (hk k (by simp))

/-- immutable cells added -/
def addC (σ : Sg) (c : Nat → Nat → Option Value) : Sg := { σ with c := fun b i => (σ.c b i).or (c b i) }
theorem le_addC (σ : Sg) (c : Nat → Nat → Option Value) : Le σ (addC σ c) :=
  ⟨rfl, rfl, fun _ _ h => h, fun _ _ _ => rfl, fun b i v h => by simp [addC, h]⟩
theorem addC_new {σ : Sg} {c : Nat → Nat → Option Value} {b i : Nat} (h : σ.c b i = none) : (addC σ c).c b i = c b i := by simp [addC, h]

/-- THE STEP: the world moves to W', one token n is laid (anew, or in the place of the old one); what the other tokens own is untouched -/
theorem Models.move {σ τ : Sg} {R : Toks} {W W' : World} (h : Models σ R W) (hle : Le σ τ) (n : Nat) (id : Id) (r : Res)
    (hρ : ∀ i, i ≠ id → τ.ρ i = σ.ρ i) (hid : τ.ρ id ≠ none)
    (hn : R n = none ∨ ∃ r', R n = some (id, r')) (hother : ∀ m x, m ≠ n → R m = some x → x.1 ≠ id)
    (hbase : Below σ.n0 W W')
    (hblk : ∀ m x b, m ≠ n → R m = some x → σ.ρ x.1 = some (some b) → W'.heap[b]? = W.heap[b]? ∧ ∀ i, τ.c b i = σ.c b i)
    (himm : ∀ b i v, τ.c b i = some v → W'.cell? ⟨b, i, none⟩ = some v)
    (hr : ∀ b, τ.ρ id = some (some b) → σ.n0 ≤ b ∧ ∃ o, W'.heap[b]? = some o ∧ r.h τ id b o)
    (hsep : ∀ m x b, m ≠ n → R m = some x → τ.ρ id = some (some b) → σ.ρ x.1 ≠ some (some b)) :
    Models τ (fun m => if m = n then some (id, r) else R m) W' where
  base := by rw [hle.w0, hle.n0]; exact h.base.trans hbase
  n0 := by rw [hle.n0]; exact Nat.le_trans h.n0 hbase.size
  imm := himm
  res m i r' hm b hb := by
    rw [hle.n0]
    by_cases hmn : m = n
    · simp only [hmn, if_true, Option.some.injEq, Prod.mk.injEq] at hm
      obtain ⟨rfl, rfl⟩ := hm
      exact hr b hb
    · simp only [hmn, if_false] at hm
      have hne := hother m _ hmn hm
      rw [hρ i hne] at hb
      obtain ⟨h1, o, ho, hro⟩ := h.res m i r' hm b hb
      obtain ⟨h2, h3⟩ := hblk m _ b hmn hm hb
      exact ⟨h1, o, h2.trans ho, r'.m _ _ _ _ _ hle hb h3 hro⟩
  sep a m x y b ham hx hy hxb hyb := by
    by_cases han : a = n
    · by_cases hmn : m = n
      · exact ham (han.trans hmn.symm)
      · simp only [han, if_true, Option.some.injEq] at hx
        subst hx
        simp only [hmn, if_false] at hy
        rw [hρ _ (hother m y hmn hy)] at hyb
        exact hsep m y b hmn hy hxb hyb
    · simp only [han, if_false] at hx
      rw [hρ _ (hother a x han hx)] at hxb
      by_cases hmn : m = n
      · simp only [hmn, if_true, Option.some.injEq] at hy
        subst hy
        exact hsep a x b han hx hyb hxb
      · simp only [hmn, if_false] at hy
        rw [hρ _ (hother m y hmn hy)] at hyb
        exact h.sep a m x y b ham hx hy hxb hyb
  used m x hm := by
    by_cases hmn : m = n
    · simp only [hmn, if_true, Option.some.injEq] at hm
      subst hm
      exact hid
    · simp only [hmn, if_false] at hm
      rw [hρ _ (hother m x hmn hm)]
      exact h.used m x hm
  fin := by
    obtain ⟨M, hM⟩ := h.fin
    refine ⟨max M (id.1 + 1), fun N hN j => ?_⟩
    have : (N, j) ≠ id := fun e => by subst e; simp at hN; omega
    rw [hρ _ this]
    exact hM N (by omega) j

/-- a new block -/
theorem Models.alloc {σ : Sg} {R : Toks} {W : World} (h : Models σ R W) {id : Id} {z n : Nat} {r : Res} {o : Obj} (hid : σ.ρ id = none) (hn : R n = none)
    (hr : r.h (bind σ id (some W.heap.size) z) id W.heap.size o) :
    Models (bind σ id (some W.heap.size) z) (fun m => if m = n then some (id, r) else R m) (W.alloc o) := by
  refine h.move (le_bind hid) n id r (fun i hi => bind_ne _ _ _ _ _ hi) (by rw [bind_at]; simp) (.inl hn) ?_ ((Below.refl _ _).alloc h.n0 o) ?_ ?_ ?_ ?_
  · intro m x _ hm e
    subst e
    exact h.used m x hm hid
  · intro m x b _ hm hb
    exact ⟨Below.heap_alloc W o b (h.ptr_lt (r := x.2) hm hb), fun _ => rfl⟩
  · intro b i v hv
    have hlt := h.imm_lt (b := b) (i := i) (v := v) hv
    rw [World.cell?_alloc_lt W o ⟨b, i, none⟩ hlt]
    exact h.imm b i v hv
  · intro b hb
    rw [bind_at] at hb
    simp only [Option.some.injEq] at hb
    subst hb
    exact ⟨h.n0, o, heap_alloc_new W o, hr⟩
  · intro m x b _ hm hb hxb
    rw [bind_at] at hb
    simp only [Option.some.injEq] at hb
    subst hb
    have := h.ptr_lt (r := x.2) hm hxb
    omega

theorem no_imm_new {σ : Sg} {R : Toks} {W : World} (h : Models σ R W) (i : Nat) : σ.c W.heap.size i = none := by
  cases hc : σ.c W.heap.size i with
  | none => rfl
  | some v => have := h.imm_lt hc; omega

/-- a block of cells laid -/
theorem Models.box {σ : Sg} {R : Toks} {W : World} (h : Models σ R W) {id : Id} {n : Nat} {T : TypeId} {ps : List Pred} {cs : List Value} (hid : σ.ρ id = none) (hn : R n = none) (hc : Vs σ ps cs) :
    Models (bind σ id (some W.heap.size) 0) (fun m => if m = n then some (id, blk T ps) else R m) (W.alloc (.cells cs.toArray T)) :=
  h.alloc hid hn ⟨cs, [], by simp, hc.mono (le_bind hid), fun h => absurd rfl h, fun i => no_imm_new h i⟩

/-- a block of the call's own is written -/
theorem Models.write {σ : Sg} {R : Toks} {W W' : World} (h : Models σ R W) {id : Id} {n b : Nat} {κ : Nat} {T : TypeId} {ps qs : List Pred} {cs rest : List Value} (hn : R n = some (id, blkX κ T ps)) (hb : σ.ρ id = some (some b))
    (hW : W'.heap[b]? = some (.cells (cs ++ rest).toArray T (0, 0))) (hκ : κ ≠ 0 → (cs ++ rest).length = σ.z id * κ) (hother : ∀ k, k ≠ b → W'.heap[k]? = W.heap[k]?) (hsz : W'.heap.size = W.heap.size) (hos : W'.os = W.os) (htape : W'.tape = W.tape) (hout : W'.output = W.output)
    (hc : Vs σ qs cs) : Models σ (fun m => if m = n then some (id, blkX κ T qs) else R m) W' := by
  obtain ⟨hge, o, ho, cs0, rest0, rfl, hv0, hz0, hnone⟩ := h.res n id _ hn b hb
  have hne : ∀ m x, m ≠ n → R m = some x → x.1 ≠ id := by
    intro m x hmn hm e
    have := h.sep n m _ x b (fun e => hmn e.symm) hn hm hb
    rw [e] at this
    exact this hb
  refine h.move (Le.refl σ) n id _ (fun _ _ => rfl) (by rw [hb]; simp) (.inr ⟨_, hn⟩) hne ⟨hos, htape, hout, by omega, fun k hk => hother k (by omega)⟩ ?_ ?_ ?_ ?_
  · intro m x b' hmn hm hb'
    refine ⟨hother b' ?_, fun _ => rfl⟩
    intro e
    subst e
    exact h.sep n m _ x b' (fun e => hmn e.symm) hn hm hb hb'
  · intro b' i v hv
    have hbb : b' ≠ b := fun e => by subst e; rw [hnone i] at hv; cases hv
    rw [World.cell?_of_block (w := W) (a := ⟨b', i, none⟩) (hother b' hbb)]
    exact h.imm b' i v hv
  · intro b' hb'
    rw [hb] at hb'
    simp only [Option.some.injEq] at hb'
    subst hb'
    exact ⟨hge, _, hW, cs, rest, rfl, hc, hκ, hnone⟩
  · intro m x b' hmn hm hb'
    exact fun hx => h.sep n m _ x b' (fun e => hmn e.symm) hn hm hb' hx
end Go.AL
