/- The data of layer 18: variables; what the functions compute. -/
import Derived.Test.YtopnkekmbohgoaaAlArith
namespace Go.Lk
open Go.AL

structure Sy where
  obj : Int
  off : Int
  kind : Int
  owner : Int
  readers : List Int
  count : Int
  deriving DecidableEq, Inhabited
def Sy.zero : Sy := ⟨0, 0, 0, 0, [], 0⟩
def ip (x : Int) : List Pred := [eqP (.int .i64 x)]
theorem ip_len (x : Int) : (ip x).length = 1 := rfl
def Sy.ps (s : Sy) : List Pred := [eqP (.int .i64 s.obj), eqP (.int .i64 s.off), eqP (.int .i64 s.kind), eqP (.int .i64 s.owner), slP ip 1 s.readers, eqP (.int .i64 s.count)]
def syE (r : Sy × Int) : Pred := tupP [aggP r.1.ps, eqP (.int .i64 r.2)]
theorem entSy {p : Pred} {r r' : Sy × Int} (h : Ent p (syE r)) (e : r = r') : Ent p (syE r') := e ▸ h
theorem entB {b c : Bool} (e : b = c) : Ent (eqP (.bool b)) (eqP (.bool c)) := Ent.of_eq (by rw [e])
theorem entI {k : IntKind} {b c : Int} (e : b = c) : Ent (eqP (.int k b)) (eqP (.int k c)) := Ent.of_eq (by rw [e])

def goro (g : Int) : Bool := decide (0 ≤ g) && decide (g < 8)
def newF (kind obj off : Int) : Sy × Int := if (kind = 1 ∨ kind = 2) ∧ 0 ≤ obj ∧ 0 ≤ off then (⟨obj, off, kind, -1, [], 0⟩, 0) else (Sy.zero, 1)
def headOK (s : Sy) : Prop := (s.kind = 1 ∨ s.kind = 2) ∧ 0 ≤ s.obj ∧ 0 ≤ s.off ∧ s.count = 0 ∧ (s.owner = -1 ∨ (0 ≤ s.owner ∧ s.owner < 8))
def sharedOK (s : Sy) : Prop := s.readers.length = 0 ∨ (s.kind ≠ 1 ∧ s.owner = -1)
instance (s : Sy) : Decidable (headOK s) := by unfold headOK; infer_instance
instance (s : Sy) : Decidable (sharedOK s) := by unfold sharedOK; infer_instance
def validF (s : Sy) : Bool := if headOK s then if sharedOK s then s.readers.all goro else false else false
def canL (s : Sy) : Bool := decide (s.owner < 0) && decide (s.readers.length = 0)
def canR (s : Sy) : Bool := decide (s.kind = 2) && decide (s.owner < 0)
def checkF (s : Sy) (g : Int) (p : Bool) : Int := if validF s = false ∨ goro g = false then 1 else if p = false then 11 else 0
def lockF (s : Sy) (g : Int) : Sy × Int := if checkF s g (canL s) = 0 then ({ s with owner := g, readers := [] }, 0) else (Sy.zero, checkF s g (canL s))
def rlockF (s : Sy) (g : Int) : Sy × Int := if checkF s g (canR s) = 0 then ({ s with readers := s.readers ++ [g] }, 0) else (Sy.zero, checkF s g (canR s))
def unlockF (s : Sy) : Sy × Int := if checkF s 0 (decide (s.owner ≥ 0)) = 0 then ({ s with owner := -1, readers := [] }, 0) else (Sy.zero, checkF s 0 (decide (s.owner ≥ 0)))
def idxN (l : List Int) (g : Int) : Nat := (l.findIdx? (fun x => decide (x = g))).getD 0
def runlockF (s : Sy) (g : Int) : Sy × Int :=
  if checkF s g (decide ((s.readers.length : Int) > 0)) = 0 then ({ s with readers := s.readers.take (idxN s.readers g) ++ s.readers.drop (idxN s.readers g + 1) }, 0) else (Sy.zero, checkF s g (decide ((s.readers.length : Int) > 0)))

def idxF (φ : Int → Bool) (l : List Int) : Int := match l.findIdx? φ with | some i => (i : Int) | none => -1
theorem idxF_any (φ : Int → Bool) (l : List Int) : decide (idxF φ l ≥ 0) = l.any φ := by
  unfold idxF
  cases h : l.findIdx? φ with
  | some i =>
    obtain ⟨hi, hp, _⟩ := List.findIdx?_eq_some_iff_getElem.1 h
    have : l.any φ = true := List.any_eq_true.2 ⟨l[i], List.getElem_mem hi, hp⟩
    rw [this]
    simp
  | none =>
    have := List.findIdx?_eq_none_iff.1 h
    have h2 : l.any φ = false := by rw [List.any_eq_false]; intro x hx; simpa using this x hx
    rw [h2]
    simp
theorem idxF_at {φ : Int → Bool} {l : List Int} {k : Nat} (hk : k < l.length) (h : ∀ x ∈ l.take k, φ x = false) (hp : φ l[k] = true) : idxF φ l = k := by
  have : l.findIdx? φ = some k := by
    rw [List.findIdx?_eq_some_iff_getElem]
    refine ⟨hk, hp, fun j hj => ?_⟩
    have : l[j] ∈ l.take k := by
      rw [List.mem_iff_getElem]
      exact ⟨j, by simp; omega, by simp⟩
    simpa using h _ this
  simp [idxF, this]
theorem idxF_none {φ : Int → Bool} {l : List Int} (h : ∀ x ∈ l, φ x = false) : idxF φ l = -1 := by
  have : l.findIdx? φ = none := by rw [List.findIdx?_eq_none_iff]; intro x hx; simpa using h x hx
  simp [idxF, this]
theorem take_all {φ : Int → Bool} {l : List Int} {k : Nat} (h : ∀ x ∈ l.take k, φ x = false) (hk : k < l.length) (hp : φ l[k] = false) : ∀ x ∈ l.take (k + 1), φ x = false := by
  intro x hx
  rw [List.take_succ_eq_append_getElem hk] at hx
  rcases List.mem_append.1 hx with h1 | h1
  · exact h x h1
  · simp at h1; rw [h1]; exact hp
theorem take_step {α : Type} [DecidableEq α] {xs ys : List α} {k : Nat} (h : xs.take k = ys.take k) (hx : k < xs.length) (hy : k < ys.length) (he : xs[k] = ys[k]) : xs.take (k + 1) = ys.take (k + 1) := by
  rw [List.take_succ_eq_append_getElem hx, List.take_succ_eq_append_getElem hy, h, he]
theorem idxN_lt {l : List Int} (g : Int) (h : 0 < l.length) : idxN l g < l.length := by
  unfold idxN
  cases hf : l.findIdx? (fun x => decide (x = g)) with
  | some i => exact (List.findIdx?_eq_some_iff_getElem.1 hf).1
  | none => exact h
theorem flat_ip (xs : List Int) : (xs.flatMap ip).length = xs.length := by rw [flatMap_len (k := 1) ip_len]; omega
theorem splice_len {ps qs : List Pred} {o : Nat} (h : o + qs.length ≤ ps.length) : (splice ps o qs).length = ps.length := by unfold splice; simp; omega
theorem cut_cells {xs : List Int} {i a b c d o : Nat} {zs : List Pred} (ha : a = i) (hb : b = i + 1) (hc : c = xs.length - (i + 1)) (hd : d = i + (xs.length - (i + 1))) (ho : o = 0) (hi : i < xs.length) :
    ∃ qs, (splice (splice (xs.flatMap ip) a (((xs.flatMap ip).drop b).take c)) d zs).drop o = (xs.take i ++ xs.drop (i + 1)).flatMap ip ++ qs := by
  subst ha hb hc hd ho
  have hm : ∀ l : List Int, l.flatMap ip = l.map (fun x => eqP (.int .i64 x)) := fun l => by induction l with | nil => rfl | cons x l ih => simp [List.flatMap_cons, ih, ip]
  simp only [hm]
  refine ⟨zs ++ (splice (xs.map (fun x => eqP (.int .i64 x))) a (((xs.map (fun x => eqP (.int .i64 x))).drop (a + 1)).take (xs.length - (a + 1)))).drop (a + (xs.length - (a + 1)) + zs.length), ?_⟩
  rw [List.drop_zero]
  conv => lhs; unfold splice
  rw [List.append_assoc]
  congr 1
  rw [List.take_of_length_le (l := List.drop (a + 1) _) (by simp), List.map_append, ← List.map_take, ← List.map_drop]
  rw [show a + (xs.length - (a + 1)) = ((xs.take a).map (fun x => eqP (.int .i64 x)) ++ (xs.drop (a + 1)).map (fun x => eqP (.int .i64 x))).length by simp; omega]
  rw [List.take_left']
  rfl
theorem same_eq (a b : Sy) : (decide (a.obj = b.obj) && decide (a.off = b.off) && decide (a.kind = b.kind) && decide (a.owner = b.owner) && decide (a.count = b.count) && decide (a.readers = b.readers)) = decide (a = b) := by
  obtain ⟨a1, a2, a3, a4, a5, a6⟩ := a
  obtain ⟨b1, b2, b3, b4, b5, b6⟩ := b
  rw [Bool.eq_iff_iff]
  simp only [Bool.and_eq_true, decide_eq_true_eq, Sy.mk.injEq]
  constructor
  · rintro ⟨⟨⟨⟨⟨h1, h2⟩, h3⟩, h4⟩, h5⟩, h6⟩; exact ⟨h1, h2, h3, h4, h6, h5⟩
  · rintro ⟨h1, h2, h3, h4, h6, h5⟩; exact ⟨⟨⟨⟨⟨h1, h2⟩, h3⟩, h4⟩, h5⟩, h6⟩
theorem validF_no {s : Sy} (h : ¬ headOK s) : validF s = false := by simp [validF, h]
theorem validF_no2 {s : Sy} (h : ¬ sharedOK s) : validF s = false := by simp [validF, h]
theorem validF_yes {s : Sy} (h : headOK s) (h2 : sharedOK s) : validF s = !(s.readers.any fun x => !goro x) := by
  simp only [validF, h, h2, if_true]
  induction s.readers with
  | nil => rfl
  | cons x l ih => simp [ih]
theorem validF_all {s : Sy} (h : headOK s) (h2 : sharedOK s) : validF s = s.readers.all goro := by simp [validF, h, h2]
theorem validF_at {s : Sy} {k : Nat} (hk : k < s.readers.length) (h : goro s.readers[k] = false) : validF s = false := by
  have : s.readers.all goro = false := by
    rw [List.all_eq_false]
    exact ⟨_, List.getElem_mem hk, by simp [h]⟩
  simp [validF, this]
theorem all_step {α : Type} {φ : α → Bool} {l : List α} {k : Nat} (h : (l.take k).all φ = true) (hk : k < l.length) (hp : φ l[k] = true) : (l.take (k + 1)).all φ = true := by
  rw [List.take_succ_eq_append_getElem hk, List.all_append, h]
  simp [hp]
abbrev zps : List Pred := [eqP (.int .i64 0), eqP (.int .i64 0), eqP (.int .i64 0), eqP (.int .i64 0), eqP (.slice none 0 0), eqP (.int .i64 0)]
theorem checkF_pos {s : Sy} {g : Int} (h : checkF s g (decide ((s.readers.length : Int) > 0)) = 0) : 0 < s.readers.length := by
  unfold checkF at h
  split at h
  · cases h
  · split at h
    · cases h
    · rename_i _ h2
      simp at h2
      exact List.length_pos_iff.2 h2
def idxFrom (l : List Int) (g : Int) (m : Nat) : Nat := match (l.drop m).findIdx? (fun x => decide (x = g)) with | some j => m + j | none => 0
theorem idxFrom_zero (l : List Int) (g : Int) : idxFrom l g 0 = idxN l g := by
  unfold idxFrom idxN
  rw [List.drop_zero]
  cases l.findIdx? (fun x => decide (x = g)) <;> simp
theorem idxFrom_end (l : List Int) (g : Int) : idxFrom l g l.length = 0 := by unfold idxFrom; simp
theorem idxFrom_hit {l : List Int} {g : Int} {m : Nat} (hm : m < l.length) (h : l[m] = g) : idxFrom l g m = m := by
  unfold idxFrom
  rw [List.drop_eq_getElem_cons hm, List.findIdx?_cons]
  simp [h]
theorem idxFrom_miss {l : List Int} {g : Int} {m : Nat} (hm : m < l.length) (h : l[m] ≠ g) : idxFrom l g m = idxFrom l g (m + 1) := by
  unfold idxFrom
  rw [List.drop_eq_getElem_cons hm, List.findIdx?_cons]
  simp only [h, decide_false, Bool.false_eq_true, if_false]
  cases (l.drop (m + 1)).findIdx? (fun x => decide (x = g)) with
  | none => simp
  | some j => simp; omega
theorem idxFrom_lt {l : List Int} {g : Int} (m : Nat) (h : 0 < l.length) : idxFrom l g m < l.length := by
  unfold idxFrom
  cases hf : (l.drop m).findIdx? (fun x => decide (x = g)) with
  | none => exact h
  | some j =>
    have := (List.findIdx?_eq_some_iff_getElem.1 hf).1
    simp at this ⊢
    omega
theorem idxN_at {l : List Int} {g : Int} {k : Nat} (hk : k < l.length) (h : ∀ x ∈ l.take k, decide (x = g) = false) (hp : l[k] = g) : idxN l g = k := by
  have : l.findIdx? (fun x => decide (x = g)) = some k := by
    rw [List.findIdx?_eq_some_iff_getElem]
    refine ⟨hk, by simp [hp], fun j hj => ?_⟩
    have : l[j] ∈ l.take k := by
      rw [List.mem_iff_getElem]
      exact ⟨j, by simp; omega, by simp⟩
    have := h _ this
    simpa using this
  simp [idxN, this]
theorem idxN_none {l : List Int} {g : Int} (h : ∀ x ∈ l, decide (x = g) = false) : idxN l g = 0 := by
  have : l.findIdx? (fun x => decide (x = g)) = none := by rw [List.findIdx?_eq_none_iff]; intro x hx; simpa using h x hx
  simp [idxN, this]
theorem newF_no {kind obj off : Int} (h : ¬ ((kind = 1 ∨ kind = 2) ∧ 0 ≤ obj ∧ 0 ≤ off)) : newF kind obj off = (Sy.zero, 1) := by simp only [newF, h, if_false]
theorem newF_yes {kind obj off : Int} (h : (kind = 1 ∨ kind = 2) ∧ 0 ≤ obj ∧ 0 ≤ off) : newF kind obj off = (⟨obj, off, kind, -1, [], 0⟩, 0) := by simp only [newF, h, and_self, if_true]
theorem newF_len {kind obj off : Int} : (newF kind obj off).1.readers.length ≤ 1000000 := by unfold newF; split <;> simp [Sy.zero]
theorem lockF_len {s : Sy} {g : Int} : (lockF s g).1.readers.length ≤ 1000000 := by unfold lockF; split <;> simp [Sy.zero]
theorem unlockF_len {s : Sy} : (unlockF s).1.readers.length ≤ 1000000 := by unfold unlockF; split <;> simp [Sy.zero]
theorem rlockF_len {s : Sy} {g : Int} {n : Nat} (h : s.readers.length ≤ n) : (rlockF s g).1.readers.length ≤ n + 1 := by unfold rlockF; split <;> simp [Sy.zero]; exact h
theorem runlockF_len {s : Sy} {g : Int} {n : Nat} (h : s.readers.length ≤ n) : (runlockF s g).1.readers.length ≤ n := by
  unfold runlockF; split <;> simp [Sy.zero]; omega
theorem newF_valid {kind obj off : Int} (h : (newF kind obj off).2 = 0) : validF (newF kind obj off).1 = true := by
  by_cases hc : (kind = 1 ∨ kind = 2) ∧ 0 ≤ obj ∧ 0 ≤ off
  · rw [newF_yes hc]
    have h1 : headOK ⟨obj, off, kind, -1, [], 0⟩ := ⟨hc.1, hc.2.1, hc.2.2, rfl, .inl rfl⟩
    have h2 : sharedOK ⟨obj, off, kind, -1, [], 0⟩ := .inl rfl
    simp [validF, h1, h2]
  · rw [newF_no hc] at h
    cases h
theorem goro8 {g : Int} (h0 : 0 ≤ g) : goro (IntKind.i64.wrap (g.tmod 8)) = true := by
  have h1 := Int.tmod_nonneg 8 h0
  have h2 := Int.tmod_lt_of_pos g (show (0 : Int) < 8 by decide)
  rw [IntWalk.i64_in _ ⟨by omega, by omega⟩]
  simp [goro]
  omega
theorem lock_e {s : Sy} {g : Int} (hv : validF s = true) (hg : goro g = true) : decide ((lockF s g).2 = 0) = canL s := by
  unfold lockF checkF
  cases hc : canL s <;> simp [hv, hg]
theorem rlock_e {s : Sy} {g : Int} (hv : validF s = true) (hg : goro g = true) : decide ((rlockF s g).2 = 0) = canR s := by
  unfold rlockF checkF
  cases hc : canR s <;> simp [hv, hg]
end Go.Lk
