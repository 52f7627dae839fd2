/- Regions that draw their order: the order of the text serves all orders, where operations that touch one slot or one resource are ordered by edges. -/
import Derived.Test.YtabfnclbehkcnaaAlCore
import Derived.Orders
namespace Go.AL
open Go.RowKit

abbrev Z := Oper × Rec

def hits (r : Rec) (d : Option Nat) : Bool := match d with | some t => r.rd.any (fun x => Nat.beq x.1 t) | none => false
def sameDst (d e : Option Nat) : Bool := match d, e with | some x, some y => Nat.beq x y | _, _ => false
def toks (r : Rec) : List Nat := r.del.map (·.1) ++ r.add.map (·.1)
def meets (l m : List Nat) : Bool := l.any fun x => m.any fun y => Nat.beq x y

/-- two operations that do not commute -/
def conf (x y : Z) : Bool :=
  hits y.2 x.1.dst || hits x.2 y.1.dst || sameDst x.1.dst y.1.dst || meets (toks x.2) (toks y.2) || meets (toks x.2) (y.2.use.map (·.1)) || meets (x.2.use.map (·.1)) (toks y.2)

def edgeIn (acc : List Nat) (s : Nat) (e : Edge) : Nat := if Region.binds .any e then s ||| (2 ^ e.on ||| acc.getD e.on 0) else s
def maskOf (acc : List Nat) (o : Oper) : Nat := o.after.toList.foldl (edgeIn acc) 0
def edgesLow (i : Nat) (o : Oper) : Bool := o.after.toList.all fun e => !Region.binds .any e || Nat.blt e.on i

/-- the check: 'zs' what is left, 'done' what came before, 'acc' its masks -/
def chkGo : List Z → List Z → List Nat → Bool
  | [], _, _ => true
  | z :: zs, done, acc =>
    let m := maskOf acc z.1
    edgesLow acc.length z.1 && (done.zipIdx.all fun x => !conf x.1 z || m.testBit x.2) && chkGo zs (done ++ [z]) (acc ++ [m])
def chk (l : List Oper) (rs : List Rec) : Bool := chkGo (l.zip rs) [] []

/-! ### what the check says -/
def Closed (zs : List Z) (S : Nat → Bool) : Prop := ∀ i z, zs[i]? = some z → S i = true → ∀ e ∈ z.1.after, Region.binds .any e = true → S e.on = true

structure Checked (zs : List Z) : Prop where
  low : ∀ i z, zs[i]? = some z → ∀ e ∈ z.1.after, Region.binds .any e = true → e.on < i
  ord : ∀ j i x z, j < i → zs[j]? = some x → zs[i]? = some z → conf x z = true → ∀ S, Closed zs S → S i = true → S j = true

theorem testBit_two_pow' (k j : Nat) (h : (2 ^ k).testBit j = true) : j = k := by
  rw [Nat.testBit_two_pow] at h
  simpa using (Eq.symm (by simpa using h : k = j))

theorem edges_fold (acc : List Nat) (S : Nat → Bool) (hacc : ∀ i, S i = true → ∀ j, (acc.getD i 0).testBit j = true → S j = true) :
    ∀ (es : List Edge) (s : Nat), (∀ e ∈ es, Region.binds .any e = true → S e.on = true) → (∀ j, s.testBit j = true → S j = true) →
      ∀ j, (es.foldl (edgeIn acc) s).testBit j = true → S j = true
  | [], s, _, hs => hs
  | e :: es, s, he, hs => by
    simp only [List.foldl_cons]
    refine edges_fold acc S hacc es _ (fun e' h' => he e' (List.mem_cons_of_mem _ h')) ?_
    intro j hj
    unfold edgeIn at hj
    split at hj
    · rename_i hb
      rw [Nat.testBit_or, Nat.testBit_or] at hj
      have hS := he e (List.mem_cons_self ..) hb
      rcases Bool.or_eq_true_iff.1 hj with h | h
      · exact hs j h
      · rcases Bool.or_eq_true_iff.1 h with h | h
        · rw [testBit_two_pow' _ _ h]; exact hS
        · exact hacc e.on hS j h
    · exact hs j hj

theorem chkGo_spec : ∀ (zs done : List Z) (acc : List Nat), chkGo zs done acc = true → acc.length = done.length →
    (∀ S, Closed (done ++ zs) S → ∀ i, S i = true → ∀ j, (acc.getD i 0).testBit j = true → S j = true) →
    (∀ i z, zs[i]? = some z → ∀ e ∈ z.1.after, Region.binds .any e = true → e.on < done.length + i) ∧
    (∀ j i x z, j < done.length + i → (done ++ zs)[j]? = some x → zs[i]? = some z → conf x z = true → ∀ S, Closed (done ++ zs) S → S (done.length + i) = true → S j = true)
  | [], done, acc, _, _, _ => ⟨fun i z h => by simp at h, fun j i x z _ _ h => by simp at h⟩
  | z :: zs, done, acc, hc, hlen, hacc => by
    simp only [chkGo, Bool.and_eq_true] at hc
    obtain ⟨⟨h1, h2⟩, h3⟩ := hc
    have hnew : ∀ S, Closed (done ++ z :: zs) S → S done.length = true → ∀ j, (maskOf acc z.1).testBit j = true → S j = true := by
      intro S hS hd j hj
      refine edges_fold acc S (hacc S hS) z.1.after.toList 0 ?_ (by simp) j hj
      intro e he hb
      exact hS done.length z (by simp) hd e (by simpa using he) hb
    have happ : done ++ [z] ++ zs = done ++ z :: zs := by simp
    have ih := chkGo_spec zs (done ++ [z]) (acc ++ [maskOf acc z.1]) h3 (by simp [hlen]) (by
      rw [happ]
      intro S hS i hi j hj
      by_cases hia : i < acc.length
      · rw [List.getD_eq_getElem?_getD, List.getElem?_append_left hia, ← List.getD_eq_getElem?_getD] at hj
        exact hacc S hS i hi j hj
      · by_cases hie : i = acc.length
        · subst hie
          simp [List.getD] at hj
          rw [hlen] at hi
          exact hnew S hS hi j hj
        · rw [List.getD_eq_getElem?_getD, List.getElem?_eq_none (by simp; omega)] at hj
          simp at hj)
    rw [happ] at ih
    simp only [List.length_append, List.length_singleton] at ih
    refine ⟨?_, ?_⟩
    · intro i y hi
      cases i with
      | zero =>
        simp at hi
        subst hi
        intro e he hb
        unfold edgesLow at h1
        rw [List.all_eq_true] at h1
        have := h1 e (by simpa using he)
        simp [hb] at this
        omega
      | succ i =>
        intro e he hb
        have := ih.1 i y (by simpa using hi) e he hb
        omega
    · intro j i x y hj hx hi
      cases i with
      | zero =>
        simp at hi
        subst hi
        intro hcf S hS hd
        have hj' : j < done.length := by omega
        rw [List.getElem?_append_left hj'] at hx
        rw [List.all_eq_true] at h2
        have := h2 (x, j) (by rw [List.mk_mem_zipIdx_iff_getElem?]; exact hx)
        simp only [hcf, Bool.not_true, Bool.false_or] at this
        exact hnew S hS (by simpa using hd) j this
      | succ i =>
        intro hcf S hS hd
        exact ih.2 j i x y (by omega) hx (by simpa using hi) hcf S hS (by rw [show done.length + 1 + i = done.length + (i + 1) by omega]; exact hd)

theorem chk_spec {l : List Oper} {rs : List Rec} (h : chk l rs = true) : Checked (l.zip rs) := by
  have := chkGo_spec (l.zip rs) [] [] h rfl (by simp)
  simp only [List.nil_append, List.length_nil, Nat.zero_add] at this
  exact ⟨this.1, fun j i x z hj hx hz => this.2 j i x z hj hx hz⟩

/-! ### running a part of the operations -/
def runF (b : Nat → Bool) : Nat → List Z → (Nat → Option Pred) → (Nat → Option Pred)
  | _, [], f => f
  | k, z :: zs, f => runF b (k + 1) zs (if b k then updFn f z.1.dst z.2.φ else f)
def runR (b : Nat → Bool) : Nat → List Z → Toks → Toks
  | _, [], f => f
  | k, z :: zs, f => runR b (k + 1) zs (if b k then updR f z.2 else f)

theorem runF_append (b : Nat → Bool) : ∀ (xs ys : List Z) (k : Nat) (f : Nat → Option Pred), runF b k (xs ++ ys) f = runF b (k + xs.length) ys (runF b k xs f)
  | [], ys, k, f => by simp [runF]
  | z :: xs, ys, k, f => by
    simp only [List.cons_append, runF, List.length_cons]
    rw [runF_append b xs ys (k + 1)]
    congr 1
    omega
theorem runR_append (b : Nat → Bool) : ∀ (xs ys : List Z) (k : Nat) (f : Toks), runR b k (xs ++ ys) f = runR b (k + xs.length) ys (runR b k xs f)
  | [], ys, k, f => by simp [runR]
  | z :: xs, ys, k, f => by
    simp only [List.cons_append, runR, List.length_cons]
    rw [runR_append b xs ys (k + 1)]
    congr 1
    omega

theorem runF_congr {b b' : Nat → Bool} : ∀ (zs : List Z) (k : Nat) (f : Nat → Option Pred), (∀ j, j < zs.length → b (k + j) = b' (k + j)) → runF b k zs f = runF b' k zs f
  | [], _, _, _ => rfl
  | z :: zs, k, f, h => by
    simp only [runF]
    have h0 := h 0 (by simp)
    simp only [Nat.add_zero] at h0
    rw [h0]
    exact runF_congr zs (k + 1) _ fun j hj => by have := h (j + 1) (by simp; omega); rwa [show k + (j + 1) = k + 1 + j by omega] at this
theorem runR_congr {b b' : Nat → Bool} : ∀ (zs : List Z) (k : Nat) (f : Toks), (∀ j, j < zs.length → b (k + j) = b' (k + j)) → runR b k zs f = runR b' k zs f
  | [], _, _, _ => rfl
  | z :: zs, k, f, h => by
    simp only [runR]
    have h0 := h 0 (by simp)
    simp only [Nat.add_zero] at h0
    rw [h0]
    exact runR_congr zs (k + 1) _ fun j hj => by have := h (j + 1) (by simp; omega); rwa [show k + (j + 1) = k + 1 + j by omega] at this

/-- what is behind does not write slot t -/
theorem runF_at (b : Nat → Bool) (t : Nat) : ∀ (zs : List Z) (k : Nat) (f : Nat → Option Pred), (∀ j z, zs[j]? = some z → b (k + j) = true → z.1.dst ≠ some t) → runF b k zs f t = f t
  | [], _, _, _ => rfl
  | z :: zs, k, f, h => by
    simp only [runF]
    rw [runF_at b t zs (k + 1) _ (fun j y hy hb => h (j + 1) y (by simpa using hy) (by rwa [show k + (j + 1) = k + 1 + j by omega]))]
    split
    · rename_i hb
      unfold updFn
      rw [if_neg (h 0 z rfl (by simpa using hb))]
    · rfl

/-- what has not run does not write slot t -/
theorem runF_all (b : Nat → Bool) (t : Nat) : ∀ (zs : List Z) (k : Nat) (f g : Nat → Option Pred), (∀ j z, zs[j]? = some z → b (k + j) = false → z.1.dst ≠ some t) → f t = g t →
    runF b k zs f t = runF (fun _ => true) k zs g t
  | [], _, _, _, _, h => h
  | z :: zs, k, f, g, h, hfg => by
    simp only [runF]
    refine runF_all b t zs (k + 1) _ _ (fun j y hy hb => h (j + 1) y (by simpa using hy) (by rwa [show k + (j + 1) = k + 1 + j by omega])) ?_
    by_cases hb : b k = true
    · simp only [hb, if_true]
      unfold updFn
      rw [hfg]
    · rw [if_neg hb]
      simp only [if_true]
      unfold updFn
      rw [if_neg (h 0 z rfl (by simpa using hb)), hfg]

theorem updR_miss {R : Toks} {r : Rec} {n : Nat} (h : n ∉ toks r) : updR R r n = R n := by
  unfold toks at h
  rw [List.mem_append, not_or] at h
  unfold updR
  have h1 : r.add.find? (fun x => x.1 == n) = none := by
    rw [List.find?_eq_none]
    intro x hx he
    exact h.2 (List.mem_map.2 ⟨x, hx, by simpa using he⟩)
  have h2 : r.del.any (fun x => x.1 == n) = false := by
    rw [List.any_eq_false]
    intro x hx he
    exact h.1 (List.mem_map.2 ⟨x, hx, by simpa using he⟩)
  rw [h1, h2]
  rfl

theorem updR_hit {R R' : Toks} {r : Rec} {n : Nat} (h : n ∈ toks r) : updR R r n = updR R' r n := by
  unfold toks at h
  unfold updR
  cases h1 : r.add.find? (fun x => x.1 == n) with
  | some x => rfl
  | none =>
    have h2 : r.del.any (fun x => x.1 == n) = true := by
      rw [List.mem_append] at h
      rcases h with h | h
      · obtain ⟨x, hx, he⟩ := List.mem_map.1 h
        exact List.any_eq_true.2 ⟨x, hx, by simpa using he⟩
      · obtain ⟨x, hx, he⟩ := List.mem_map.1 h
        rw [List.find?_eq_none] at h1
        exact absurd (by simpa using he) (h1 x hx)
    simp [h2]

theorem runR_at (b : Nat → Bool) (n : Nat) : ∀ (zs : List Z) (k : Nat) (f : Toks), (∀ j z, zs[j]? = some z → b (k + j) = true → n ∉ toks z.2) → runR b k zs f n = f n
  | [], _, _, _ => rfl
  | z :: zs, k, f, h => by
    simp only [runR]
    rw [runR_at b n zs (k + 1) _ (fun j y hy hb => h (j + 1) y (by simpa using hy) (by rwa [show k + (j + 1) = k + 1 + j by omega]))]
    split
    · rename_i hb
      exact updR_miss (h 0 z rfl (by simpa using hb))
    · rfl

theorem runR_all (b : Nat → Bool) (n : Nat) : ∀ (zs : List Z) (k : Nat) (f g : Toks), (∀ j z, zs[j]? = some z → b (k + j) = false → n ∉ toks z.2) → f n = g n →
    runR b k zs f n = runR (fun _ => true) k zs g n
  | [], _, _, _, _, h => h
  | z :: zs, k, f, g, h, hfg => by
    simp only [runR]
    refine runR_all b n zs (k + 1) _ _ (fun j y hy hb => h (j + 1) y (by simpa using hy) (by rwa [show k + (j + 1) = k + 1 + j by omega])) ?_
    by_cases hb : b k = true
    · simp only [hb, if_true]
      by_cases hn : n ∈ toks z.2
      · exact updR_hit hn
      · rw [updR_miss hn, updR_miss hn, hfg]
    · rw [if_neg hb]
      simp only [if_true]
      rw [updR_miss (h 0 z rfl (by simpa using hb)), ← hfg]

/-- one more operation, taken out of its turn -/
theorem runF_late (b : Nat → Bool) (d : Option Nat) (p : Pred) : ∀ (zs : List Z) (k : Nat) (f : Nat → Option Pred), (∀ j z, zs[j]? = some z → b (k + j) = true → sameDst d z.1.dst = false) →
    runF b k zs (updFn f d p) = updFn (runF b k zs f) d p
  | [], _, _, _ => rfl
  | z :: zs, k, f, h => by
    simp only [runF]
    rw [← runF_late b d p zs (k + 1) _ (fun j y hy hb => h (j + 1) y (by simpa using hy) (by rwa [show k + (j + 1) = k + 1 + j by omega]))]
    by_cases hb : b k = true
    · simp only [hb, if_true]
      congr 1
      have h0 := h 0 z rfl (by simpa using hb)
      funext t
      unfold updFn
      by_cases h1 : d = some t
      · by_cases h2 : z.1.dst = some t
        · rw [h1, h2] at h0; simp [sameDst] at h0
        · simp [h1, h2]
      · simp [h1]
    · simp [hb]

theorem runR_late (b : Nat → Bool) (r : Rec) : ∀ (zs : List Z) (k : Nat) (f : Toks), (∀ j z, zs[j]? = some z → b (k + j) = true → ∀ n ∈ toks r, n ∉ toks z.2) →
    runR b k zs (updR f r) = updR (runR b k zs f) r
  | [], _, _, _ => rfl
  | z :: zs, k, f, h => by
    simp only [runR]
    rw [← runR_late b r zs (k + 1) _ (fun j y hy hb => h (j + 1) y (by simpa using hy) (by rwa [show k + (j + 1) = k + 1 + j by omega]))]
    by_cases hb : b k = true
    · simp only [hb, if_true]
      congr 1
      have h0 := h 0 z rfl (by simpa using hb)
      funext n
      by_cases h1 : n ∈ toks r
      · rw [updR_miss (h0 n h1), updR_hit (R' := updR f z.2) h1]
      · by_cases h2 : n ∈ toks z.2
        · rw [updR_miss (R := updR f z.2) h1, updR_hit (R' := f) h2]
        · rw [updR_miss h2, updR_miss h1, updR_miss h1, updR_miss h2]
    · simp [hb]

/-! ### what the lexical walk says of each operation -/
structure Con (P : Program) (n N : Nat) (ops : Array Oper) (Q : Exit → Act → World → Prop) (f : Nat → Option Pred) (R : Toks) (z : Z) : Prop where
  loc : Loc n N (Exec P ops Q z.1) z.1.dst z.2
  d : ∀ d, z.1.dst = some d → d < n
  rd : ∀ x ∈ z.2.rd, f x.1 = some x.2
  use : ∀ x ∈ z.2.use, R x.1 = some x.2
  del : ∀ x ∈ z.2.del, R x.1 = some x.2
  add : ∀ x ∈ z.2.add, R x.1 = none ∨ z.2.del.any (fun y => y.1 == x.1) = true

theorem LexOK.con {P : Program} {n N : Nat} {ops : Array Oper} {Q : Exit → Act → World → Prop} {Rf : Toks} {l : List Oper} {F F' : Fr} {L L' : Tk} {rs : List Rec}
    (hl : LexOK P n N ops Q Rf l F L rs F' L') : (∀ k,
      runF (fun _ => true) k (l.zip rs) (lk F) = lk F' ∧ runR (fun _ => true) k (l.zip rs) (tkf L Rf) = tkf L' Rf ∧
      ∀ i z, (l.zip rs)[i]? = some z → Con P n N ops Q (runF (fun _ => true) k ((l.zip rs).take i) (lk F)) (runR (fun _ => true) k ((l.zip rs).take i) (tkf L Rf)) z) ∧
      l.length = rs.length := by
  induction hl with
  | nil F L => exact ⟨fun k => ⟨rfl, rfl, fun i z h => by simp at h⟩, rfl⟩
  | @cons o l F F' L L' r rs hloc hd hrd huse hdel hadd hl ih =>
    refine ⟨fun k => ?_, by simp [ih.2]⟩
    have ih' := ih.1 (k + 1)
    rw [lk_setF, tkf_updL] at ih'
    simp only [List.zip_cons_cons, runF, runR, if_true]
    refine ⟨ih'.1, ih'.2.1, fun i z hz => ?_⟩
    cases i with
    | zero =>
      simp at hz
      subst hz
      exact ⟨hloc, hd, hrd, huse, hdel, hadd⟩
    | succ i =>
      simp only [List.take_succ_cons, runF, runR, if_true]
      exact ih'.2.2 i z (by simpa using hz)

/-! ### counting what has not come up -/
def unl (listed : Array Bool) : Nat → Nat
  | 0 => 0
  | m + 1 => unl listed m + if listed.getD m true = false then 1 else 0

theorem getD_set (listed : Array Bool) (i j : Nat) (hi : i < listed.size) : (listed.setIfInBounds i true).getD j true = if i = j then true else listed.getD j true := by
  simp only [Array.getD_eq_getD_getElem?, Array.getElem?_setIfInBounds]
  by_cases h : i = j
  · subst h; simp [hi]
  · simp [h]

theorem unl_set (listed : Array Bool) (i : Nat) (hi : i < listed.size) (hf : listed.getD i true = false) : ∀ m, unl (listed.setIfInBounds i true) m + (if i < m then 1 else 0) = unl listed m
  | 0 => by simp [unl]
  | m + 1 => by
    have ih := unl_set listed i hi hf m
    simp only [unl, getD_set listed i m hi]
    by_cases him : i = m
    · subst him
      simp [hf] at ih ⊢
      omega
    · simp only [him, if_false]
      by_cases h : i < m
      · simp only [h, if_true, show i < m + 1 by omega] at ih ⊢
        omega
      · simp only [h, if_false, show ¬ i < m + 1 by omega] at ih ⊢
        omega

theorem unl_zero (listed : Array Bool) : ∀ m, unl listed m = 0 → ∀ i, i < m → listed.getD i true = true
  | 0, _, i, hi => by omega
  | m + 1, h, i, hi => by
    simp only [unl] at h
    by_cases him : i = m
    · subst him
      cases hb : listed.getD i true with
      | true => rfl
      | false => rw [hb] at h; simp at h
    · exact unl_zero listed m (by omega) i (by omega)

theorem least_unlisted (listed : Array Bool) : ∀ m, (∃ i, i < m ∧ listed.getD i true = false) → ∃ i, i < m ∧ listed.getD i true = false ∧ ∀ j, j < i → listed.getD j true = true
  | 0, ⟨i, hi, _⟩ => by omega
  | m + 1, ⟨i, hi, hf⟩ => by
    by_cases h : ∃ i, i < m ∧ listed.getD i true = false
    · obtain ⟨k, hk, h1, h2⟩ := least_unlisted listed m h
      exact ⟨k, by omega, h1, h2⟩
    · refine ⟨i, hi, hf, fun j hj => ?_⟩
      cases hb : listed.getD j true with
      | true => rfl
      | false => exact absurd ⟨j, by omega, hb⟩ h

structure Inv (zs : List Z) (n N : Nat) (f0 : Nat → Option Pred) (R0 : Toks) (σ0 : Sg) (listed : Array Bool) (σ : Sg) (a : Act) (W : World) : Prop where
  size : listed.size = zs.length
  closed : Closed zs (fun i => listed.getD i true)
  holds : Holds n (runF (fun i => listed.getD i true) 0 zs f0) (runR (fun i => listed.getD i true) 0 zs R0) σ a W
  fresh : ∀ i z, zs[i]? = some z → listed.getD i true = false → ∀ k ∈ z.2.new, σ.ρ (N, k) = none
  le : Le σ0 σ
  keep : Keep N (zs.flatMap (·.2.new)) σ0 σ

theorem meets_false {l m : List Nat} (h : meets l m = false) : ∀ n ∈ l, n ∉ m := by
  intro n hn hm
  unfold meets at h
  rw [List.any_eq_false] at h
  have := h n hn
  rw [List.any_eq_true] at this
  exact this ⟨n, hm, Nat.beq_refl n⟩

structure Apart (x y : Z) : Prop where
  h1 : ∀ t, x.1.dst = some t → ∀ u ∈ y.2.rd, u.1 ≠ t
  h2 : ∀ t, y.1.dst = some t → ∀ u ∈ x.2.rd, u.1 ≠ t
  h3 : sameDst x.1.dst y.1.dst = false
  h4 : ∀ n ∈ toks x.2, n ∉ toks y.2
  h5 : ∀ n ∈ toks x.2, n ∉ y.2.use.map (·.1)
  h6 : ∀ n ∈ x.2.use.map (·.1), n ∉ toks y.2

theorem hits_false {r : Rec} {d : Option Nat} (h : hits r d = false) : ∀ t, d = some t → ∀ u ∈ r.rd, u.1 ≠ t := by
  intro t ht u hu he
  subst ht
  unfold hits at h
  simp only [List.any_eq_false] at h
  exact h u hu (by rw [he]; exact Nat.beq_refl t)

theorem apart_of {x y : Z} (h : conf x y = false) : Apart x y := by
  unfold conf at h
  simp only [Bool.or_eq_false_iff] at h
  obtain ⟨⟨⟨⟨⟨a, b⟩, c⟩, d⟩, e⟩, f⟩ := h
  exact ⟨hits_false a, hits_false b, c, meets_false d, meets_false e, meets_false f⟩

theorem sameDst_comm (d e : Option Nat) : sameDst d e = sameDst e d := by
  cases d <;> cases e <;> simp [sameDst]
  rename_i x y
  by_cases h : x = y
  · subst h; rfl
  · have h1 : Nat.beq x y = false := by rw [Bool.eq_false_iff]; intro hb; exact h (Nat.eq_of_beq_eq_true hb)
    have h2 : Nat.beq y x = false := by rw [Bool.eq_false_iff]; intro hb; exact h (Nat.eq_of_beq_eq_true hb).symm
    simp [h1, h2]

theorem Apart.symm {x y : Z} (h : Apart x y) : Apart y x :=
  ⟨h.h2, h.h1, by rw [sameDst_comm]; exact h.h3, fun n hn hm => h.h4 n hm hn, fun n hn hm => h.h6 n hm hn, fun n hn hm => h.h5 n hm hn⟩

theorem sameDst_ne {d e : Option Nat} (h : sameDst d e = false) (t : Nat) (hd : d = some t) : e ≠ some t := by
  intro he
  subst hd he
  simp [sameDst] at h

theorem any_drawn {P : Program} {n N : Nat} {ops : Array Oper} {Q : Exit → Act → World → Prop} {zs : List Z} {f0 : Nat → Option Pred} {R0 : Toks} {σ0 : Sg}
    (hops : zs.map (·.1) = ops.toList) (hc : Checked zs) (hnd : (zs.flatMap (·.2.new)).Nodup)
    (hcon : ∀ i z, zs[i]? = some z → Con P n N ops Q (runF (fun _ => true) 0 (zs.take i) f0) (runR (fun _ => true) 0 (zs.take i) R0) z)
    (hQ : ∀ σ a W, Le σ0 σ → Keep N (zs.flatMap (·.2.new)) σ0 σ → Holds n (runF (fun _ => true) 0 zs f0) (runR (fun _ => true) 0 zs R0) σ a W → Q .normal a W) :
    ∀ (fuel : Nat) (listed : Array Bool) (σ : Sg) (a : Act) (W : World), Inv zs n N f0 R0 σ0 listed σ a W → unl listed zs.length ≤ fuel → wpAny P .any ops Q fuel listed a W := by
  have hsz : ops.size = zs.length := by rw [← Array.length_toList, ← hops, List.length_map]
  have hop : ∀ (i : Nat) (z : Z), zs[i]? = some z → ops[i]? = some z.1 := by
    intro i z hz
    rw [← Array.getElem?_toList, ← hops, List.getElem?_map, hz]
    rfl
  have hzop : ∀ (i : Nat) (o : Oper), ops[i]? = some o → ∃ r : Rec, zs[i]? = some (o, r) := by
    intro i o ho
    rw [← Array.getElem?_toList, ← hops, List.getElem?_map] at ho
    cases hz : zs[i]? with
    | none => rw [hz] at ho; simp at ho
    | some z => rw [hz] at ho; simp at ho; exact ⟨z.2, by rw [← ho]⟩
  have hdone : ∀ (listed : Array Bool) (σ : Sg) (a : Act) (W : World), Inv zs n N f0 R0 σ0 listed σ a W → (∀ i, i < zs.length → listed.getD i true = true) → Q .normal a W := by
    intro listed σ a W hI hall
    refine hQ σ a W hI.le hI.keep ?_
    have h1 := runF_congr (b := fun i => listed.getD i true) (b' := fun _ => true) zs 0 f0 (fun j hj => by simpa using hall j hj)
    have h2 := runR_congr (b := fun i => listed.getD i true) (b' := fun _ => true) zs 0 R0 (fun j hj => by simpa using hall j hj)
    rw [← h1, ← h2]
    exact hI.holds
  have hempty : ∀ (listed : Array Bool), Region.ready .any ops listed = [] → ∀ i, i < zs.length → listed.getD i true = true := by
    intro listed hr i hi
    cases hb : listed.getD i true with
    | true => rfl
    | false =>
      obtain ⟨k, hk, h1, h2⟩ := least_unlisted listed zs.length ⟨i, hi, hb⟩
      have hz : zs[k]? = some zs[k] := List.getElem?_eq_getElem hk
      have hmem : k ∈ Region.ready .any ops listed := mem_ready.2 ⟨h1, zs[k].1, hop k _ hz, fun e he hbd => by
        have hlow := hc.low k _ hz e he hbd
        have := h2 e.on hlow
        have hlt : e.on < listed.size := by
          rcases Nat.lt_or_ge e.on listed.size with h | h
          · exact h
          · exfalso
            have hk' : listed.size ≤ k := by omega
            simp [Array.getD, Nat.not_lt.2 hk'] at h1
        simp [Array.getD, hlt] at this ⊢
        exact this⟩
      rw [hr] at hmem
      cases hmem
  intro fuel
  induction fuel with
  | zero =>
    intro listed σ a W hI hu
    have hall := unl_zero listed zs.length (by omega)
    refine ⟨?_, hdone listed σ a W hI hall⟩
    cases hr : Region.ready .any ops listed with
    | nil => rfl
    | cons i rest =>
      have hm : i ∈ Region.ready .any ops listed := by rw [hr]; exact List.mem_cons_self ..
      obtain ⟨h1, o, ho, _⟩ := mem_ready.1 hm
      have hi : i < zs.length := by rw [← hsz]; exact (Array.getElem?_eq_some_iff.1 ho).1
      rw [hall i hi] at h1
      cases h1
  | succ fuel ih =>
    intro listed σ a W hI hu
    refine ⟨fun hr => hdone listed σ a W hI (hempty listed hr), fun i hi => ?_⟩
    obtain ⟨hun, o, ho, hpred⟩ := mem_ready.1 hi
    obtain ⟨r, hz⟩ := hzop i o ho
    have hlen : i < zs.length := (List.getElem?_eq_some_iff.1 hz).1
    have hil : i < listed.size := by rw [hI.size]; exact hlen
    let b : Nat → Bool := fun j => listed.getD j true
    let listed' := listed.setIfInBounds i true
    let b' : Nat → Bool := fun j => listed'.getD j true
    have hb' : ∀ j, b' j = if i = j then true else b j := fun j => getD_set listed i j hil
    have hbi : b i = false := hun
    have hcl' : Closed zs b' := by
      intro k z hk hbk e he hbd
      rw [hb'] at hbk
      by_cases hik : i = k
      · subst hik
        rw [hz] at hk
        cases hk
        have := hpred e he hbd
        rw [hb']
        split
        · rfl
        · show listed.getD e.on true = true
          simp only [Array.getD] at this ⊢
          split at this
          · rename_i h; simp [h] at this ⊢; exact this
          · cases this
      · rw [if_neg hik] at hbk
        have := hI.closed k z hk hbk e he hbd
        rw [hb']
        split
        · rfl
        · exact this
    -- what has come up and lies behind i is apart from it; what has not and lies ahead, too
    have hafter : ∀ (k : Nat) (z : Z), i < k → zs[k]? = some z → b k = true → Apart (o, r) z := by
      intro k z hik hk hbk
      apply apart_of
      cases hcf : conf (o, r) z with
      | false => rfl
      | true =>
        have : b i = true := hc.ord i k (o, r) z hik hz hk hcf b hI.closed hbk
        rw [hbi] at this
        cases this
    have hahead : ∀ (j : Nat) (x : Z), j < i → zs[j]? = some x → b j = false → Apart x (o, r) := by
      intro j x hji hj hbj
      apply apart_of
      cases hcf : conf x (o, r) with
      | false => rfl
      | true =>
        have : b' j = true := hc.ord j i x (o, r) hji hj hz hcf b' hcl' (by rw [hb']; simp)
        rw [hb', if_neg (by omega), hbj] at this
        cases this
    have hsplit : zs = zs.take i ++ (o, r) :: zs.drop (i + 1) := by
      have h1 : zs.drop i = (o, r) :: zs.drop (i + 1) := by
        rw [List.drop_eq_getElem_cons hlen]
        have := (List.getElem?_eq_some_iff.1 hz).2
        rw [this]
      rw [← h1, List.take_append_drop]
    have htl : (zs.take i).length = i := by rw [List.length_take]; omega
    have hfirst : ∀ (j : Nat) x, (zs.take i)[j]? = some x → j < i ∧ zs[j]? = some x := by
      intro j x hx
      have hj : j < (zs.take i).length := (List.getElem?_eq_some_iff.1 hx).1
      rw [htl] at hj
      exact ⟨hj, by rw [List.getElem?_take_of_lt hj] at hx; exact hx⟩
    have hlast : ∀ (j : Nat) x, (zs.drop (i + 1))[j]? = some x → zs[i + 1 + j]? = some x := by
      intro j x hx
      rwa [List.getElem?_drop] at hx
    have hF : runF b 0 zs f0 = runF b (i + 1) (zs.drop (i + 1)) (runF b 0 (zs.take i) f0) := by
      conv => lhs; rw [hsplit]
      rw [runF_append]
      simp only [runF, htl, Nat.zero_add, hbi, Bool.false_eq_true, if_false]
    have hR : runR b 0 zs R0 = runR b (i + 1) (zs.drop (i + 1)) (runR b 0 (zs.take i) R0) := by
      conv => lhs; rw [hsplit]
      rw [runR_append]
      simp only [runR, htl, Nat.zero_add, hbi, Bool.false_eq_true, if_false]
    have hbeq : ∀ j, j ≠ i → b' j = b j := fun j hj => by rw [hb', if_neg (fun e => hj e.symm)]
    have hF' : runF b' 0 zs f0 = updFn (runF b 0 zs f0) o.dst r.φ := by
      conv => lhs; rw [hsplit]
      rw [runF_append]
      simp only [runF, htl, Nat.zero_add]
      rw [hb' i]
      simp only [if_true]
      rw [runF_congr (b' := b) (zs.take i) 0 f0 (fun j hj => hbeq _ (by rw [htl] at hj; omega)), runF_congr (b' := b) (zs.drop (i + 1)) (i + 1) _ (fun j _ => hbeq _ (by omega)),
        runF_late b o.dst r.φ, hF]
      intro j z hj hbj
      exact (hafter _ z (by omega) (hlast j z hj) hbj).h3
    have hR' : runR b' 0 zs R0 = updR (runR b 0 zs R0) r := by
      conv => lhs; rw [hsplit]
      rw [runR_append]
      simp only [runR, htl, Nat.zero_add]
      rw [hb' i]
      simp only [if_true]
      rw [runR_congr (b' := b) (zs.take i) 0 R0 (fun j hj => hbeq _ (by rw [htl] at hj; omega)), runR_congr (b' := b) (zs.drop (i + 1)) (i + 1) _ (fun j _ => hbeq _ (by omega)),
        runR_late b r, hR]
      intro j z hj hbj n hn
      exact (hafter _ z (by omega) (hlast j z hj) hbj).h4 n hn
    have hc0 := hcon i (o, r) hz
    have hreadF : ∀ t p, (∀ (j : Nat) (x : Z), j < i → zs[j]? = some x → b j = false → x.1.dst ≠ some t) → (∀ (k : Nat) (z : Z), i < k → zs[k]? = some z → b k = true → z.1.dst ≠ some t) →
        runF (fun _ => true) 0 (zs.take i) f0 t = some p → runF b 0 zs f0 t = some p := by
      intro t p h1 h2 h
      rw [hF, runF_at b t _ _ _ (fun j z hj hbj => h2 _ z (by omega) (hlast j z hj) hbj),
        runF_all b t _ _ _ f0 (fun j x hj hbj => by
          obtain ⟨hji, hj'⟩ := hfirst j x hj
          exact h1 j x hji hj' (by simpa using hbj)) rfl]
      exact h
    have hreadR : ∀ m, (∀ (j : Nat) (x : Z), j < i → zs[j]? = some x → b j = false → m ∉ toks x.2) → (∀ (k : Nat) (z : Z), i < k → zs[k]? = some z → b k = true → m ∉ toks z.2) →
        runR b 0 zs R0 m = runR (fun _ => true) 0 (zs.take i) R0 m := by
      intro m h1 h2
      rw [hR, runR_at b m _ _ _ (fun j z hj hbj => h2 _ z (by omega) (hlast j z hj) hbj),
        runR_all b m _ _ _ R0 (fun j x hj hbj => by
          obtain ⟨hji, hj'⟩ := hfirst j x hj
          exact h1 j x hji hj' (by simpa using hbj)) rfl]
    have huse : ∀ x ∈ r.use, runR b 0 zs R0 x.1 = some x.2 := by
      intro x hx
      rw [hreadR x.1 (fun j y hj hy hb0 hm => (hahead j y hj hy hb0).h5 x.1 hm (List.mem_map.2 ⟨x, hx, rfl⟩))
        (fun k z hk hz' hb0 hm => (hafter k z hk hz' hb0).h6 x.1 (List.mem_map.2 ⟨x, hx, rfl⟩) hm)]
      exact hc0.use x hx
    have htoks : ∀ m, m ∈ toks r → runR b 0 zs R0 m = runR (fun _ => true) 0 (zs.take i) R0 m := by
      intro m hm
      exact hreadR m (fun j y hj hy hb0 hm' => (hahead j y hj hy hb0).h4 m hm' hm) (fun k z hk hz' hb0 hm' => (hafter k z hk hz' hb0).h4 m hm hm')
    have hdel : ∀ x ∈ r.del, runR b 0 zs R0 x.1 = some x.2 := by
      intro x hx
      rw [htoks x.1 (List.mem_append_left _ (List.mem_map.2 ⟨x, hx, rfl⟩))]
      exact hc0.del x hx
    have hadd : ∀ x ∈ r.add, runR b 0 zs R0 x.1 = none ∨ r.del.any (fun y => y.1 == x.1) = true := by
      intro x hx
      rw [htoks x.1 (List.mem_append_right _ (List.mem_map.2 ⟨x, hx, rfl⟩))]
      exact hc0.add x hx
    have hrd : ∀ x ∈ r.rd, runF b 0 zs f0 x.1 = some x.2 := by
      intro x hx
      refine hreadF x.1 x.2 (fun j y hj hy hb0 he => (hahead j y hj hy hb0).h1 _ he x hx rfl) (fun k z hk hz' hb0 he => (hafter k z hk hz' hb0).h2 _ he x hx rfl) (hc0.rd x hx)
    have hstep := Holds.step (K := wpAny P .any ops Q fuel listed') hc0.loc hc0.d hI.holds hrd huse hdel hadd (fun k hk => hI.fresh i (o, r) hz hun k hk) (fun σ' a' W' hle hkeep hh => by
      refine ih listed' σ' a' W' ⟨by simp [listed', hI.size], hcl', ?_, ?_, hI.le.trans hle, ?_⟩ ?_
      · show Holds n (runF b' 0 zs f0) (runR b' 0 zs R0) σ' a' W'
        rw [hF', hR']
        exact hh
      · intro k z hk hbk m hm
        have hki : k ≠ i := fun e => by subst e; have : b' k = false := hbk; rw [hb'] at this; simp at this
        have hbk' : b k = false := by rw [← hbeq k hki]; exact hbk
        rw [hkeep (N, m) (Nat.le_refl _) ?_]
        · exact hI.fresh k z hk hbk' m hm
        · intro m' hm' he
          cases he
          -- new numbers are distinct
          have hdis : ∀ (p q : Nat) (x y : Z), p < q → zs[p]? = some x → zs[q]? = some y → m ∈ x.2.new → m ∈ y.2.new → False := by
            intro p q x y hpq hx hy hmx hmy
            have hq : q < zs.length := (List.getElem?_eq_some_iff.1 hy).1
            have e : zs = zs.take q ++ zs.drop q := (List.take_append_drop q zs).symm
            rw [e, List.flatMap_append] at hnd
            refine (List.nodup_append.1 hnd).2.2 m ?_ m ?_ rfl
            · refine List.mem_flatMap.2 ⟨x, ?_, hmx⟩
              exact List.mem_of_getElem? (i := p) (by rw [List.getElem?_take_of_lt hpq]; exact hx)
            · refine List.mem_flatMap.2 ⟨y, ?_, hmy⟩
              exact List.mem_of_getElem? (i := 0) (by rw [List.getElem?_drop]; simpa using hy)
          rcases Nat.lt_or_ge k i with h | h
          · exact hdis k i z (o, r) h hk hz hm hm'
          · exact hdis i k (o, r) z (by omega) hz hk hm' hm
      · intro id hid hk
        rw [hkeep id hid (fun k hk' => hk k (List.mem_flatMap.2 ⟨(o, r), List.mem_of_getElem? hz, hk'⟩))]
        exact hI.keep id hid hk
      · have := unl_set listed i hil hun zs.length
        simp only [hlen, if_true] at this
        show unl (listed.setIfInBounds i true) zs.length ≤ fuel
        omega)
    unfold wpOp
    rw [ho]
    exact hstep

/-- **a region whose order is drawn** -/
theorem LexOK.drawn {P : Program} {n N : Nat} {ops : Array Oper} {Q : Exit → Act → World → Prop} {Rf : Toks} {F F' : Fr} {L L' : Tk} {rs : List Rec} {id : Nat}
    (hm : P.follows .mixedOrders = true) (hl : LexOK P n N ops Q Rf ops.toList F L rs F' L') (hnd : (rs.flatMap (·.new)).Nodup) (hc : chk ops.toList rs = true)
    {σ : Sg} {a : Act} {W : World} (h : Holds n (lk F) (tkf L Rf) σ a W) (hfr : Fresh N (rs.flatMap (·.new)) σ)
    (hQ : ∀ σ' a' W', Le σ σ' → Keep N (rs.flatMap (·.new)) σ σ' → Holds n (lk F') (tkf L' Rf) σ' a' W' → Q .normal a' W') : (Code.region id ops true).wp P Q a W := by
  obtain ⟨hcon, hlen⟩ := hl.con
  have hcon := hcon 0
  have hfm : (ops.toList.zip rs).flatMap (·.2.new) = rs.flatMap (·.new) := by
    have : rs = (ops.toList.zip rs).map (·.2) := by
      rw [List.map_snd_zip]
      omega
    conv => rhs; rw [this]
    rw [List.flatMap_map]
  have hmap : (ops.toList.zip rs).map (·.1) = ops.toList := by
    rw [List.map_fst_zip]
    omega
  refine wp_region_any hm ?_
  have hzl : (ops.toList.zip rs).length = ops.size := by rw [← Array.length_toList, ← hmap, List.length_map, hmap]
  refine any_drawn (σ0 := σ) (f0 := lk F) (R0 := tkf L Rf) hmap (chk_spec hc) (by rw [hfm]; exact hnd) (fun i z hz => hcon.2.2 i z hz) ?_ ops.size _ σ a _ ?_ ?_
  · intro σ' a' W' hle hkeep hh
    rw [hfm] at hkeep
    rw [hcon.1, hcon.2.1] at hh
    exact hQ σ' a' W' hle hkeep hh
  · have hall : ∀ i, i < ops.size → (Array.replicate ops.size false).getD i true = false := by
      intro i hi
      simp [Array.getD, hi]
    have hrF : ∀ (zs : List Z) (k : Nat) (f : Nat → Option Pred) (b : Nat → Bool), (∀ j, j < zs.length → b (k + j) = false) → runF b k zs f = f := by
      intro zs
      induction zs with
      | nil => intro k f b _; rfl
      | cons z zs ih =>
        intro k f b hb
        simp only [runF]
        have h0 := hb 0 (by simp)
        simp only [Nat.add_zero] at h0
        rw [h0, if_neg (by simp)]
        exact ih (k + 1) f b (fun j hj => by have := hb (j + 1) (by simp; omega); rwa [show k + (j + 1) = k + 1 + j by omega] at this)
    have hrR : ∀ (zs : List Z) (k : Nat) (f : Toks) (b : Nat → Bool), (∀ j, j < zs.length → b (k + j) = false) → runR b k zs f = f := by
      intro zs
      induction zs with
      | nil => intro k f b _; rfl
      | cons z zs ih =>
        intro k f b hb
        simp only [runR]
        have h0 := hb 0 (by simp)
        simp only [Nat.add_zero] at h0
        rw [h0, if_neg (by simp)]
        exact ih (k + 1) f b (fun j hj => by have := hb (j + 1) (by simp; omega); rwa [show k + (j + 1) = k + 1 + j by omega] at this)
    refine ⟨by rw [hzl]; simp, ?_, ?_, ?_, Le.refl σ, fun _ _ _ => rfl⟩
    · intro i z hz hb
      have hi : i < ops.size := by rw [← hzl]; exact (List.getElem?_eq_some_iff.1 hz).1
      simp only [hall i hi] at hb
      cases hb
    · rw [hrF _ _ _ _ (fun j hj => by simpa using hall j (by rw [hzl] at hj; exact hj)), hrR _ _ _ _ (fun j hj => by simpa using hall j (by rw [hzl] at hj; exact hj))]
      exact ⟨h.size, h.defers, h.mod.drew, h.fr⟩
    · intro i z hz _ k hk
      refine hfr k ?_
      rw [← hfm]
      exact List.mem_flatMap.2 ⟨z, List.mem_of_getElem? hz, hk⟩
  · have : ∀ m, unl (Array.replicate ops.size false) m ≤ m := by
      intro m
      induction m with
      | zero => simp [unl]
      | succ m ih => simp only [unl]; split <;> omega
    have := this (ops.toList.zip rs).length
    omega
end Go.AL
