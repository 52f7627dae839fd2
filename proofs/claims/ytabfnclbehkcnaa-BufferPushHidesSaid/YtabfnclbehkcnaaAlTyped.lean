/- Blocks of the call's own that hold a list: elements read and written at any place; facts that a predicate bears. -/
import Derived.Test.YtabfnclbehkcnaaAlLoop
namespace Go.AL
open Go.RowKit

/-! ### facts -/
def Fact (p : Pred) (φ : Prop) : Prop := ∀ σ v, p.h σ v → φ
theorem Fact.sl {α : Type} (f : α → List Pred) (n : Nat) (xs : List α) : Fact (slP f n xs) (xs.length ≤ 9223372036854775807) := fun _ _ ⟨_, _, _, h1, h2, _⟩ => by unfold maxLen at h2; omega
theorem Fact.row {α : Type} (id : Id) (f : α → List Pred) (n : Nat) (xs : List α) : Fact (rowP id f n xs) (xs.length ≤ 9223372036854775807) := fun σ v h => Fact.sl f n xs σ v (Ent.row id f n xs σ v h)
theorem Fact.mv (id : Id) (k off n c : Nat) : Fact (mvP id k off n c) (n ≤ 9223372036854775807) := fun _ _ ⟨_, _, h1, h2, _⟩ => by unfold maxLen at h2; omega
theorem Fact.agg {ps : List Pred} {p : Pred} {φ : Prop} (j : Nat) (h : ps[j]? = some p) (hf : Fact p φ) : Fact (aggP ps) φ := fun σ v ⟨cs, _, hc⟩ => by
  have hlt : j < cs.length := by rw [hc.1]; exact (List.getElem?_eq_some_iff.1 h).1
  exact hf σ _ (hc.2 j p _ h (List.getElem?_eq_getElem hlt)).1
theorem Fact.cells {ps : List Pred} {p : Pred} {φ : Prop} (j : Nat) (h : ps[j]? = some p) (hf : Fact p φ) : Fact (cellsP ps) φ := fun σ v ⟨b, off, _, hc⟩ => by
  obtain ⟨u, _, hu⟩ := hc j p h
  exact hf σ u hu.1
/-- the cells of the elements of a slice bear facts, too -/
theorem Fact.each {α : Type} {f : α → List Pred} {n : Nat} {xs : List α} {φ : α → Prop} (h : ∀ x, ∃ (j : Nat) (p : Pred), (f x)[j]? = some p ∧ Fact p (φ x)) : Fact (slP f n xs) (∀ x ∈ xs, φ x) := fun σ v ⟨a, cap, _, _, _, h3⟩ x hx => by
  obtain ⟨i, hi⟩ := List.mem_iff_getElem?.1 hx
  obtain ⟨b, off, _, hc⟩ := h3 (by have := (List.getElem?_eq_some_iff.1 hi).1; omega)
  obtain ⟨j, p, hp, hf⟩ := h x
  obtain ⟨u, _, hu⟩ := hc i x hi j p hp
  exact hf σ u hu.1
theorem Fact.and {p : Pred} {φ ψ : Prop} (h : Fact p φ) (k : Fact p ψ) : Fact p (φ ∧ ψ) := fun σ v x => ⟨h σ v x, k σ v x⟩
theorem tr_fact {P : Program} {C : Cx} {F : Fr} {L : Tk} {Q : Exit → Act → World → Prop} {c : Code} {t : Nat} {p : Pred} {φ : Prop} (ht : lk F t = some p) (hf : Fact p φ) (h : φ → Tr P C c F L Q) : Tr P C c F L Q := by
  rintro a W ⟨σ, h1, h2, h3⟩
  exact h (hf σ _ (h3.fr t p ht)) a W ⟨σ, h1, h2, h3⟩

/-! ### lists of cells -/
section
variable {α : Type} {f : α → List Pred} {k : Nat}
theorem flatMap_cut (hk : ∀ z, (f z).length = k) : ∀ (xs : List α) (j : Nat) (z : α), xs[j]? = some z → (xs.flatMap f) = (xs.take j).flatMap f ++ (f z ++ (xs.drop (j + 1)).flatMap f)
  | [], j, z, h => by simp at h
  | x :: xs, 0, z, h => by simp at h; subst h; simp [List.flatMap_cons]
  | x :: xs, j + 1, z, h => by
    have := flatMap_cut hk xs j z (by simpa using h)
    simp only [List.flatMap_cons, List.take_succ_cons, List.drop_succ_cons, List.append_assoc]
    rw [this]
theorem flatMap_take_len (hk : ∀ z, (f z).length = k) {xs : List α} {j : Nat} (hj : j ≤ xs.length) : ((xs.take j).flatMap f).length = j * k := by
  rw [flatMap_len hk, List.length_take, Nat.min_eq_left hj]
theorem flatMap_part (hk : ∀ z, (f z).length = k) {xs : List α} {j fo n : Nat} {z : α} (hz : xs[j]? = some z) (hn : fo + n ≤ k) : ((xs.flatMap f).drop (j * k + fo)).take n = ((f z).drop fo).take n := by
  have hj : j < xs.length := (List.getElem?_eq_some_iff.1 hz).1
  rw [flatMap_cut hk xs j z hz, ← List.drop_drop]
  have hl := flatMap_take_len hk (xs := xs) (j := j) (by omega)
  rw [List.drop_left' hl, List.drop_append_of_le_length (by rw [hk]; omega), List.take_append_of_le_length (by rw [List.length_drop, hk]; omega)]
theorem flatMap_splice (hk : ∀ z, (f z).length = k) {xs : List α} {j fo : Nat} {z z' : α} {qs : List Pred} (hz : xs[j]? = some z) (hn : fo + qs.length ≤ k) (hs : splice (f z) fo qs = f z') : splice (xs.flatMap f) (j * k + fo) qs = (xs.set j z').flatMap f := by
  have hj : j < xs.length := (List.getElem?_eq_some_iff.1 hz).1
  have hl := flatMap_take_len hk (xs := xs) (j := j) (by omega)
  have hz2 : (xs.set j z')[j]? = some z' := by simp [hj]
  rw [flatMap_cut hk xs j z hz, flatMap_cut hk (xs.set j z') j z' hz2, ← hs]
  unfold splice
  have e1 : (xs.set j z').take j = xs.take j := by rw [List.take_set_of_le (Nat.le_refl _)]
  have e2 : (xs.set j z').drop (j + 1) = xs.drop (j + 1) := by rw [List.drop_set_of_lt (by omega)]
  rw [e1, e2, ← hl, List.take_length_add_append, Nat.add_assoc, List.drop_length_add_append, List.take_append_of_le_length (by rw [hk]; omega), List.drop_append_of_le_length (by rw [hk]; omega)]
  simp [List.append_assoc]
end

section
variable {P : Program} {n N : Nat} {F : Fr} {R : Toks} {d : Option Nat} {T Ty : TypeId} {pos : String} {after : Array Edge} {α : Type} {f : α → List Pred} {k : Nat} {xs : List α} {id : Id} {m κ : Nat} {B : TypeId}
/-- a load of a whole element, of a part of one, of one cell of one -/
theorem op_tload {x : Operand} {off j fo w : Nat} {z : α} {qs : List Pred} (hx : opd F x = some (ptrP id off)) (hR : R m = some (id, blkX κ B (xs.flatMap f))) (ha : aggB P Ty = some true) (hs : sizeB P Ty = some w)
    (hk : ∀ z, (f z).length = k) (hoff : off = j * k + fo) (hz : xs[j]? = some z) (hw : Nat.ble (fo + w) k = true) (hq : ((f z).drop fo).take w = qs) :
    OpJ P n N F R ⟨d, .load Ty x, T, pos, after, none⟩ ⟨rdo x (ptrP id off), [(m, id, blkX κ B (xs.flatMap f))], [], [], [], aggP qs⟩ := by
  have hw' := Nat.le_of_ble_eq_true hw
  have hj : j < xs.length := (List.getElem?_eq_some_iff.1 hz).1
  refine op_bload_part hx hR ha hs ?_ (by rw [hoff, flatMap_part hk hz hw', hq])
  have : (j + 1) * k ≤ xs.length * k := Nat.mul_le_mul_right _ hj
  rw [Nat.succ_mul] at this
  rw [flatMap_len hk, Nat.ble_eq]
  omega
theorem op_tload_one {x : Operand} {off j fo : Nat} {z : α} {p : Pred} (hx : opd F x = some (ptrP id off)) (hR : R m = some (id, blkX κ B (xs.flatMap f))) (ha : aggB P Ty = some false)
    (hk : ∀ z, (f z).length = k) (hoff : off = j * k + fo) (hz : xs[j]? = some z) (hp : (f z)[fo]? = some p) :
    OpJ P n N F R ⟨d, .load Ty x, T, pos, after, none⟩ ⟨rdo x (ptrP id off), [(m, id, blkX κ B (xs.flatMap f))], [], [], [], p⟩ :=
  op_bload_one hx hR ha (by rw [hoff]; exact flatMap_at hk xs j z hz fo p hp)
/-- a store into an element -/
theorem op_tstore {x y : Operand} {off j fo w : Nat} {z z' : α} {p : Pred} {qs : List Pred} (hx : opd F x = some (ptrP id off)) (hy : opd F y = some p) (hR : R m = some (id, blkX κ B (xs.flatMap f))) (hv : Val p qs) (hs : sizeB P Ty = some w) (hl : Nat.beq qs.length w = true)
    (hk : ∀ z, (f z).length = k) (hoff : off = j * k + fo) (hz : xs[j]? = some z) (hw : Nat.ble (fo + w) k = true) (hq : splice (f z) fo qs = f z') :
    OpJ P n N F R ⟨none, .store Ty x y, T, pos, after, none⟩ ⟨rdo x (ptrP id off) ++ rdo y p, [], [(m, id, blkX κ B (xs.flatMap f))], [(m, id, blkX κ B ((xs.set j z').flatMap f))], [], eqP undef⟩ := by
  have hw' := Nat.le_of_ble_eq_true hw
  have hl' := Nat.eq_of_beq_eq_true hl
  have hj : j < xs.length := (List.getElem?_eq_some_iff.1 hz).1
  refine op_store hx hy hR hv hs hl ?_ (by rw [hoff]; exact flatMap_splice hk hz (by omega) hq)
  have : (j + 1) * k ≤ xs.length * k := Nat.mul_le_mul_right _ hj
  rw [Nat.succ_mul] at this
  rw [flatMap_len hk, Nat.ble_eq]
  omega
end

/-! ### a block says otherwise what it holds -/
section
variable {P : Program} {C : Cx} {F : Fr} {L : Tk} {Q : Exit → Act → World → Prop} {c : Code}
theorem tr_eqF {F' : Fr} (h : F = F') (k : Tr P C c F' L Q) : Tr P C c F L Q := h ▸ k
theorem tr_eqL {L' : Tk} (h : L = L') (k : Tr P C c F L' Q) : Tr P C c F L Q := h ▸ k
/-- what is known of a slot and of a token, said anew -/
theorem tr_ents {F' : Fr} {L' : Tk} (hC : CxOK C) (hF : SubF F F') (hL : SubL L L') (hlow : lowL L = true) (k : Tr P C c F' L' Q) : Tr P C c F L Q := tr_sub hC hF hL hlow k
inductive SubX (L : Tk) : Tk → Prop
  | nil : SubX L []
  | cons {t : Nat} {id : Id} {r r' : Res} {l : Tk} (h : lk L t = some (some (id, r))) (he : ∀ σ b o, r.h σ id b o → r'.h σ id b o) (hl : SubX L l) : SubX L ((t, some (id, r')) :: l)
theorem SubX.sub {Rf : Toks} (hlowRf : ∀ m, m < 1000000 → Rf m = none) {L L' : Tk} (h : SubX L L') (hlow : lowL L = true) : ∀ m x, tkf L' Rf m = some x → ∃ r0, tkf L Rf m = some (x.1, r0) ∧ ∀ σ b o, r0.h σ x.1 b o → x.2.h σ x.1 b o := by
  induction h with
  | nil =>
    intro m x hx
    simp only [tkf, lk] at hx
    by_cases hm : m < 1000000
    · rw [hlowRf m hm] at hx; cases hx
    · exact ⟨x.2, by simp only [tkf, lk_low hlow (Nat.le_of_not_lt hm)]; exact hx, fun _ _ _ h => h⟩
  | @cons t id r r' l ht he _ ih =>
    intro m x hx
    simp only [tkf, lk_cons] at hx
    by_cases e : t = m
    · subst e
      simp at hx
      subst hx
      exact ⟨r, by simp [tkf, ht], he⟩
    · simp only [e, if_false] at hx
      exact ih m x hx
/-- the tokens weakened -/
theorem tr_weakL {L' : Tk} (hC : CxOK C) (hL : SubX L L') (hlow : lowL L = true) (k : Tr P C c F L' Q) : Tr P C c F L Q := by
  rintro a W ⟨σ, h1, h2, h3⟩
  refine k a W ⟨σ, h1, h2, h3.size, h3.defers, h3.mod.resMono (fun n => n) (fun n m h _ _ => h) ?_, h3.fr⟩
  intro m x hx
  obtain ⟨r0, g1, g2⟩ := hL.sub hC.low hlow m x hx
  exact ⟨r0, g1, fun b o h => g2 σ b o h⟩
end
/-- a block of a list, one predicate of its elements for another -/
theorem Vs.flat_ents {σ : Sg} {ps qs : List Pred} {cs : List Value} (h : Vs σ ps cs) (he : Ents ps qs) : Vs σ qs cs := h.ents he
theorem blk_ents' {κ : Nat} {T : TypeId} {ps qs : List Pred} (h : Ents ps qs) : ∀ (σ : Sg) (id : Id) (b : Nat) (o : Obj), (blkX κ T ps).h σ id b o → (blkX κ T qs).h σ id b o := by
  rintro σ id b o ⟨cs, rest, ho, hv, hz, hn⟩
  exact ⟨cs, rest, ho, hv.ents h, hz, hn⟩
section
variable {P : Program} {n N : Nat} {F : Fr} {R : Toks} {d : Option Nat} {T : TypeId} {pos : String} {after : Array Edge} {α : Type} {f : α → List Pred} {k bytes : Nat} {xs ys : List α} {t e : TypeId} {id : Id}
/-- **append to a list of the call's own whose cells may be written** -/
theorem op_append_t {x y : Operand} {m m' kk : Nat} {z : Value} (hx : opd F x = some (mvP id k 0 xs.length xs.length)) (hy : opd F y = some (slP f k ys)) (hR : R m = some (id, blkX k e (xs.flatMap f))) (hm' : m' = m ∨ R m' = none)
    (ht : elemB P t = some e) (hz : zeroB P e = some (some z)) (hs : sizeB P e = some k) (hby : bytesB P e = some bytes) (hzs : z.cells.size = k) (hk0 : k ≠ 0) (hk : ∀ z, (f z).length = k)
    (h63 : xs.length + ys.length ≤ 1152921504606846976) (hbytes : (xs.length + ys.length) * bytes ≤ 140737488355328) :
    OpJ P n N F R ⟨d, .call { callee := .builtin .append, args := #[x, y], argTypes := #[t, t] }, T, pos, after, none⟩
      ⟨rdo x (mvP id k 0 xs.length xs.length) ++ rdo y (slP f k ys), [], [(m, (id, blkX k e (xs.flatMap f)))], [(m', ((N, kk), blkX k e ((xs ++ ys).flatMap f)))], [kk], mvP (N, kk) k 0 (xs ++ ys).length (xs ++ ys).length⟩ := by
  have := op_append_mut (P := P) (n := n) (N := N) (F := F) (R := R) (d := d) (T := T) (pos := pos) (after := after) (m := m) (m' := m') (kk := kk) (f := f) hx hy hR hm' ht hz hs hby hzs hk0 (flatMap_len hk xs) hk h63 hbytes
  rw [List.flatMap_append, List.length_append]
  exact this
theorem flatten_rep (c : Nat) (z : α) : (List.replicate c (f z)).flatten = (List.replicate c z).flatMap f := by
  induction c with
  | zero => rfl
  | succ c ih => simp [List.replicate_succ, ih]
/-- 'make([]T, n)' as a list -/
theorem op_makeSlice_t {lx cx : Operand} {l : Nat} {li ci : Int} {lk ck : IntKind} {m' kk : Nat} {z : Value} (z0 : α) (hl : opd F lx = some (eqP (.int lk li))) (hc : opd F cx = some (eqP (.int ck ci))) (hli : li = (l : Int)) (hci : ci = (l : Int)) (hm' : R m' = none)
    (ht : elemB P t = some e) (hz : zeroB P e = some (some z)) (hs : sizeB P e = some k) (hby : bytesB P e = some bytes) (hzs : z.cells.toList.map eqP = f z0) (hzk : Nat.beq (f z0).length k = true) (hk0 : Nat.blt 0 k = true) (h1 : z.cells.toList.all Value.oneCell' = true)
    (hc1 : bytes * l ≤ 281474976710656) (hc2 : l ≤ maxLen) :
    OpJ P n N F R ⟨d, .makeSlice t lx cx, T, pos, after, none⟩ ⟨rdo lx (eqP (.int lk li)) ++ rdo cx (eqP (.int ck ci)), [], [], [(m', ((N, kk), blkX k e ((List.replicate l z0).flatMap f)))], [kk], mvP (N, kk) k 0 (List.replicate l z0).length (List.replicate l z0).length⟩ := by
  have := op_makeSlice (P := P) (n := n) (N := N) (F := F) (R := R) (d := d) (T := T) (pos := pos) (after := after) (m' := m') (kk := kk) hl hc hli hci hm' ht hz hs hby hzs hzk hk0 h1 (Nat.le_refl _) hc1 hc2
  rw [← flatten_rep, List.length_replicate]
  exact this
theorem op_callG' {f : FuncId} {l : List Operand} {ts : Array TypeId} {pre : List Pred} {k : Nat} {post : (Nat → Id) → Pred} {prod : (Nat → Id) → List (Id × Res)} {rd : List (Nat × Pred)} {del add : List (Nat × Id × Res)} {ks : List Nat} {φ : Pred}
    (hc : FnOK P f pre (del.map (·.2)) k post prod) (hargs : Args F l pre rd) (hf : fnB P f = true) (hk : ks.length = k) (hφ : post (fun j => (N, ks.getD j 0)) = φ) (hprod : prod (fun j => (N, ks.getD j 0)) = add.map (·.2)) (hnd : (nodupN del && nodupN add && nodupB ks && Nat.ble add.length 1000000) = true)
    (hdel : ∀ x ∈ del, R x.1 = some x.2) (hadd : ∀ x ∈ add, R x.1 = none ∨ del.any (fun y => y.1 == x.1) = true) :
    OpJ P n N F R ⟨d, .call { callee := .value (.func f), args := l.toArray, argTypes := ts }, T, pos, after, none⟩ ⟨rd, [], del, add, ks, φ⟩ :=
  hφ ▸ op_callG hc hargs hf hk hprod hnd hdel hadd
end
section
variable {P : Program} {C : Cx} {F : Fr} {L : Tk} {fn : Func} {R : Ending → World → Prop} {post : (Nat → Id) → Pred} {prod : (Nat → Id) → List (Id × Res)} {moves : List (Nat × Id × Res)}
/-- no results, blocks handed back -/
theorem pe_ownE {k : Nat} (s : List Nat) (hres : fn.results = #[]) (ho : OwesN C R k post prod) (hlow : lowL L = true)
    (hm : Moves L moves) (hk : moves.length = k) (hnd : nodupN moves = true) (hs : nodupB s = true)
    (hconv : ∀ (τ : Sg) (ι : Nat → Id), Sames τ ι moves → (∀ v, (tupP []).h τ v → (post ι).h τ v) ∧ Prods τ ι L moves (prod ι) s) : Post C F L (bodyPost P fn R .normal) := by
  rintro a W ⟨σ, h1, h2, h3⟩
  refine ⟨h3.defers, .tuple #[], run_results' (rs := []) (vs := []) hres a W rfl, ?_⟩
  exact owesN_use (v := .tuple #[]) (p := tupP []) ho hk h1 h2 h3.mod ⟨[], rfl, rfl, fun j p u hp => by simp at hp⟩ hlow hm.at_.1 hnd hm.at_.2 hs hconv
end
end Go.AL
/-! ### tokens found by their numbers -/
namespace Go.AL
open Go.RowKit
inductive TokIn (R : Toks) : List (Nat × Id × Res) → Prop
  | nil : TokIn R []
  | cons {m : Nat} {id : Id} {r : Res} {l : List (Nat × Id × Res)} (h : R m = some (id, r)) (t : TokIn R l) : TokIn R ((m, id, r) :: l)
theorem TokIn.at_ {R : Toks} {l : List (Nat × Id × Res)} (h : TokIn R l) : ∀ x ∈ l, R x.1 = some x.2 := by
  induction h with
  | nil => intro x hx; cases hx
  | cons h _ ih =>
    intro x hx
    rcases List.mem_cons.1 hx with rfl | hx
    · exact h
    · exact ih x hx
inductive AddOK (R : Toks) (del : List (Nat × Id × Res)) : List (Nat × Id × Res) → Prop
  | nil : AddOK R del []
  | new {m : Nat} {x : Id × Res} {l : List (Nat × Id × Res)} (h : R m = none) (t : AddOK R del l) : AddOK R del ((m, x) :: l)
  | old {m : Nat} {x : Id × Res} {l : List (Nat × Id × Res)} (h : del.any (fun y => y.1 == m) = true) (t : AddOK R del l) : AddOK R del ((m, x) :: l)
theorem AddOK.at_ {R : Toks} {del l : List (Nat × Id × Res)} (h : AddOK R del l) : ∀ x ∈ l, R x.1 = none ∨ del.any (fun y => y.1 == x.1) = true := by
  induction h with
  | nil => intro x hx; cases hx
  | new h _ ih =>
    intro x hx
    rcases List.mem_cons.1 hx with rfl | hx
    · exact .inl h
    · exact ih x hx
  | old h _ ih =>
    intro x hx
    rcases List.mem_cons.1 hx with rfl | hx
    · exact .inr h
    · exact ih x hx
section
variable {P : Program} {n N : Nat} {F : Fr} {R : Toks} {d : Option Nat} {T : TypeId} {pos : String} {after : Array Edge}
/-- **a call, blocks handed over and taken back** -/
theorem op_callG2 {f : FuncId} {l : List Operand} {ts : Array TypeId} {pre : List Pred} {k : Nat} {post : (Nat → Id) → Pred} {prod : (Nat → Id) → List (Id × Res)} {rd : List (Nat × Pred)} {del add : List (Nat × Id × Res)} {ks : List Nat} {φ : Pred}
    (hdel : TokIn R del) (hc : FnOK P f pre (del.map (·.2)) k post prod) (hargs : Args F l pre rd) (hf : fnB P f = true) (hk : ks.length = k) (hφ : post (fun j => (N, ks.getD j 0)) = φ) (hprod : prod (fun j => (N, ks.getD j 0)) = add.map (·.2))
    (hadd : AddOK R del add) (hnd : (nodupN del && nodupN add && nodupB ks && Nat.ble add.length 1000000) = true) :
    OpJ P n N F R ⟨d, .call { callee := .value (.func f), args := l.toArray, argTypes := ts }, T, pos, after, none⟩ ⟨rd, [], del, add, ks, φ⟩ :=
  hφ ▸ op_callG hc hargs hf hk hprod hnd hdel.at_ hadd.at_
theorem op_callVG2 {f : FuncId} {x : Operand} {l : List Operand} {ts : Array TypeId} {first pre caps : List Pred} {k : Nat} {post : (Nat → Id) → Pred} {prod : (Nat → Id) → List (Id × Res)} {rd : List (Nat × Pred)} {del add : List (Nat × Id × Res)} {ks : List Nat} {φ : Pred}
    (hx : opd F x = some (clP f first caps)) (hdel : TokIn R del) (hc : FnOK P f (first ++ pre ++ caps) (del.map (·.2)) k post prod) (hargs : Args F l pre rd) (hf : fnB P f = true) (hk : ks.length = k) (hφ : post (fun j => (N, ks.getD j 0)) = φ) (hprod : prod (fun j => (N, ks.getD j 0)) = add.map (·.2))
    (hadd : AddOK R del add) (hnd : (nodupN del && nodupN add && nodupB ks && Nat.ble add.length 1000000) = true) :
    OpJ P n N F R ⟨d, .call { callee := .value x, args := l.toArray, argTypes := ts }, T, pos, after, none⟩ ⟨rdo x (clP f first caps) ++ rd, [], del, add, ks, φ⟩ :=
  hφ ▸ op_callVG hx hc hargs hf hk hprod hnd hdel.at_ hadd.at_
end
end Go.AL
namespace Go.AL
open Go.RowKit
section
variable {P : Program} {n N : Nat} {F : Fr} {R : Toks} {d : Option Nat} {T : TypeId} {pos : String} {after : Array Edge} {α : Type} {f : α → List Pred} {k : Nat} {xs : List α} {t e : TypeId}
/-- '[]T{..}': a row of the call's own -/
theorem op_buildRow {len m' kk : Nat} {l : List (Nat × Operand)} {rd : List (Nat × Pred)} {z : Value} (hz : zeroB P e = some (some z)) (h1 : z.cells.toList.all Value.oneCell' = true) (hzs : z.cells.size = k) (hk0 : 0 < k) (ht : elemB P t = some e) (hs : sizeB P e = some k)
    (hk : ∀ z, (f z).length = k) (hl : Elems F f 0 l xs rd) (hlen : xs.length = len) (hbig : len * k ≤ 16777216) (hm' : R m' = none) :
    OpJ P n N F R ⟨d, .buildSlice t len l.toArray, T, pos, after, none⟩ ⟨rd, [], [], [(m', ((N, kk), tail e k (xs.length * k)))], [kk], rowP (N, kk) f k xs⟩ where
  loc := by
    intro σ W R a K hm h2 h3 h4 h5 h6 h7 h8 h9 Q
    have hid := h8 kk (by simp)
    have hRm' : R m' = none := by have h := h7 (m', ((N, kk), tail e k (xs.length * k))) (by simp); simpa using h
    subst hlen
    have hzc : Vs σ ((List.replicate xs.length (z.cells.toList.map eqP)).flatten) ((Array.range (xs.length * k)).map (z.cells[· % z.cells.size]!)).toList := by
      have e1 : ((Array.range (xs.length * k)).map (z.cells[· % z.cells.size]!)).toList = (List.replicate xs.length z.cells.toList).flatten := by
        have := @flatten_replicate_range z.cells k hzs hk0 xs.length
        simpa using this
      rw [e1]
      have e2 : (List.replicate xs.length (z.cells.toList.map eqP)).flatten = ((List.replicate xs.length z.cells.toList).flatten).map eqP := by simp [List.map_flatten]
      rw [e2]
      exact Vs.eqs (by
        rw [List.all_eq_true]
        intro v hv
        obtain ⟨y, hy, hv⟩ := List.mem_flatten.1 hv
        rw [List.mem_replicate] at hy
        rw [hy.2] at hv
        exact List.all_eq_true.1 h1 v hv)
    obtain ⟨cells', hc', hv'⟩ := run_elems hl hk h4 _ _ hzc (by simp [hzs])
    simp only [Nat.zero_mul, List.take_zero, List.nil_append] at hv'
    have hcl : cells'.toList.length = xs.length * k := by rw [hv'.1]; exact flatMap_len hk xs
    have hmax : xs.length ≤ maxLen := by
      unfold maxLen
      rcases Nat.eq_zero_or_pos xs.length with h | h
      · omega
      · have : xs.length * 1 ≤ xs.length * k := Nat.mul_le_mul_left _ hk0
        omega
    obtain ⟨hmod, hrow⟩ := hm.rowNew (e := e) (xs := xs) (rest := []) hid hRm' hk hv' (cap := xs.length) (by rw [List.append_nil]; exact hcl) (Nat.le_refl _) hmax _ rfl
    refine wp_value (v := .slice (some ⟨W.heap.size, 0, none⟩) xs.length xs.length) (W' := W.alloc (.cells (cells'.toList ++ []).toArray e)) ?_ (h9 _ _ _ (le_bindC hid) (fun q _ hq => bind_ne _ _ _ _ _ (hq kk (by simp))) (hmod.congr (updR_new ..)) hrow)
    have hla : (l.toArray.map fun (i, x) => (i, a.eval x)).toList = l.map fun (i, x) => (i, a.eval x) := by simp
    simp only [execOp, Instr.buildSlice, Sem.run_bind, run_underlying (elem_of ht), Result.andThen_ok, run_sizeOf' hs]
    rw [show (2 : Nat) ^ 24 = 16777216 from rfl, if_neg (by omega)]
    by_cases h0 : xs.length * k = 0
    · have hr0 : (Array.range (xs.length * k)).map ((#[] : Array Value)[· % (#[] : Array Value).size]!) = (Array.range (xs.length * k)).map (z.cells[· % z.cells.size]!) := by simp [h0]
      simp only [if_pos h0, Sem.run_bind, Sem.run_pure, Result.andThen_ok, hr0, hla, hc', newRow]
      simp
    · simp only [if_neg h0, Sem.run_bind, run_zero hz, Sem.run_pure, Result.andThen_ok, hla, hc', newRow]
      simp
  rd := hl.rd
  use := by simp
  del := by simp
  add := by simpa using hm'
/-- the address of an element of a row -/
theorem op_index_row {x y : Operand} {i : Int} {j : Nat} {z : α} {ik : IntKind} {id : Id} (hx : opd F x = some (rowP id f k xs)) (hy : opd F y = some (eqP (.int ik i))) (ht : elemB P t = some e) (hs : sizeB P e = some k) (hi : i = (j : Int)) (hz : xs[j]? = some z) :
    OpJ P n N F R ⟨d, .indexAddr t x y, T, pos, after, none⟩ ⟨rdo x (rowP id f k xs) ++ rdo y (eqP (.int ik i)), [], [], [], [], cellsP (f z)⟩ :=
  opj2 hx hy fun σ W a h h4 => by
    obtain ⟨ad, cap, hv, h1, h2, h3⟩ := Ent.row id f k xs σ _ h
    have hj : j < xs.length := (List.getElem?_eq_some_iff.1 hz).1
    obtain ⟨b, off, rfl, hc⟩ := h3 (by omega)
    have e2 : a.eval y = .int ik i := h4
    refine ⟨.pointer (some ⟨b, off + j * k, none⟩), ?_, b, _, rfl, hc j z hz⟩
    subst hi
    simp [execOp, Instr.indexAt, e2, asIntOf, hv, run_underlying (elem_of ht), run_sizeOf' hs, hj, addr_add]
end
end Go.AL
