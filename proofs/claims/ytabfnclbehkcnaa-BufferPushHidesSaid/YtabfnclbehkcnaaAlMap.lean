/- Maps of the call's own, keyed by structs of plain leaves. -/
import Derived.Test.YtabfnclbehkcnaaAlArith
namespace Go.AL
open Go.RowKit

theorem run_checkKey_flat {P : Program} (em : Bool) : ∀ (d : Nat) (t : TypeId) (ls : List Leaf), leafK P d t = some ls → ∀ (e : Nat) (vs : List Value) (W : World), typedB ls vs = true →
    (Instr.checkKey em (d + e) t (pack P t vs)).run P W = .ok () W
  | 0, _, _, h, _, _, _, _ => by simp [leafK] at h
  | d + 1, t, ls, h, e, vs, W, h1 => by
    unfold leafK at h
    rw [show d + 1 + e = (d + e) + 1 by omega]
    split at h
    · rename_i k hu
      simp at h; subst h
      obtain ⟨v, rfl, hv⟩ := typedB_one h1
      cases v <;> simp only [Leaf.ok, Bool.false_eq_true] at hv
      have hp : aggB P t = some false := by simp [aggB, hu, isAggD]
      simp [pack, hp, Instr.checkKey, run_underlying hu]
    · rename_i hu
      simp at h; subst h
      obtain ⟨v, rfl, hv⟩ := typedB_one h1
      cases v <;> simp only [Leaf.ok, Bool.false_eq_true] at hv
      have hp : aggB P t = some false := by simp [aggB, hu, isAggD]
      simp [pack, hp, Instr.checkKey, run_underlying hu]
    · rename_i hu
      simp at h; subst h
      obtain ⟨v, rfl, hv⟩ := typedB_one h1
      cases v <;> simp only [Leaf.ok, Bool.false_eq_true] at hv
      have hp : aggB P t = some false := by simp [aggB, hu, isAggD]
      simp [pack, hp, Instr.checkKey, run_underlying hu]
    · rename_i fs hu
      split at h
      · simp at h
      · have hp : aggB P t = some true := by simp [aggB, hu, isAggD]
        simp only [pack, hp, if_true]
        have key : ∀ (l : List Field) (n : Nat) (ms : List Leaf), joinL (leafK P d) P l n = some ms → typedB ms (vs.drop n) = true → n ≤ vs.length →
            (forIn l PUnit.unit (fun f (_ : PUnit) => (if f.name ≠ "_" then (do
              let a ← part f.type vs.toArray f.offset
              Instr.checkKey em (d + e) f.type a
              pure (ForInStep.yield PUnit.unit)) else pure (ForInStep.yield PUnit.unit) : Sem (ForInStep PUnit)))).run P W = .ok PUnit.unit W := by
          intro l
          induction l with
          | nil => intro n ms _ _ _; simp
          | cons f l ih =>
            intro n ms hj t1 hn1
            unfold joinL at hj
            split at hj
            · rename_i l0 b0 k0 hl0 hb0 hk0
              split at hj
              · rename_i hc
                simp only [Bool.and_eq_true, bne_iff_ne, ne_eq] at hc
                obtain ⟨⟨hname, hoff⟩, hlen⟩ := hc
                have hoff := Nat.eq_of_beq_eq_true hoff
                have hlen := Nat.eq_of_beq_eq_true hlen
                cases hj2 : joinL (leafK P d) P l (n + l0.length) with
                | none => rw [hj2] at hj; simp at hj
                | some m2 =>
                  rw [hj2] at hj
                  simp at hj
                  subst hj
                  obtain ⟨a1, a2⟩ := typedB_append t1
                  have g1 := typedB_len t1
                  rw [List.length_drop, List.length_append] at g1
                  have h1k : b0 = false → k0 = 1 := fun hb => by subst hb; rw [hlen]; exact leaf_flat d f.type l0 hl0 hb0
                  have p1 := run_part (P := P) hb0 hk0 vs f.offset h1k (by rw [hoff, hlen]; omega) W
                  rw [hoff, hlen] at p1
                  have ihd := run_checkKey_flat em d f.type l0 hl0 e _ W a1
                  have ih2 := ih (n + l0.length) m2 hj2 (by rw [List.drop_drop] at a2; exact a2) (by omega)
                  simp only [List.forIn_cons, hname, not_false_eq_true, if_true, ne_eq, Sem.run_bind, hoff, p1, Result.andThen_ok, ihd, Sem.run_pure]
                  exact ih2
              · simp at hj
            · simp at hj
        have hk := key fs.toList 0 ls h (by simpa using h1) (Nat.zero_le _)
        simp only [Instr.checkKey, Sem.run_bind, run_underlying hu, Result.andThen_ok]
        rw [← Array.forIn_toList, hk]
        rfl
    · simp at h

/-! ### the entries -/
section
variable {α β : Type} {P : Program} {t : TypeId} {ls : List Leaf} {f : α → List Value} {g : β → Value}
def ents (f : α → List Value) (g : β → Value) (m : List (α × β)) : List (Value × Value) := m.map fun x => (.agg (f x.1).toArray, g x.2)
structure KeyOK (P : Program) (t : TypeId) (ls : List Leaf) (f : α → List Value) : Prop where
  agg : aggB P t = some true
  leaf : leafK P 8 t = some ls
  typed : ∀ a, typedB ls (f a) = true
  inj : ∀ a b, f a = f b → a = b
theorem KeyOK.check (h : KeyOK P t ls f) (em : Bool) (a : α) (W : World) : (Instr.checkKey em 10000 t (.agg (f a).toArray)).run P W = .ok () W := by
  have := run_checkKey_flat em 8 t ls h.leaf 9992 (f a) W (h.typed a)
  simp only [pack, h.agg, if_true] at this
  exact this
theorem KeyOK.struct (h : KeyOK P t ls f) : ∃ fs, P.underlying t = some (.struct fs) := by
  have h1 := h.leaf
  have h2 := h.agg
  unfold leafK at h1
  unfold aggB at h2
  split at h1
  · rename_i hu; rw [hu] at h2; simp [isAggD] at h2
  · rename_i hu; rw [hu] at h2; simp [isAggD] at h2
  · rename_i hu; rw [hu] at h2; simp [isAggD] at h2
  · rename_i fs hu; exact ⟨fs, hu⟩
  · simp at h1
end
section
variable {α β : Type} [DecidableEq α] {P : Program} {t : TypeId} {ls : List Leaf} {f : α → List Value} {g : β → Value}
theorem KeyOK.eq (h : KeyOK P t ls f) (a b : α) (W : World) : (Op.equal t (.agg (f a).toArray) (.agg (f b).toArray)).run P W = .ok (decide (b = a)) W := by
  have := run_equal_flat 8 t ls h.leaf 9992 (f a) (f b) W (h.typed a) (h.typed b)
  simp only [pack, h.agg, if_true] at this
  refine this.trans ?_
  congr 1
  exact decide_eq_decide.mpr ⟨fun e => (h.inj _ _ e).symm, fun e => by rw [e]⟩
theorem run_findAsking (h : KeyOK P t ls f) (a : α) (W : World) : ∀ (es : List MapEntry) (m : List (α × β)) (i : Nat), es.map (fun e => (e.key, e.val)) = ents f g m →
    ∃ r : Option (Nat × Value), (Instr.findAsking t (.agg (f a).toArray) es i).run P W = .ok r W ∧ r.map (·.2) = (m.find? fun x => decide (x.1 = a)).map fun x => g x.2
  | [], [], i, _ => ⟨none, rfl, rfl⟩
  | [], _ :: _, _, h => by simp [ents] at h
  | _ :: _, [], _, h => by simp [ents] at h
  | e :: es, x :: m, i, hm => by
    simp only [ents, List.map_cons, List.cons.injEq, Prod.mk.injEq] at hm
    obtain ⟨⟨h1, h2⟩, h3⟩ := hm
    have he := h.eq a x.1 W
    rw [← h1] at he
    by_cases hx : x.1 = a
    · refine ⟨some (i, e.val), ?_, ?_⟩
      · simp only [Instr.findAsking, Sem.run_bind, he, Result.andThen_ok, hx, decide_true, if_true, Sem.run_pure]
      · simp [hx, h2]
    · obtain ⟨r, hr, hv⟩ := run_findAsking h a W es m (i + 1) h3
      refine ⟨r, ?_, ?_⟩
      · simp only [Instr.findAsking, Sem.run_bind, he, Result.andThen_ok, hx, decide_false, Bool.false_eq_true, if_false, hr]
      · simpa [List.find?_cons, hx] using hv
theorem run_findKey (h : KeyOK P t ls f) (a : α) (W : World) (es : List MapEntry) (m : List (α × β)) (hm : es.map (fun e => (e.key, e.val)) = ents f g m) :
    ∃ r : Option (Nat × Value), (Instr.findKey t (.agg (f a).toArray) es).run P W = .ok r W ∧ r.map (·.2) = (m.find? fun x => decide (x.1 = a)).map fun x => g x.2 := by
  obtain ⟨fs, hu⟩ := h.struct
  cases es with
  | nil =>
    cases m with
    | nil => exact ⟨none, by simp [Instr.findKey, run_underlying hu, Instr.findNow], rfl⟩
    | cons x m => simp [ents] at hm
  | cons e es =>
    obtain ⟨r, hr, hv⟩ := run_findAsking h a W (e :: es) m 0 hm
    refine ⟨r, ?_, hv⟩
    have hs : Instr.sameNow (.struct fs) (.agg (f a).toArray) e.key = none := by cases e.key <;> rfl
    simp only [Instr.findKey, Sem.run_bind, run_underlying hu, Result.andThen_ok, Instr.findNow, hs, hr]
end
end Go.AL
namespace Go.AL
open Go.RowKit
/-! ### maps as blocks of the call's own -/
def mapP (id : Id) : Pred := ⟨fun σ v => ∃ b, σ.ρ id = some (some b) ∧ v = .map (some b), fun _ _ _ hle ⟨b, hb, hv⟩ => ⟨b, hle.ρ _ _ hb, hv⟩⟩
theorem One.map (id : Id) : One (mapP id) := fun _ _ ⟨_, _, h⟩ => by subst h; rfl
def mapR {α β : Type} (f : α → List Value) (g : β → Value) (m : List (α × β)) : Res :=
  ⟨fun _ _ _ o => ∃ es clock, o = .map es clock ∧ es.toList.map (fun e => (e.key, e.val)) = ents f g m, fun _ _ _ _ _ _ _ _ h => h⟩
theorem Ren.map {α β : Type} (f : α → List Value) (g : β → Value) (m : List (α × β)) : Ren mapP (mapR f g m) where
  p := by
    rintro σ id id' v h1 h2 ⟨b, hb, hv⟩
    exact ⟨b, by rw [h1]; exact hb, hv⟩
  r := fun _ _ _ _ _ _ _ h => h
def mapB (P : Program) (t : TypeId) : Option (TypeId × TypeId) := match P.underlying t with | some (.map k e) => some (k, e) | _ => none
theorem map_of {P : Program} {t k e : TypeId} (h : mapB P t = some (k, e)) : P.underlying t = some (.map k e) := by
  unfold mapB at h
  split at h
  · rename_i hu; simp at h; rw [hu, h.1, h.2]
  · cases h

/-- an object of the call's own that is no cells is put anew -/
theorem Models.putMap {σ : Sg} {R : Toks} {W : World} {id : Id} {m b : Nat} {r r' : Res} {es : Array MapEntry} {clock : Nat} {o' : Obj} (h : Models σ R W) (hRm : R m = some (id, r)) (hb : σ.ρ id = some (some b)) (ho : W.heap[b]? = some (.map es clock)) (hr : r'.h σ id b o') :
    Models σ (fun q => if q = m then some (id, r') else R q) { W with heap := W.heap.setIfInBounds b o' } := by
  have hlt : b < W.heap.size := (Array.getElem?_eq_some_iff.1 ho).1
  have hother : ∀ k, k ≠ b → (W.heap.setIfInBounds b o')[k]? = W.heap[k]? := fun k hk => Array.getElem?_setIfInBounds_ne (fun e => hk e.symm)
  have hne : ∀ q x, q ≠ m → R q = some x → x.1 ≠ id := by
    intro q x hq hx e
    have := h.sep m q _ x b (fun e => hq e.symm) hRm hx hb
    rw [e] at this
    exact this hb
  have hge := (h.res m id _ hRm b hb).1
  refine h.move (Le.refl σ) m id _ (fun _ _ => rfl) (by rw [hb]; simp) (.inr ⟨_, hRm⟩) hne ⟨rfl, rfl, rfl, by simp, fun k hk => hother k (by omega)⟩ ?_ ?_ ?_ ?_
  · intro q x b' hq hx hb'
    refine ⟨hother b' fun e => ?_, fun _ => rfl⟩
    subst e
    exact h.sep m q _ x b' (fun e => hq e.symm) hRm hx hb hb'
  · intro b' i v hv
    have hi := h.imm b' i v hv
    have hbb : b' ≠ b := fun e => by
      subst e
      simp [World.cell?, ho] at hi
    rw [World.cell?_of_block (w := W) (a := ⟨b', i, none⟩) (hother b' hbb)]
    exact hi
  · intro b' hb'
    rw [hb] at hb'
    simp only [Option.some.injEq] at hb'
    subst hb'
    exact ⟨hge, o', by simp [hlt], hr⟩
  · intro q x b' hq hx hb' hxb
    exact h.sep q m x _ b' hq hx hRm hxb hb'

section
variable {P : Program} {n N : Nat} {F : Fr} {R : Toks} {d : Option Nat} {T t K E : TypeId} {pos : String} {after : Array Edge} {α β : Type}
theorem op_makeMap {x : Operand} {ik : IntKind} {u : Int} {m' kk : Nat} (f : α → List Value) (g : β → Value) (hx : opd F x = some (eqP (.int ik u))) (ht : mapB P t = some (K, E)) (hm' : R m' = none) :
    OpJ P n N F R ⟨d, .makeMap t (some x), T, pos, after, none⟩ ⟨rdo x (eqP (.int ik u)), [], [], [(m', ((N, kk), mapR f g []))], [kk], mapP (N, kk)⟩ where
  loc := by
    intro σ W R a K hm h2 h3 h4 h5 h6 h7 h8 h9 Q
    have hid := h8 kk (by simp)
    have hRm' : R m' = none := by have h := h7 (m', ((N, kk), mapR f g [])) (by simp); simpa using h
    have hv : a.eval x = .int ik u := holds_of hx h4
    have hmod := hm.alloc (id := (N, kk)) (z := 0) (n := m') (r := mapR f g []) (o := .map #[] 0) hid hRm' ⟨#[], 0, rfl, rfl⟩
    refine wp_value (v := .map (some W.heap.size)) (W' := W.alloc (.map #[] 0)) ?_ (h9 _ _ _ (le_bind hid) keep_bind (hmod.congr (updR_new ..)) ⟨_, bind_at .., rfl⟩)
    simp [execOp, Instr.makeMap, run_underlying (map_of ht), hv, asInt, asIntOf, newObj, Sem.run]
  rd := rd_of hx
  use := by simp
  del := by simp
  add := by simpa using hm'

end
section
variable {P : Program} {n N : Nat} {F : Fr} {R : Toks} {d : Option Nat} {T t K E : TypeId} {pos : String} {after : Array Edge} {α β : Type} [DecidableEq α] {f : α → List Value} {g : β → Value} {mm : List (α × β)} {ls : List Leaf} {id : Id} {m : Nat}
def found (mm : List (α × β)) (a : α) : Option (α × β) := mm.find? fun x => decide (x.1 = a)
theorem op_lookup {x y : Operand} {a : α} {z : Value} (hk : KeyOK P K ls f) (hx : opd F x = some (mapP id)) (hy : opd F y = some (aggP (vsP (f a)))) (hR : R m = some (id, mapR f g mm)) (ht : mapB P t = some (K, E)) (hz : zeroB P E = some (some z)) :
    OpJ P n N F R ⟨d, .lookup t x y true, T, pos, after, none⟩ ⟨rdo x (mapP id) ++ rdo y (aggP (vsP (f a))), [(m, id, mapR f g mm)], [], [], [], tupP [eqP (((found mm a).map fun x => g x.2).getD z), eqP (.bool (found mm a).isSome)]⟩ :=
  opj_read (rd_app (rd_of hx) (rd_of hy)) (by simpa using hR) fun σ W R ac hm hr hu => by
    obtain ⟨b, hb, hv⟩ := holds_of hx fun w hw => hr w (List.mem_append_left _ hw)
    have hyv := agg_exact (holds_of hy fun w hw => hr w (List.mem_append_right _ hw))
    obtain ⟨_, o, ho, es, clock, rfl, hes⟩ := hm.res m id _ (hu _ (List.mem_cons_self ..)) b hb
    obtain ⟨r, hfk, hrv⟩ := run_findKey hk a W es.toList mm hes
    have hgo : (getObj b).run P W = .ok (.map es clock) W := by simp [getObj, Sem.run, ho]
    have hck := hk.check es.isEmpty a W
    refine ⟨.tuple #[((found mm a).map fun x => g x.2).getD z, .bool (found mm a).isSome], ?_, [_, _], rfl, rfl, ?_⟩
    · cases r with
      | none =>
        have hn : found mm a = none := by
          cases hq : found mm a with
          | none => rfl
          | some w => unfold found at hq; rw [hq] at hrv; cases hrv
        simp only [execOp, Instr.lookup, Sem.run_bind, run_underlying (map_of ht), Result.andThen_ok, hv, hyv, hgo, Sem.run_pure, hck, hfk, run_zero hz, hn, if_true, Option.map_none, Option.getD_none, Option.isSome_none]
      | some w =>
        obtain ⟨q, hq, hg⟩ : ∃ q, found mm a = some q ∧ w.2 = g q.2 := by
          cases hq : found mm a with
          | none => unfold found at hq; rw [hq] at hrv; cases hrv
          | some q => unfold found at hq; rw [hq] at hrv; simp at hrv; exact ⟨q, rfl, hrv⟩
        obtain ⟨w1, w2⟩ := w
        simp only at hg
        simp only [execOp, Instr.lookup, Sem.run_bind, run_underlying (map_of ht), Result.andThen_ok, hv, hyv, hgo, Sem.run_pure, hck, hfk, hq, if_true, Option.map_some, Option.getD_some, Option.isSome_some, hg]
    · intro j p u hp hu'
      match j with
      | 0 => simp at hp hu'; subst hp; subst hu'; rfl
      | 1 => simp at hp hu'; subst hp; subst hu'; rfl
      | j + 2 => simp at hp

/-- a new entry -/
theorem op_mapUpdate {x y w : Operand} {a : α} {b : β} (hk : KeyOK P K ls f) (hx : opd F x = some (mapP id)) (hy : opd F y = some (aggP (vsP (f a)))) (hw : opd F w = some (eqP (g b))) (hR : R m = some (id, mapR f g mm)) (ht : mapB P t = some (K, E)) (hn : found mm a = none) :
    OpJ P n N F R ⟨none, .mapUpdate t x y w, T, pos, after, none⟩ ⟨rdo x (mapP id) ++ (rdo y (aggP (vsP (f a))) ++ rdo w (eqP (g b))), [], [(m, id, mapR f g mm)], [(m, id, mapR f g (mm ++ [(a, b)]))], [], eqP undef⟩ where
  loc := by
    intro σ W R ac K' hm h2 h3 h4 h5 h6 h7 h8 h9 Q
    obtain ⟨bb, hb, hv⟩ := holds_of hx fun q hq => h4 q (List.mem_append_left _ hq)
    have hyv := agg_exact (holds_of hy fun q hq => h4 q (List.mem_append_right _ (List.mem_append_left _ hq)))
    have hwv : ac.eval w = g b := holds_of hw fun q hq => h4 q (List.mem_append_right _ (List.mem_append_right _ hq))
    have hRm := h6 _ (List.mem_cons_self ..)
    obtain ⟨_, o, ho, es, clock, rfl, hes⟩ := hm.res m id _ hRm bb hb
    obtain ⟨r, hfk, hrv⟩ := run_findKey hk a W es.toList mm hes
    have hr0 : r = none := by
      cases r with
      | none => rfl
      | some q => unfold found at hn; rw [hn] at hrv; cases hrv
    subst hr0
    have hgo : (getObj bb).run P W = .ok (.map es clock) W := by simp [getObj, Sem.run, ho]
    have hck := hk.check false a W
    have hset : ∀ o', (setObj bb o').run P W = .ok () { W with heap := W.heap.setIfInBounds bb o' } := fun o' => by simp [setObj, Sem.run, ho]
    have hmod := hm.putMap (r' := mapR f g (mm ++ [(a, b)])) (o' := .map (es.push { key := .agg (f a).toArray, val := g b, born := clock }) (clock + 1)) hRm hb ho ⟨_, _, rfl, by simp [ents] at hes ⊢; exact hes⟩
    refine wp_done (W' := { W with heap := W.heap.setIfInBounds bb (.map (es.push { key := .agg (f a).toArray, val := g b, born := clock }) (clock + 1)) }) ?_ (h9 σ _ undef (Le.refl σ) (fun _ _ _ => rfl) (hmod.congr (updR_turn ..)) rfl)
    simp only [execOp, Instr.mapUpdate, Sem.run_bind, run_underlying (map_of ht), Result.andThen_ok, hv, hyv, hwv, hgo, hck, hfk, hset, Sem.run_pure]
  rd := rd_app (rd_of hx) (rd_app (rd_of hy) (rd_of hw))
  use := by simp
  del := by simpa using hR
  add := by simp
end
end Go.AL
