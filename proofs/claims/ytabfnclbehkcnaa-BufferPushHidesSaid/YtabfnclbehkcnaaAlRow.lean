/- Contracts with blocks handed over; calls of them; function values. -/
import Derived.Test.YtabfnclbehkcnaaAlEq
namespace Go.AL
open Go.RowKit

/-! ### a call of any contract -/
def nodupN (l : List (Nat × Id × Res)) : Bool := nodupB (l.map (·.1))

theorem nodup_inj {α : Type} {l : List α} (h : l.Nodup) {i j : Nat} (hi : i < l.length) (hj : j < l.length) (e : l[i] = l[j]) : i = j := by
  have hp := List.pairwise_iff_getElem.1 h
  rcases Nat.lt_trichotomy i j with h1 | h1 | h1
  · exact absurd e (hp i j hi hj h1)
  · exact h1
  · exact absurd e.symm (hp j i hj hi h1)

section
variable {P : Program} {n N : Nat} {F : Fr} {R : Toks} {d : Option Nat} {T : TypeId} {pos : String} {after : Array Edge}

theorem opj_enter {o : Oper} {f : FuncId} {pre : List Pred} {k : Nat} {post : (Nat → Id) → Pred} {prod : (Nat → Id) → List (Id × Res)} {rd : List (Nat × Pred)} {del add : List (Nat × Id × Res)} {ks : List Nat}
    (hc : FnOK P f pre (del.map (·.2)) k post prod) (hk : ks.length = k) (hprod : prod (fun j => (N, ks.getD j 0)) = add.map (·.2)) (hnd : (nodupN del && nodupN add && nodupB ks && Nat.ble add.length 1000000) = true)
    (hrd : ∀ y ∈ rd, lk F y.1 = some y.2) (hdel : ∀ x ∈ del, R x.1 = some x.2) (hadd : ∀ x ∈ add, R x.1 = none ∨ del.any (fun y => y.1 == x.1) = true)
    (hrun : ∀ (σ : Sg) (W : World) (a : Act), (∀ y ∈ rd, y.2.h σ (a.tmps.getD y.1 undef)) → ∃ args : Array Value, (execOp a.eval o).run P W = .ok (.enter f args) W ∧ args.size = pre.length ∧ ∀ (i : Nat) (p : Pred), pre[i]? = some p → p.h σ (args.getD i undef)) :
    OpJ P n N F R o ⟨rd, [], del, add, ks, post (fun j => (N, ks.getD j 0))⟩ where
  loc := by
    intro σ W R a K hm h2 h3 h4 h5 h6 h7 h8 h9 Q
    obtain ⟨args, hex, hsz, hargs⟩ := hrun σ W a h4
    refine upon_call hex ?_
    simp only [Bool.and_eq_true] at hnd
    obtain ⟨⟨⟨hd1, hd2⟩, hd3⟩, hd4⟩ := hnd
    have hd4 := Nat.le_of_ble_eq_true hd4
    have hks := nodup_of hd3
    obtain ⟨M, hNM, hM⟩ := fresh_M hm N
    have := hc σ W (fun m => if m < 1000000 then (del.map (·.2))[m]? else if del.any (fun y => y.1 == m - 1000000) then none else R (m - 1000000)) args (fun j => (N, ks.getD j 0)) M
      (hm.reindex (fun m => if m < 1000000 then ((del.map (·.1))[m]?).getD 0 else m - 1000000) ?_ ?_)
      (fun m hm' => by simp [hm']) hM
      (fun j hj => ⟨hNM, h8 _ (by
        have : j < ks.length := by omega
        simp [List.getD, List.getElem?_eq_getElem this])⟩)
      (fun i j hi hj e => by
        have hi' : i < ks.length := by omega
        have hj' : j < ks.length := by omega
        simp only [Prod.mk.injEq, true_and, List.getD, List.getElem?_eq_getElem hi', List.getElem?_eq_getElem hj', Option.getD_some] at e
        exact nodup_inj hks hi' hj' e) hsz hargs
    · refine this.mono ?_
      rintro e W' ⟨v, σ', rfl, hle, hkeep, hmod, hpost⟩
      refine ⟨v, rfl, h9 σ' W' v hle ?_ ?_ hpost⟩
      · intro id hid hne
        refine hkeep id (by omega) (fun j hj e => ?_)
        have : j < ks.length := by omega
        exact hne _ (List.getElem_mem this) (by simpa [List.getD, List.getElem?_eq_getElem this] using e)
      · rw [hprod] at hmod
        refine hmod.reindex (fun m => match add.findIdx? (fun y => y.1 == m) with | some j => j | none => m + 1000000) ?_ ?_
        · intro x y hxy _ _ e
          cases hx : add.findIdx? (fun z => z.1 == x) with
          | some i =>
            rw [hx] at e
            obtain ⟨hi, hxi, _⟩ := List.findIdx?_eq_some_iff_getElem.1 hx
            cases hy : add.findIdx? (fun z => z.1 == y) with
            | some j =>
              rw [hy] at e
              simp only at e
              subst e
              obtain ⟨hj, hyj, _⟩ := List.findIdx?_eq_some_iff_getElem.1 hy
              simp at hxi hyj
              omega
            | none => rw [hy] at e; simp only at e; omega
          | none =>
            rw [hx] at e
            cases hy : add.findIdx? (fun z => z.1 == y) with
            | some j =>
              rw [hy] at e
              obtain ⟨hj, _, _⟩ := List.findIdx?_eq_some_iff_getElem.1 hy
              simp only at e
              omega
            | none => rw [hy] at e; simp only at e; omega
        · intro m x hx
          simp only [updR] at hx
          cases hf : add.findIdx? (fun z => z.1 == m) with
          | some j =>
            obtain ⟨hj, hmj, hlt⟩ := List.findIdx?_eq_some_iff_getElem.1 hf
            have hfind : add.find? (fun z => z.1 == m) = some add[j] := by
              rw [List.find?_eq_some_iff_getElem]
              exact ⟨hmj, j, hj, rfl, fun i hi => by simpa using hlt i hi⟩
            rw [hfind] at hx
            simp only at hx ⊢
            rw [if_pos (by omega)]
            simpa [List.getElem?_eq_getElem hj] using hx
          | none =>
            have hfind : add.find? (fun z => z.1 == m) = none := by
              rw [List.find?_eq_none]
              intro z hz
              have := List.findIdx?_eq_none_iff.1 hf z hz
              simpa using this
            rw [hfind] at hx
            have e9 : ¬ m + 1000000 < 1000000 := by omega
            have e8 : m + 1000000 - 1000000 = m := by omega
            generalize hM0 : m + 1000000 = M0 at e9 e8 ⊢
            simp only [e9, if_false, e8]
            exact hx
    · intro x y hxy hx hy
      by_cases h1 : x < 1000000
      · rw [if_pos h1] at hx
        have hx' : x < del.length := by
          cases hg : (del.map (·.2))[x]? with
          | none => exact absurd hg hx
          | some z => simpa using (List.getElem?_eq_some_iff.1 hg).1
        by_cases h2 : y < 1000000
        · rw [if_pos h2] at hy
          have hy' : y < del.length := by
            cases hg : (del.map (·.2))[y]? with
            | none => exact absurd hg hy
            | some z => simpa using (List.getElem?_eq_some_iff.1 hg).1
          simp only [h1, h2, if_true, List.getElem?_map, List.getElem?_eq_getElem hx', List.getElem?_eq_getElem hy', Option.map_some, Option.getD_some]
          intro e
          have hnd := nodup_of hd1
          have := nodup_inj hnd (i := x) (j := y) (by simpa using hx') (by simpa using hy') (by simpa using e)
          exact hxy this
        · rw [if_neg h2] at hy
          simp only [h1, h2, if_true, if_false, List.getElem?_map, List.getElem?_eq_getElem hx', Option.map_some, Option.getD_some]
          intro e
          split at hy
          · exact hy rfl
          · rename_i hno
            exact hno (List.any_eq_true.2 ⟨del[x], List.getElem_mem hx', by simp [e]⟩)
      · by_cases h2 : y < 1000000
        · rw [if_pos h2] at hy
          rw [if_neg h1] at hx
          have hy' : y < del.length := by
            cases hg : (del.map (·.2))[y]? with
            | none => exact absurd hg hy
            | some z => simpa using (List.getElem?_eq_some_iff.1 hg).1
          simp only [h1, h2, if_true, if_false, List.getElem?_map, List.getElem?_eq_getElem hy', Option.map_some, Option.getD_some]
          intro e
          split at hx
          · exact hx rfl
          · rename_i hno
            exact hno (List.any_eq_true.2 ⟨del[y], List.getElem_mem hy', by simp [e]⟩)
        · simp only [h1, h2, if_false]
          omega
    · intro m x hx
      by_cases h1 : m < 1000000
      · rw [if_pos h1] at hx ⊢
        have hx' : m < del.length := by simpa using (List.getElem?_eq_some_iff.1 hx).1
        simp only [List.getElem?_map, List.getElem?_eq_getElem hx', Option.map_some, Option.getD_some, Option.some.injEq] at hx ⊢
        rw [← hx]
        exact h6 _ (List.getElem_mem hx')
      · rw [if_neg h1] at hx ⊢
        split at hx
        · cases hx
        · exact hx
  rd := hrd
  use := by simp
  del := hdel
  add := hadd

def tokB (R : Toks) (l : List (Nat × Id × Res)) : Prop := ∀ x ∈ l, R x.1 = some x.2

/-- **a call of a function, blocks handed over and taken back** -/
theorem op_callG {f : FuncId} {l : List Operand} {ts : Array TypeId} {pre : List Pred} {k : Nat} {post : (Nat → Id) → Pred} {prod : (Nat → Id) → List (Id × Res)} {rd : List (Nat × Pred)} {del add : List (Nat × Id × Res)} {ks : List Nat}
    (hc : FnOK P f pre (del.map (·.2)) k post prod) (hargs : Args F l pre rd) (hf : fnB P f = true) (hk : ks.length = k) (hprod : prod (fun j => (N, ks.getD j 0)) = add.map (·.2)) (hnd : (nodupN del && nodupN add && nodupB ks && Nat.ble add.length 1000000) = true)
    (hdel : ∀ x ∈ del, R x.1 = some x.2) (hadd : ∀ x ∈ add, R x.1 = none ∨ del.any (fun y => y.1 == x.1) = true) :
    OpJ P n N F R ⟨d, .call { callee := .value (.func f), args := l.toArray, argTypes := ts }, T, pos, after, none⟩ ⟨rd, [], del, add, ks, post (fun j => (N, ks.getD j 0))⟩ :=
  opj_enter hc hk hprod hnd hargs.rd hdel hadd fun σ W a hr => by
    obtain ⟨h10, h11⟩ := args_ok hargs hr
    exact ⟨_, run_call_func rfl hf a W, h10, h11⟩

/-! ### function values -/
def Vals (σ : Sg) (ps : List Pred) (vs : List Value) : Prop := vs.length = ps.length ∧ ∀ (j : Nat) (p : Pred) (u : Value), ps[j]? = some p → vs[j]? = some u → p.h σ u
theorem Vals.mono {σ τ : Sg} {ps : List Pred} {vs : List Value} (h : Vals σ ps vs) (hle : Le σ τ) : Vals τ ps vs := ⟨h.1, fun j p u hp hu => p.m _ _ _ hle (h.2 j p u hp hu)⟩
theorem Vals.append {σ : Sg} {ps qs : List Pred} {vs us : List Value} (h : Vals σ ps vs) (k : Vals σ qs us) : Vals σ (ps ++ qs) (vs ++ us) := by
  refine ⟨by simp [h.1, k.1], fun j p u hp hu => ?_⟩
  by_cases hj : j < ps.length
  · rw [List.getElem?_append_left hj] at hp
    rw [List.getElem?_append_left (by rw [h.1]; exact hj)] at hu
    exact h.2 j p u hp hu
  · rw [List.getElem?_append_right (by omega)] at hp
    rw [List.getElem?_append_right (by rw [h.1]; omega)] at hu
    rw [h.1] at hu
    exact k.2 _ p u hp hu
/-- a function with its receiver (or none) and what it has captured -/
def clP (f : FuncId) (first caps : List Pred) : Pred :=
  ⟨fun σ v => ∃ fs cs : List Value, v = .func (.func f) fs.toArray cs.toArray ∧ Vals σ first fs ∧ Vals σ caps cs, fun _ _ _ hle ⟨fs, cs, hv, h1, h2⟩ => ⟨fs, cs, hv, h1.mono hle, h2.mono hle⟩⟩
theorem Ent.func (f : FuncId) : Ent (eqP (.func (.func f) #[] #[])) (clP f [] []) := fun _ _ h => ⟨[], [], h, ⟨rfl, by simp⟩, ⟨rfl, by simp⟩⟩
theorem One.cl (f : FuncId) (a b : List Pred) : One (clP f a b) := fun _ _ ⟨_, _, h, _⟩ => by subst h; rfl
theorem Args.vals {F : Fr} {l : List Operand} {ps : List Pred} {rd : List (Nat × Pred)} (h : Args F l ps rd) {σ : Sg} {a : Act} (hr : ∀ y ∈ rd, y.2.h σ (a.tmps.getD y.1 undef)) : Vals σ ps (l.map a.eval) := by
  refine ⟨by simp [h.len], fun j p u hp hu => ?_⟩
  have := h.holds hr j p hp
  rw [hu] at this
  exact this

theorem op_makeFunc {f : FuncId} {bs cs : List Operand} {ps qs : List Pred} {r1 r2 : List (Nat × Pred)} (hb : Args F bs ps r1) (hc : Args F cs qs r2) :
    OpJ P n N F R ⟨d, .makeFunc (.func f) bs.toArray cs.toArray, T, pos, after, none⟩ ⟨r1 ++ r2, [], [], [], [], clP f ps qs⟩ :=
  opj_pure (rd_app hb.rd hc.rd) fun σ W a hr => ⟨.func (.func f) (bs.map a.eval).toArray (cs.map a.eval).toArray, by
    simp [execOp, Instr.makeFunc], _, _, rfl, hb.vals fun z hz => hr z (List.mem_append_left _ hz), hc.vals fun z hz => hr z (List.mem_append_right _ hz)⟩

theorem vals_args {σ : Sg} {ps : List Pred} {vs : List Value} (h : Vals σ ps vs) : vs.toArray.size = ps.length ∧ ∀ (i : Nat) (p : Pred), ps[i]? = some p → p.h σ (vs.toArray.getD i undef) := by
  refine ⟨by simp [h.1], fun i p hp => ?_⟩
  have hlt : i < vs.length := by rw [h.1]; exact (List.getElem?_eq_some_iff.1 hp).1
  have := h.2 i p _ hp (List.getElem?_eq_getElem hlt)
  simpa [Array.getD, hlt] using this

/-- **a call of a function value** -/
theorem op_callVG {f : FuncId} {x : Operand} {l : List Operand} {ts : Array TypeId} {first pre caps : List Pred} {k : Nat} {post : (Nat → Id) → Pred} {prod : (Nat → Id) → List (Id × Res)} {rd : List (Nat × Pred)} {del add : List (Nat × Id × Res)} {ks : List Nat}
    (hx : opd F x = some (clP f first caps)) (hc : FnOK P f (first ++ pre ++ caps) (del.map (·.2)) k post prod) (hargs : Args F l pre rd) (hf : fnB P f = true) (hk : ks.length = k) (hprod : prod (fun j => (N, ks.getD j 0)) = add.map (·.2))
    (hnd : (nodupN del && nodupN add && nodupB ks && Nat.ble add.length 1000000) = true)
    (hdel : ∀ x ∈ del, R x.1 = some x.2) (hadd : ∀ x ∈ add, R x.1 = none ∨ del.any (fun y => y.1 == x.1) = true) :
    OpJ P n N F R ⟨d, .call { callee := .value x, args := l.toArray, argTypes := ts }, T, pos, after, none⟩ ⟨rdo x (clP f first caps) ++ rd, [], del, add, ks, post (fun j => (N, ks.getD j 0))⟩ :=
  opj_enter hc hk hprod hnd (rd_app (rd_of hx) hargs.rd) hdel hadd fun σ W a hr => by
    obtain ⟨fs, cs, hv, h1, h2⟩ := holds_of hx fun z hz => hr z (List.mem_append_left _ hz)
    have h3 := (h1.append (hargs.vals fun z hz => hr z (List.mem_append_right _ hz))).append h2
    obtain ⟨h10, h11⟩ := vals_args h3
    exact ⟨_, run_call_value rfl hf a hv W, h10, h11⟩
theorem op_callV {f : FuncId} {x : Operand} {l : List Operand} {ts : Array TypeId} {first pre caps : List Pred} {post : Pred} {rd : List (Nat × Pred)}
    (hx : opd F x = some (clP f first caps)) (hc : FnP P f (first ++ pre ++ caps) post) (hargs : Args F l pre rd) (hf : fnB P f = true) :
    OpJ P n N F R ⟨d, .call { callee := .value x, args := l.toArray, argTypes := ts }, T, pos, after, none⟩ ⟨rdo x (clP f first caps) ++ rd, [], [], [], [], post⟩ :=
  op_callVG (del := []) (add := []) (ks := []) hx hc hargs hf rfl rfl rfl (by simp) (by simp)
end

/-! ### a block handed to the caller -/
structure Ren (post : Id → Pred) (r : Res) : Prop where
  p : ∀ (σ : Sg) (id id' : Id) (v : Value), σ.ρ id' = σ.ρ id → σ.z id' = σ.z id → (post id).h σ v → (post id').h σ v
  r : ∀ (σ : Sg) (id id' : Id) (b : Nat) (o : Obj), σ.ρ id' = σ.ρ id → σ.z id' = σ.z id → r.h σ id b o → r.h σ id' b o

def Fn1 (P : Program) (f : FuncId) (pre : List Pred) (post : Id → Pred) (r : Res) : Prop := FnOK P f pre [] 1 (fun ι => post (ι 0)) (fun ι => [(ι 0, r)])
def Owes1 (C : Cx) (R : Ending → World → Prop) (post : Id → Pred) (r : Res) : Prop :=
  ∀ v W σ id, Le C.σ0 σ → KeepB C σ → Models σ (fun n => if n = 0 then some (id, r) else if n < 1000000 then none else C.Rf n) W → (post id).h σ v → R (.returned v) W

theorem fn_own {P : Program} {f : FuncId} {fn : Func} {c : Code} {pre : List Pred} {post : Id → Pred} {r : Res} {n : Nat} (hren : Ren post r) (hf : P.funcs[f]? = some fn) (hb : fn.body = some c) (hn : fn.ntmps = n) (hl : Nat.ble pre.length n = true)
    (h : ∀ (σ0 : Sg) (M : Nat) (Rf : Toks) (R : Ending → World → Prop), CxOK ⟨σ0, M, [], Rf, n⟩ → Owes1 ⟨σ0, M, [], Rf, n⟩ R post r → Tr P ⟨σ0, M, [], Rf, n⟩ c (frameOf 0 pre) [] (bodyPost P fn R)) : Fn1 P f pre post r := by
  intro σ W R args ι M hmod hR hM hι _ hsz hargs
  have hl' := Nat.le_of_ble_eq_true hl
  refine calls_of_wp hf hb ?_
  refine h σ M (fun m => if m < 1000000 then none else R m) _ ⟨fun m hm => by simp [hm]⟩ ?_ _ W ⟨σ, Le.refl σ, fun _ _ _ => rfl, ?_⟩
  · intro v W' σ' id hle hkeep hmod' hpost
    obtain ⟨hx1, hx2⟩ := hι 0 (by omega)
    have hx : σ'.ρ (ι 0) = none := by rw [hkeep (ι 0) hx1 (by simp)]; exact hx2
    have hu : σ'.ρ id ≠ none := hmod'.used 0 (id, r) (by simp)
    obtain ⟨ob, hob⟩ : ∃ ob, σ'.ρ id = some ob := Option.ne_none_iff_exists'.1 hu
    have hne : id ≠ ι 0 := fun e => by rw [e] at hob; rw [hob] at hx; cases hx
    have hle2 : Le σ' (bind σ' (ι 0) ob (σ'.z id)) := le_bind hx
    have e1 : (bind σ' (ι 0) ob (σ'.z id)).ρ (ι 0) = (bind σ' (ι 0) ob (σ'.z id)).ρ id := by rw [bind_at, bind_ne _ _ _ _ _ hne, hob]
    have e2 : (bind σ' (ι 0) ob (σ'.z id)).z (ι 0) = (bind σ' (ι 0) ob (σ'.z id)).z id := by rw [bind_z]; simp [bind, hne]
    refine ⟨v, bind σ' (ι 0) ob (σ'.z id), rfl, hle.trans hle2, ?_, ?_, hren.p _ id (ι 0) v e1 e2 ((post id).m _ _ _ hle2 hpost)⟩
    · intro i hi hne'
      rw [bind_ne _ _ _ _ _ (hne' 0 (by omega))]
      exact hkeep i hi (by simp)
    · have hm1 : Models σ' (fun n => if n = 0 then none else if n < 1000000 then none else R n) W' := hmod'.sub fun m x hx => by
        by_cases h0 : m = 0
        · simp [h0] at hx
        · simp only [h0, if_false] at hx ⊢
          split at hx
          · cases hx
          · rename_i hm; simp only [hm, if_false]; exact hx
      have hm2 := hm1.move (W' := W') hle2 0 (ι 0) r (fun i hi => bind_ne _ _ _ _ _ hi) (by rw [bind_at]; simp) (.inl (by simp)) ?_ (Below.refl _ _) (fun m x b _ _ _ => ⟨rfl, fun _ => rfl⟩) (fun b i v hv => hm1.imm b i v hv) ?_ ?_
      · refine hm2.congr ?_
        funext m
        by_cases h0 : m = 0
        · simp [h0]
        · by_cases h1 : m < 1000000
          · have : [(ι 0, r)][m]? = none := by rw [List.getElem?_eq_none_iff]; simp; omega
            simp [h0, h1]
          · simp [h0, h1]
      · intro m x _ hm e
        exact hm1.used m x hm (by rw [e]; exact hx)
      · intro b hb
        rw [bind_at] at hb
        simp only [Option.some.injEq] at hb
        rw [hb] at hob
        obtain ⟨g1, o, g2, g3⟩ := hmod'.res 0 id r (by simp) b hob
        exact ⟨g1, o, g2, hren.r _ id (ι 0) b o e1 e2 (r.m σ' _ id b o hle2 hob (fun _ => rfl) g3)⟩
      · intro m x b hm0 hm hb hxb
        rw [bind_at] at hb
        simp only [Option.some.injEq] at hb
        rw [hb] at hob
        have hm' : (if m < 1000000 then none else R m) = some x := by simpa [hm0] using hm
        exact hmod'.sep m 0 x (id, r) b hm0 (by simpa [hm0] using hm') (by simp) hxb hob
  · refine ⟨by simp; omega, rfl, hmod.sub ?_, ?_⟩
    · intro m x hx
      simp only [tkf, lk] at hx
      by_cases hm : m < 1000000
      · simp [hm] at hx
      · simpa [hm] using hx
    · intro t p hp
      rw [lk_frameOf] at hp
      simp only [Nat.zero_le, if_true, Nat.sub_zero] at hp
      have ht : t < args.size := by rw [hsz]; exact (List.getElem?_eq_some_iff.1 hp).1
      have := hargs t p hp
      have e : (args ++ Array.replicate (fn.ntmps - args.size) undef).getD t undef = args.getD t undef := by
        simp [Array.getD, ht, show t < args.size + (fn.ntmps - args.size) by omega]
      show p.h σ ((args ++ Array.replicate (fn.ntmps - args.size) undef).getD t undef)
      rw [e]
      exact this

section
variable {P : Program} {C : Cx} {F : Fr} {L : Tk} {fn : Func} {R : Ending → World → Prop} {post : Id → Pred} {r : Res}
theorem pe_own {t m : Nat} {id : Id} {p : Pred} (hres : fn.results = #[.tmp t]) (ho : Owes1 C R post r) (hlow : lowL L = true) (hL : lk L m = some (some (id, r))) (ht : lk F t = some p) (he : Ent p (post id)) : Post C F L (bodyPost P fn R .ret) := by
  rintro a W ⟨σ, h1, h2, h3⟩
  refine ⟨h3.defers, a.tmps.getD t undef, run_results' (rs := [.tmp t]) (vs := [a.tmps.getD t undef]) hres a W rfl, ?_⟩
  refine ho _ W σ id h1 h2 ?_ (he _ _ (h3.fr t p ht))
  have hLm : tkf L C.Rf m = some (id, r) := by simp [tkf, hL]
  have hm : m < 1000000 := by
    rcases Nat.lt_or_ge m 1000000 with h | h
    · exact h
    · rw [lk_low hlow h] at hL; cases hL
  refine h3.mod.reindex (fun n => if n = 0 then m else n) ?_ ?_
  · intro x y hxy hx hy
    by_cases h0 : x = 0
    · subst h0
      by_cases h4 : y = 0
      · omega
      · simp only [if_true, h4, if_false]
        intro e
        subst e
        simp [h4, hm] at hy
    · by_cases h4 : y = 0
      · subst h4
        simp only [if_true, h0, if_false]
        intro e
        subst e
        simp [h0, hm] at hx
      · simp [h0, h4, hxy]
  · intro n x hx
    by_cases h0 : n = 0
    · simp [h0] at hx ⊢
      rw [hLm, hx]
    · simp only [h0, if_false] at hx ⊢
      by_cases h4 : n < 1000000
      · simp [h4] at hx
      · simp only [h4, if_false] at hx
        simp only [tkf, lk_low hlow (Nat.le_of_not_lt h4)]
        exact hx
end

theorem Ren.row {α : Type} (f : α → List Pred) (k : Nat) (xs : List α) (e : TypeId) (m : Nat) : Ren (fun id => rowP id f k xs) (tail e k m) where
  p := by
    rintro σ id id' v h1 h2 (h | ⟨b, hv, hb, g1, g2, g3⟩)
    · exact .inl h
    · exact .inr ⟨b, by rw [h2]; exact hv, by rw [h1]; exact hb, by rw [h2]; exact g1, by rw [h2]; exact g2, g3⟩
  r := by
    rintro σ id id' b o h1 h2 ⟨cs, ho, hl, hn⟩
    exact ⟨cs, ho, by rw [h2]; exact hl, hn⟩
end Go.AL
