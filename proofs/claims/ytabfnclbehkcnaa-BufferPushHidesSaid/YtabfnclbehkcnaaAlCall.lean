/- The rules of operations: calls by contract, results. -/
import Derived.Test.YtabfnclbehkcnaaAlMem2
namespace Go.AL
open Go.RowKit

/-- a function that a call enters -/
def fnB (P : Program) (f : FuncId) : Bool := match P.funcs[f]? with | some fn => fn.name != "runtime.NumGoroutine" && fn.body.isSome | none => false

theorem run_callFunc {P : Program} {f : FuncId} (h : fnB P f = true) (args : Array Value) (W : World) : (callFunc f args).run P W = .ok (.enter f args) W := by
  unfold fnB at h
  split at h
  · rename_i fn hf
    simp only [Bool.and_eq_true, bne_iff_ne, ne_eq] at h
    cases hb : fn.body with
    | none => rw [hb] at h; simp at h
    | some c => simp [callFunc, run_program, hf, h.1, hb]
  · cases h

theorem upon_call {P : Program} {o : Oper} {a : Act} {W : World} {f : FuncId} {args : Array Value} {K : Act → World → Prop} {Q : Exit → Act → World → Prop}
    (h : (execOp a.eval o).run P W = .ok (.enter f args) W) (hc : Calls P f args W fun e W' => ∃ v, e = .returned v ∧ K (a.put o.dst v) W') : o.wp P a W K Q := by
  unfold Oper.wp
  rw [h]
  show Calls P f args W _
  refine hc.mono ?_
  rintro e W' ⟨v, rfl, hk⟩
  exact hk

/-- the arguments -/
inductive Args (F : Fr) : List Operand → List Pred → List (Nat × Pred) → Prop
  | nil : Args F [] [] []
  | cons {x : Operand} {p : Pred} {l : List Operand} {ps : List Pred} {rd : List (Nat × Pred)} (hx : opd F x = some p) (hl : Args F l ps rd) : Args F (x :: l) (p :: ps) (rdo x p ++ rd)
  | ent {x : Operand} {p q : Pred} {l : List Operand} {ps : List Pred} {rd : List (Nat × Pred)} (hx : opd F x = some p) (he : Ent p q) (hl : Args F l ps rd) : Args F (x :: l) (q :: ps) (rdo x p ++ rd)

theorem Args.rd {F : Fr} {l : List Operand} {ps : List Pred} {rd : List (Nat × Pred)} (h : Args F l ps rd) : ∀ y ∈ rd, lk F y.1 = some y.2 := by
  induction h with
  | nil => intro y hy; cases hy
  | cons hx _ ih => exact rd_app (rd_of hx) ih
  | ent hx _ _ ih => exact rd_app (rd_of hx) ih
theorem Args.len {F : Fr} {l : List Operand} {ps : List Pred} {rd : List (Nat × Pred)} (h : Args F l ps rd) : l.length = ps.length := by
  induction h with
  | nil => rfl
  | cons _ _ ih => simp [ih]
  | ent _ _ _ ih => simp [ih]
theorem Args.holds {F : Fr} {l : List Operand} {ps : List Pred} {rd : List (Nat × Pred)} (h : Args F l ps rd) {σ : Sg} {a : Act} (hr : ∀ y ∈ rd, y.2.h σ (a.tmps.getD y.1 undef)) :
    ∀ (i : Nat) (p : Pred), ps[i]? = some p → p.h σ (((l.map a.eval)[i]?).getD undef) := by
  induction h with
  | nil => intro i p hp; simp at hp
  | cons hx _ ih =>
    intro i q hq
    cases i with
    | zero => simp at hq ⊢; subst hq; exact holds_of hx fun z hz => hr z (List.mem_append_left _ hz)
    | succ i => simpa using ih (fun z hz => hr z (List.mem_append_right _ hz)) i q (by simpa using hq)
  | ent hx he _ ih =>
    intro i q hq
    cases i with
    | zero => simp at hq ⊢; subst hq; exact he _ _ (holds_of hx fun z hz => hr z (List.mem_append_left _ hz))
    | succ i => simpa using ih (fun z hz => hr z (List.mem_append_right _ hz)) i q (by simpa using hq)

theorem fresh_M {σ : Sg} {R : Toks} {W : World} (h : Models σ R W) (N : Nat) : ∃ M, N < M ∧ ∀ N', M ≤ N' → ∀ j, σ.ρ (N', j) = none := by
  obtain ⟨m, hm⟩ := h.fin
  exact ⟨max (N + 1) m, by omega, fun N' hN' j => hm N' (by omega) j⟩

section
variable {P : Program} {n N : Nat} {F : Fr} {R : Toks} {d : Option Nat} {T : TypeId} {pos : String} {after : Array Edge}

theorem args_ok {F : Fr} {l : List Operand} {ps : List Pred} {rd : List (Nat × Pred)} (h : Args F l ps rd) {σ : Sg} {a : Act} (hr : ∀ y ∈ rd, y.2.h σ (a.tmps.getD y.1 undef)) :
    (l.toArray.map a.eval).size = ps.length ∧ ∀ (i : Nat) (p : Pred), ps[i]? = some p → p.h σ ((l.toArray.map a.eval).getD i undef) := by
  refine ⟨by simp [h.len], fun i p hp => ?_⟩
  have := h.holds hr i p hp
  simpa [Array.getD_eq_getD_getElem?, List.getElem?_toArray] using this

theorem run_call_func {o : Oper} {f : FuncId} {l : List Operand} {ts : Array TypeId} (ho : o.op = .call { callee := .value (.func f), args := l.toArray, argTypes := ts }) (hf : fnB P f = true) (a : Act) (W : World) :
    (execOp a.eval o).run P W = .ok (.enter f (l.toArray.map a.eval)) W := by
  simp only [execOp, ho, resolve, Act.eval, Deferred.ofValue, Sem.run_bind, Sem.run_pure, Result.andThen_ok, invoke]
  rw [show ∀ x : Array Value, (#[] ++ x) ++ #[] = x by intro x; simp]
  exact run_callFunc hf _ W

/-- **a call of a function that keeps nothing of the caller's own** -/
theorem op_call {f : FuncId} {l : List Operand} {ts : Array TypeId} {pre : List Pred} {post : Pred} {rd : List (Nat × Pred)} (hc : FnP P f pre post) (hargs : Args F l pre rd) (hf : fnB P f = true) :
    OpJ P n N F R ⟨d, .call { callee := .value (.func f), args := l.toArray, argTypes := ts }, T, pos, after, none⟩ ⟨rd, [], [], [], [], post⟩ where
  loc := by
    intro σ W R a K hm h2 h3 h4 h5 h6 h7 h8 h9 Q
    refine upon_call (run_call_func rfl hf a W) ?_
    obtain ⟨M, hNM, hM⟩ := fresh_M hm N
    obtain ⟨h10, h11⟩ := args_ok hargs h4
    have := hc σ W (fun k => if k < 1000000 then none else R (k - 1000000)) (l.toArray.map a.eval) (fun _ => (0, 0)) M
      (hm.reindex (fun k => k - 1000000) (fun x y hxy hx hy => by
        by_cases h1 : x < 1000000
        · simp [h1] at hx
        · by_cases h2 : y < 1000000
          · simp [h2] at hy
          · omega) (fun k x hx => by
        by_cases h1 : k < 1000000
        · simp [h1] at hx
        · simpa [h1] using hx))
      (fun k hk => by simp [hk]) hM (fun j hj => by omega) (fun i j hi => by omega) h10 h11
    refine this.mono ?_
    rintro e W' ⟨v, σ', rfl, hle, hkeep, hmod, hpost⟩
    refine ⟨v, rfl, h9 σ' W' v hle ?_ ?_ hpost⟩
    · intro id hid _
      exact hkeep id (by omega) (fun j hj => by omega)
    · rw [updR_same]
      refine hmod.reindex (fun k => k + 1000000) (fun x y hxy _ _ => by omega) (fun k x hx => ?_)
      simp only [show ¬ k + 1000000 < 1000000 by omega, if_false, Nat.add_sub_cancel]
      exact hx
  rd := hargs.rd
  use := by simp
  del := by simp
  add := by simp

theorem run_call_value {o : Oper} {f : FuncId} {x : Operand} {l : List Operand} {ts : Array TypeId} {first caps : List Value} (ho : o.op = .call { callee := .value x, args := l.toArray, argTypes := ts }) (hf : fnB P f = true) (a : Act)
    (hx : a.eval x = .func (.func f) first.toArray caps.toArray) (W : World) : (execOp a.eval o).run P W = .ok (.enter f (first ++ l.map a.eval ++ caps).toArray) W := by
  simp only [execOp, ho, resolve, hx, Deferred.ofValue, Sem.run_bind, Sem.run_pure, Result.andThen_ok, invoke]
  rw [run_callFunc hf]
  congr 2
  simp
end

/-! ### results -/
inductive RV (P : Program) (F : Fr) (L : Tk) : List ResultVar → List Pred → Prop
  | nil : RV P F L [] []
  | tmp {t : Nat} {p : Pred} {l : List ResultVar} {ps : List Pred} (h : lk F t = some p) (hl : RV P F L l ps) : RV P F L (.tmp t :: l) (p :: ps)
  | cell {t m κ : Nat} {T B : TypeId} {id : Id} {qs : List Pred} {l : List ResultVar} {ps : List Pred} (h : lk F t = some (ptrP id 0)) (hL : lk L m = some (some (id, blkX κ B qs))) (ha : aggB P T = some true) (hs : sizeB P T = some qs.length)
      (hl : RV P F L l ps) : RV P F L (.cell t T :: l) (aggP qs :: ps)
  | cell1 {t m κ : Nat} {T B : TypeId} {id : Id} {p : Pred} {l : List ResultVar} {ps : List Pred} (h : lk F t = some (ptrP id 0)) (hL : lk L m = some (some (id, blkX κ B [p]))) (ha : aggB P T = some false)
      (hl : RV P F L l ps) : RV P F L (.cell t T :: l) (p :: ps)

def rvf (a : Act) (x : ResultVar) : Sem Value := match x with | .tmp t => pure (a.tmps.getD t undef) | .cell c t => do loadVar t (← asAddr (a.tmps.getD c undef))

theorem RV.run {P : Program} {F : Fr} {L : Tk} {Rf : Toks} {n : Nat} {rs : List ResultVar} {ps : List Pred} (h : RV P F L rs ps) {σ : Sg} {a : Act} {W : World} (hh : Holds n (lk F) (tkf L Rf) σ a W) :
    ∃ vs : List Value, (rs.mapM (rvf a)).run P W = .ok vs W ∧
      vs.length = ps.length ∧ ∀ (j : Nat) (p : Pred) (u : Value), ps[j]? = some p → vs[j]? = some u → p.h σ u := by
  induction h with
  | nil => exact ⟨[], rfl, rfl, fun j p u hp => by simp at hp⟩
  | @tmp t p l ps h _ ih =>
    obtain ⟨vs, hr, hl, hv⟩ := ih
    refine ⟨a.tmps.getD t undef :: vs, ?_, by simp [hl], fun j q u hq hu => ?_⟩
    · have e0 : (rvf a (.tmp t)).run P W = .ok (a.tmps.getD t undef) W := rfl
      simp only [List.mapM_cons, Sem.run_bind, Sem.run_pure, Result.andThen_ok, e0, hr]
    · cases j with
      | zero => simp at hq; simp only [List.getElem?_cons_zero, Option.some.injEq] at hu; subst hq; subst hu; exact hh.fr t p h
      | succ j => exact hv j q u (by simpa using hq) (by simpa using hu)
  | @cell t m κ T B id qs l ps h hL ha hs _ ih =>
    obtain ⟨vs, hr, hl, hv⟩ := ih
    obtain ⟨b, hb, hp⟩ := hh.fr t _ h
    obtain ⟨cs, rest, hcs, hvs, _⟩ := blk_read hh.mod (show tkf L Rf m = some (id, blkX κ B qs) by simp [tkf, hL]) hb
    have hc := run_cells (P := P) (W := W) (b := b) (off := 0) (cs := cs) (fun j v hv => by rw [Nat.zero_add]; exact cell_blk hcs hv)
    rw [hvs.1] at hc
    refine ⟨.agg cs.toArray :: vs, ?_, by simp [hl], fun j q u hq hu => ?_⟩
    · have e0 : (rvf a (.cell t T)).run P W = .ok (.agg cs.toArray) W := by
        simp only [rvf, Sem.run_bind, Sem.run_pure, Result.andThen_ok, hp, asAddr, loadVar, run_isAgg ha, run_sizeOf' hs, hc, if_true]
      simp only [List.mapM_cons, Sem.run_bind, Sem.run_pure, Result.andThen_ok, e0, hr]
    · cases j with
      | zero => simp at hq; simp only [List.getElem?_cons_zero, Option.some.injEq] at hu; subst hq; subst hu; exact ⟨cs, rfl, hvs⟩
      | succ j => exact hv j q u (by simpa using hq) (by simpa using hu)
  | @cell1 t m κ T B id p l ps h hL ha _ ih =>
    obtain ⟨vs, hr, hl, hv⟩ := ih
    obtain ⟨b, hb, hp⟩ := hh.fr t _ h
    obtain ⟨cs, rest, hcs, hvs, _⟩ := blk_read hh.mod (show tkf L Rf m = some (id, blkX κ B [p]) by simp [tkf, hL]) hb
    obtain ⟨u, rfl⟩ : ∃ u, cs = [u] := by
      have := hvs.1
      match cs, this with
      | [u], _ => exact ⟨u, rfl⟩
    have hcell : W.cell? ⟨b, 0, none⟩ = some u := cell_blk hcs rfl
    refine ⟨u :: vs, ?_, by simp [hl], fun j q v hq hu => ?_⟩
    · have e0 : (rvf a (.cell t T)).run P W = .ok u W := by
        simp only [rvf, Sem.run_bind, Sem.run_pure, Result.andThen_ok, hp, asAddr, loadVar, run_isAgg ha, run_load, hcell, Bool.false_eq_true, if_false]
      simp only [List.mapM_cons, Sem.run_bind, Sem.run_pure, Result.andThen_ok, e0, hr]
    · cases j with
      | zero => simp at hq; simp only [List.getElem?_cons_zero, Option.some.injEq] at hu; subst hq; subst hu; exact (hvs.2 0 p u rfl rfl).1
      | succ j => exact hv j q v (by simpa using hq) (by simpa using hu)

theorem run_results' {P : Program} {fn : Func} {rs : List ResultVar} (h : fn.results = rs.toArray) (a : Act) (W : World) {vs : List Value}
    (hr : (rs.mapM (rvf a)).run P W = .ok vs W) :
    (results fn a.tmps).run P W = .ok (if h : vs.length = 1 then vs[0] else .tuple vs.toArray) W := by
  have e0 : results fn a.tmps = (do let vs ← fn.results.mapM (rvf a); pure (if h : vs.size = 1 then vs[0] else .tuple vs)) := rfl
  rw [e0, h, Array.mapM_eq_mapM_toList]
  simp only [Sem.run_bind, Sem.run_map, hr, Result.andThen_ok, Sem.run_pure, List.size_toArray]
  by_cases h1 : vs.length = 1
  · simp [h1]
  · simp [h1]

section
variable {P : Program} {C : Cx} {F : Fr} {L : Tk} {fn : Func} {R : Ending → World → Prop} {k : Nat} {post : (Nat → Id) → Pred} {prod : (Nat → Id) → List (Id × Res)} {ι : Nat → Id}

/-- what the end of a function owes; nothing is handed to the caller -/
def Owes (C : Cx) (R : Ending → World → Prop) (post : Pred) : Prop := ∀ v W σ, Le C.σ0 σ → KeepB C σ → Models σ (fun n => if n < 1000000 then none else C.Rf n) W → post.h σ v → R (.returned v) W

theorem ret_mod {Rf : Toks} {σ : Sg} {W : World} (hlow : lowL L = true) (hm : Models σ (tkf L Rf) W) : Models σ (fun n => if n < 1000000 then none else Rf n) W :=
  hm.sub fun m x hx => by
    by_cases h : m < 1000000
    · simp [h] at hx
    · simp only [h, if_false] at hx
      simp only [tkf, lk_low hlow (Nat.le_of_not_lt h)]
      exact hx

theorem pe_ret1 {r : ResultVar} {p q : Pred} (hres : fn.results = #[r]) (ho : Owes C R q) (hlow : lowL L = true) (hr : RV P F L [r] [p]) (he : Ent p q) : Post C F L (bodyPost P fn R .ret) := by
  rintro a W ⟨σ, h1, h2, h3⟩
  obtain ⟨vs, hrun, hl, hv⟩ := hr.run h3
  obtain ⟨v, rfl⟩ : ∃ v, vs = [v] := by
    match vs, hl with
    | [v], _ => exact ⟨v, rfl⟩
  refine ⟨h3.defers, v, run_results' (rs := [r]) hres a W hrun, ?_⟩
  exact ho v W σ h1 h2 (ret_mod hlow h3.mod) (he _ _ (hv 0 p v rfl rfl))
theorem pe_retN {rs : List ResultVar} {ps : List Pred} {q : Pred} (hres : fn.results = rs.toArray) (hlen : Nat.beq ps.length 1 = false) (ho : Owes C R q) (hlow : lowL L = true) (hr : RV P F L rs ps) (he : Ent (tupP ps) q) : Post C F L (bodyPost P fn R .ret) := by
  rintro a W ⟨σ, h1, h2, h3⟩
  obtain ⟨vs, hrun, hl, hv⟩ := hr.run h3
  have hne : ¬ vs.length = 1 := fun e => by rw [hl] at e; rw [e] at hlen; simp at hlen
  refine ⟨h3.defers, .tuple vs.toArray, ?_, ?_⟩
  · have := run_results' (P := P) hres a W hrun
    rwa [dif_neg hne] at this
  · exact ho _ W σ h1 h2 (ret_mod hlow h3.mod) (he _ _ ⟨vs, rfl, hl, hv⟩)
/-- no results: the end of the body, or a bare return -/
theorem pe_end {q : Pred} (hres : fn.results = #[]) (ho : Owes C R q) (hlow : lowL L = true) (he : Ent (tupP []) q) : Post C F L (bodyPost P fn R .normal) := by
  rintro a W ⟨σ, h1, h2, h3⟩
  refine ⟨h3.defers, .tuple #[], run_results' (rs := []) (vs := []) hres a W rfl, ?_⟩
  exact ho _ W σ h1 h2 (ret_mod hlow h3.mod) (he _ _ ⟨[], rfl, rfl, fun j p u hp => by simp at hp⟩)
end

/-- the beginning of a function that keeps nothing of the caller's own -/
theorem fn_pure {P : Program} {f : FuncId} {fn : Func} {c : Code} {pre : List Pred} {post : Pred} (hf : P.funcs[f]? = some fn) (hb : fn.body = some c) (hn : Nat.ble pre.length fn.ntmps = true)
    (h : ∀ (C : Cx) (R : Ending → World → Prop), CxOK C → C.n = fn.ntmps → Owes C R post → Tr P C c (frameOf 0 pre) [] (bodyPost P fn R)) : FnP P f pre post :=
  fn_enter hf hb (Nat.le_of_ble_eq_true hn) (by simp) fun C _ R hC hCn _ _ _ ho => h C R hC hCn fun v W σ h1 h2 h3 h4 => ho v W σ h1 h2 (h3.sub fun m x hx => by simpa using hx) h4
end Go.AL
