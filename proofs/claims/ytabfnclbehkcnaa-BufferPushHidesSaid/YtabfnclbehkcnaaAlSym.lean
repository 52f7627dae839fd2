/- Guarded operations without parting: what is known where the guard lets by. -/
import Derived.Test.YtabfnclbehkcnaaAlMut2
namespace Go.AL
open Go.RowKit

/-- where c holds: p; else nothing was computed -/
def wP (c : Bool) (p : Pred) : Pred := ⟨fun σ v => (c = true → p.h σ v) ∧ (c = false → v = undef), fun _ _ _ hle h => ⟨fun hc => p.m _ _ _ hle (h.1 hc), h.2⟩⟩
theorem aL {a b : Bool} (h : (a && b) = true) : a = true := by simp at h; exact h.1
theorem entW {c : Bool} {p : Pred} (h : c = true) : Ent (wP c p) p := fun _ _ x => x.1 h
theorem entS {c d : Bool} {p : Pred} (h : c = true) : Ent (wP (c && d) p) (wP d p) := fun _ _ x => by subst h; simpa using x
theorem entF {f : FuncId} {c : Bool} : c = true → Ent (eqP (.func (.func f) #[] #[])) (clP f [] []) := fun _ => Ent.func f
/-- a guard: where c holds it lets by, else not -/
def GuardIs (p : Pred) (w c : Bool) : Prop := ∀ σ v, p.h σ v → if c then v = .bool w else v ≠ .bool w
theorem guard_eq {b w : Bool} : GuardIs (eqP (.bool b)) w (b == w) := fun σ v h => by
  have h : v = .bool b := h
  subst h
  cases b <;> cases w <;> simp
theorem guard_w {c b w : Bool} : GuardIs (wP c (eqP (.bool b))) w (c && (b == w)) := fun σ v h => by
  cases c
  · have := h.2 rfl
    subst this
    simp [undef]
  · have h : v = .bool b := h.1 rfl
    subst h
    cases b <;> cases w <;> simp

inductive SubC (c : Bool) (F : Fr) : Fr → Prop
  | nil : SubC c F []
  | cons {t : Nat} {q p : Pred} {l : Fr} (h : lk F t = some q) (he : c = true → Ent q p) (hl : SubC c F l) : SubC c F ((t, p) :: l)
theorem SubC.at_ {c : Bool} {F F' : Fr} (h : SubC c F F') : ∀ t p, lk F' t = some p → ∃ q, lk F t = some q ∧ (c = true → Ent q p) := by
  induction h with
  | nil => intro t q hq; simp [lk] at hq
  | @cons k q p l hk he _ ih =>
    intro t p' hp
    rw [lk_cons] at hp
    split at hp
    · rename_i e; subst e; simp at hp; subst hp; exact ⟨q, hk, he⟩
    · exact ih t p' hp

section
variable {P : Program} {n N : Nat} {ops : Array Oper} {Q : Exit → Act → World → Prop} {Rf : Toks} {F : Fr} {L : Tk} {K : List Rec → Fr → Tk → Prop} {l : List Oper} {t : Nat} {op : Op} {T : TypeId} {pos : String} {after : Array Edge}
  {rd : List (Nat × Pred)} {use : List (Nat × Id × Res)}
def rdF (F : Fr) (rd : List (Nat × Pred)) : List (Nat × Pred) := rd.map fun x => (x.1, (lk F x.1).getD anyP)
/-- a guarded operation, whether it runs or not -/
theorem lxs {F' : Fr} {g s : Nat} {w c : Bool} {pg φ : Pred} (hs : gslot ops g = some s) (hsn : Nat.blt s n = true) (hg : lk F s = some pg) (hc : GuardIs pg w c) (hF : SubC c F F')
    (h : OpJ P n N F' (tkf L Rf) ⟨some t, op, T, pos, after, none⟩ ⟨rd, use, [], [], [], φ⟩) (hd : Nat.blt t n = true)
    (hk : LexK P n N ops Q Rf l ((t, wP c φ) :: F) L (fun rs => K (⟨(s, pg) :: rdF F rd, use, [], [], [], wP c φ⟩ :: rs))) : LexK P n N ops Q Rf (⟨some t, op, T, pos, after, some (g, w)⟩ :: l) F L K := by
  obtain ⟨rs, F2, L2, hl, hK⟩ := hk
  have hrd : ∀ x ∈ rdF F rd, lk F x.1 = some x.2 := by
    intro x hx
    obtain ⟨y, hy, rfl⟩ := List.mem_map.1 hx
    obtain ⟨q, hq, _⟩ := hF.at_ y.1 y.2 (h.rd y hy)
    simp [hq]
  refine ⟨_, F2, L2, .cons (r := ⟨(s, pg) :: rdF F rd, use, [], [], [], wP c φ⟩) ?_ (dOK_spec (d := some t) hd) ?_ h.use (by simp) (by simp) hl, hK⟩
  · intro σ W R a K' h1 h2 h3 h4 h5 h6 h7 h8 h9
    have hv := hc _ _ (h4 (s, pg) (List.mem_cons_self ..))
    have hlt : s < a.tmps.size := by have := Nat.le_of_ble_eq_true hsn; omega
    cases hcc : c with
    | true =>
      subst hcc
      simp only [if_true] at hv
      have hloc := exec_of_guard (P := P) (Q := Q) (N := N) hs (by have := Nat.le_of_ble_eq_true hsn; omega) (w := w) h.loc
      refine hloc σ W R a K' h1 h2 h3 ?_ h5 h6 h7 h8 ?_
      · intro x hx
        rcases List.mem_cons.1 hx with rfl | hx
        · exact hv
        · obtain ⟨q, hq, he⟩ := hF.at_ x.1 x.2 (h.rd x hx)
          refine he rfl _ _ ?_
          have := h4 (x.1, (lk F x.1).getD anyP) (List.mem_cons_of_mem _ (List.mem_map.2 ⟨x, hx, rfl⟩))
          simpa [hq] using this
      · intro σ' W' v hle hkeep hmod hφ
        exact h9 σ' W' v hle hkeep (hmod.congr (by funext m; simp [updR])) (show (wP true φ).h σ' v from ⟨fun _ => hφ, fun e => Bool.noConfusion e⟩)
    | false =>
      subst hcc
      simp only [Bool.false_eq_true, if_false] at hv
      have hy : yielded ops a.tmps g ≠ some w := by
        unfold yielded
        unfold gslot at hs
        rw [hs]
        simp only [Option.bind_some, Array.getElem?_eq_getElem hlt]
        simp [Array.getD, hlt] at hv
        split
        · rename_i b hb'
          simp at hb'
          intro e
          simp at e
          subst e
          exact hv hb'
        · simp
      unfold Exec
      rw [if_neg (by simp [Region.wanted, hy])]
      exact h9 σ W undef (Le.refl σ) (fun _ _ _ => rfl) (h1.congr (by funext m; simp [updR])) (show (wP false φ).h σ undef from ⟨fun e => Bool.noConfusion e, fun _ => rfl⟩)
  · intro x hx
    rcases List.mem_cons.1 hx with rfl | hx
    · exact hg
    · exact hrd x hx
end

section
variable {P : Program} {n N : Nat} {F : Fr} {R : Toks} {d : Option Nat} {T : TypeId} {pos : String} {after : Array Edge} {b v : Bool} {c x y : Operand}
theorem op_pick_and (hc : opd F c = some (eqP (.bool b))) (hx : opd F x = some (wP (b == true) (eqP (.bool v)))) : OpJ P n N F R ⟨d, .pick c x (.const (.bool false)), T, pos, after, none⟩ ⟨rdo c (eqP (.bool b)) ++ rdo x (wP (b == true) (eqP (.bool v))), [], [], [], [], eqP (.bool (b && v))⟩ :=
  opj2 hc hx fun σ W a h1 h2 => ⟨.bool (b && v), by
    have h1 : a.eval c = .bool b := h1
    have hf : a.eval (.const (.bool false)) = .bool false := rfl
    cases b
    · simp only [execOp, h1, asBool, hf]; rfl
    · have h2 : a.eval x = .bool v := h2.1 rfl
      simp [execOp, h1, h2, asBool], rfl⟩
theorem op_pick_or (hc : opd F c = some (eqP (.bool b))) (hy : opd F y = some (wP (b == false) (eqP (.bool v)))) : OpJ P n N F R ⟨d, .pick c (.const (.bool true)) y, T, pos, after, none⟩ ⟨rdo c (eqP (.bool b)) ++ rdo y (wP (b == false) (eqP (.bool v))), [], [], [], [], eqP (.bool (b || v))⟩ :=
  opj2 hc hy fun σ W a h1 h2 => ⟨.bool (b || v), by
    have h1 : a.eval c = .bool b := h1
    cases b
    · have h2 : a.eval y = .bool v := h2.1 rfl
      simp [execOp, h1, h2, asBool]
    · have hf : a.eval (.const (.bool true)) = .bool true := rfl
      simp only [execOp, h1, asBool, hf]; rfl, rfl⟩
end

/-- a scope that nobody jumps out of by 'goto' -/
theorem tr_scope {P : Program} {C : Cx} {F : Fr} {L : Tk} {Q : Exit → Act → World → Prop} {c : Code} (h : Tr P C c F L (Exit.noGoto Q)) : Tr P C (.scope c) F L Q := fun a W hs => wp_scope_straight (h a W hs)
end Go.AL
namespace Go.AL
open Go.RowKit
section
variable {P : Program} {C : Cx} {F : Fr} {L : Tk} {Q : Exit → Act → World → Prop} {c : Code} {id' : Nat}
theorem pe_scope_normal (h : Post C F L (Q .normal)) : Post C F L (Exit.noGoto Q .normal) := h
theorem pe_scope_ret (h : Post C F L (Q .ret)) : Post C F L (Exit.noGoto Q .ret) := h
theorem pe_scope_exit (h : Post C F L (Q (.exit id'))) : Post C F L (Exit.noGoto Q (.exit id')) := h
/-- a nil slice of the call's own gets a name, so that it may be written and appended to -/
theorem tr_nilmv (k : Nat) (e : TypeId) (t m : Nat) (ht : lk F t = some (eqP (.slice none 0 0))) (hm : tkf L C.Rf m = none)
    (h : ∀ id, Tr P C c ((t, mvP id k 0 0 0) :: F) ((m, some (id, blkX k e [])) :: L) Q) : Tr P C c F L Q := by
  rintro a W ⟨σ, h1, h2, h3⟩
  obtain ⟨N, hN, hfr⟩ := fresh_N h3.mod C.M
  have hmod : Models (bind σ (N, 0) none 0) (fun n => if n = m then some ((N, 0), blkX k e []) else tkf L C.Rf n) W := by
    refine h3.mod.move (le_bind (hfr 0)) m (N, 0) _ (fun i hi => bind_ne _ _ _ _ _ hi) (by rw [bind_at]; simp) (.inl hm) ?_ (Below.refl _ _) (fun n x b _ hn hb => ⟨rfl, fun _ => rfl⟩) (fun b i v hv => h3.mod.imm b i v hv) ?_ ?_
    · intro n x _ hn e
      exact h3.mod.used n x hn (by rw [e]; exact hfr 0)
    · intro b hb; rw [bind_at] at hb; cases hb
    · intro n x b _ _ hb; rw [bind_at] at hb; cases hb
  refine h (N, 0) a W ⟨bind σ (N, 0) none 0, h1.trans (le_bind (hfr 0)), keepB_of hN h2 keep_bind, h3.size, h3.defers, hmod.congr ?_, ?_⟩
  · rw [tkf_cons]
  · intro t' p hp
    rw [lk_cons] at hp
    split at hp
    · rename_i e'
      subst e'
      simp at hp
      subst hp
      have hv : a.tmps.getD t undef = .slice none 0 0 := h3.fr t _ ht
      exact ⟨none, by rw [bind_z]; exact hv, by rw [bind_z]; omega, by rw [bind_z]; simp [maxLen], by rw [bind_at]; simp, by rw [bind_z]; intro h; omega⟩
    · exact p.m _ _ _ (le_bind (hfr 0)) (h3.fr t' p hp)
end
/-- the beginning of a function that is handed blocks and keeps them -/
theorem fn_need {P : Program} {f : FuncId} {fn : Func} {c : Code} {pre : List Pred} {need : List (Id × Res)} {post : Pred} {n : Nat} (hf : P.funcs[f]? = some fn) (hb : fn.body = some c) (hn : fn.ntmps = n) (hl : (Nat.ble pre.length n && Nat.ble need.length 1000000) = true)
    (h : ∀ (σ0 : Sg) (M : Nat) (ex : List Id) (Rf : Toks) (R : Ending → World → Prop), CxOK ⟨σ0, M, ex, Rf, n⟩ → Owes ⟨σ0, M, ex, Rf, n⟩ R post → Tr P ⟨σ0, M, ex, Rf, n⟩ c (frameOf 0 pre) (tokOf 0 need) (bodyPost P fn R)) : FnOK P f pre need 0 (fun _ => post) (fun _ => []) := by
  simp only [Bool.and_eq_true] at hl
  refine fn_enter hf hb (by rw [hn]; exact Nat.le_of_ble_eq_true hl.1) (Nat.le_of_ble_eq_true hl.2) fun C _ R hC hCn _ _ _ ho => ?_
  obtain ⟨σ0, M, ex, Rf, n'⟩ := C
  have e : n' = n := hCn.trans hn
  subst e
  exact h σ0 M ex Rf R hC fun v W σ h1 h2 h3 h4 => ho v W σ h1 h2 (h3.sub fun m x hx => by simpa using hx) h4
end Go.AL
namespace Go.AL
section
variable {P : Program} {n N : Nat} {ops : Array Oper} {Q : Exit → Act → World → Prop} {Rf : Toks} {F : Fr} {L : Tk} {K : List Rec → Fr → Tk → Prop} {l : List Oper}
/-- a step that gives a token away -/
theorem lxd {d : Option Nat} {m : Nat} {x : Id × Res} {op : Op} {T : TypeId} {pos : String} {after : Array Edge} {rd : List (Nat × Pred)} {use : List (Nat × Id × Res)} {new : List Nat} {φ : Pred} (h : OpJ P n N F (tkf L Rf) ⟨d, op, T, pos, after, none⟩ ⟨rd, use, [(m, x)], [], new, φ⟩)
    (hd : dOK n d = true) (hk : LexK P n N ops Q Rf l (setF F d φ) ((m, none) :: L) (fun rs => K (⟨rd, use, [(m, x)], [], new, φ⟩ :: rs))) : LexK P n N ops Q Rf (⟨d, op, T, pos, after, none⟩ :: l) F L K :=
  lx_any rfl h (dOK_spec hd) hk
end
end Go.AL
namespace Go.AL
open Go.RowKit
section
variable {P : Program} {n N : Nat} {ops : Array Oper} {Q : Exit → Act → World → Prop} {Rf : Toks} {F : Fr} {L : Tk} {K : List Rec → Fr → Tk → Prop} {l : List Oper} {t : Nat} {op : Op} {T : TypeId} {pos : String} {after : Array Edge}
  {rd : List (Nat × Pred)}
/-- a guarded operation that may run just where its guard lets by -/
theorem lxsc {F' : Fr} {g s : Nat} {w c : Bool} {pg φ : Pred} (hs : gslot ops g = some s) (hsn : Nat.blt s n = true) (hg : lk F s = some pg) (hc : GuardIs pg w c) (hF : SubC c F F')
    (h : c = true → OpJ P n N F' (tkf L Rf) ⟨some t, op, T, pos, after, none⟩ ⟨rd, [], [], [], [], φ⟩) (hr : rd.all (fun x => (lk F x.1).isSome) = true) (hd : Nat.blt t n = true)
    (hk : LexK P n N ops Q Rf l ((t, wP c φ) :: F) L (fun rs => K (⟨(s, pg) :: rdF F rd, [], [], [], [], wP c φ⟩ :: rs))) : LexK P n N ops Q Rf (⟨some t, op, T, pos, after, some (g, w)⟩ :: l) F L K := by
  cases hcc : c with
  | true => subst hcc; exact lxs hs hsn hg hc hF (h rfl) hd hk
  | false =>
    subst hcc
    obtain ⟨rs, F2, L2, hl, hK⟩ := hk
    refine ⟨_, F2, L2, .cons (r := ⟨(s, pg) :: rdF F rd, [], [], [], [], wP false φ⟩) ?_ (dOK_spec (d := some t) hd) ?_ (by simp) (by simp) (by simp) hl, hK⟩
    · intro σ W R a K' h1 h2 h3 h4 h5 h6 h7 h8 h9
      have hv := hc _ _ (h4 (s, pg) (List.mem_cons_self ..))
      have hlt : s < a.tmps.size := by have := Nat.le_of_ble_eq_true hsn; omega
      simp only [Bool.false_eq_true, if_false] at hv
      have hy : yielded ops a.tmps g ≠ some w := by
        unfold yielded
        unfold gslot at hs
        rw [hs]
        simp only [Option.bind_some, Array.getElem?_eq_getElem hlt]
        simp [Array.getD, hlt] at hv
        split
        · rename_i b hb'
          simp at hb'
          intro e
          simp at e
          subst e
          exact hv hb'
        · simp
      unfold Exec
      rw [if_neg (by simp [Region.wanted, hy])]
      exact h9 σ W undef (Le.refl σ) (fun _ _ _ => rfl) (h1.congr (by funext m; simp [updR])) (show (wP false φ).h σ undef from ⟨fun e => Bool.noConfusion e, fun _ => rfl⟩)
    · intro x hx
      rcases List.mem_cons.1 hx with rfl | hx
      · exact hg
      · obtain ⟨y, hy, rfl⟩ := List.mem_map.1 hx
        rw [List.all_eq_true] at hr
        have := hr y hy
        obtain ⟨q, hq⟩ := Option.isSome_iff_exists.1 this
        simp [hq]
end
end Go.AL
namespace Go.AL
/-- the ways meet again ahead of what follows -/
theorem tr_join {P : Program} {C : Cx} {F : Fr} {L : Tk} {Q Q' : Exit → Act → World → Prop} {x y : Code} (F1 : Fr) (L1 : Tk) (hx : Tr P C x F L (Exit.then (fun a W => St C F1 L1 a W) Q')) (hy : Tr P C y F1 L1 Q) : Tr P C x F L (Exit.then (y.wp P Q) Q') :=
  fun a W hs => Code.wp_mono (fun e a w q => by cases e <;> first | exact hy a w q | exact q) (hx a W hs)
end Go.AL
