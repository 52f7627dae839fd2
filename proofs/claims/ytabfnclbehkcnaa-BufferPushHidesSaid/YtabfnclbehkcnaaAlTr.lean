/- Triples over code, contracts of functions. -/
import Derived.Test.YtabfnclbehkcnaaAlPred
namespace Go.AL
open Go.RowKit

structure Cx where
  σ0 : Sg
  M : Nat
  ex : List Id
  Rf : Toks
  n : Nat

structure CxOK (C : Cx) : Prop where
  low : ∀ m, m < 1000000 → C.Rf m = none

def KeepB (C : Cx) (σ : Sg) : Prop := ∀ id : Id, id.1 < C.M → id ∉ C.ex → σ.ρ id = C.σ0.ρ id

def St (C : Cx) (F : Fr) (L : Tk) (a : Act) (W : World) : Prop := ∃ σ, Le C.σ0 σ ∧ KeepB C σ ∧ Holds C.n (lk F) (tkf L C.Rf) σ a W
def Post (C : Cx) (F : Fr) (L : Tk) (K : Act → World → Prop) : Prop := ∀ a W, St C F L a W → K a W
def Tr (P : Program) (C : Cx) (c : Code) (F : Fr) (L : Tk) (Q : Exit → Act → World → Prop) : Prop := Post C F L (c.wp P Q)

/-! ### less is known -/
inductive SubF (F : Fr) : Fr → Prop
  | nil : SubF F []
  | cons {t : Nat} {p : Pred} {l : Fr} (h : lk F t = some p) (hl : SubF F l) : SubF F ((t, p) :: l)
  | ent {t : Nat} {p q : Pred} {l : Fr} (h : lk F t = some p) (he : Ent p q) (hl : SubF F l) : SubF F ((t, q) :: l)
theorem SubF.at_ {F F' : Fr} (h : SubF F F') : ∀ t q, lk F' t = some q → ∃ p, lk F t = some p ∧ Ent p q := by
  induction h with
  | nil => intro t q hq; simp [lk] at hq
  | @cons k p l hk _ ih =>
    intro t q hq
    rw [lk_cons] at hq
    split at hq
    · rename_i e; subst e; simp at hq; subst hq; exact ⟨p, hk, Ent.refl _⟩
    · exact ih t q hq
  | @ent k p p' l hk he _ ih =>
    intro t q hq
    rw [lk_cons] at hq
    split at hq
    · rename_i e; subst e; simp at hq; subst hq; exact ⟨p, hk, he⟩
    · exact ih t q hq

def lowL (L : Tk) : Bool := L.all fun x => Nat.blt x.1 1000000
inductive SubL (L : Tk) : Tk → Prop
  | nil : SubL L []
  | cons {t : Nat} {x : Id × Res} {l : Tk} (h : lk L t = some (some x)) (hl : SubL L l) : SubL L ((t, some x) :: l)

theorem lk_low {L : Tk} (h : lowL L = true) {m : Nat} (hm : 1000000 ≤ m) : lk L m = none := by
  induction L with
  | nil => rfl
  | cons x l ih =>
    obtain ⟨k, y⟩ := x
    simp only [lowL, List.all_cons, Bool.and_eq_true] at h
    have h1 : k < 1000000 := by have := Nat.le_of_ble_eq_true h.1; omega
    rw [lk_cons, if_neg (by omega)]
    exact ih h.2

theorem SubL.sub {C : Cx} (hC : CxOK C) {L L' : Tk} (h : SubL L L') (hlow : lowL L = true) : ∀ m x, tkf L' C.Rf m = some x → tkf L C.Rf m = some x := by
  induction h with
  | nil =>
    intro m x hx
    simp only [tkf, lk] at hx
    by_cases hm : m < 1000000
    · rw [hC.low m hm] at hx; cases hx
    · simp only [tkf, lk_low hlow (Nat.le_of_not_lt hm)]; exact hx
  | @cons t y l ht _ ih =>
    intro m x hx
    simp only [tkf, lk_cons] at hx
    by_cases e : t = m
    · subst e
      simp at hx
      subst hx
      simp [tkf, ht]
    · simp only [e, if_false] at hx
      exact ih m x hx

theorem St.sub {C : Cx} (hC : CxOK C) {F F' : Fr} {L L' : Tk} {a : Act} {W : World} (h : St C F L a W) (hF : SubF F F') (hL : SubL L L') (hlow : lowL L = true) : St C F' L' a W := by
  obtain ⟨σ, h1, h2, h3⟩ := h
  refine ⟨σ, h1, h2, h3.size, h3.defers, h3.mod.sub (hL.sub hC hlow), fun t q hq => ?_⟩
  obtain ⟨p, hp, he⟩ := hF.at_ t q hq
  exact he _ _ (h3.fr t p hp)

theorem Post.sub {C : Cx} (hC : CxOK C) {F F' : Fr} {L L' : Tk} {K : Act → World → Prop} (h : Post C F' L' K) (hF : SubF F F') (hL : SubL L L') (hlow : lowL L = true) : Post C F L K :=
  fun a W hs => h a W (hs.sub hC hF hL hlow)

/-! ### regions -/
def LexK (P : Program) (n N : Nat) (ops : Array Oper) (Q : Exit → Act → World → Prop) (Rf : Toks) (l : List Oper) (F : Fr) (L : Tk) (K : List Rec → Fr → Tk → Prop) : Prop :=
  ∃ rs F' L', LexOK P n N ops Q Rf l F L rs F' L' ∧ K rs F' L'

def nodupB : List Nat → Bool
  | [] => true
  | x :: l => !(l.any fun y => Nat.beq y x) && nodupB l
theorem nodup_of {l : List Nat} (h : nodupB l = true) : l.Nodup := by
  induction l with
  | nil => exact List.nodup_nil
  | cons x l ih =>
    simp only [nodupB, Bool.and_eq_true, Bool.not_eq_true'] at h
    refine List.nodup_cons.2 ⟨fun hx => ?_, ih h.2⟩
    rw [List.any_eq_false] at h
    exact h.1 x hx (Nat.beq_refl x)

theorem fresh_N {σ : Sg} {R : Toks} {W : World} (h : Models σ R W) (M : Nat) : ∃ N, M ≤ N ∧ ∀ k, σ.ρ (N, k) = none := by
  obtain ⟨m, hm⟩ := h.fin
  exact ⟨max M m, by omega, hm (max M m) (by omega)⟩

theorem keepB_of {C : Cx} {σ τ : Sg} {N : Nat} {ks : List Nat} (hN : C.M ≤ N) (h : KeepB C σ) (hk : Keep N ks σ τ) : KeepB C τ := fun id hid hex => by
  rw [hk id (by omega) (fun k _ e => by subst e; simp at hid; omega)]
  exact h id hid hex

/-- a region in the order of the text -/
theorem tr_region {P : Program} {C : Cx} {id : Nat} {l : List Oper} {F : Fr} {L : Tk} {Q : Exit → Act → World → Prop}
    (h : ∀ N, C.M ≤ N → LexK P C.n N l.toArray Q C.Rf l F L (fun rs F' L' => nodupB (rs.flatMap (·.new)) = true ∧ Post C F' L' (Q .normal))) : Tr P C (.region id l.toArray false) F L Q := by
  rintro a W ⟨σ, h1, h2, h3⟩
  obtain ⟨N, hN, hfr⟩ := fresh_N h3.mod C.M
  obtain ⟨rs, F', L', hl, hnd, hQ⟩ := h N hN
  refine wp_region_lit ?_
  refine hl.wpList (nodup_of hnd) h3 (fun k _ => hfr k) ?_
  intro σ' a' W' hle hkeep hh
  exact hQ a' W' ⟨σ', h1.trans hle, keepB_of hN h2 hkeep, hh⟩

/-- a region that draws its order -/
theorem tr_drawn {P : Program} {C : Cx} {id : Nat} {l : List Oper} {F : Fr} {L : Tk} {Q : Exit → Act → World → Prop} (hm : P.follows .mixedOrders = true)
    (h : ∀ N, C.M ≤ N → LexK P C.n N l.toArray Q C.Rf l F L (fun rs F' L' => (nodupB (rs.flatMap (·.new)) && chk l rs) = true ∧ Post C F' L' (Q .normal))) : Tr P C (.region id l.toArray true) F L Q := by
  rintro a W ⟨σ, h1, h2, h3⟩
  obtain ⟨N, hN, hfr⟩ := fresh_N h3.mod C.M
  obtain ⟨rs, F', L', hl, hnd, hQ⟩ := h N hN
  rw [Bool.and_eq_true] at hnd
  refine LexOK.drawn (Rf := C.Rf) (F' := F') (L' := L') hm (rs := rs) (by simpa using hl) (nodup_of hnd.1) (by simpa using hnd.2) h3 (fun k _ => hfr k) ?_
  intro σ' a' W' hle hkeep hh
  exact hQ a' W' ⟨σ', h1.trans hle, keepB_of hN h2 hkeep, hh⟩

/-! ### code -/
section
variable {P : Program} {C : Cx} {F : Fr} {L : Tk} {Q : Exit → Act → World → Prop}
theorem tr_seq {x y : Code} (h : Tr P C x F L (Exit.then (y.wp P Q) Q)) : Tr P C (.seq x y) F L Q := fun a W hs => wp_seq (h a W hs)
theorem tr_skip (h : Post C F L (Q .normal)) : Tr P C .skip F L Q := fun a W hs => wp_skip (h a W hs)
theorem tr_ret (h : Post C F L (Q .ret)) : Tr P C .ret F L Q := fun a W hs => wp_ret (h a W hs)
theorem tr_exit {id : Nat} (h : Post C F L (Q (.exit id))) : Tr P C (.exit id) F L Q := fun a W hs => wp_exit (h a W hs)
theorem tr_block {id : Nat} {c : Code} (h : Tr P C c F L (Exit.inBlock id Q)) : Tr P C (.block id c) F L Q := fun a W hs => wp_block (h a W hs)
theorem tr_label {l : Nat} (h : Post C F L (Q .normal)) : Tr P C (.label l) F L Q := fun a W hs => wp_label (h a W hs)
theorem tr_cond {t : Nat} {x y : Code} {b : Bool} (hb : lk F t = some (eqP (.bool b))) (ht : b = true → Tr P C x F L Q) (hf : b = false → Tr P C y F L Q) : Tr P C (.cond (.tmp t) x y) F L Q := by
  rintro a W ⟨σ, h1, h2, h3⟩
  have hv : a.eval (.tmp t) = .bool b := h3.fr t _ hb
  exact wp_cond_split hv (fun e => ht e a W ⟨σ, h1, h2, h3⟩) (fun e => hf e a W ⟨σ, h1, h2, h3⟩)
theorem tr_cond_b {t : Nat} {x y : Code} {φ : Bool → Prop} (hb : lk F t = some (bP φ)) (ht : φ true → Tr P C x F L Q) (hf : φ false → Tr P C y F L Q) : Tr P C (.cond (.tmp t) x y) F L Q := by
  rintro a W ⟨σ, h1, h2, h3⟩
  obtain ⟨b, hv, hφ⟩ := h3.fr t _ hb
  exact wp_cond_split hv (fun e => by subst e; exact ht hφ a W ⟨σ, h1, h2, h3⟩) (fun e => by subst e; exact hf hφ a W ⟨σ, h1, h2, h3⟩)
/-- a loop: 'x' is what the rounds change -/
theorem tr_loop {α : Type} {c : Code} (x0 : α) (Fi : α → Fr) (Li : α → Tk) (μ : α → Nat) (h0 : Post C F L (fun a W => St C (Fi x0) (Li x0) a W))
    (round : ∀ x, Tr P C c (Fi x) (Li x) (Exit.then (fun a W => ∃ y, μ y < μ x ∧ St C (Fi y) (Li y) a W) Q)) : Tr P C (.loop c) F L Q := by
  intro a W hs b k cs
  have key : ∀ n x, μ x = n → ∀ a w, St C (Fi x) (Li x) a w →
      ∃ e a' w', Q e a' w' ∧ Arrives P (lone (b.at a (.code c :: .inLoop c :: k)) cs w) b k cs e a' w' := by
    intro n
    induction n using Nat.strongRecOn with
    | _ n ih =>
      intro x hx a w hst
      obtain ⟨e, a1, w1, hq, harr⟩ := round x a w hst b (.inLoop c :: k) cs
      cases e with
      | normal =>
        obtain ⟨y, hy, hst'⟩ := hq
        obtain ⟨e2, a2, w2, hq2, harr2⟩ := ih (μ y) (hx ▸ hy) y rfl a1 w1 hst'
        exact ⟨e2, a2, w2, hq2, .of_steps (Steps.trans harr (.one step_inLoop)) harr2⟩
      | exit id => exact ⟨_, a1, w1, hq, .pass (x := .inLoop c) rfl (fun _ _ => .inl (by simp)) harr⟩
      | goto l => exact ⟨_, a1, w1, hq, .pass (x := .inLoop c) rfl (fun _ _ => .inl (by simp)) harr⟩
      | ret => exact ⟨_, a1, w1, hq, .pass (x := .inLoop c) rfl (fun _ _ => .inl (by simp)) harr⟩
      | panic ch => exact ⟨_, a1, w1, hq, .pass (x := .inLoop c) rfl (fun _ _ => .inl (by simp)) harr⟩
      | outgrown => exact ⟨_, a1, w1, hq, .pass (x := .inLoop c) rfl (fun _ _ => .inl (by simp)) harr⟩
  obtain ⟨e, a', w', hq, harr⟩ := key _ x0 rfl a W (h0 a W hs)
  exact ⟨e, a', w', hq, .of_steps (.one step_loop) harr⟩
/-- the ways meet again -/
theorem tr_mid {x y : Code} (F1 : Fr) (L1 : Tk) (hx : Tr P C x F L (Exit.then (fun a W => St C F1 L1 a W) Q)) (hy : Tr P C y F1 L1 Q) : Tr P C (.seq x y) F L Q :=
  tr_seq fun a W hs => Code.wp_mono (fun e a w q => by cases e <;> first | exact hy a w q | exact q) (hx a W hs)

/-! ### exits -/
theorem pe_then_normal {y : Code} {Q' : Exit → Act → World → Prop} (h : Tr P C y F L Q) : Post C F L (Exit.then (y.wp P Q) Q' .normal) := h
theorem pe_then_mid {F1 : Fr} {L1 : Tk} (h : Post C F L (St C F1 L1)) : Post C F L (Exit.then (fun a W => St C F1 L1 a W) Q .normal) := h
theorem pe_then_ret {K : Act → World → Prop} (h : Post C F L (Q .ret)) : Post C F L (Exit.then K Q .ret) := h
theorem pe_then_exit {K : Act → World → Prop} {id : Nat} (h : Post C F L (Q (.exit id))) : Post C F L (Exit.then K Q (.exit id)) := h
theorem pe_block_normal {id : Nat} (h : Post C F L (Q .normal)) : Post C F L (Exit.inBlock id Q .normal) := h
theorem pe_block_ret {id : Nat} (h : Post C F L (Q .ret)) : Post C F L (Exit.inBlock id Q .ret) := h
theorem pe_block_eq {id : Nat} (h : Post C F L (Q .normal)) : Post C F L (Exit.inBlock id Q (.exit id)) := fun a W hs => by
  show if id = id then Q .normal a W else Q (.exit id) a W
  rw [if_pos rfl]
  exact h a W hs
theorem pe_block_ne {id id' : Nat} (hne : Nat.beq id' id = false) (h : Post C F L (Q (.exit id'))) : Post C F L (Exit.inBlock id Q (.exit id')) := fun a W hs => by
  show if id' = id then Q .normal a W else Q (.exit id') a W
  rw [if_neg (fun e => by subst e; simp at hne)]
  exact h a W hs
theorem pe_round {α : Type} {Fi : α → Fr} {Li : α → Tk} {μ : α → Nat} {n : Nat} (y : α) (hμ : μ y < n) (h : Post C F L (St C (Fi y) (Li y))) :
    Post C F L (Exit.then (fun a W => ∃ y, μ y < n ∧ St C (Fi y) (Li y) a W) Q .normal) := fun a W hs => ⟨y, hμ, h a W hs⟩
theorem pe_st {F1 : Fr} {L1 : Tk} (hC : CxOK C) (hF : SubF F F1) (hL : SubL L L1) (hlow : lowL L = true) : Post C F L (St C F1 L1) := fun _ _ hs => hs.sub hC hF hL hlow
theorem tr_sub {c : Code} {F1 : Fr} {L1 : Tk} (hC : CxOK C) (hF : SubF F F1) (hL : SubL L L1) (hlow : lowL L = true) (h : Tr P C c F1 L1 Q) : Tr P C c F L Q := Post.sub hC h hF hL hlow
end

/-! ### contracts -/
def FnOK (P : Program) (f : FuncId) (pre : List Pred) (need : List (Id × Res)) (k : Nat) (post : (Nat → Id) → Pred) (prod : (Nat → Id) → List (Id × Res)) : Prop :=
  ∀ (σ : Sg) (W : World) (R : Toks) (args : Array Value) (ι : Nat → Id) (M : Nat), Models σ R W → (∀ n, n < 1000000 → R n = need[n]?) →
    (∀ N, M ≤ N → ∀ j, σ.ρ (N, j) = none) → (∀ j, j < k → (ι j).1 < M ∧ σ.ρ (ι j) = none) → (∀ i j, i < k → j < k → ι i = ι j → i = j) →
    args.size = pre.length → (∀ (i : Nat) (p : Pred), pre[i]? = some p → p.h σ (args.getD i undef)) →
    Calls P f args W fun e W' => ∃ v σ', e = .returned v ∧ Le σ σ' ∧ (∀ id : Id, id.1 < M → (∀ j, j < k → id ≠ ι j) → σ'.ρ id = σ.ρ id) ∧
      Models σ' (fun n => if n < 1000000 then (prod ι)[n]? else R n) W' ∧ (post ι).h σ' v

def FnP (P : Program) (f : FuncId) (pre : List Pred) (post : Pred) : Prop := FnOK P f pre [] 0 (fun _ => post) (fun _ => [])

/-- the parameters' slots -/
def frameOf : Nat → List Pred → Fr
  | _, [] => []
  | k, p :: ps => (k, p) :: frameOf (k + 1) ps
theorem lk_frameOf : ∀ (ps : List Pred) (k t : Nat), lk (frameOf k ps) t = if k ≤ t then ps[t - k]? else none
  | [], k, t => by simp [frameOf, lk]
  | p :: ps, k, t => by
    rw [frameOf, lk_cons, lk_frameOf ps (k + 1) t]
    by_cases h : k = t
    · subst h; simp
    · by_cases h1 : k ≤ t
      · rw [if_neg h, if_pos (by omega), if_pos h1, show t - k = (t - (k + 1)) + 1 by omega]
        simp
      · rw [if_neg h, if_neg (by omega), if_neg h1]

def tokOf : Nat → List (Id × Res) → Tk
  | _, [] => []
  | k, x :: l => (k, some x) :: tokOf (k + 1) l
theorem lk_tokOf : ∀ (l : List (Id × Res)) (k t : Nat), lk (tokOf k l) t = if k ≤ t then (l[t - k]?).map some else none
  | [], k, t => by simp [tokOf, lk]
  | p :: ps, k, t => by
    rw [tokOf, lk_cons, lk_tokOf ps (k + 1) t]
    by_cases h : k = t
    · subst h; simp
    · by_cases h1 : k ≤ t
      · rw [if_neg h, if_pos (by omega), if_pos h1, show t - k = (t - (k + 1)) + 1 by omega]
        simp
      · rw [if_neg h, if_neg (by omega), if_neg h1]

theorem fn_enter {P : Program} {f : FuncId} {fn : Func} {c : Code} {pre : List Pred} {need : List (Id × Res)} {k : Nat} {post : (Nat → Id) → Pred} {prod : (Nat → Id) → List (Id × Res)}
    (hf : P.funcs[f]? = some fn) (hb : fn.body = some c) (hn : pre.length ≤ fn.ntmps) (hneed : need.length ≤ 1000000)
    (h : ∀ (C : Cx) (ι : Nat → Id) (R : Ending → World → Prop), CxOK C → C.n = fn.ntmps → C.ex = (List.range k).map ι → (∀ j, j < k → C.σ0.ρ (ι j) = none) → (∀ i j, i < k → j < k → ι i = ι j → i = j) →
      (∀ v W σ, Le C.σ0 σ → KeepB C σ → Models σ (fun n => if n < 1000000 then (prod ι)[n]? else C.Rf n) W → (post ι).h σ v → R (.returned v) W) →
      Tr P C c (frameOf 0 pre) (tokOf 0 need) (bodyPost P fn R)) : FnOK P f pre need k post prod := by
  intro σ W R args ι M hmod hR hM hι hinj hsz hargs
  let C : Cx := { σ0 := σ, M := M, ex := (List.range k).map ι, Rf := fun n => if n < 1000000 then none else R n, n := fn.ntmps }
  refine calls_of_wp hf hb ?_
  refine h C ι _ ⟨fun m hm => by simp [C, hm]⟩ rfl rfl (fun j hj => (hι j hj).2) hinj ?_ _ W ⟨σ, Le.refl σ, fun _ _ _ => rfl, ?_⟩
  · intro v W' σ' hle hkeep hmod' hpost
    refine ⟨v, σ', rfl, hle, ?_, hmod'.sub ?_, hpost⟩
    · intro id hid hne
      refine hkeep id hid ?_
      intro hmem
      obtain ⟨j, hj, rfl⟩ := List.mem_map.1 hmem
      exact hne j (List.mem_range.1 hj) rfl
    · intro n x hx
      by_cases hn' : n < 1000000
      · simpa [hn'] using hx
      · simpa [hn', C] using hx
  · refine ⟨by simp [C]; omega, rfl, hmod.sub ?_, ?_⟩
    · intro n x hx
      simp only [tkf, lk_tokOf, Nat.zero_le, if_true, Nat.sub_zero] at hx
      by_cases hn' : n < 1000000
      · rw [hR n hn']
        cases hnd : need[n]? with
        | none => rw [hnd] at hx; simp [C, hn'] at hx
        | some y => rw [hnd] at hx; simpa using hx
      · have : need[n]? = none := by rw [List.getElem?_eq_none_iff]; omega
        rw [this] at hx
        simpa [C, hn'] using hx
    · intro t p hp
      rw [lk_frameOf] at hp
      simp only [Nat.zero_le, if_true, Nat.sub_zero] at hp
      have ht : t < args.size := by rw [hsz]; exact (List.getElem?_eq_some_iff.1 hp).1
      have := hargs t p hp
      have e : (args ++ Array.replicate (fn.ntmps - args.size) undef).getD t undef = args.getD t undef := by
        simp [Array.getD, ht, show t < args.size + (fn.ntmps - args.size) by omega]
      show p.h σ ((args ++ Array.replicate (fn.ntmps - args.size) undef).getD t undef)
      rw [e]
      exact this
end Go.AL
