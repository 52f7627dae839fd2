/- Contracts that hand over several blocks. -/
import Derived.Test.YtabfnclbehkcnaaAlMap
namespace Go.AL
open Go.RowKit

def RenR (r : Res) : Prop := ∀ (σ : Sg) (id id' : Id) (b : Nat) (o : Obj), σ.ρ id' = σ.ρ id → σ.z id' = σ.z id → r.h σ id b o → r.h σ id' b o
theorem RenR.blk (κ : Nat) (T : TypeId) (ps : List Pred) : RenR (blkX κ T ps) := (Ren.mv 0 0 0 0 κ T ps).r
theorem RenR.tail (T : TypeId) (n m : Nat) : RenR (tail T n m) := by
  rintro σ id id' b o h1 h2 ⟨cs, ho, hl, hn⟩
  exact ⟨cs, ho, by rw [h2]; exact hl, hn⟩
theorem RenR.map {α β : Type} (f : α → List Value) (g : β → Value) (m : List (α × β)) : RenR (mapR f g m) := (Ren.map f g m).r

theorem bind_zne (σ : Sg) (id i : Id) (b : Option Nat) (z : Nat) (h : i ≠ id) : (bind σ id b z).z i = σ.z i := by simp [bind, h]

theorem Models.rename1 {σ : Sg} {R : Toks} {W : World} {n0 : Nat} {old new : Id} {r : Res} {ob : Option Nat} (h : Models σ R W) (hR : R n0 = some (old, r)) (hnew : σ.ρ new = none) (hren : RenR r) (hob : σ.ρ old = some ob) :
    Models (bind σ new ob (σ.z old)) (fun n => if n = n0 then some (new, r) else R n) W := by
  have hne : old ≠ new := fun e => by rw [e, hnew] at hob; cases hob
  have hle : Le σ (bind σ new ob (σ.z old)) := le_bind hnew
  have e1 : (bind σ new ob (σ.z old)).ρ new = (bind σ new ob (σ.z old)).ρ old := by rw [bind_at, bind_ne _ _ _ _ _ hne, hob]
  have e2 : (bind σ new ob (σ.z old)).z new = (bind σ new ob (σ.z old)).z old := by rw [bind_z, bind_zne _ _ _ _ _ hne]
  have hm1 : Models σ (fun n => if n = n0 then none else R n) W := h.sub fun m x hx => by
    split at hx
    · cases hx
    · exact hx
  have hm2 := hm1.move (W' := W) hle n0 new r (fun i hi => bind_ne _ _ _ _ _ hi) (by rw [bind_at]; simp) (.inl (by simp)) ?_ (Below.refl _ _) (fun m x b _ _ _ => ⟨rfl, fun _ => rfl⟩) (fun b i v hv => hm1.imm b i v hv) ?_ ?_
  · refine hm2.congr ?_
    funext n
    by_cases hn : n = n0 <;> simp [hn]
  · intro m x _ hm e
    exact hm1.used m x hm (by rw [e]; exact hnew)
  · intro b hb
    rw [bind_at] at hb
    simp only [Option.some.injEq] at hb
    rw [hb] at hob
    obtain ⟨g1, o, g2, g3⟩ := h.res n0 old r hR b hob
    exact ⟨g1, o, g2, hren _ old new b o e1 e2 (r.m σ _ old b o hle hob (fun _ => rfl) g3)⟩
  · intro m x b hm0 hm hb hxb
    rw [bind_at] at hb
    simp only [Option.some.injEq] at hb
    rw [hb] at hob
    exact h.sep m n0 x (old, r) b hm0 (by simpa [hm0] using hm) hR hxb hob

def updT (t : Nat → Nat) (ι : Nat → Id) (r : Nat → Res) (R : Toks) : Nat → Toks
  | 0 => R
  | k + 1 => fun n => if n = t k then some (ι k, r k) else updT t ι r R k n
theorem updT_miss {t : Nat → Nat} {ι : Nat → Id} {r : Nat → Res} {R : Toks} {n : Nat} : ∀ k, (∀ j, j < k → n ≠ t j) → updT t ι r R k n = R n
  | 0, _ => rfl
  | k + 1, h => by
    simp only [updT, if_neg (h k (by omega))]
    exact updT_miss k fun j hj => h j (by omega)
theorem updT_hit {t : Nat → Nat} {ι : Nat → Id} {r : Nat → Res} {R : Toks} : ∀ k j, j < k → (∀ i j, i < k → j < k → t i = t j → i = j) → updT t ι r R k (t j) = some (ι j, r j)
  | 0, _, h, _ => by omega
  | k + 1, j, hj, hinj => by
    simp only [updT]
    by_cases h : t j = t k
    · have := hinj j k (by omega) (by omega) h
      subst this
      simp
    · rw [if_neg h]
      exact updT_hit k j (by
        rcases Nat.lt_or_eq_of_le (Nat.le_of_lt_succ hj) with h1 | h1
        · exact h1
        · subst h1; exact absurd rfl h) fun a b ha hb => hinj a b (by omega) (by omega)

theorem renAll {σ : Sg} {R : Toks} {W : World} (h : Models σ R W) (t : Nat → Nat) (olds ι : Nat → Id) (r : Nat → Res) : ∀ k, (∀ j, j < k → R (t j) = some (olds j, r j)) → (∀ i j, i < k → j < k → t i = t j → i = j) →
    (∀ j, j < k → σ.ρ (ι j) = none) → (∀ i j, i < k → j < k → ι i = ι j → i = j) → (∀ j, j < k → RenR (r j)) →
    ∃ τ, Le σ τ ∧ (∀ j, j < k → τ.ρ (ι j) = τ.ρ (olds j) ∧ τ.z (ι j) = τ.z (olds j)) ∧ (∀ id, (∀ j, j < k → id ≠ ι j) → τ.ρ id = σ.ρ id) ∧ Models τ (updT t ι r R k) W
  | 0, _, _, _, _, _ => ⟨σ, Le.refl σ, fun j hj => by omega, fun _ _ => rfl, h⟩
  | k + 1, h1, h2, h3, h4, h5 => by
    obtain ⟨τ, hle, hs, hk, hm⟩ := renAll h t olds ι r k (fun j hj => h1 j (by omega)) (fun i j hi hj => h2 i j (by omega) (by omega)) (fun j hj => h3 j (by omega)) (fun i j hi hj => h4 i j (by omega) (by omega)) (fun j hj => h5 j (by omega))
    obtain ⟨ob, hob⟩ := Option.ne_none_iff_exists'.1 (h.used (t k) _ (h1 k (by omega)))
    have hobt := hle.ρ _ _ hob
    have hnew : τ.ρ (ι k) = none := by rw [hk (ι k) (fun j hj e => by have := h4 k j (by omega) (by omega) e; omega)]; exact h3 k (by omega)
    have hne : olds k ≠ ι k := fun e => by rw [e, hnew] at hobt; cases hobt
    have hrt : updT t ι r R k (t k) = some (olds k, r k) := by rw [updT_miss k (fun j hj e => by have := h2 k j (by omega) (by omega) e; omega)]; exact h1 k (by omega)
    have hm2 := hm.rename1 hrt hnew (h5 k (by omega)) hobt
    refine ⟨bind τ (ι k) ob (τ.z (olds k)), hle.trans (le_bind hnew), ?_, ?_, hm2⟩
    · intro j hj
      by_cases hjk : j = k
      · subst hjk
        rw [bind_at, bind_ne _ _ _ _ _ hne, bind_z, bind_zne _ _ _ _ _ hne]
        exact ⟨hobt.symm, rfl⟩
      · have hj' : j < k := by omega
        obtain ⟨ob2, hob2⟩ := Option.ne_none_iff_exists'.1 (h.used (t j) _ (h1 j (by omega)))
        have hne2 : olds j ≠ ι k := fun e => by have := hle.ρ _ _ hob2; rw [e, hnew] at this; cases this
        have hne3 : ι j ≠ ι k := fun e => hjk (h4 j k (by omega) (by omega) e)
        rw [bind_ne _ _ _ _ _ hne2, bind_ne _ _ _ _ _ hne3, bind_zne _ _ _ _ _ hne2, bind_zne _ _ _ _ _ hne3]
        exact hs j hj'
    · intro id hid
      rw [bind_ne _ _ _ _ _ (hid k (by omega))]
      exact hk id fun j hj => hid j (by omega)

theorem Models.resMono {τ : Sg} {Ra Rb : Toks} {W : World} (h : Models τ Ra W) (g : Nat → Nat) (hg : ∀ n m, n ≠ m → Rb n ≠ none → Rb m ≠ none → g n ≠ g m)
    (hr : ∀ n x, Rb n = some x → ∃ r0, Ra (g n) = some (x.1, r0) ∧ ∀ b o, r0.h τ x.1 b o → x.2.h τ x.1 b o) : Models τ Rb W where
  base := h.base
  n0 := h.n0
  imm := h.imm
  res n id r hn b hb := by
    obtain ⟨r0, h1, h2⟩ := hr n (id, r) hn
    obtain ⟨g1, o, g2, g3⟩ := h.res (g n) id r0 h1 b hb
    exact ⟨g1, o, g2, h2 b o g3⟩
  sep n m x y b hnm hx hy := by
    obtain ⟨r0, h1, _⟩ := hr n x hx
    obtain ⟨r1, h2, _⟩ := hr m y hy
    exact h.sep (g n) (g m) (x.1, r0) (y.1, r1) b (hg n m hnm (by simp [hx]) (by simp [hy])) h1 h2
  used n x hx := by
    obtain ⟨r0, h1, _⟩ := hr n x hx
    exact h.used (g n) (x.1, r0) h1
  fin := h.fin

def OwesN (C : Cx) (R : Ending → World → Prop) (k : Nat) (post : (Nat → Id) → Pred) (prod : (Nat → Id) → List (Id × Res)) : Prop :=
  ∀ (v : Value) (W : World) (σ : Sg) (R' : Toks) (t : Nat → Nat) (olds : Nat → Id) (r : Nat → Res) (s : Nat → Nat), Le C.σ0 σ → KeepB C σ → Models σ R' W → (∀ n, 1000000 ≤ n → R' n = C.Rf n) →
    (∀ j, j < k → R' (t j) = some (olds j, r j) ∧ t j < 1000000) → (∀ i j, i < k → j < k → t i = t j → i = j) → (∀ j, j < k → RenR (r j)) →
    (∀ τ ι, Le σ τ → (∀ j, j < k → τ.ρ (ι j) = τ.ρ (olds j) ∧ τ.z (ι j) = τ.z (olds j)) → (post ι).h τ v ∧
      (∀ n x, (prod ι)[n]? = some x → s n < 1000000 ∧ ∃ r0, updT t ι r R' k (s n) = some (x.1, r0) ∧ ∀ b o, r0.h τ x.1 b o → x.2.h τ x.1 b o) ∧
      (∀ n m, n < (prod ι).length → m < (prod ι).length → s n = s m → n = m)) → R (.returned v) W

theorem fn_ownN {P : Program} {f : FuncId} {fn : Func} {c : Code} {pre : List Pred} {need : List (Id × Res)} {k : Nat} {post : (Nat → Id) → Pred} {prod : (Nat → Id) → List (Id × Res)} {n : Nat} (hf : P.funcs[f]? = some fn) (hb : fn.body = some c) (hn : fn.ntmps = n) (hl : (Nat.ble pre.length n && Nat.ble need.length 1000000) = true)
    (h : ∀ (σ0 : Sg) (M : Nat) (Rf : Toks) (R : Ending → World → Prop), CxOK ⟨σ0, M, [], Rf, n⟩ → OwesN ⟨σ0, M, [], Rf, n⟩ R k post prod → Tr P ⟨σ0, M, [], Rf, n⟩ c (frameOf 0 pre) (tokOf 0 need) (bodyPost P fn R)) : FnOK P f pre need k post prod := by
  intro σ W R args ι M hmod hR hM hι hinj hsz hargs
  simp only [Bool.and_eq_true] at hl
  have hl' := Nat.le_of_ble_eq_true hl.1
  have hl2 := Nat.le_of_ble_eq_true hl.2
  refine calls_of_wp hf hb ?_
  refine h σ M (fun m => if m < 1000000 then none else R m) _ ⟨fun m hm => by simp [hm]⟩ ?_ _ W ⟨σ, Le.refl σ, fun _ _ _ => rfl, ?_⟩
  · intro v W' σ' R' t olds r s hle hkeep hmod' hhigh ht htinj hren hconv
    obtain ⟨τ, hleτ, hs, hk, hm⟩ := renAll hmod' t olds ι r k (fun j hj => (ht j hj).1) htinj (fun j hj => by rw [hkeep (ι j) (hι j hj).1 (by simp)]; exact (hι j hj).2) hinj hren
    obtain ⟨hp, hprod, hsinj⟩ := hconv τ ι hleτ hs
    refine ⟨v, τ, rfl, hle.trans hleτ, ?_, ?_, hp⟩
    · intro i hi hne
      rw [hk i hne]
      exact hkeep i hi (by simp)
    · refine hm.resMono (fun m => if m < 1000000 then s m else m) ?_ ?_
      · intro a b hab ha hb' e
        by_cases h1 : a < 1000000
        · simp only [h1, if_true] at ha e
          obtain ⟨x, hx⟩ := Option.ne_none_iff_exists'.1 ha
          have hax := hprod a x hx
          by_cases h2 : b < 1000000
          · simp only [h2, if_true] at hb' e
            obtain ⟨y, hy⟩ := Option.ne_none_iff_exists'.1 hb'
            exact hab (hsinj a b (List.getElem?_eq_some_iff.1 hx).1 (List.getElem?_eq_some_iff.1 hy).1 e)
          · simp only [h2, if_false] at e
            omega
        · simp only [h1, if_false] at ha e
          by_cases h2 : b < 1000000
          · simp only [h2, if_true] at hb' e
            obtain ⟨y, hy⟩ := Option.ne_none_iff_exists'.1 hb'
            have hby := hprod b y hy
            omega
          · simp only [h2, if_false] at e
            exact hab e
      · intro m x hx
        by_cases h1 : m < 1000000
        · simp only [h1, if_true] at hx ⊢
          exact (hprod m x hx).2
        · simp only [h1, if_false] at hx ⊢
          refine ⟨x.2, ?_, fun _ _ h => h⟩
          rw [updT_miss k (fun j hj e => by have := (ht j hj).2; omega), hhigh m (by omega)]
          simp only [h1, if_false]
          exact hx
  · refine ⟨by simp; omega, rfl, hmod.sub ?_, ?_⟩
    · intro m x hx
      simp only [tkf, lk_tokOf, Nat.zero_le, if_true, Nat.sub_zero] at hx
      by_cases hm : m < 1000000
      · rw [hR m hm]
        cases hnd : need[m]? with
        | none => rw [hnd] at hx; simp [hm] at hx
        | some y => rw [hnd] at hx; simpa using hx
      · have : need[m]? = none := by rw [List.getElem?_eq_none_iff]; omega
        rw [this] at hx
        simpa [hm] using hx
    · intro t p hp
      rw [lk_frameOf] at hp
      simp only [Nat.zero_le, if_true, Nat.sub_zero] at hp
      have ht : t < args.size := by rw [hsz]; exact (List.getElem?_eq_some_iff.1 hp).1
      have := hargs t p hp
      have e : (args ++ Array.replicate (fn.ntmps - args.size) undef).getD t undef = args.getD t undef := by
        simp [Array.getD, ht, show t < args.size + (fn.ntmps - args.size) by omega]
      show p.h σ ((args ++ Array.replicate (fn.ntmps - args.size) undef).getD t undef)
      rw [e]
      exact this
end Go.AL
namespace Go.AL
open Go.RowKit
/-- what is handed over: blocks that get a new name, blocks that keep theirs -/
inductive Prods (τ : Sg) (ι : Nat → Id) (L : Tk) (moves : List (Nat × Id × Res)) : List (Id × Res) → List Nat → Prop
  | nil : Prods τ ι L moves [] []
  | moved {j m : Nat} {old : Id} {r0 r : Res} {l : List (Id × Res)} {s : List Nat} (hj : moves[j]? = some (m, old, r0)) (he : ∀ b o, r0.h τ (ι j) b o → r.h τ (ι j) b o) (hl : Prods τ ι L moves l s) : Prods τ ι L moves ((ι j, r) :: l) (m :: s)
  | kept {m : Nat} {id : Id} {r0 r : Res} {l : List (Id × Res)} {s : List Nat} (hm : lk L m = some (some (id, r0))) (hn : moves.all (fun x => !Nat.beq x.1 m) = true) (he : ∀ b o, r0.h τ id b o → r.h τ id b o) (hl : Prods τ ι L moves l s) :
      Prods τ ι L moves ((id, r) :: l) (m :: s)
def Sames (τ : Sg) (ι : Nat → Id) (moves : List (Nat × Id × Res)) : Prop := ∀ (j : Nat) (x : Nat × Id × Res), moves[j]? = some x → τ.ρ (ι j) = τ.ρ x.2.1 ∧ τ.z (ι j) = τ.z x.2.1

theorem Prods.at_ {τ : Sg} {ι : Nat → Id} {L : Tk} {moves : List (Nat × Id × Res)} {Rf : Toks} {l : List (Id × Res)} {s : List Nat} (h : Prods τ ι L moves l s) (hlow : lowL L = true) (hmoves : ∀ x ∈ moves, lk L x.1 = some (some x.2)) (hnd : nodupN moves = true) :
    l.length = s.length ∧ ∀ (n : Nat) (x : Id × Res), l[n]? = some x → (s[n]?).getD 0 < 1000000 ∧ ∃ r0, updT (fun j => ((moves[j]?).map (·.1)).getD 0) ι (fun j => ((moves[j]?).map (·.2.2)).getD (tail 0 0 0)) (tkf L Rf) moves.length ((s[n]?).getD 0) = some (x.1, r0) ∧ ∀ b o, r0.h τ x.1 b o → x.2.h τ x.1 b o := by
  have hlt : ∀ m y, lk L m = some (some y) → m < 1000000 := fun m y hm => by
    rcases Nat.lt_or_ge m 1000000 with h | h
    · exact h
    · rw [lk_low hlow h] at hm; cases hm
  have hinj : ∀ i j, i < moves.length → j < moves.length → ((moves[i]?).map (·.1)).getD 0 = ((moves[j]?).map (·.1)).getD 0 → i = j := by
    intro i j hi hj e
    simp only [List.getElem?_eq_getElem hi, List.getElem?_eq_getElem hj, Option.map_some, Option.getD_some] at e
    exact nodup_inj (nodup_of hnd) (by simpa using hi) (by simpa using hj) (by simpa using e)
  induction h with
  | nil => exact ⟨rfl, fun n x hx => by simp at hx⟩
  | @moved j m old r0 r l s hj he _ ih =>
    refine ⟨by simp [ih.1], fun n x hx => ?_⟩
    cases n with
    | zero =>
      simp at hx
      subst hx
      have hjl := (List.getElem?_eq_some_iff.1 hj).1
      refine ⟨by simpa using hlt m _ (hmoves _ (List.mem_of_getElem? hj)), r0, ?_, he⟩
      have := updT_hit (t := fun j => ((moves[j]?).map (·.1)).getD 0) (ι := ι) (r := fun j => ((moves[j]?).map (·.2.2)).getD (tail 0 0 0)) (R := tkf L Rf) moves.length j hjl hinj
      simpa [hj] using this
    | succ n => simpa using ih.2 n x (by simpa using hx)
  | @kept m id r0 r l s hm hn he _ ih =>
    refine ⟨by simp [ih.1], fun n x hx => ?_⟩
    cases n with
    | zero =>
      simp at hx
      subst hx
      refine ⟨by simpa using hlt m _ hm, r0, ?_, he⟩
      simp only [List.getElem?_cons_zero, Option.getD_some]
      rw [updT_miss]
      · simp [tkf, hm]
      · intro j hj e
        rw [List.all_eq_true] at hn
        have := hn _ (List.getElem_mem hj)
        simp only [List.getElem?_eq_getElem hj, Option.map_some, Option.getD_some] at e
        rw [← e] at this
        simp at this
    | succ n => simpa using ih.2 n x (by simpa using hx)

section
variable {P : Program} {C : Cx} {F : Fr} {L : Tk} {fn : Func} {R : Ending → World → Prop} {post : (Nat → Id) → Pred} {prod : (Nat → Id) → List (Id × Res)} {moves : List (Nat × Id × Res)} {s : List Nat}
theorem owesN_use {k : Nat} {W : World} {σ : Sg} {v : Value} {p : Pred} (ho : OwesN C R k post prod) (hk : moves.length = k) (h1 : Le C.σ0 σ) (h2 : KeepB C σ) (hm : Models σ (tkf L C.Rf) W) (hv : p.h σ v) (hlow : lowL L = true)
    (hmoves : ∀ x ∈ moves, lk L x.1 = some (some x.2)) (hnd : nodupN moves = true) (hren : ∀ x ∈ moves, RenR x.2.2) (hs : nodupB s = true)
    (hconv : ∀ (τ : Sg) (ι : Nat → Id), Sames τ ι moves → (∀ v, p.h τ v → (post ι).h τ v) ∧ Prods τ ι L moves (prod ι) s) : R (.returned v) W := by
  subst hk
  refine ho v W σ (tkf L C.Rf) (fun j => ((moves[j]?).map (·.1)).getD 0) (fun j => ((moves[j]?).map (·.2.1)).getD (0, 0)) (fun j => ((moves[j]?).map (·.2.2)).getD (tail 0 0 0)) (fun n => (s[n]?).getD 0) h1 h2 hm ?_ ?_ ?_ ?_ ?_
  · intro n hn
    simp only [tkf, lk_low hlow hn]
  · intro j hj
    have hx := hmoves _ (List.getElem_mem hj)
    simp only [List.getElem?_eq_getElem hj, Option.map_some, Option.getD_some]
    refine ⟨by simp [tkf, hx], ?_⟩
    rcases Nat.lt_or_ge moves[j].1 1000000 with h | h
    · exact h
    · rw [lk_low hlow h] at hx; cases hx
  · intro i j hi hj e
    simp only [List.getElem?_eq_getElem hi, List.getElem?_eq_getElem hj, Option.map_some, Option.getD_some] at e
    exact nodup_inj (nodup_of hnd) (by simpa using hi) (by simpa using hj) (by simpa using e)
  · intro j hj
    simp only [List.getElem?_eq_getElem hj, Option.map_some, Option.getD_some]
    exact hren _ (List.getElem_mem hj)
  · intro τ ι hle hsm
    obtain ⟨g1, g2⟩ := hconv τ ι (fun j x hx => by
      have hj := (List.getElem?_eq_some_iff.1 hx).1
      have := hsm j hj
      simpa [hx] using this)
    obtain ⟨g3, g4⟩ := g2.at_ (Rf := C.Rf) hlow hmoves hnd
    refine ⟨g1 v (p.m _ _ _ hle hv), g4, fun n m hn hm e => ?_⟩
    rw [g3] at hn hm
    simp only [List.getElem?_eq_getElem hn, List.getElem?_eq_getElem hm, Option.getD_some] at e
    exact nodup_inj (nodup_of hs) hn hm e
theorem pe_ownT {k : Nat} {rs : List ResultVar} {ps : List Pred} (moves : List (Nat × Id × Res)) (s : List Nat) (hres : fn.results = rs.toArray) (hlen : Nat.beq ps.length 1 = false) (ho : OwesN C R k post prod) (hk : moves.length = k) (hlow : lowL L = true) (hr : RV P F L rs ps)
    (hmoves : ∀ x ∈ moves, lk L x.1 = some (some x.2)) (hnd : nodupN moves = true) (hren : ∀ x ∈ moves, RenR x.2.2) (hs : nodupB s = true)
    (hconv : ∀ (τ : Sg) (ι : Nat → Id), Sames τ ι moves → (∀ v, (tupP ps).h τ v → (post ι).h τ v) ∧ Prods τ ι L moves (prod ι) s) : Post C F L (bodyPost P fn R .ret) := by
  rintro a W ⟨σ, h1, h2, h3⟩
  obtain ⟨vs, hrun, hl, hv⟩ := hr.run h3
  have hne : ¬ vs.length = 1 := fun e => by rw [hl] at e; rw [e] at hlen; simp at hlen
  refine ⟨h3.defers, .tuple vs.toArray, ?_, ?_⟩
  · have := run_results' (P := P) hres a W hrun
    rwa [dif_neg hne] at this
  · exact owesN_use (v := .tuple vs.toArray) (p := tupP ps) ho hk h1 h2 h3.mod ⟨vs, rfl, hl, hv⟩ hlow hmoves hnd hren hs hconv
theorem pe_ownS {k : Nat} {r : ResultVar} {p : Pred} (moves : List (Nat × Id × Res)) (s : List Nat) (hres : fn.results = #[r]) (ho : OwesN C R k post prod) (hk : moves.length = k) (hlow : lowL L = true) (hr : RV P F L [r] [p])
    (hmoves : ∀ x ∈ moves, lk L x.1 = some (some x.2)) (hnd : nodupN moves = true) (hren : ∀ x ∈ moves, RenR x.2.2) (hs : nodupB s = true)
    (hconv : ∀ (τ : Sg) (ι : Nat → Id), Sames τ ι moves → (∀ v, p.h τ v → (post ι).h τ v) ∧ Prods τ ι L moves (prod ι) s) : Post C F L (bodyPost P fn R .ret) := by
  rintro a W ⟨σ, h1, h2, h3⟩
  obtain ⟨vs, hrun, hl, hv⟩ := hr.run h3
  obtain ⟨v, rfl⟩ : ∃ v, vs = [v] := by
    match vs, hl with
    | [v], _ => exact ⟨v, rfl⟩
  refine ⟨h3.defers, v, run_results' (rs := [r]) hres a W hrun, ?_⟩
  exact owesN_use (v := v) (p := p) ho hk h1 h2 h3.mod (hv 0 p v rfl rfl) hlow hmoves hnd hren hs hconv
end
/-! ### renaming inside predicates -/
theorem row_ren {α : Type} {τ : Sg} {old new : Id} {f : α → List Pred} {k : Nat} {xs : List α} (h1 : τ.ρ new = τ.ρ old) (h2 : τ.z new = τ.z old) : ∀ v, (rowP old f k xs).h τ v → (rowP new f k xs).h τ v := fun v h => (Ren.row f k xs 0 0).p τ old new v h1 h2 h
theorem ptr_ren {τ : Sg} {old new : Id} {off : Nat} (h1 : τ.ρ new = τ.ρ old) : ∀ v, (ptrP old off).h τ v → (ptrP new off).h τ v := by
  rintro v ⟨b, hb, hv⟩
  exact ⟨b, by rw [h1]; exact hb, hv⟩
theorem map_ren {τ : Sg} {old new : Id} (h1 : τ.ρ new = τ.ρ old) : ∀ v, (mapP old).h τ v → (mapP new).h τ v := by
  rintro v ⟨b, hb, hv⟩
  exact ⟨b, by rw [h1]; exact hb, hv⟩
inductive EntsAt (τ : Sg) : List Pred → List Pred → Prop
  | nil : EntsAt τ [] []
  | cons {p q : Pred} {ps qs : List Pred} (h : ∀ v, p.h τ v → q.h τ v) (t : EntsAt τ ps qs) : EntsAt τ (p :: ps) (q :: qs)
theorem EntsAt.vs {τ : Sg} {ps qs : List Pred} (h : EntsAt τ ps qs) : ∀ vs, Vs τ ps vs → Vs τ qs vs := by
  induction h with
  | nil => exact fun vs h => h
  | @cons p q ps qs h _ ih =>
    intro vs hv
    match vs, hv with
    | [], hv => exact absurd hv.1 (by simp)
    | v :: vs, hv =>
      have h2 := ih vs ⟨by have := hv.1; simpa using this, fun j p u hp hu => hv.2 (j + 1) p u (by simpa using hp) (by simpa using hu)⟩
      refine ⟨by simp [h2.1], fun j p' u hp hu => ?_⟩
      cases j with
      | zero =>
        simp at hp hu
        subst hp
        subst hu
        have := hv.2 0 p v rfl rfl
        exact ⟨h v this.1, this.2⟩
      | succ j => exact h2.2 j p' u (by simpa using hp) (by simpa using hu)
theorem blk_ents {τ : Sg} {κ : Nat} {T : TypeId} {ps qs : List Pred} (h : EntsAt τ ps qs) {id : Id} : ∀ b o, (blkX κ T ps).h τ id b o → (blkX κ T qs).h τ id b o := by
  rintro b o ⟨cs, rest, ho, hv, hz, hn⟩
  exact ⟨cs, rest, ho, h.vs cs hv, hz, hn⟩
end Go.AL
