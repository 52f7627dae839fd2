/- Loops of which only what changes is said; what is handed over, found by its tokens. -/
import Derived.Test.YtabfnclbehkcnaaAlMake
namespace Go.AL
open Go.RowKit

theorem SubF.append {F A B : Fr} (h : SubF F A) (k : SubF F B) : SubF F (A ++ B) := by
  induction h with
  | nil => exact k
  | cons h _ ih => exact .cons h ih
  | ent h he _ ih => exact .ent h he ih
theorem SubL.append {L A B : Tk} (h : SubL L A) (k : SubL L B) : SubL L (A ++ B) := by
  induction h with
  | nil => exact k
  | cons h _ ih => exact .cons h ih

section
variable {P : Program} {C : Cx} {F : Fr} {L : Tk} {Q : Exit → Act → World → Prop}
/-- a loop of which what changes is said; the rest stays -/
theorem tr_loopK {α : Type} {c : Code} {Fk : Fr} {Lk : Tk} (x0 : α) (Fx : α → Fr) (Lx : α → Tk) (μ : α → Nat) (hC : CxOK C) (hF : SubF F Fk) (hL : SubL L Lk) (hlow : lowL L = true)
    (h0 : SubF F (Fx x0)) (l0 : SubL L (Lx x0))
    (round : ∀ x, Tr P C c (Fx x ++ Fk) (Lx x ++ Lk) (Exit.then (fun a W => ∃ y, μ y < μ x ∧ St C (Fx y ++ Fk) (Lx y ++ Lk) a W) Q)) : Tr P C (.loop c) F L Q :=
  tr_loop x0 (fun x => Fx x ++ Fk) (fun x => Lx x ++ Lk) μ (pe_st hC (h0.append hF) (l0.append hL) hlow) round
theorem tr_cases {c : Code} (b : Bool) (ht : b = true → Tr P C c F L Q) (hf : b = false → Tr P C c F L Q) : Tr P C c F L Q := by
  cases hb : b
  · exact hf hb
  · exact ht hb
theorem tr_byCases {c : Code} (p : Prop) (ht : p → Tr P C c F L Q) (hf : ¬ p → Tr P C c F L Q) : Tr P C c F L Q := by
  by_cases hb : p
  · exact ht hb
  · exact hf hb
end

/-- the blocks that get a new name -/
inductive Moves (L : Tk) : List (Nat × Id × Res) → Prop
  | nil : Moves L []
  | cons {m : Nat} {id : Id} {r : Res} {l : List (Nat × Id × Res)} (h : lk L m = some (some (id, r))) (hr : RenR r) (hl : Moves L l) : Moves L ((m, id, r) :: l)
theorem Moves.at_ {L : Tk} {l : List (Nat × Id × Res)} (h : Moves L l) : (∀ x ∈ l, lk L x.1 = some (some x.2)) ∧ ∀ x ∈ l, RenR x.2.2 := by
  induction h with
  | nil => exact ⟨by simp, by simp⟩
  | cons h hr _ ih =>
    refine ⟨fun x hx => ?_, fun x hx => ?_⟩
    · rcases List.mem_cons.1 hx with rfl | hx
      · exact h
      · exact ih.1 x hx
    · rcases List.mem_cons.1 hx with rfl | hx
      · exact hr
      · exact ih.2 x hx
section
variable {P : Program} {C : Cx} {F : Fr} {L : Tk} {fn : Func} {R : Ending → World → Prop} {post : (Nat → Id) → Pred} {prod : (Nat → Id) → List (Id × Res)} {moves : List (Nat × Id × Res)}
theorem pe_ownT' {k : Nat} {rs : List ResultVar} {ps : List Pred} (s : List Nat) (hres : fn.results = rs.toArray) (hlen : Nat.beq ps.length 1 = false) (ho : OwesN C R k post prod) (hlow : lowL L = true) (hr : RV P F L rs ps)
    (hm : Moves L moves) (hk : moves.length = k) (hnd : nodupN moves = true) (hs : nodupB s = true)
    (hconv : ∀ (τ : Sg) (ι : Nat → Id), Sames τ ι moves → (∀ v, (tupP ps).h τ v → (post ι).h τ v) ∧ Prods τ ι L moves (prod ι) s) : Post C F L (bodyPost P fn R .ret) :=
  pe_ownT moves s hres hlen ho hk hlow hr hm.at_.1 hnd hm.at_.2 hs hconv
theorem pe_ownS' {k : Nat} {r : ResultVar} {p : Pred} (s : List Nat) (hres : fn.results = #[r]) (ho : OwesN C R k post prod) (hlow : lowL L = true) (hr : RV P F L [r] [p])
    (hm : Moves L moves) (hk : moves.length = k) (hnd : nodupN moves = true) (hs : nodupB s = true)
    (hconv : ∀ (τ : Sg) (ι : Nat → Id), Sames τ ι moves → (∀ v, p.h τ v → (post ι).h τ v) ∧ Prods τ ι L moves (prod ι) s) : Post C F L (bodyPost P fn R .ret) :=
  pe_ownS moves s hres ho hk hlow hr hm.at_.1 hnd hm.at_.2 hs hconv
end
theorem aggP_at {τ : Sg} {ps qs : List Pred} (h : EntsAt τ ps qs) : ∀ v, (aggP ps).h τ v → (aggP qs).h τ v := by
  rintro v ⟨cs, hv, hc⟩
  exact ⟨cs, hv, h.vs cs hc⟩
theorem tupP_at {τ : Sg} {ps qs : List Pred} (h : EntsAt τ ps qs) : ∀ v, (tupP ps).h τ v → (tupP qs).h τ v := by
  intro v hv
  obtain ⟨cs, rfl, hl, hc⟩ := hv
  refine ⟨cs, rfl, ?_, ?_⟩
  · clear hc
    induction h generalizing cs with
    | nil => exact hl
    | cons h t ih =>
      cases cs with
      | nil => simp at hl
      | cons c cs => simpa using ih cs (by simpa using hl)
  · clear hl
    intro j p u hp hu
    induction h generalizing cs j with
    | nil => simp at hp
    | @cons p' q' ps qs h t ih =>
      cases cs with
      | nil => simp at hu
      | cons c cs =>
        cases j with
        | zero =>
          simp at hp hu
          subst hp
          subst hu
          exact h c (hc 0 p' c rfl rfl)
        | succ j => exact ih cs (fun j p u hp hu => hc (j + 1) p u (by simpa using hp) (by simpa using hu)) j (by simpa using hp) (by simpa using hu)
theorem ent_at {p q : Pred} (h : Ent p q) {τ : Sg} : ∀ v, p.h τ v → q.h τ v := fun v hv => h τ v hv
theorem mv_ren {τ : Sg} {old new : Id} {k off n c : Nat} (h1 : τ.ρ new = τ.ρ old) (h2 : τ.z new = τ.z old) : ∀ v, (mvP old k off n c).h τ v → (mvP new k off n c).h τ v := fun v h => (Ren.mv k off n c 0 0 []).p τ old new v h1 h2 h
end Go.AL
