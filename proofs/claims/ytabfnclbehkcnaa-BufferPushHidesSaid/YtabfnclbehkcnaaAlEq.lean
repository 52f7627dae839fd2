/- '==' on structs whose leaves are numbers, bools and strings. -/
import Derived.Test.YtabfnclbehkcnaaAlEnd
namespace Go.AL
open Go.RowKit
open Classical

inductive Leaf where
  | i (k : IntKind) | b | s
  deriving DecidableEq

def Leaf.ok : Leaf → Value → Bool
  | .i k, .int k' _ => k == k'
  | .b, .bool _ => true
  | .s, .string _ => true
  | _, _ => false
def typedB : List Leaf → List Value → Bool
  | [], [] => true
  | l :: ls, v :: vs => l.ok v && typedB ls vs
  | _, _ => false

def joinL (lf : TypeId → Option (List Leaf)) (P : Program) : List Field → Nat → Option (List Leaf)
  | [], _ => some []
  | f :: fs, n =>
    match lf f.type, aggB P f.type, sizeB P f.type with
    | some l, some _, some k => if (f.name != "_") && Nat.beq f.offset n && Nat.beq k l.length then (joinL lf P fs (n + l.length)).map (l ++ ·) else none
    | _, _, _ => none
def leafK (P : Program) : Nat → TypeId → Option (List Leaf)
  | 0, _ => none
  | d + 1, t =>
    match P.underlying t with
    | some (.int k) => some [.i k]
    | some .bool => some [.b]
    | some .string => some [.s]
    | some (.struct fs) => if P.stoodInHeld t then none else joinL (leafK P d) P fs.toList 0
    | _ => none

def pack (P : Program) (t : TypeId) (vs : List Value) : Value := if aggB P t = some true then .agg vs.toArray else vs.headD undef

theorem typedB_len : ∀ {ls : List Leaf} {vs : List Value}, typedB ls vs = true → vs.length = ls.length
  | [], [], _ => rfl
  | [], _ :: _, h => by simp [typedB] at h
  | _ :: _, [], h => by simp [typedB] at h
  | l :: ls, v :: vs, h => by simp only [typedB, Bool.and_eq_true] at h; simp [typedB_len h.2]
theorem typedB_append : ∀ {l1 l2 : List Leaf} {vs : List Value}, typedB (l1 ++ l2) vs = true → typedB l1 (vs.take l1.length) = true ∧ typedB l2 (vs.drop l1.length) = true
  | [], l2, vs, h => ⟨by simp [typedB], by simpa using h⟩
  | l :: l1, l2, [], h => by simp [typedB] at h
  | l :: l1, l2, v :: vs, h => by
    simp only [List.cons_append, typedB, Bool.and_eq_true] at h
    have := typedB_append h.2
    simp only [List.length_cons, List.take_succ_cons, List.drop_succ_cons, typedB, Bool.and_eq_true]
    exact ⟨⟨h.1, this.1⟩, this.2⟩
theorem typedB_one {l : Leaf} {vs : List Value} (h : typedB [l] vs = true) : ∃ v, vs = [v] ∧ l.ok v = true := by
  match vs, h with
  | [v], h => simp only [typedB, Bool.and_true] at h; exact ⟨v, rfl, h⟩
  | [], h => simp [typedB] at h
  | _ :: _ :: _, h => simp [typedB] at h

theorem run_part {P : Program} {T : TypeId} {b : Bool} {k : Nat} (ha : aggB P T = some b) (hs : sizeB P T = some k) (cs : List Value) (off : Nat) (h1 : b = false → k = 1) (hl : off + k ≤ cs.length) (W : World) :
    (part T cs.toArray off).run P W = .ok (pack P T ((cs.drop off).take k)) W := by
  cases b with
  | true => simp [part, run_isAgg ha, run_sizeOf' hs, pack, ha]
  | false =>
    have hk := h1 rfl
    subst hk
    have hlt : off < cs.length := by omega
    have : (cs.drop off).take 1 = [cs[off]] := by
      rw [List.drop_eq_getElem_cons hlt]
      rfl
    simp [part, run_isAgg ha, pack, ha, hlt, this]

theorem leaf_flat {P : Program} : ∀ (d : Nat) (t : TypeId) (ls : List Leaf), leafK P d t = some ls → aggB P t = some false → ls.length = 1
  | 0, _, _, h, _ => by simp [leafK] at h
  | d + 1, t, ls, h, ha => by
    unfold leafK at h
    unfold aggB at ha
    split at h
    · simp at h; subst h; rfl
    · simp at h; subst h; rfl
    · simp at h; subst h; rfl
    · rename_i hu; rw [hu] at ha; simp [isAggD] at ha
    · simp at h

theorem run_equal_flat {P : Program} : ∀ (d : Nat) (t : TypeId) (ls : List Leaf), leafK P d t = some ls → ∀ (e : Nat) (vs us : List Value) (W : World), typedB ls vs = true → typedB ls us = true →
    (Op.equalIn (d + e) t (pack P t vs) (pack P t us)).run P W = .ok (decide (vs = us)) W
  | 0, _, _, h, _, _, _, _, _, _ => by simp [leafK] at h
  | d + 1, t, ls, h, e, vs, us, W, h1, h2 => by
    unfold leafK at h
    rw [show d + 1 + e = (d + e) + 1 by omega]
    split at h
    · rename_i k hu
      simp at h; subst h
      obtain ⟨v, rfl, hv⟩ := typedB_one h1
      obtain ⟨u, rfl, hu'⟩ := typedB_one h2
      cases v <;> simp only [Leaf.ok, Bool.false_eq_true] at hv
      cases u <;> simp only [Leaf.ok, Bool.false_eq_true] at hu'
      rename_i k1 x k2 y
      have e1 : k = k1 := by simpa using hv
      have e2 : k = k2 := by simpa using hu'
      subst e1; subst e2
      have hp : aggB P t = some false := by simp [aggB, hu, isAggD]
      simp only [pack, hp, Option.some.injEq, Bool.false_eq_true, if_false, List.headD_cons]
      rw [run_equalIn_int W (d + e) t k k x y hu]
      simp [Bool.beq_eq_decide_eq]
    · rename_i hu
      simp at h; subst h
      obtain ⟨v, rfl, hv⟩ := typedB_one h1
      obtain ⟨u, rfl, hu'⟩ := typedB_one h2
      cases v <;> simp only [Leaf.ok, Bool.false_eq_true] at hv
      cases u <;> simp only [Leaf.ok, Bool.false_eq_true] at hu'
      have hp : aggB P t = some false := by simp [aggB, hu, isAggD]
      simp only [pack, hp, Option.some.injEq, Bool.false_eq_true, if_false, List.headD_cons]
      rw [run_equalIn_bool W (d + e) t _ _ hu]
      simp [Bool.beq_eq_decide_eq]
    · rename_i hu
      simp at h; subst h
      obtain ⟨v, rfl, hv⟩ := typedB_one h1
      obtain ⟨u, rfl, hu'⟩ := typedB_one h2
      cases v <;> simp only [Leaf.ok, Bool.false_eq_true] at hv
      cases u <;> simp only [Leaf.ok, Bool.false_eq_true] at hu'
      rename_i x y
      have hp : aggB P t = some false := by simp [aggB, hu, isAggD]
      simp only [pack, hp, Option.some.injEq, Bool.false_eq_true, if_false, List.headD_cons]
      have : (Op.equalIn (d + e + 1) t (.string x) (.string y)).run P W = .ok (x == y) W := by simp [Op.equalIn, run_underlying hu]
      rw [this]
      congr 1
      have hb : (x == y) = decide (x = y) := by
        obtain ⟨x⟩ := x
        obtain ⟨y⟩ := y
        rw [Bool.eq_iff_iff]
        show ((x == y) = true) ↔ _
        simp
      rw [hb]
      exact decide_eq_decide.mpr ⟨fun e => by rw [e], fun e => by simpa using e⟩
    · rename_i fs hu
      split at h
      · simp at h
      · rename_i hst
        have hst : P.stoodInHeld t = false := by simpa using hst
        have hp : aggB P t = some true := by simp [aggB, hu, isAggD]
        have hS : P.underlying t = some (.struct (P.fieldsOf t)) := by rw [hu]; simp [Program.fieldsOf, hu]
        have hF : P.fieldsOf t = fs := by simp [Program.fieldsOf, hu]
        simp only [pack, hp, if_true]
        rw [run_equalIn_struct W (d + e) t _ _ hS hst, hF]
        -- the fields, one by one
        have key : ∀ (l : List Field) (n : Nat) (ms : List Leaf), joinL (leafK P d) P l n = some ms → ∀ W, typedB ms (vs.drop n) = true → typedB ms (us.drop n) = true → n ≤ vs.length → n ≤ us.length →
            (Op.eqFields (d + e) vs.toArray us.toArray l).run P W = .ok (decide (vs.drop n = us.drop n)) W := by
          intro l
          induction l with
          | nil =>
            intro n ms hj W t1 t2 _ _
            simp [joinL] at hj
            subst hj
            have l1 := typedB_len t1
            have l2 := typedB_len t2
            have e1 : vs.drop n = [] := List.eq_nil_of_length_eq_zero l1
            have e2 : us.drop n = [] := List.eq_nil_of_length_eq_zero l2
            simp [Op.eqFields, e1, e2]
          | cons f l ih =>
            intro n ms hj W t1 t2 hn1 hn2
            unfold joinL at hj
            split at hj
            · rename_i l0 b0 k0 hl0 hb0 hk0
              split at hj
              · rename_i hc
                simp only [Bool.and_eq_true, bne_iff_ne, ne_eq] at hc
                obtain ⟨⟨hname, hoff⟩, hlen⟩ := hc
                have hoff := Nat.eq_of_beq_eq_true hoff
                have hlen := Nat.eq_of_beq_eq_true hlen
                cases hj2 : joinL (leafK P d) P l (n + l0.length) with
                | none => rw [hj2] at hj; simp at hj
                | some m2 =>
                  rw [hj2] at hj
                  simp at hj
                  subst hj
                  obtain ⟨a1, a2⟩ := typedB_append t1
                  obtain ⟨c1, c2⟩ := typedB_append t2
                  have g1 := typedB_len t1
                  have g2 := typedB_len t2
                  rw [List.length_drop, List.length_append] at g1 g2
                  have h1k : b0 = false → k0 = 1 := fun hb => by subst hb; rw [hlen]; exact leaf_flat d f.type l0 hl0 hb0
                  have p1 := run_part (P := P) hb0 hk0 vs f.offset h1k (by rw [hoff, hlen]; omega) W
                  have p2 := run_part (P := P) hb0 hk0 us f.offset h1k (by rw [hoff, hlen]; omega) W
                  rw [hoff, hlen] at p1 p2
                  have ihd := run_equal_flat d f.type l0 hl0 e _ _ W a1 c1
                  have ih2 := ih (n + l0.length) m2 hj2 W (by rw [List.drop_drop] at a2; exact a2) (by rw [List.drop_drop] at c2; exact c2) (by omega) (by omega)
                  have hsplit : decide (vs.drop n = us.drop n) = (decide ((vs.drop n).take l0.length = (us.drop n).take l0.length) && decide (vs.drop (n + l0.length) = us.drop (n + l0.length))) := by
                    rw [← Bool.decide_and]
                    apply decide_eq_decide.mpr
                    constructor
                    · intro hh; rw [hh]; refine ⟨rfl, ?_⟩
                      have := congrArg (List.drop l0.length) hh
                      rwa [List.drop_drop, List.drop_drop] at this
                    · rintro ⟨q1, q2⟩
                      rw [← List.take_append_drop l0.length (vs.drop n), ← List.take_append_drop l0.length (us.drop n), q1, List.drop_drop, List.drop_drop, q2]
                  simp only [Op.eqFields, hname, not_false_eq_true, if_true, Sem.run_bind, hoff, p1, p2, Result.andThen_ok, ihd, ne_eq]
                  rw [hsplit]
                  cases decide ((vs.drop n).take l0.length = (us.drop n).take l0.length) with
                  | false => simp
                  | true => simp [ih2]
              · simp at hj
            · simp at hj
        have := key fs.toList 0 ls h W (by simpa using h1) (by simpa using h2) (Nat.zero_le _) (Nat.zero_le _)
        simpa using this
    · simp at h

/-- the law of '==' at a struct of plain leaves -/
theorem eqLaw_flat {P : Program} {t : TypeId} {ls : List Leaf} {vs us : List Value} (hg : P.eqGuardType P.depth t = false) (ha : aggB P t = some true) (hl : leafK P 8 t = some ls) (h1 : typedB ls vs = true) (h2 : typedB ls us = true) : EqLaw P t vs us (decide (vs = us)) := by
  refine ⟨hg, fun W => ?_⟩
  have := run_equal_flat 8 t ls hl 9992 vs us W h1 h2
  simp only [pack, ha, if_true] at this
  rw [run_eql_struct]
  simp only [show (8 + 9992 : Nat) = 10000 from rfl] at this
  rw [this]
  rfl
theorem EqLaw.to {P : Program} {t : TypeId} {vs us : List Value} {b c : Bool} (h : EqLaw P t vs us b) (e : b = c) : EqLaw P t vs us c := e ▸ h
end Go.AL
