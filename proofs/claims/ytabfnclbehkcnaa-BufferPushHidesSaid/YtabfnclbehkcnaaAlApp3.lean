/- append from nil, from an empty composite; ghost steps between regions. -/
import Derived.Test.YtabfnclbehkcnaaAlApp2
namespace Go.AL
open Go.RowKit

/-- a name for a row that is nil -/
theorem Models.rowNil {σ : Sg} {R : Toks} {W : World} {id' : Id} {m' : Nat} {e : TypeId} {k : Nat} (h : Models σ R W) (hid : σ.ρ id' = none) (hm' : R m' = none) :
    Models (bind σ id' none 0) (fun n => if n = m' then some (id', tail e k 0) else R n) W := by
  refine h.move (le_bind hid) m' id' _ (fun i hi => bind_ne _ _ _ _ _ hi) (by rw [bind_at]; simp) (.inl hm') ?_ (Below.refl _ _) (fun n x b _ hn hb => ⟨rfl, fun _ => rfl⟩) (fun b i v hv => h.imm b i v hv) ?_ ?_
  · intro n x _ hn e
    subst e
    exact h.used n x hn hid
  · intro b hb; rw [bind_at] at hb; cases hb
  · intro n x b _ _ hb; rw [bind_at] at hb; cases hb


section
variable {P : Program} {n N : Nat} {F : Fr} {R : Toks} {d : Option Nat} {T : TypeId} {pos : String} {after : Array Edge} {α : Type} {f : α → List Pred} {k bytes : Nat} {xs ys : List α} {t e : TypeId}

/-- **append to nil** -/
theorem op_append_nil {x y : Operand} {m' kk : Nat} {z : Value} (hx : opd F x = some (eqP (.slice none 0 0))) (hy : opd F y = some (slP f k ys)) (hm' : R m' = none)
    (ht : elemB P t = some e) (hz : zeroB P e = some (some z)) (hs : sizeB P e = some k) (hby : bytesB P e = some bytes) (hzs : z.cells.size = k) (hk : ∀ z, (f z).length = k)
    (h63 : ys.length ≤ 1152921504606846976) (hbytes : ys.length * bytes ≤ 140737488355328) :
    OpJ P n N F R ⟨d, .call { callee := .builtin .append, args := #[x, y], argTypes := #[t, t] }, T, pos, after, none⟩
      ⟨rdo x (eqP (.slice none 0 0)) ++ rdo y (slP f k ys), [], [], [(m', ((N, kk), tail e k (ys.length * k)))], [kk], rowP (N, kk) f k ys⟩ where
  loc := by
    intro σ W R a K hm h2 h3 h4 h5 h6 h7 h8 h9 Q
    have hid := h8 kk (by simp)
    have hRm' : R m' = none := by have h := h7 (m', ((N, kk), tail e k (ys.length * k))) (by simp); simpa using h
    have hxv : a.eval x = .slice none 0 0 := holds_of hx fun w hw => h4 w (List.mem_append_left _ hw)
    obtain ⟨ad, cap, hyv, hy1, hy2, hy3⟩ := holds_of hy fun w hw => h4 w (List.mem_append_right _ hw)
    have ht' := elem_of ht
    obtain ⟨i, hi, hiz, his, hib⟩ : ∃ i, P.info? e = some i ∧ i.zero = some z ∧ i.size = k ∧ i.bytes = bytes := by
      unfold zeroB at hz; unfold sizeB at hs; unfold bytesB at hby
      cases hi : P.info? e with
      | none => rw [hi] at hz; cases hz
      | some i => rw [hi] at hz hs hby; simp at hz hs hby; exact ⟨i, rfl, hz, hs, hby⟩
    have hexec : ∀ {v' : Value} {W' : World}, (Builtin.append_ #[t, t] T #[.slice none 0 0, .slice ad ys.length cap]).run P W = .ok v' W' →
        (execOp a.eval ⟨d, .call { callee := .builtin .append, args := #[x, y], argTypes := #[t, t] }, T, pos, after, none⟩).run P W = .ok (.value v') W' := by
      intro v' W' hr
      simp only [execOp, resolve, invoke, builtin, Sem.run_bind, Sem.run_pure, Result.andThen_ok, List.map_toArray, List.map_cons, List.map_nil, hxv, hyv, hr]
    by_cases hy0 : ys.length = 0
    · have hys : ys = [] := List.eq_nil_of_length_eq_zero hy0
      subst hys
      refine wp_value (hexec (by rw [hy0]; exact run_append_zero ht' hi none ad 0 0 cap (Nat.le_refl _) T W)) (h9 _ W _ (le_bind hid) keep_bind ((hm.rowNil (e := e) (k := k) hid hRm').congr ?_) (.inl ⟨rfl, rfl⟩))
      rw [updR_new]
      simp
    · obtain ⟨yb, yo, rfl, hyc⟩ := hy3 (by omega)
      obtain ⟨news, hnv, hncell⟩ := slP_cells hm hk hyc
      have hnl : news.length = ys.length * k := by rw [hnv.1, flatMap_len hk]
      have hnews : ∀ (j : Nat) (v : Value), news[j]? = some v → W.cell? ((⟨yb, yo, none⟩ : Addr).add j) = some v := fun j v hv => by rw [addr_add]; exact hncell j v hv
      have hr := run_append_nil (P := P) W t T e i z ht' hi hiz ⟨yb, yo, none⟩ ys.length cap news (by rw [his]; exact hnl) hnews (by omega) (by omega) (by rw [hib]; omega)
      have g1 := grownCap_ge W ys.length 0 e
      have g2 := grownCap_le_maxLen W ys.length 0 e (by unfold maxLen; omega)
      obtain ⟨hmod, hrow⟩ := hm.drew.rowNew (e := e) (xs := ys) (rest := (Builtin.zeroCells z.cells (grownCap W ys.length 0 e - ys.length)).toList) hid hRm' hk hnv (cap := grownCap W ys.length 0 e)
        (by rw [List.length_append, hnl, zc_len, hzs, ← Nat.add_mul]; congr 1; omega) g1 g2 _ rfl
      refine wp_value (hexec hr) ?_
      have hW : W.drew.alloc (.cells (news.toArray ++ Builtin.zeroCells z.cells (grownCap W ys.length 0 e - ys.length)) e) = W.drew.alloc (.cells (news ++ (Builtin.zeroCells z.cells (grownCap W ys.length 0 e - ys.length)).toList).toArray e) := by
        congr 2
        apply Array.ext'
        simp
      rw [hW]
      refine h9 _ _ _ (le_bindC hid) (fun q _ hq => bind_ne _ _ _ _ _ (hq kk (by simp))) (hmod.congr ?_) hrow
      rw [updR_new]
  rd := rd_app (rd_of hx) (rd_of hy)
  use := by simp
  del := by simp
  add := by simpa using hm'

/-- '[]T{}': a row of the call's own, empty -/
theorem op_buildEmpty {m' kk : Nat} (ht : elemB P t = some e) (hs : sizeB P e = some k) (hm' : R m' = none) :
    OpJ P n N F R ⟨d, .buildSlice t 0 #[], T, pos, after, none⟩ ⟨[], [], [], [(m', ((N, kk), tail e k 0))], [kk], rowP (N, kk) f k []⟩ where
  loc := by
    intro σ W R a K hm h2 h3 h4 h5 h6 h7 h8 h9 Q
    have hid := h8 kk (by simp)
    have hRm' : R m' = none := by have h := h7 (m', ((N, kk), tail e k 0)) (by simp); simpa using h
    have hmod := hm.alloc (id := (N, kk)) (z := 0) (n := m') (r := tail e k 0) (o := .cells ([] : List Value).toArray e) hid hRm' ⟨[], rfl, by rw [bind_z]; simp, fun i _ => no_imm_new hm i⟩
    refine wp_value (v := .slice (some ⟨W.heap.size, 0, none⟩) 0 0) (W' := W.alloc (.cells ([] : List Value).toArray e)) ?_ (h9 _ _ _ (le_bind hid) keep_bind (hmod.congr (updR_new ..)) ?_)
    · simp [execOp, Instr.buildSlice, run_underlying (elem_of ht), run_sizeOf' hs, Instr.fill, newRow, Array.range_zero']
    · exact .inr ⟨W.heap.size, by rw [bind_z]; rfl, bind_at .., by rw [bind_z]; simp, by rw [bind_z]; simp [maxLen], fun i x hx => by simp at hx⟩
  rd := by simp
  use := by simp
  del := by simp
  add := by simpa using hm'
end

/-! ### ghost steps -/
theorem tkf_cons (m : Nat) (x : Option (Id × Res)) (L : Tk) (Rf : Toks) : tkf ((m, x) :: L) Rf = fun n => if n = m then x else tkf L Rf n := by
  funext n
  simp only [tkf, lk_cons]
  by_cases h : m = n
  · subst h; simp
  · rw [if_neg h, if_neg (fun e => h e.symm)]

def FEnt (id : Id) (ps : List Pred) (p q : Pred) : Prop := ∀ σ v, (∀ b, σ.ρ id = some (some b) → Cs σ b 0 ps) → p.h σ v → q.h σ v
theorem FEnt.of {id : Id} {ps : List Pred} {p q : Pred} (h : Ent p q) : FEnt id ps p q := fun σ v _ hp => h σ v hp
theorem FEnt.ptr {id : Id} {ps : List Pred} {off : Nat} : FEnt id ps (ptrP id off) (cellsP (ps.drop off)) := fun σ v h ⟨b, hb, hv⟩ => ⟨b, off, hv, fun j p hp => by
  rw [List.getElem?_drop] at hp
  have := h b hb _ p hp
  rwa [Nat.zero_add] at this⟩
inductive SubZ (id : Id) (ps : List Pred) (F : Fr) : Fr → Prop
  | nil : SubZ id ps F []
  | cons {t : Nat} {p : Pred} {l : Fr} (h : lk F t = some p) (hl : SubZ id ps F l) : SubZ id ps F ((t, p) :: l)
  | ent {t : Nat} {p q : Pred} {l : Fr} (h : lk F t = some p) (he : FEnt id ps p q) (hl : SubZ id ps F l) : SubZ id ps F ((t, q) :: l)
theorem SubZ.at_ {id : Id} {ps : List Pred} {F F' : Fr} (h : SubZ id ps F F') : ∀ t q, lk F' t = some q → ∃ p, lk F t = some p ∧ FEnt id ps p q := by
  induction h with
  | nil => intro t q hq; simp [lk] at hq
  | @cons k p l hk _ ih =>
    intro t q hq
    rw [lk_cons] at hq
    split at hq
    · rename_i e; subst e; simp at hq; subst hq; exact ⟨p, hk, .of (Ent.refl _)⟩
    · exact ih t q hq
  | @ent k p p' l hk he _ ih =>
    intro t q hq
    rw [lk_cons] at hq
    split at hq
    · rename_i e; subst e; simp at hq; subst hq; exact ⟨p, hk, he⟩
    · exact ih t q hq
section
variable {P : Program} {C : Cx} {F : Fr} {L : Tk} {Q : Exit → Act → World → Prop} {c : Code}

/-- a nil slice of the call's own gets a name, so that it may be appended to -/
theorem tr_nilrow {α : Type} (f : α → List Pred) (k : Nat) (e : TypeId) (t m : Nat) (ht : lk F t = some (eqP (.slice none 0 0))) (hm : tkf L C.Rf m = none)
    (h : ∀ id, Tr P C c ((t, rowP id f k []) :: F) ((m, some (id, tail e k 0)) :: L) Q) : Tr P C c F L Q := by
  rintro a W ⟨σ, h1, h2, h3⟩
  obtain ⟨N, hN, hfr⟩ := fresh_N h3.mod C.M
  refine h (N, 0) a W ⟨bind σ (N, 0) none 0, h1.trans (le_bind (hfr 0)), keepB_of hN h2 keep_bind, h3.size, h3.defers, (h3.mod.rowNil (e := e) (k := k) (hfr 0) hm).congr ?_, ?_⟩
  · rw [tkf_cons]
  · intro t' p hp
    rw [lk_cons] at hp
    split at hp
    · rename_i e'
      subst e'
      simp at hp
      subst hp
      exact .inl ⟨h3.fr t _ ht, rfl⟩
    · exact p.m _ _ _ (le_bind (hfr 0)) (h3.fr t' p hp)

/-- a block of the call's own is written no more: its cells become immutable -/
theorem tr_freeze {F' : Fr} {id : Id} {m κ : Nat} {B : TypeId} {ps : List Pred} (hm : lk L m = some (some (id, blkX κ B ps)))
    (hF : SubZ id ps F F')
    (h : Tr P C c F' ((m, none) :: L) Q) : Tr P C c F L Q := by
  rintro a W ⟨σ, h1, h2, h3⟩
  have hmod := h3.mod
  have hR : tkf L C.Rf m = some (id, blkX κ B ps) := by simp [tkf, hm]
  obtain ⟨ob, hob⟩ : ∃ ob, σ.ρ id = some ob := Option.ne_none_iff_exists'.1 (hmod.used m _ hR)
  cases ob with
  | none =>
    refine h a W ⟨σ, h1, h2, h3.size, h3.defers, hmod.sub ?_, ?_⟩
    · intro n x hx
      rw [tkf_cons] at hx
      simp only at hx
      split at hx
      · cases hx
      · exact hx
    · intro t q hq
      obtain ⟨p, hp, hpq⟩ := hF.at_ t q hq
      exact hpq _ _ (fun b hb => by rw [hob] at hb; cases hb) (h3.fr t p hp)
  | some b =>
    obtain ⟨hge, o, ho, cs, rest, rfl, hvs, hz, hnone⟩ := hmod.res m id _ hR b hob
    let τ := addC σ (putC b 0 cs)
    have hle : Le σ τ := le_addC ..
    have hnew : ∀ i, τ.c b i = cs[i]? := fun i => by
      show (addC σ (putC b 0 cs)).c b i = _
      rw [addC_new (hnone i)]
      simp [putC]
    have hold : ∀ b' i, b' ≠ b → τ.c b' i = σ.c b' i := fun b' i hb' => addC_ne (c := putC b 0 cs) (fun i => by simp [putC, hb']) i
    have hcs : ∀ b', τ.ρ id = some (some b') → Cs τ b' 0 ps := by
      intro b' hb'
      have : b' = b := by
        have h' : σ.ρ id = some (some b') := hb'
        rw [hob] at h'
        simpa using h'.symm
      subst this
      intro j p hp
      have hlt : j < cs.length := by rw [hvs.1]; exact (List.getElem?_eq_some_iff.1 hp).1
      refine ⟨cs[j], ?_, (hvs.2 j p _ hp (List.getElem?_eq_getElem hlt)).mono hle⟩
      rw [Nat.zero_add, hnew, List.getElem?_eq_getElem hlt]
    refine h a W ⟨τ, h1.trans hle, h2, h3.size, h3.defers, ?_, ?_⟩
    · have hsub : Models σ (fun n => if n = m then none else tkf L C.Rf n) W := hmod.sub fun n x hx => by
        split at hx
        · cases hx
        · exact hx
      rw [tkf_cons]
      refine ⟨hsub.base, hsub.n0, ?_, ?_, hsub.sep, hsub.used, hsub.fin⟩
      · intro b' i v hv
        by_cases hb' : b' = b
        · subst hb'
          rw [hnew] at hv
          exact cell_blk ho hv
        · rw [hold b' i hb'] at hv
          exact hmod.imm b' i v hv
      · intro n id' r hn b' hb'
        obtain ⟨g1, o, go, gr⟩ := hsub.res n id' r hn b' hb'
        refine ⟨g1, o, go, r.m _ _ _ _ _ hle hb' (fun i => hold b' i ?_) gr⟩
        intro e
        subst e
        by_cases hnm : n = m
        · simp [hnm] at hn
        · simp only [hnm, if_false] at hn
          exact hmod.sep n m _ _ b' hnm hn hR hb' hob
    · intro t q hq
      obtain ⟨p, hp, hpq⟩ := hF.at_ t q hq
      exact hpq _ _ hcs (p.m _ _ _ hle (h3.fr t p hp))
end
end Go.AL
