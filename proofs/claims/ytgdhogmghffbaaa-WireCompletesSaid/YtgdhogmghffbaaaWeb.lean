/- Parts of a proof that share one text: AlMut2, AlSym, AlArith, AlRead, AlSize, AlMap, AlOwn, AlMake, AlLoop, AlTyped, AlPtr, AlStr, AlStr2, AlList, AlGrow, AlShift, AlBits, AlFam, WrTypes, WrPlain, WrDig, WrDec, AlCopy, AlCopy2, WrEndP, WrEndQ, WrRecv, WrPair, WrPair2, WrLawP, WrPair3, WrPair4, WrRead. -/
import Derived.Test.YtgdhogmghffbaaaWea
import Derived.Deep.Slices
import Derived.OpenShut
import Derived.Below
import Derived.ProofKit
import Derived.Laws.MakeOwn
import Derived.Laws.Cover3
import Derived.Laws.Pointers
import Derived.Lib.ConvBytes
import Derived.Laws.BytesString
import Derived.Deep.AppendSrc
import Derived.Lib.AppendZeros
import Derived.Laws.CopyRow
import Derived.Lib.AppendZerosOnto
import Derived.Lib.Overlaps
import Derived.Test.YtgdhogmghffbaaaChecked
import Derived.Test.YtgdhogmghffbaaaRows
set_option linter.unusedVariables false
set_option linter.unusedSimpArgs false

namespace Go.AL
open Go.RowKit
/-- a block gets another name and holds something else -/
theorem Models.retok {σ : Sg} {R : Toks} {W W' : World} {id id' : Id} {m m' z : Nat} {r r' : Res} {ob : Option Nat} (h : Models σ R W) (hRm : R m = some (id, r)) (hid : σ.ρ id' = none) (hm' : m' = m ∨ R m' = none) (hob : σ.ρ id = some ob)
    (hbase : Below σ.n0 W W') (hother : ∀ b', ob ≠ some b' → W'.heap[b']? = W.heap[b']?) (hr : ∀ b, ob = some b → ∃ o, W'.heap[b]? = some o ∧ r'.h (bind σ id' ob z) id' b o) (hno : ∀ b i, ob = some b → σ.c b i = none) :
    Models (bind σ id' ob z) (fun q => if q = m' then some (id', r') else if q = m then none else R q) W' := by
  have h' : Models σ (fun q => if q = m then none else R q) W := h.sub fun q x hx => by
    split at hx
    · cases hx
    · exact hx
  have hsep : ∀ q x b, (if q = m then none else R q) = some x → ob = some b → σ.ρ x.1 ≠ some (some b) := by
    intro q x b hq hb hxb
    by_cases hqm : q = m
    · simp [hqm] at hq
    · simp only [hqm, if_false] at hq
      exact h.sep q m x _ b hqm hq hRm hxb (by rw [hob, hb])
  refine h'.move (le_bind hid) m' id' _ (fun i hi => bind_ne _ _ _ _ _ hi) (by rw [bind_at]; simp) (.inl ?_) ?_ hbase ?_ ?_ ?_ ?_
  · rcases hm' with rfl | hm'
    · simp
    · simp only [hm']; split <;> rfl
  · intro q x _ hq e
    exact h'.used q x hq (by rw [e]; exact hid)
  · intro q x b _ hq hb
    exact ⟨hother b fun e => hsep q x b hq e hb, fun _ => rfl⟩
  · intro b i v hv
    have hne : ob ≠ some b := fun e => by
      have : σ.c b i = some v := hv
      rw [hno b i e] at this
      cases this
    rw [World.cell?_of_block (w := W) (a := ⟨b, i, none⟩) (hother b hne)]
    exact h.imm b i v hv
  · intro b hb
    rw [bind_at] at hb
    simp only [Option.some.injEq] at hb
    obtain ⟨h1, _⟩ := h.res m id _ hRm b (by rw [hob, hb])
    exact ⟨h1, hr b hb⟩
  · intro q x b _ hq hb hxb
    rw [bind_at] at hb
    simp only [Option.some.injEq] at hb
    exact hsep q x b hq hb hxb
theorem Models.noC {σ : Sg} {R : Toks} {W : World} {id : Id} {m b κ : Nat} {B : TypeId} {ps : List Pred} (h : Models σ R W) (hRm : R m = some (id, blkX κ B ps)) (hb : σ.ρ id = some (some b)) (i : Nat) : σ.c b i = none := by
  obtain ⟨_, o, _, cs, rest, _, _, _, hn⟩ := h.res m id _ hRm b hb
  exact hn i
section
variable {P : Program} {n N : Nat} {F : Fr} {R : Toks} {d : Option Nat} {T : TypeId} {pos : String} {after : Array Edge} {α : Type} {f : α → List Pred} {k bytes len c : Nat} {ys : List α} {t e : TypeId} {id : Id}
/-- **append to a slice of the call's own whose cells may be written** -/
theorem op_append_mut {x y : Operand} {m m' kk : Nat} {z : Value} {ps : List Pred} (hx : opd F x = some (mvP id k 0 len c)) (hy : opd F y = some (slP f k ys)) (hR : R m = some (id, blkX k e ps)) (hm' : m' = m ∨ R m' = none)
    (ht : elemB P t = some e) (hz : zeroB P e = some (some z)) (hs : sizeB P e = some k) (hby : bytesB P e = some bytes) (hzs : z.cells.size = k) (hk0 : k ≠ 0) (hps : ps.length = len * k) (hk : ∀ z, (f z).length = k)
    (h63 : len + ys.length ≤ 1152921504606846976) (hbytes : (len + ys.length) * bytes ≤ 140737488355328) :
    OpJ P n N F R ⟨d, .call { callee := .builtin .append, args := #[x, y], argTypes := #[t, t] }, T, pos, after, none⟩
      ⟨rdo x (mvP id k 0 len c) ++ rdo y (slP f k ys), [], [(m, (id, blkX k e ps))], [(m', ((N, kk), blkX k e (ps ++ ys.flatMap f)))], [kk], mvP (N, kk) k 0 (len + ys.length) (len + ys.length)⟩ where
  loc := by
    intro σ W R a K hm h2 h3 h4 h5 h6 h7 h8 h9 Q
    have hid := h8 kk (by simp)
    have hRm := h6 _ (List.mem_cons_self ..)
    have hRm' : m' = m ∨ R m' = none := by
      rcases h7 (m', ((N, kk), blkX k e (ps ++ ys.flatMap f))) (by simp) with h | h
      · exact .inr h
      · left; simp at h; exact h.symm
    obtain ⟨a1, hv, x1, x2, x3, x4⟩ := holds_of hx fun w hw => h4 w (List.mem_append_left _ hw)
    obtain ⟨ad, cap, hyv, hy1, hy2, hy3⟩ := holds_of hy fun w hw => h4 w (List.mem_append_right _ hw)
    simp only [Nat.sub_zero, Nat.zero_add, Nat.zero_mul] at hv x1 x4
    have ht' := elem_of ht
    obtain ⟨i, hi, hiz, his, hib⟩ := info_of hz hs hby
    have hexec : ∀ {v' : Value} {W' : World}, (Builtin.append_ #[t, t] T #[.slice a1 len (σ.z id), .slice ad ys.length cap]).run P W = .ok v' W' →
        (execOp a.eval ⟨d, .call { callee := .builtin .append, args := #[x, y], argTypes := #[t, t] }, T, pos, after, none⟩).run P W = .ok (.value v') W' := by
      intro v' W' hr
      simp only [execOp, resolve, invoke, builtin, Sem.run_bind, Sem.run_pure, Result.andThen_ok, List.map_toArray, List.map_cons, List.map_nil, hv, hyv, hr]
    obtain ⟨ob, hob⟩ : ∃ ob, σ.ρ id = some ob := Option.ne_none_iff_exists'.1 x3
    by_cases hy0 : ys.length = 0
    · have hys : ys = [] := List.eq_nil_of_length_eq_zero hy0
      subst hys
      have hmod := hm.retok (W' := W) (z := σ.z id) (r' := blkX k e (ps ++ ([] : List α).flatMap f)) hRm hid hRm' hob (Below.refl _ _) (fun _ _ => rfl) (fun b hb => by
        subst hb
        obtain ⟨cs, rest, hcs, hvs, hz', _⟩ := blk_read hm hRm hob
        exact ⟨_, hcs, cs, rest, rfl, by simpa using hvs.mono (le_bind hid), fun h => by rw [bind_z]; exact hz' h, fun i => hm.noC hRm hob i⟩) (fun b i hb => by subst hb; exact hm.noC hRm hob i)
      refine wp_value (hexec (run_append_zero ht' hi a1 ad len _ cap (by omega) T W)) (h9 _ W _ (le_bind hid) keep_bind (hmod.congr ?_) ?_)
      · rw [updR_row]
      · refine ⟨a1, by rw [bind_z]; rfl, by rw [bind_z]; simp; omega, by rw [bind_z]; exact x2, by rw [bind_at]; simp, fun h => ?_⟩
        rw [bind_z] at h
        obtain ⟨b, hb, ha⟩ := x4 h
        rw [bind_at]
        rw [hob] at hb
        exact ⟨b, hb, by simpa using ha⟩
    · obtain ⟨yb, yo, rfl, hyc⟩ := hy3 (by omega)
      obtain ⟨news, hnv, hncell⟩ := slP_cells hm hk hyc
      have hnl : news.length = ys.length * k := by rw [hnv.1, flatMap_len hk]
      have hnews : ∀ (j : Nat) (v : Value), news[j]? = some v → W.cell? ((⟨yb, yo, none⟩ : Addr).add j) = some v := fun j v hv => by rw [addr_add]; exact hncell j v hv
      have hmdrop : Models σ (fun q => if q = m then none else R q) W := hm.sub fun q y hq => by
        split at hq
        · cases hq
        · exact hq
      have hfree : (fun q => if q = m then none else R q) m' = none := by
        rcases hRm' with rfl | h
        · simp
        · simp only [h]; split <;> rfl
      by_cases hroom : len + ys.length ≤ σ.z id
      · obtain ⟨b, hb, rfl⟩ := x4 (by omega)
        rw [hb] at hob
        simp only [Option.some.injEq] at hob
        subst hob
        obtain ⟨cs, rest, hcs, hvs, hz', _⟩ := blk_read hm hRm hb
        have hz'' := hz' hk0
        have hcl : cs.length = len * k := by rw [hvs.1, hps]
        have hroom2 : (len + ys.length) * k ≤ (cs ++ rest).length := by rw [hz'']; exact Nat.mul_le_mul_right _ hroom
        rw [Nat.add_mul] at hroom2
        have hr := run_append_room (P := P) W t T e i ht' hi b len (σ.z id) (cs ++ rest).toArray hcs ⟨yb, yo, none⟩ ys.length cap news (by rw [his]; exact hnl) hnews hnv.ones hroom (by rw [his, hnl]; simpa using hroom2)
        rw [his] at hr
        have hrow : (cs ++ rest).take (len * k) ++ news ++ (cs ++ rest).drop (len * k + news.length) = (cs ++ news) ++ (cs ++ rest).drop (len * k + news.length) := by
          rw [List.take_append_of_le_length (by omega), List.take_of_length_le (by omega)]
        simp only at hr
        rw [hrow] at hr
        have hmod := hm.retok (W' := W.setRow b (cs ++ news ++ (cs ++ rest).drop (len * k + news.length)).toArray) (z := σ.z id) (r' := blkX k e (ps ++ ys.flatMap f)) hRm hid hRm' hb
          ⟨rfl, rfl, rfl, by simp, fun q hq => setRow_other W b q _ (by
            intro e'
            subst e'
            have := (hm.res m id _ hRm q hb).1
            omega)⟩ (fun b' hb' => setRow_other W b b' _ (fun e' => hb' (by rw [e']))) (fun b' hb' => by
              simp only [Option.some.injEq] at hb'
              subst hb'
              refine ⟨_, setRow_heap W b _ _ e (0, 0) hcs, cs ++ news, (cs ++ rest).drop (len * k + news.length), rfl, (hvs.append hnv).mono (le_bind hid), fun h => ?_, fun i => hm.noC hRm hb i⟩
              rw [bind_z, ← hz'']
              simp only [List.length_append, List.length_drop] at hroom2 ⊢
              omega) (fun b' i hb' => by
                simp only [Option.some.injEq] at hb'
                subst hb'
                exact hm.noC hRm hb i)
        refine wp_value (hexec hr) (h9 _ _ _ (le_bind hid) keep_bind (hmod.congr (by rw [updR_row])) ?_)
        exact ⟨_, by rw [bind_z]; rfl, by rw [bind_z]; omega, by rw [bind_z]; exact x2, by rw [bind_at]; simp, fun _ => ⟨b, bind_at .., by simp⟩⟩
      · -- a new block
        have g1 := grownCap_ge W (len + ys.length) (σ.z id) e
        have g2 := grownCap_le_maxLen W (len + ys.length) (σ.z id) e (by unfold maxLen; omega)
        obtain ⟨olds, hov, hol, hrun⟩ : ∃ olds : List Value, Vs σ ps olds ∧ olds.length = len * k ∧
            (Builtin.append_ #[t, t] T #[.slice a1 len (σ.z id), .slice (some ⟨yb, yo, none⟩) ys.length cap]).run P W =
              .ok (.slice (some ⟨W.heap.size, 0, none⟩) (len + ys.length) (grownCap W (len + ys.length) (σ.z id) e)) (W.drew.alloc (.cells (olds.toArray ++ news.toArray ++ Builtin.zeroCells z.cells (grownCap W (len + ys.length) (σ.z id) e - (len + ys.length))) e)) := by
          by_cases hz0 : σ.z id = 0
          · have hl0 : len = 0 := by omega
            subst hl0
            have hp0 : ps = [] := List.eq_nil_of_length_eq_zero (by rw [hps]; simp)
            subst hp0
            refine ⟨[], ⟨rfl, by simp⟩, by simp, ?_⟩
            cases a1 with
            | none =>
              have hr := run_append_nil (P := P) W t T e i z ht' hi hiz ⟨yb, yo, none⟩ ys.length cap news (by rw [his]; exact hnl) hnews (by omega) (by omega) (by rw [hib]; simp at hbytes; omega)
              rw [hz0]
              simp only [Nat.zero_add]
              rw [hr]
              simp
            | some a0 =>
              exact run_append_grow (P := P) W t T e i z ht' hi hiz a0 0 (σ.z id) [] (by simp) (fun j v hjv => by simp at hjv) ⟨yb, yo, none⟩ ys.length cap news (by rw [his]; exact hnl) hnews
                (by omega) (by omega) (by rw [hib]; exact growslice_fits (by omega) hbytes)
          · obtain ⟨b, hb, rfl⟩ := x4 (by omega)
            obtain ⟨cs, rest, hcs, hvs, hz', _⟩ := blk_read hm hRm hb
            refine ⟨cs, hvs, by rw [hvs.1, hps], ?_⟩
            exact run_append_grow (P := P) W t T e i z ht' hi hiz ⟨b, 0, none⟩ len (σ.z id) cs (by rw [his, hvs.1, hps]) (fun j v hjv => by rw [addr_add, Nat.zero_add]; exact cell_blk hcs hjv) ⟨yb, yo, none⟩ ys.length cap news (by rw [his]; exact hnl) hnews
              (by omega) (by omega) (by rw [hib]; exact growslice_fits (by omega) hbytes)
        have hmod := hmdrop.drew.alloc (id := (N, kk)) (z := grownCap W (len + ys.length) (σ.z id) e) (n := m') (r := blkX k e (ps ++ ys.flatMap f))
          (o := .cells (olds.toArray ++ news.toArray ++ Builtin.zeroCells z.cells (grownCap W (len + ys.length) (σ.z id) e - (len + ys.length))) e) hid hfree
          ⟨olds ++ news, (Builtin.zeroCells z.cells (grownCap W (len + ys.length) (σ.z id) e - (len + ys.length))).toList, by congr 1; apply Array.ext'; simp, (hov.append hnv).mono (le_bind hid), fun _ => by
            rw [bind_z, List.length_append, List.length_append, hol, hnl, zc_len, hzs, ← Nat.add_mul, ← Nat.add_mul]; congr 1; omega, fun i => no_imm_new hmdrop.drew i⟩
        refine wp_value (hexec hrun) (h9 _ _ _ (le_bind hid) keep_bind (hmod.congr ?_) ?_)
        · rw [updR_row]
        · refine ⟨some ⟨W.heap.size, 0, none⟩, ?_, ?_, ?_, by rw [bind_at]; simp, fun _ => ⟨_, bind_at .., by simp⟩⟩
          · rw [bind_z]; rfl
          · rw [bind_z]; omega
          · rw [bind_z]; exact g2
  rd := rd_app (rd_of hx) (rd_of hy)
  use := by simp
  del := by simpa using hR
  add := by
    intro y hy
    simp at hy
    subst hy
    rcases hm' with rfl | h
    · right; simp
    · left; exact h
end
end Go.AL


namespace Go.AL
open Go.RowKit
/-- where c holds: p; else nothing was computed -/
def wP (c : Bool) (p : Pred) : Pred := ⟨fun σ v => (c = true → p.h σ v) ∧ (c = false → v = undef), fun _ _ _ hle h => ⟨fun hc => p.m _ _ _ hle (h.1 hc), h.2⟩⟩
theorem entW {c : Bool} {p : Pred} (h : c = true) : Ent (wP c p) p := fun _ _ x => x.1 h
theorem entS {c d : Bool} {p : Pred} (h : c = true) : Ent (wP (c && d) p) (wP d p) := fun _ _ x => by subst h; simpa using x
/-- a guard: where c holds it lets by, else not -/
def GuardIs (p : Pred) (w c : Bool) : Prop := ∀ σ v, p.h σ v → if c then v = .bool w else v ≠ .bool w
theorem guard_eq {b w : Bool} : GuardIs (eqP (.bool b)) w (b == w) := fun σ v h => by
  have h : v = .bool b := h
  subst h
  cases b <;> cases w <;> simp
theorem guard_w {c b w : Bool} : GuardIs (wP c (eqP (.bool b))) w (c && (b == w)) := fun σ v h => by
  cases c
  · have := h.2 rfl
    subst this
    simp [undef]
  · have h : v = .bool b := h.1 rfl
    subst h
    cases b <;> cases w <;> simp
inductive SubC (c : Bool) (F : Fr) : Fr → Prop
  | nil : SubC c F []
  | cons {t : Nat} {q p : Pred} {l : Fr} (h : lk F t = some q) (he : c = true → Ent q p) (hl : SubC c F l) : SubC c F ((t, p) :: l)
theorem SubC.at_ {c : Bool} {F F' : Fr} (h : SubC c F F') : ∀ t p, lk F' t = some p → ∃ q, lk F t = some q ∧ (c = true → Ent q p) := by
  induction h with
  | nil => intro t q hq; simp [lk] at hq
  | @cons k q p l hk he _ ih =>
    intro t p' hp
    rw [lk_cons] at hp
    split at hp
    · rename_i e; subst e; simp at hp; subst hp; exact ⟨q, hk, he⟩
    · exact ih t p' hp
section
variable {P : Program} {n N : Nat} {ops : Array Oper} {Q : Exit → Act → World → Prop} {Rf : Toks} {F : Fr} {L : Tk} {K : List Rec → Fr → Tk → Prop} {l : List Oper} {t : Nat} {op : Op} {T : TypeId} {pos : String} {after : Array Edge}
  {rd : List (Nat × Pred)} {use : List (Nat × Id × Res)}
def rdF (F : Fr) (rd : List (Nat × Pred)) : List (Nat × Pred) := rd.map fun x => (x.1, (lk F x.1).getD anyP)
/-- a guarded operation, whether it runs or not -/
theorem lxs {F' : Fr} {g s : Nat} {w c : Bool} {pg φ : Pred} (hs : gslot ops g = some s) (hsn : Nat.blt s n = true) (hg : lk F s = some pg) (hc : GuardIs pg w c) (hF : SubC c F F')
    (h : OpJ P n N F' (tkf L Rf) ⟨some t, op, T, pos, after, none⟩ ⟨rd, use, [], [], [], φ⟩) (hd : Nat.blt t n = true)
    (hk : LexK P n N ops Q Rf l ((t, wP c φ) :: F) L (fun rs => K (⟨(s, pg) :: rdF F rd, use, [], [], [], wP c φ⟩ :: rs))) : LexK P n N ops Q Rf (⟨some t, op, T, pos, after, some (g, w)⟩ :: l) F L K := by
  obtain ⟨rs, F2, L2, hl, hK⟩ := hk
  have hrd : ∀ x ∈ rdF F rd, lk F x.1 = some x.2 := by
    intro x hx
    obtain ⟨y, hy, rfl⟩ := List.mem_map.1 hx
    obtain ⟨q, hq, _⟩ := hF.at_ y.1 y.2 (h.rd y hy)
    simp [hq]
  refine ⟨_, F2, L2, .cons (r := ⟨(s, pg) :: rdF F rd, use, [], [], [], wP c φ⟩) ?_ (dOK_spec (d := some t) hd) ?_ h.use (by simp) (by simp) hl, hK⟩
  · intro σ W R a K' h1 h2 h3 h4 h5 h6 h7 h8 h9
    have hv := hc _ _ (h4 (s, pg) (List.mem_cons_self ..))
    have hlt : s < a.tmps.size := by have := Nat.le_of_ble_eq_true hsn; omega
    cases hcc : c with
    | true =>
      subst hcc
      simp only [if_true] at hv
      have hloc := exec_of_guard (P := P) (Q := Q) (N := N) hs (by have := Nat.le_of_ble_eq_true hsn; omega) (w := w) h.loc
      refine hloc σ W R a K' h1 h2 h3 ?_ h5 h6 h7 h8 ?_
      · intro x hx
        rcases List.mem_cons.1 hx with rfl | hx
        · exact hv
        · obtain ⟨q, hq, he⟩ := hF.at_ x.1 x.2 (h.rd x hx)
          refine he rfl _ _ ?_
          have := h4 (x.1, (lk F x.1).getD anyP) (List.mem_cons_of_mem _ (List.mem_map.2 ⟨x, hx, rfl⟩))
          simpa [hq] using this
      · intro σ' W' v hle hkeep hmod hφ
        exact h9 σ' W' v hle hkeep (hmod.congr (by funext m; simp [updR])) (show (wP true φ).h σ' v from ⟨fun _ => hφ, fun e => Bool.noConfusion e⟩)
    | false =>
      subst hcc
      simp only [Bool.false_eq_true, if_false] at hv
      have hy : yielded ops a.tmps g ≠ some w := by
        unfold yielded
        unfold gslot at hs
        rw [hs]
        simp only [Option.bind_some, Array.getElem?_eq_getElem hlt]
        simp [Array.getD, hlt] at hv
        split
        · rename_i b hb'
          simp at hb'
          intro e
          simp at e
          subst e
          exact hv hb'
        · simp
      unfold Exec
      rw [if_neg (by simp [Region.wanted, hy])]
      exact h9 σ W undef (Le.refl σ) (fun _ _ _ => rfl) (h1.congr (by funext m; simp [updR])) (show (wP false φ).h σ undef from ⟨fun e => Bool.noConfusion e, fun _ => rfl⟩)
  · intro x hx
    rcases List.mem_cons.1 hx with rfl | hx
    · exact hg
    · exact hrd x hx
end
section
variable {P : Program} {n N : Nat} {F : Fr} {R : Toks} {d : Option Nat} {T : TypeId} {pos : String} {after : Array Edge} {b v : Bool} {c x y : Operand}
theorem op_pick_and (hc : opd F c = some (eqP (.bool b))) (hx : opd F x = some (wP (b == true) (eqP (.bool v)))) : OpJ P n N F R ⟨d, .pick c x (.const (.bool false)), T, pos, after, none⟩ ⟨rdo c (eqP (.bool b)) ++ rdo x (wP (b == true) (eqP (.bool v))), [], [], [], [], eqP (.bool (b && v))⟩ :=
  opj2 hc hx fun σ W a h1 h2 => ⟨.bool (b && v), by
    have h1 : a.eval c = .bool b := h1
    have hf : a.eval (.const (.bool false)) = .bool false := rfl
    cases b
    · simp only [execOp, h1, asBool, hf]; rfl
    · have h2 : a.eval x = .bool v := h2.1 rfl
      simp [execOp, h1, h2, asBool], rfl⟩
theorem op_pick_or (hc : opd F c = some (eqP (.bool b))) (hy : opd F y = some (wP (b == false) (eqP (.bool v)))) : OpJ P n N F R ⟨d, .pick c (.const (.bool true)) y, T, pos, after, none⟩ ⟨rdo c (eqP (.bool b)) ++ rdo y (wP (b == false) (eqP (.bool v))), [], [], [], [], eqP (.bool (b || v))⟩ :=
  opj2 hc hy fun σ W a h1 h2 => ⟨.bool (b || v), by
    have h1 : a.eval c = .bool b := h1
    cases b
    · have h2 : a.eval y = .bool v := h2.1 rfl
      simp [execOp, h1, h2, asBool]
    · have hf : a.eval (.const (.bool true)) = .bool true := rfl
      simp only [execOp, h1, asBool, hf]; rfl, rfl⟩
end
end Go.AL
namespace Go.AL
open Go.RowKit
section
variable {P : Program} {C : Cx} {F : Fr} {L : Tk} {Q : Exit → Act → World → Prop} {c : Code} {id' : Nat}
end
end Go.AL
namespace Go.AL
section
variable {P : Program} {n N : Nat} {ops : Array Oper} {Q : Exit → Act → World → Prop} {Rf : Toks} {F : Fr} {L : Tk} {K : List Rec → Fr → Tk → Prop} {l : List Oper}
/-- a step that gives a token away -/
theorem lxd {d : Option Nat} {m : Nat} {x : Id × Res} {op : Op} {T : TypeId} {pos : String} {after : Array Edge} {rd : List (Nat × Pred)} {use : List (Nat × Id × Res)} {new : List Nat} {φ : Pred} (h : OpJ P n N F (tkf L Rf) ⟨d, op, T, pos, after, none⟩ ⟨rd, use, [(m, x)], [], new, φ⟩)
    (hd : dOK n d = true) (hk : LexK P n N ops Q Rf l (setF F d φ) ((m, none) :: L) (fun rs => K (⟨rd, use, [(m, x)], [], new, φ⟩ :: rs))) : LexK P n N ops Q Rf (⟨d, op, T, pos, after, none⟩ :: l) F L K :=
  lx_any rfl h (dOK_spec hd) hk
end
end Go.AL
namespace Go.AL
open Go.RowKit
section
variable {P : Program} {n N : Nat} {ops : Array Oper} {Q : Exit → Act → World → Prop} {Rf : Toks} {F : Fr} {L : Tk} {K : List Rec → Fr → Tk → Prop} {l : List Oper} {t : Nat} {op : Op} {T : TypeId} {pos : String} {after : Array Edge}
  {rd : List (Nat × Pred)}
/-- a guarded operation that may run just where its guard lets by -/
theorem lxsc {F' : Fr} {g s : Nat} {w c : Bool} {pg φ : Pred} (hs : gslot ops g = some s) (hsn : Nat.blt s n = true) (hg : lk F s = some pg) (hc : GuardIs pg w c) (hF : SubC c F F')
    (h : c = true → OpJ P n N F' (tkf L Rf) ⟨some t, op, T, pos, after, none⟩ ⟨rd, [], [], [], [], φ⟩) (hr : rd.all (fun x => (lk F x.1).isSome) = true) (hd : Nat.blt t n = true)
    (hk : LexK P n N ops Q Rf l ((t, wP c φ) :: F) L (fun rs => K (⟨(s, pg) :: rdF F rd, [], [], [], [], wP c φ⟩ :: rs))) : LexK P n N ops Q Rf (⟨some t, op, T, pos, after, some (g, w)⟩ :: l) F L K := by
  cases hcc : c with
  | true => subst hcc; exact lxs hs hsn hg hc hF (h rfl) hd hk
  | false =>
    subst hcc
    obtain ⟨rs, F2, L2, hl, hK⟩ := hk
    refine ⟨_, F2, L2, .cons (r := ⟨(s, pg) :: rdF F rd, [], [], [], [], wP false φ⟩) ?_ (dOK_spec (d := some t) hd) ?_ (by simp) (by simp) (by simp) hl, hK⟩
    · intro σ W R a K' h1 h2 h3 h4 h5 h6 h7 h8 h9
      have hv := hc _ _ (h4 (s, pg) (List.mem_cons_self ..))
      have hlt : s < a.tmps.size := by have := Nat.le_of_ble_eq_true hsn; omega
      simp only [Bool.false_eq_true, if_false] at hv
      have hy : yielded ops a.tmps g ≠ some w := by
        unfold yielded
        unfold gslot at hs
        rw [hs]
        simp only [Option.bind_some, Array.getElem?_eq_getElem hlt]
        simp [Array.getD, hlt] at hv
        split
        · rename_i b hb'
          simp at hb'
          intro e
          simp at e
          subst e
          exact hv hb'
        · simp
      unfold Exec
      rw [if_neg (by simp [Region.wanted, hy])]
      exact h9 σ W undef (Le.refl σ) (fun _ _ _ => rfl) (h1.congr (by funext m; simp [updR])) (show (wP false φ).h σ undef from ⟨fun e => Bool.noConfusion e, fun _ => rfl⟩)
    · intro x hx
      rcases List.mem_cons.1 hx with rfl | hx
      · exact hg
      · obtain ⟨y, hy, rfl⟩ := List.mem_map.1 hx
        rw [List.all_eq_true] at hr
        have := hr y hy
        obtain ⟨q, hq⟩ := Option.isSome_iff_exists.1 this
        simp [hq]
end
end Go.AL
namespace Go.AL
end Go.AL


namespace Go.AL
open Go.RowKit
section
variable {P : Program} {n N : Nat} {F : Fr} {R : Toks} {d : Option Nat} {T t t' : TypeId} {pos : String} {after : Array Edge} {x y : Operand} {k : IntKind} {u v : Int}
theorem op_rem (hx : opd F x = some (eqP (.int k u))) (hy : opd F y = some (eqP (.int k v))) (h : decide (v = 0) = false) :
    OpJ P n N F R ⟨d, .binOp .rem t x y t', T, pos, after, none⟩ ⟨rdo x (eqP (.int k u)) ++ rdo y (eqP (.int k v)), [], [], [], [], eqP (.int k (u.tmod v))⟩ :=
  op_bin_raw hx hy fun W => by
    have h : ¬ v = 0 := by simpa using h
    simp [binOp, eqGuard, Op.intDiv, h]
theorem op_quo (hx : opd F x = some (eqP (.int k u))) (hy : opd F y = some (eqP (.int k v))) (h : decide (v = 0) = false) :
    OpJ P n N F R ⟨d, .binOp .quo t x y t', T, pos, after, none⟩ ⟨rdo x (eqP (.int k u)) ++ rdo y (eqP (.int k v)), [], [], [], [], eqP (.int k (k.wrap (u.tdiv v)))⟩ :=
  op_bin_raw hx hy fun W => by
    have h : ¬ v = 0 := by simpa using h
    simp [binOp, eqGuard, Op.intDiv, h]
/-- a value said otherwise -/
theorem OpJ.val {o : Oper} {rd : List (Nat × Pred)} {use : List (Nat × Id × Res)} {φ ψ : Pred} (h : OpJ P n N F R o ⟨rd, use, [], [], [], φ⟩) (e : φ = ψ) : OpJ P n N F R o ⟨rd, use, [], [], [], ψ⟩ := e ▸ h
end
end Go.AL


namespace Go.AL
open Go.RowKit Go.ChangeShapes Go.WideShapes Go.Deep
/-- all that lay in the world when the call began stays -/
def σW (W : World) : Sg := { w0 := W, n0 := W.heap.size, ρ := fun _ => none, z := fun _ => 0, c := fun b i => W.cell? ⟨b, i, none⟩ }
theorem models_W (W : World) : Models (σW W) (fun _ => none) W where
  base := Below.refl _ _
  n0 := Nat.le_refl _
  imm b i v h := h
  res n id r h := by cases h
  sep n m x y b _ h := by cases h
  used n x h := by cases h
  fin := ⟨0, fun _ _ _ => rfl⟩
/-- **a function that answers true at what it is handed** -/
theorem law_calls {P : Program} {f : FuncId} {pre : List Pred} (h : FnP P f pre (eqP (.bool true))) {W : World} {args : Array Value} (hs : args.size = pre.length) (ha : ∀ (i : Nat) (p : Pred), pre[i]? = some p → p.h (σW W) (args.getD i undef)) :
    Calls P f args W fun e W' => e = .returned (.bool true) ∧ Below W.heap.size W W' := by
  have := h (σW W) W (fun _ => none) args (fun _ => (0, 0)) 0 (models_W W) (by simp) (fun _ _ _ => rfl) (by intro j hj; omega) (by intro i j hi; omega) hs ha
  refine this.mono ?_
  rintro e W' ⟨v, σ', rfl, hle, _, hmod, hpost⟩
  have hb := hmod.base
  rw [hle.w0, hle.n0] at hb
  exact ⟨by rw [show v = .bool true from hpost], hb⟩
section
variable {H : Type} (enc : TypeId × Value → H) (P : Program) (W : World) (base : Nat) (spare : Nat → Bool) (held : Bool)
/-- whatever reads at the type is a thing of α -/
def Rd (t : TypeId) {α : Type} (f : α → List Pred) (ok : α → Prop) : Prop :=
  ∀ fuel cs x, DataW.trod enc P W base spare held fuel t cs = some x → ∃ a, ok a ∧ Vs (σW W) (f a) cs
variable {enc P W base spare held}
theorem Rd.map {t : TypeId} {α β : Type} {f : α → List Pred} {ok : α → Prop} {f' : β → List Pred} {ok' : β → Prop} (h : Rd enc P W base spare held t f ok) (g : α → β) (hf : ∀ a, f a = f' (g a)) (hok : ∀ a, ok a → ok' (g a)) : Rd enc P W base spare held t f' ok' := by
  intro fuel cs x hx
  obtain ⟨a, ha, hv⟩ := h fuel cs x hx
  exact ⟨g a, hok a ha, hf a ▸ hv⟩
theorem rd_int {t : TypeId} {k : IntKind} (ht : P.underlying t = some (.int k)) : Rd enc P W base spare held t (fun x : Int => [eqP (.int k x)]) (fun x => k.min ≤ x ∧ x ≤ k.max) := by
  intro fuel cs x hx
  obtain ⟨n, rfl, _, hw⟩ := DataW.trod_int ht hx
  refine ⟨n, by simpa [Lit.wf] using hw, rfl, fun j p u hp hu => ?_⟩
  cases j with
  | zero => simp at hp hu; subst hp; subst hu; exact ⟨rfl, rfl⟩
  | succ j => simp at hp
theorem choose_list {α : Type} {Q : Nat → α → Prop} : ∀ (n : Nat), (∀ i, i < n → ∃ a, Q i a) → ∃ xs : List α, xs.length = n ∧ ∀ (i : Nat) (x : α), xs[i]? = some x → Q i x
  | 0, _ => ⟨[], rfl, fun i x h => by simp at h⟩
  | n + 1, h => by
    obtain ⟨xs, hl, hx⟩ := choose_list n fun i hi => h i (by omega)
    obtain ⟨a, ha⟩ := h n (by omega)
    refine ⟨xs ++ [a], by simp [hl], fun i x hi => ?_⟩
    rcases Nat.lt_or_ge i n with h1 | h1
    · rw [List.getElem?_append_left (by omega)] at hi
      exact hx i x hi
    · rw [List.getElem?_append_right (by omega), hl] at hi
      rcases Nat.eq_or_lt_of_le h1 with h2 | h2
      · subst h2; simp at hi; subst hi; exact ha
      · rw [List.getElem?_eq_none (by simp; omega)] at hi; cases hi
def structB (P : Program) (t : TypeId) : Option (List (Nat × TypeId × Nat)) := match P.underlying t with | some (.struct fs) => some (fs.toList.map fun f => (f.offset, f.type, P.cellsOf f.type)) | _ => none
def RdFs (enc : TypeId × Value → H) (P : Program) (W : World) (base : Nat) (spare : Nat → Bool) (held : Bool) (m n0 : Nat) (fs : List (Nat × TypeId × Nat)) {α : Type} (f : α → List Pred) (ok : α → Prop) : Prop :=
  ∀ n (cs : List Value), cs.length = m → (∀ x ∈ fs, ∃ y, DataW.trod enc P W base spare held n x.2.1 ((cs.drop x.1).take x.2.2) = some y) → ∃ a, ok a ∧ Vs (σW W) (f a) (cs.drop n0)
theorem rd_one {t : TypeId} {α : Type} {p : α → Pred} {ok : α → Prop} {v : Value} {d : DataW H} {ps : List MemPlace} (h : Rd enc P W base spare held t (fun a => [p a]) ok) (h1 : v.cells = #[v]) (hd : DataW.Trod enc P W base spare held t v d ps) : ∃ a, ok a ∧ (p a).h (σW W) v := by
  obtain ⟨fuel, hf⟩ := hd
  rw [h1] at hf
  obtain ⟨a, ha, hv⟩ := h _ _ _ hf
  exact ⟨a, ha, (hv.2 0 _ v rfl rfl).1⟩
theorem cells_int {k : IntKind} {t : TypeId} {v : Value} {r : Reach} {b0 : Nat} (ht : P.underlying t = some (.int k)) (hv : Value.okWide P W r b0 t v) : v.cells = #[v] := by
  obtain ⟨n, rfl⟩ := okWide_int ht hv; rfl
theorem cells_slice {t e : TypeId} {v : Value} {r : Reach} {b0 : Nat} (ht : P.underlying t = some (.slice e)) (hv : Value.okWide P W r b0 t v) : v.cells = #[v] := by
  obtain ⟨a, l, c, rfl⟩ := okWide_slice ht hv; rfl
end
end Go.AL
namespace Go.AL
open Go.RowKit Go.ChangeShapes Go.WideShapes Go.Deep
def ArgsH (σ : Sg) : List Pred → List Value → Prop
  | [], [] => True
  | p :: ps, v :: vs => p.h σ v ∧ ArgsH σ ps vs
  | _, _ => False
theorem ArgsH.at_ {σ : Sg} : ∀ {ps : List Pred} {vs : List Value}, ArgsH σ ps vs → vs.length = ps.length ∧ ∀ (i : Nat) (p : Pred), ps[i]? = some p → p.h σ (vs.getD i undef)
  | [], [], _ => ⟨rfl, fun i p h => by simp at h⟩
  | p :: ps, v :: vs, h => by
    obtain ⟨h1, h2⟩ := h
    obtain ⟨g1, g2⟩ := ArgsH.at_ h2
    refine ⟨by simp [g1], fun i q hq => ?_⟩
    cases i with
    | zero => simp at hq; subst hq; simpa using h1
    | succ i => simpa using g2 i q (by simpa using hq)
  | [], _ :: _, h => h.elim
  | _ :: _, [], h => h.elim
theorem law_at {P : Program} {f : FuncId} {pre : List Pred} (h : FnP P f pre (eqP (.bool true))) {W : World} {vs : List Value} (ha : ArgsH (σW W) pre vs) :
    Calls P f vs.toArray W fun e W' => e = .returned (.bool true) ∧ Below W.heap.size W W' :=
  law_calls h (by simpa using ha.at_.1) fun i p hp => by
    have := ha.at_.2 i p hp
    simpa [Array.getD_eq_getD_getElem?, List.getD_eq_getElem?_getD] using this
end Go.AL


namespace Go.AL
open Go.RowKit Go.ChangeShapes Go.WideShapes Go.Deep
structure BulkOK {H : Type} (bk : DataW H → Nat) : Prop where
  lit : ∀ l, 1 ≤ bk (.lit l)
  nil : 1 ≤ bk .nil
  slice : ∀ e s, (e.map bk).sum + 1 ≤ bk (.slice e s)
  agg : ∀ l, (l.map bk).sum + 1 ≤ bk (.agg l)
section
variable {H : Type} (enc : TypeId × Value → H) (P : Program) (W : World) (base : Nat) (spare : Nat → Bool) (held : Bool) (bk : DataW H → Nat)
/-- whatever reads at the type is a thing of α, no larger than its reading -/
def RdS (t : TypeId) {α : Type} (f : α → List Pred) (sz : α → Nat) (ok : α → Prop) : Prop :=
  ∀ fuel cs x, DataW.trod enc P W base spare held fuel t cs = some x → ∃ a, (ok a ∧ sz a ≤ bk x.1) ∧ Vs (σW W) (f a) cs
variable {enc P W base spare held bk}
theorem RdS.map {t : TypeId} {α β : Type} {f : α → List Pred} {sz : α → Nat} {ok : α → Prop} {f' : β → List Pred} {sz' : β → Nat} {ok' : β → Prop} (h : RdS enc P W base spare held bk t f sz ok) (g : α → β) (hf : ∀ a, f a = f' (g a)) (hs : ∀ a, sz' (g a) ≤ sz a) (hok : ∀ a, ok a → ok' (g a)) :
    RdS enc P W base spare held bk t f' sz' ok' := by
  intro fuel cs x hx
  obtain ⟨a, ⟨ha, hz⟩, hv⟩ := h fuel cs x hx
  exact ⟨g a, ⟨hok a ha, Nat.le_trans (hs a) hz⟩, hf a ▸ hv⟩
theorem rdS_int (hB : BulkOK bk) {t : TypeId} {k : IntKind} (ht : P.underlying t = some (.int k)) : RdS enc P W base spare held bk t (fun x : Int => [eqP (.int k x)]) (fun _ => 1) (fun x => k.min ≤ x ∧ x ≤ k.max) := by
  intro fuel cs x hx
  obtain ⟨n, rfl, rfl, hw⟩ := DataW.trod_int ht hx
  refine ⟨n, ⟨by simpa [Lit.wf] using hw, hB.lit _⟩, rfl, fun j p u hp hu => ?_⟩
  cases j with
  | zero => simp at hp hu; subst hp; subst hu; exact ⟨rfl, rfl⟩
  | succ j => simp at hp
theorem sum_le {α : Type} {sz : α → Nat} {b : Nat → Nat} : ∀ (xs : List α), (∀ i x, xs[i]? = some x → sz x ≤ b i) → (xs.map sz).sum ≤ ((List.range xs.length).map b).sum := by
  intro xs
  induction xs generalizing b with
  | nil => simp
  | cons x xs ih =>
    intro h
    have h0 := h 0 x rfl
    have := ih (b := fun i => b (i + 1)) fun i y hy => h (i + 1) y (by simpa using hy)
    rw [List.length_cons, List.range_succ_eq_map]
    simp only [List.map_cons, List.sum_cons, List.map_map]
    exact Nat.add_le_add h0 this
theorem rdS_slice (hB : BulkOK bk) {t e : TypeId} {k : Nat} {α : Type} {f : α → List Pred} {sz : α → Nat} {ok : α → Prop} (ht : P.underlying t = some (.slice e)) (he : RdS enc P W base spare held bk e f sz ok) (hk : P.cellsOf e = k) (hk0 : 0 < k) :
    RdS enc P W base spare held bk t (fun xs : List α => [slP f k xs]) (fun xs => (xs.map sz).sum + 1) (fun xs => ∀ x ∈ xs, ok x) := by
  intro fuel cs x hx
  have one : ∀ {xs : List α} {v : Value}, (slP f k xs).h (σW W) v → Vs (σW W) [slP f k xs] [v] := fun {xs v} hv => ⟨rfl, fun j p u hp hu => by
    cases j with
    | zero => simp at hp hu; subst hp; subst hu; exact ⟨hv, One.sl f k xs _ _ hv⟩
    | succ j => simp at hp⟩
  rcases open_slice ht hx with ⟨rfl, rfl⟩ | ⟨a, len, cap, m, n, D, Pl, rfl, hb, hl, hm, hmm, rfl, hi⟩
  · exact ⟨[], ⟨by simp, hB.nil⟩, one ⟨none, 0, rfl, Nat.le_refl _, by simp [maxLen], fun h => by simp at h⟩⟩
  · have hlm : len ≤ m := by rw [hmm]; split <;> omega
    obtain ⟨xs, hxl, hxs⟩ := choose_list (Q := fun i (x : α) => (ok x ∧ sz x ≤ bk (D i)) ∧ ∃ cs', W.cells? base (a.add (i * k)) k = some cs' ∧ Vs (σW W) (f x) cs') len fun i hil => by
      obtain ⟨cs', hc, ht'⟩ := hi i (by omega)
      obtain ⟨x, hok, hv⟩ := he _ _ _ ht'
      rw [hk] at hc
      exact ⟨x, hok, cs', hc, hv⟩
    subst hxl
    refine ⟨xs, ⟨fun x hx => ?_, ?_⟩, one ⟨some a, cap, rfl, hl, hm, fun hp => ?_⟩⟩
    · obtain ⟨i, hi'⟩ := List.mem_iff_getElem?.1 hx
      exact (hxs i x hi').1.1
    · have := sum_le (b := fun i => bk (D i)) xs fun i x hx => (hxs i x hx).1.2
      have h2 := hB.slice ((List.range xs.length).map D) ((List.range (m - xs.length)).map fun j => D (xs.length + j))
      rw [List.map_map] at h2
      exact Nat.le_trans (Nat.succ_le_succ this) h2
    · obtain ⟨b, off, spot⟩ := a
      have hspot : spot = none := by
        obtain ⟨_, cs', hc, hv⟩ := hxs 0 xs[0] (List.getElem?_eq_getElem hp)
        obtain ⟨_, hcl, hat⟩ := World.cells?_some hc
        have h0 := hat 0 hk0
        rw [List.getElem?_eq_getElem (show 0 < cs'.length by omega)] at h0
        simpa [Addr.add] using World.cell?_spot h0
      subst hspot
      refine ⟨b, off, rfl, fun i x hx j p hpj => ?_⟩
      obtain ⟨_, cs', hc, hv⟩ := hxs i x hx
      obtain ⟨_, hcl, hat⟩ := World.cells?_some hc
      have hj : j < cs'.length := by rw [hv.1]; exact (List.getElem?_eq_some_iff.1 hpj).1
      have h0 := hat j (by omega)
      rw [List.getElem?_eq_getElem hj] at h0
      refine ⟨cs'[j], ?_, hv.2 j p _ hpj (List.getElem?_eq_getElem hj)⟩
      simp only [addr_add] at h0
      show W.cell? ⟨b, off + i * k + j, none⟩ = some cs'[j]
      exact h0
def RdFsS (enc : TypeId × Value → H) (P : Program) (W : World) (base : Nat) (spare : Nat → Bool) (held : Bool) (bk : DataW H → Nat) (m n0 : Nat) (fs : List (Nat × TypeId × Nat)) {α : Type} (f : α → List Pred) (sz : α → Nat) (ok : α → Prop) : Prop :=
  ∀ n (cs : List Value) (ds : List (DataW H)), cs.length = m → ds.length = fs.length → (∀ (i : Nat) (x : Nat × TypeId × Nat) (d : DataW H), fs[i]? = some x → ds[i]? = some d → ∃ y, DataW.trod enc P W base spare held n x.2.1 ((cs.drop x.1).take x.2.2) = some y ∧ y.1 = d) → ∃ a, (ok a ∧ sz a ≤ (ds.map bk).sum) ∧ Vs (σW W) (f a) (cs.drop n0)
theorem rdfS_nil {m : Nat} : RdFsS enc P W base spare held bk m m [] (fun _ : Unit => []) (fun _ => 0) (fun _ => True) := fun n cs ds hl _ _ => ⟨(), ⟨trivial, Nat.zero_le _⟩, by rw [List.drop_eq_nil_of_le (by omega)]; exact ⟨rfl, by simp⟩⟩
theorem rdfS_cons {m n0 k : Nat} {t : TypeId} {fs : List (Nat × TypeId × Nat)} {α β : Type} {f : α → List Pred} {sz : α → Nat} {ok : α → Prop} {f' : β → List Pred} {sz' : β → Nat} {ok' : β → Prop} (h : RdS enc P W base spare held bk t f sz ok) (hl : RdFsS enc P W base spare held bk m (n0 + k) fs f' sz' ok') :
    RdFsS enc P W base spare held bk m n0 ((n0, t, k) :: fs) (fun x : α × β => f x.1 ++ f' x.2) (fun x => sz x.1 + sz' x.2) (fun x => ok x.1 ∧ ok' x.2) := by
  intro n cs ds hcs hds hx
  match ds, hds with
  | d :: ds, hds =>
    obtain ⟨y, hy, rfl⟩ := hx 0 _ d rfl rfl
    obtain ⟨a, ⟨ha, hz⟩, hv⟩ := h _ _ _ hy
    obtain ⟨b, ⟨hb, hz'⟩, hw⟩ := hl n cs ds hcs (by simpa using hds) fun i x d' h1 h2 => hx (i + 1) x d' (by simpa using h1) (by simpa using h2)
    refine ⟨(a, b), ⟨⟨ha, hb⟩, ?_⟩, ?_⟩
    · rw [List.map_cons, List.sum_cons]; exact Nat.add_le_add hz hz'
    · have := hv.append hw
      rwa [← List.drop_drop, List.take_append_drop] at this
theorem rdS_struct (hB : BulkOK bk) {t : TypeId} {fs : List (Nat × TypeId × Nat)} {m : Nat} {α : Type} {f : α → List Pred} {sz : α → Nat} {ok : α → Prop} (ht : structB P t = some fs) (hm : P.cellsOf t = m) (h : RdFsS enc P W base spare held bk m 0 fs f sz ok) :
    RdS enc P W base spare held bk t f (fun a => sz a + 1) ok := by
  intro fuel cs x hx
  unfold structB at ht
  split at ht
  · rename_i fs' hu
    simp only [Option.some.injEq] at ht
    subst ht
    obtain ⟨xs, n, _, rfl, hl, hlen, hg⟩ := DataW.trod_struct hu hx
    obtain ⟨a, ⟨ha, hz⟩, hv⟩ := h n cs (xs.map (·.1)) (hl.trans hm) (by simp [hlen]) fun i x d h1 h2 => by
      rw [List.getElem?_map] at h1 h2
      obtain ⟨fd, hfd, rfl⟩ := Option.map_eq_some_iff.1 h1
      obtain ⟨y, hy, rfl⟩ := Option.map_eq_some_iff.1 h2
      have hi' : fs'[i]? = some fd := by simpa using hfd
      exact ⟨y, by rw [hg i fd hi', hy], rfl⟩
    exact ⟨a, ⟨ha, Nat.le_trans (Nat.succ_le_succ hz) (hB.agg _)⟩, by simpa using hv⟩
  · cases ht
theorem rdS_one {t : TypeId} {α : Type} {p : α → Pred} {sz : α → Nat} {ok : α → Prop} {v : Value} {d : DataW H} {ps : List MemPlace} (h : RdS enc P W base spare held bk t (fun a => [p a]) sz ok) (h1 : v.cells = #[v]) (hd : DataW.Trod enc P W base spare held t v d ps) : ∃ a, (ok a ∧ sz a ≤ bk d) ∧ (p a).h (σW W) v := by
  obtain ⟨fuel, hf⟩ := hd
  rw [h1] at hf
  obtain ⟨a, ha, hv⟩ := h _ _ _ hf
  exact ⟨a, ha, (hv.2 0 _ v rfl rfl).1⟩
end
end Go.AL


namespace Go.AL
open Go.RowKit
section
variable {α β : Type} {P : Program} {t : TypeId} {ls : List Leaf} {f : α → List Value} {g : β → Value}
def ents (f : α → List Value) (g : β → Value) (m : List (α × β)) : List (Value × Value) := m.map fun x => (.agg (f x.1).toArray, g x.2)
structure KeyOK (P : Program) (t : TypeId) (ls : List Leaf) (f : α → List Value) : Prop where
  agg : aggB P t = some true
  leaf : leafK P 8 t = some ls
  typed : ∀ a, typedB ls (f a) = true
  inj : ∀ a b, f a = f b → a = b
theorem KeyOK.struct (h : KeyOK P t ls f) : ∃ fs, P.underlying t = some (.struct fs) := by
  have h1 := h.leaf
  have h2 := h.agg
  unfold leafK at h1
  unfold aggB at h2
  split at h1
  · rename_i hu; rw [hu] at h2; simp [isAggD] at h2
  · rename_i hu; rw [hu] at h2; simp [isAggD] at h2
  · rename_i hu; rw [hu] at h2; simp [isAggD] at h2
  · rename_i fs hu; exact ⟨fs, hu⟩
  · simp at h1
end
section
variable {α β : Type} [DecidableEq α] {P : Program} {t : TypeId} {ls : List Leaf} {f : α → List Value} {g : β → Value}
theorem KeyOK.eq (h : KeyOK P t ls f) (a b : α) (W : World) : (Op.equal t (.agg (f a).toArray) (.agg (f b).toArray)).run P W = .ok (decide (b = a)) W := by
  have := run_equal_flat 8 t ls h.leaf 9992 (f a) (f b) W (h.typed a) (h.typed b)
  simp only [pack, h.agg, if_true] at this
  refine this.trans ?_
  congr 1
  exact decide_eq_decide.mpr ⟨fun e => (h.inj _ _ e).symm, fun e => by rw [e]⟩
end
end Go.AL
namespace Go.AL
open Go.RowKit
def mapP (id : Id) : Pred := ⟨fun σ v => ∃ b, σ.ρ id = some (some b) ∧ v = .map (some b), fun _ _ _ hle ⟨b, hb, hv⟩ => ⟨b, hle.ρ _ _ hb, hv⟩⟩
theorem One.map (id : Id) : One (mapP id) := fun _ _ ⟨_, _, h⟩ => by subst h; rfl
def mapR {α β : Type} (f : α → List Value) (g : β → Value) (m : List (α × β)) : Res :=
  ⟨fun _ _ _ o => ∃ es clock, o = .map es clock ∧ es.toList.map (fun e => (e.key, e.val)) = ents f g m, fun _ _ _ _ _ _ _ _ h => h⟩
theorem Ren.map {α β : Type} (f : α → List Value) (g : β → Value) (m : List (α × β)) : Ren mapP (mapR f g m) where
  p := by
    rintro σ id id' v h1 h2 ⟨b, hb, hv⟩
    exact ⟨b, by rw [h1]; exact hb, hv⟩
  r := fun _ _ _ _ _ _ _ h => h
def mapB (P : Program) (t : TypeId) : Option (TypeId × TypeId) := match P.underlying t with | some (.map k e) => some (k, e) | _ => none
section
variable {P : Program} {n N : Nat} {F : Fr} {R : Toks} {d : Option Nat} {T t K E : TypeId} {pos : String} {after : Array Edge} {α β : Type}
end
section
variable {P : Program} {n N : Nat} {F : Fr} {R : Toks} {d : Option Nat} {T t K E : TypeId} {pos : String} {after : Array Edge} {α β : Type} [DecidableEq α] {f : α → List Value} {g : β → Value} {mm : List (α × β)} {ls : List Leaf} {id : Id} {m : Nat}
def found (mm : List (α × β)) (a : α) : Option (α × β) := mm.find? fun x => decide (x.1 = a)
end
end Go.AL


namespace Go.AL
open Go.RowKit
def RenR (r : Res) : Prop := ∀ (σ : Sg) (id id' : Id) (b : Nat) (o : Obj), σ.ρ id' = σ.ρ id → σ.z id' = σ.z id → r.h σ id b o → r.h σ id' b o
theorem RenR.blk (κ : Nat) (T : TypeId) (ps : List Pred) : RenR (blkX κ T ps) := (Ren.mv 0 0 0 0 κ T ps).r
theorem RenR.tail (T : TypeId) (n m : Nat) : RenR (tail T n m) := by
  rintro σ id id' b o h1 h2 ⟨cs, ho, hl, hn⟩
  exact ⟨cs, ho, by rw [h2]; exact hl, hn⟩
theorem RenR.map {α β : Type} (f : α → List Value) (g : β → Value) (m : List (α × β)) : RenR (mapR f g m) := (Ren.map f g m).r
theorem bind_zne (σ : Sg) (id i : Id) (b : Option Nat) (z : Nat) (h : i ≠ id) : (bind σ id b z).z i = σ.z i := by simp [bind, h]
theorem Models.rename1 {σ : Sg} {R : Toks} {W : World} {n0 : Nat} {old new : Id} {r : Res} {ob : Option Nat} (h : Models σ R W) (hR : R n0 = some (old, r)) (hnew : σ.ρ new = none) (hren : RenR r) (hob : σ.ρ old = some ob) :
    Models (bind σ new ob (σ.z old)) (fun n => if n = n0 then some (new, r) else R n) W := by
  have hne : old ≠ new := fun e => by rw [e, hnew] at hob; cases hob
  have hle : Le σ (bind σ new ob (σ.z old)) := le_bind hnew
  have e1 : (bind σ new ob (σ.z old)).ρ new = (bind σ new ob (σ.z old)).ρ old := by rw [bind_at, bind_ne _ _ _ _ _ hne, hob]
  have e2 : (bind σ new ob (σ.z old)).z new = (bind σ new ob (σ.z old)).z old := by rw [bind_z, bind_zne _ _ _ _ _ hne]
  have hm1 : Models σ (fun n => if n = n0 then none else R n) W := h.sub fun m x hx => by
    split at hx
    · cases hx
    · exact hx
  have hm2 := hm1.move (W' := W) hle n0 new r (fun i hi => bind_ne _ _ _ _ _ hi) (by rw [bind_at]; simp) (.inl (by simp)) ?_ (Below.refl _ _) (fun m x b _ _ _ => ⟨rfl, fun _ => rfl⟩) (fun b i v hv => hm1.imm b i v hv) ?_ ?_
  · refine hm2.congr ?_
    funext n
    by_cases hn : n = n0 <;> simp [hn]
  · intro m x _ hm e
    exact hm1.used m x hm (by rw [e]; exact hnew)
  · intro b hb
    rw [bind_at] at hb
    simp only [Option.some.injEq] at hb
    rw [hb] at hob
    obtain ⟨g1, o, g2, g3⟩ := h.res n0 old r hR b hob
    exact ⟨g1, o, g2, hren _ old new b o e1 e2 (r.m σ _ old b o hle hob (fun _ => rfl) g3)⟩
  · intro m x b hm0 hm hb hxb
    rw [bind_at] at hb
    simp only [Option.some.injEq] at hb
    rw [hb] at hob
    exact h.sep m n0 x (old, r) b hm0 (by simpa [hm0] using hm) hR hxb hob
def updT (t : Nat → Nat) (ι : Nat → Id) (r : Nat → Res) (R : Toks) : Nat → Toks
  | 0 => R
  | k + 1 => fun n => if n = t k then some (ι k, r k) else updT t ι r R k n
theorem updT_miss {t : Nat → Nat} {ι : Nat → Id} {r : Nat → Res} {R : Toks} {n : Nat} : ∀ k, (∀ j, j < k → n ≠ t j) → updT t ι r R k n = R n
  | 0, _ => rfl
  | k + 1, h => by
    simp only [updT, if_neg (h k (by omega))]
    exact updT_miss k fun j hj => h j (by omega)
theorem updT_hit {t : Nat → Nat} {ι : Nat → Id} {r : Nat → Res} {R : Toks} : ∀ k j, j < k → (∀ i j, i < k → j < k → t i = t j → i = j) → updT t ι r R k (t j) = some (ι j, r j)
  | 0, _, h, _ => by omega
  | k + 1, j, hj, hinj => by
    simp only [updT]
    by_cases h : t j = t k
    · have := hinj j k (by omega) (by omega) h
      subst this
      simp
    · rw [if_neg h]
      exact updT_hit k j (by
        rcases Nat.lt_or_eq_of_le (Nat.le_of_lt_succ hj) with h1 | h1
        · exact h1
        · subst h1; exact absurd rfl h) fun a b ha hb => hinj a b (by omega) (by omega)
theorem renAll {σ : Sg} {R : Toks} {W : World} (h : Models σ R W) (t : Nat → Nat) (olds ι : Nat → Id) (r : Nat → Res) : ∀ k, (∀ j, j < k → R (t j) = some (olds j, r j)) → (∀ i j, i < k → j < k → t i = t j → i = j) →
    (∀ j, j < k → σ.ρ (ι j) = none) → (∀ i j, i < k → j < k → ι i = ι j → i = j) → (∀ j, j < k → RenR (r j)) →
    ∃ τ, Le σ τ ∧ (∀ j, j < k → τ.ρ (ι j) = τ.ρ (olds j) ∧ τ.z (ι j) = τ.z (olds j)) ∧ (∀ id, (∀ j, j < k → id ≠ ι j) → τ.ρ id = σ.ρ id) ∧ Models τ (updT t ι r R k) W
  | 0, _, _, _, _, _ => ⟨σ, Le.refl σ, fun j hj => by omega, fun _ _ => rfl, h⟩
  | k + 1, h1, h2, h3, h4, h5 => by
    obtain ⟨τ, hle, hs, hk, hm⟩ := renAll h t olds ι r k (fun j hj => h1 j (by omega)) (fun i j hi hj => h2 i j (by omega) (by omega)) (fun j hj => h3 j (by omega)) (fun i j hi hj => h4 i j (by omega) (by omega)) (fun j hj => h5 j (by omega))
    obtain ⟨ob, hob⟩ := Option.ne_none_iff_exists'.1 (h.used (t k) _ (h1 k (by omega)))
    have hobt := hle.ρ _ _ hob
    have hnew : τ.ρ (ι k) = none := by rw [hk (ι k) (fun j hj e => by have := h4 k j (by omega) (by omega) e; omega)]; exact h3 k (by omega)
    have hne : olds k ≠ ι k := fun e => by rw [e, hnew] at hobt; cases hobt
    have hrt : updT t ι r R k (t k) = some (olds k, r k) := by rw [updT_miss k (fun j hj e => by have := h2 k j (by omega) (by omega) e; omega)]; exact h1 k (by omega)
    have hm2 := hm.rename1 hrt hnew (h5 k (by omega)) hobt
    refine ⟨bind τ (ι k) ob (τ.z (olds k)), hle.trans (le_bind hnew), ?_, ?_, hm2⟩
    · intro j hj
      by_cases hjk : j = k
      · subst hjk
        rw [bind_at, bind_ne _ _ _ _ _ hne, bind_z, bind_zne _ _ _ _ _ hne]
        exact ⟨hobt.symm, rfl⟩
      · have hj' : j < k := by omega
        obtain ⟨ob2, hob2⟩ := Option.ne_none_iff_exists'.1 (h.used (t j) _ (h1 j (by omega)))
        have hne2 : olds j ≠ ι k := fun e => by have := hle.ρ _ _ hob2; rw [e, hnew] at this; cases this
        have hne3 : ι j ≠ ι k := fun e => hjk (h4 j k (by omega) (by omega) e)
        rw [bind_ne _ _ _ _ _ hne2, bind_ne _ _ _ _ _ hne3, bind_zne _ _ _ _ _ hne2, bind_zne _ _ _ _ _ hne3]
        exact hs j hj'
    · intro id hid
      rw [bind_ne _ _ _ _ _ (hid k (by omega))]
      exact hk id fun j hj => hid j (by omega)
theorem Models.resMono {τ : Sg} {Ra Rb : Toks} {W : World} (h : Models τ Ra W) (g : Nat → Nat) (hg : ∀ n m, n ≠ m → Rb n ≠ none → Rb m ≠ none → g n ≠ g m)
    (hr : ∀ n x, Rb n = some x → ∃ r0, Ra (g n) = some (x.1, r0) ∧ ∀ b o, r0.h τ x.1 b o → x.2.h τ x.1 b o) : Models τ Rb W where
  base := h.base
  n0 := h.n0
  imm := h.imm
  res n id r hn b hb := by
    obtain ⟨r0, h1, h2⟩ := hr n (id, r) hn
    obtain ⟨g1, o, g2, g3⟩ := h.res (g n) id r0 h1 b hb
    exact ⟨g1, o, g2, h2 b o g3⟩
  sep n m x y b hnm hx hy := by
    obtain ⟨r0, h1, _⟩ := hr n x hx
    obtain ⟨r1, h2, _⟩ := hr m y hy
    exact h.sep (g n) (g m) (x.1, r0) (y.1, r1) b (hg n m hnm (by simp [hx]) (by simp [hy])) h1 h2
  used n x hx := by
    obtain ⟨r0, h1, _⟩ := hr n x hx
    exact h.used (g n) (x.1, r0) h1
  fin := h.fin
def OwesN (C : Cx) (R : Ending → World → Prop) (k : Nat) (post : (Nat → Id) → Pred) (prod : (Nat → Id) → List (Id × Res)) : Prop :=
  ∀ (v : Value) (W : World) (σ : Sg) (R' : Toks) (t : Nat → Nat) (olds : Nat → Id) (r : Nat → Res) (s : Nat → Nat), Le C.σ0 σ → KeepB C σ → Models σ R' W → (∀ n, 1000000 ≤ n → R' n = C.Rf n) →
    (∀ j, j < k → R' (t j) = some (olds j, r j) ∧ t j < 1000000) → (∀ i j, i < k → j < k → t i = t j → i = j) → (∀ j, j < k → RenR (r j)) →
    (∀ τ ι, Le σ τ → (∀ j, j < k → τ.ρ (ι j) = τ.ρ (olds j) ∧ τ.z (ι j) = τ.z (olds j)) → (post ι).h τ v ∧
      (∀ n x, (prod ι)[n]? = some x → s n < 1000000 ∧ ∃ r0, updT t ι r R' k (s n) = some (x.1, r0) ∧ ∀ b o, r0.h τ x.1 b o → x.2.h τ x.1 b o) ∧
      (∀ n m, n < (prod ι).length → m < (prod ι).length → s n = s m → n = m)) → R (.returned v) W
theorem fn_ownN {P : Program} {f : FuncId} {fn : Func} {c : Code} {pre : List Pred} {need : List (Id × Res)} {k : Nat} {post : (Nat → Id) → Pred} {prod : (Nat → Id) → List (Id × Res)} {n : Nat} (hf : P.funcs[f]? = some fn) (hb : fn.body = some c) (hn : fn.ntmps = n) (hl : (Nat.ble pre.length n && Nat.ble need.length 1000000) = true)
    (h : ∀ (σ0 : Sg) (M : Nat) (Rf : Toks) (R : Ending → World → Prop), CxOK ⟨σ0, M, [], Rf, n⟩ → OwesN ⟨σ0, M, [], Rf, n⟩ R k post prod → Tr P ⟨σ0, M, [], Rf, n⟩ c (frameOf 0 pre) (tokOf 0 need) (bodyPost P fn R)) : FnOK P f pre need k post prod := by
  intro σ W R args ι M hmod hR hM hι hinj hsz hargs
  simp only [Bool.and_eq_true] at hl
  have hl' := Nat.le_of_ble_eq_true hl.1
  have hl2 := Nat.le_of_ble_eq_true hl.2
  refine calls_of_wp hf hb ?_
  refine h σ M (fun m => if m < 1000000 then none else R m) _ ⟨fun m hm => by simp [hm]⟩ ?_ _ W ⟨σ, Le.refl σ, fun _ _ _ => rfl, ?_⟩
  · intro v W' σ' R' t olds r s hle hkeep hmod' hhigh ht htinj hren hconv
    obtain ⟨τ, hleτ, hs, hk, hm⟩ := renAll hmod' t olds ι r k (fun j hj => (ht j hj).1) htinj (fun j hj => by rw [hkeep (ι j) (hι j hj).1 (by simp)]; exact (hι j hj).2) hinj hren
    obtain ⟨hp, hprod, hsinj⟩ := hconv τ ι hleτ hs
    refine ⟨v, τ, rfl, hle.trans hleτ, ?_, ?_, hp⟩
    · intro i hi hne
      rw [hk i hne]
      exact hkeep i hi (by simp)
    · refine hm.resMono (fun m => if m < 1000000 then s m else m) ?_ ?_
      · intro a b hab ha hb' e
        by_cases h1 : a < 1000000
        · simp only [h1, if_true] at ha e
          obtain ⟨x, hx⟩ := Option.ne_none_iff_exists'.1 ha
          have hax := hprod a x hx
          by_cases h2 : b < 1000000
          · simp only [h2, if_true] at hb' e
            obtain ⟨y, hy⟩ := Option.ne_none_iff_exists'.1 hb'
            exact hab (hsinj a b (List.getElem?_eq_some_iff.1 hx).1 (List.getElem?_eq_some_iff.1 hy).1 e)
          · simp only [h2, if_false] at e
            omega
        · simp only [h1, if_false] at ha e
          by_cases h2 : b < 1000000
          · simp only [h2, if_true] at hb' e
            obtain ⟨y, hy⟩ := Option.ne_none_iff_exists'.1 hb'
            have hby := hprod b y hy
            omega
          · simp only [h2, if_false] at e
            exact hab e
      · intro m x hx
        by_cases h1 : m < 1000000
        · simp only [h1, if_true] at hx ⊢
          exact (hprod m x hx).2
        · simp only [h1, if_false] at hx ⊢
          refine ⟨x.2, ?_, fun _ _ h => h⟩
          rw [updT_miss k (fun j hj e => by have := (ht j hj).2; omega), hhigh m (by omega)]
          simp only [h1, if_false]
          exact hx
  · refine ⟨by simp; omega, rfl, hmod.sub ?_, ?_⟩
    · intro m x hx
      simp only [tkf, lk_tokOf, Nat.zero_le, if_true, Nat.sub_zero] at hx
      by_cases hm : m < 1000000
      · rw [hR m hm]
        cases hnd : need[m]? with
        | none => rw [hnd] at hx; simp [hm] at hx
        | some y => rw [hnd] at hx; simpa using hx
      · have : need[m]? = none := by rw [List.getElem?_eq_none_iff]; omega
        rw [this] at hx
        simpa [hm] using hx
    · intro t p hp
      rw [lk_frameOf] at hp
      simp only [Nat.zero_le, if_true, Nat.sub_zero] at hp
      have ht : t < args.size := by rw [hsz]; exact (List.getElem?_eq_some_iff.1 hp).1
      have := hargs t p hp
      have e : (args ++ Array.replicate (fn.ntmps - args.size) undef).getD t undef = args.getD t undef := by
        simp [Array.getD, ht, show t < args.size + (fn.ntmps - args.size) by omega]
      show p.h σ ((args ++ Array.replicate (fn.ntmps - args.size) undef).getD t undef)
      rw [e]
      exact this
end Go.AL
namespace Go.AL
open Go.RowKit
/-- what is handed over: blocks that get a new name, blocks that keep theirs -/
inductive Prods (τ : Sg) (ι : Nat → Id) (L : Tk) (moves : List (Nat × Id × Res)) : List (Id × Res) → List Nat → Prop
  | nil : Prods τ ι L moves [] []
  | moved {j m : Nat} {old : Id} {r0 r : Res} {l : List (Id × Res)} {s : List Nat} (hj : moves[j]? = some (m, old, r0)) (he : ∀ b o, r0.h τ (ι j) b o → r.h τ (ι j) b o) (hl : Prods τ ι L moves l s) : Prods τ ι L moves ((ι j, r) :: l) (m :: s)
  | kept {m : Nat} {id : Id} {r0 r : Res} {l : List (Id × Res)} {s : List Nat} (hm : lk L m = some (some (id, r0))) (hn : moves.all (fun x => !Nat.beq x.1 m) = true) (he : ∀ b o, r0.h τ id b o → r.h τ id b o) (hl : Prods τ ι L moves l s) :
      Prods τ ι L moves ((id, r) :: l) (m :: s)
def Sames (τ : Sg) (ι : Nat → Id) (moves : List (Nat × Id × Res)) : Prop := ∀ (j : Nat) (x : Nat × Id × Res), moves[j]? = some x → τ.ρ (ι j) = τ.ρ x.2.1 ∧ τ.z (ι j) = τ.z x.2.1
theorem Prods.at_ {τ : Sg} {ι : Nat → Id} {L : Tk} {moves : List (Nat × Id × Res)} {Rf : Toks} {l : List (Id × Res)} {s : List Nat} (h : Prods τ ι L moves l s) (hlow : lowL L = true) (hmoves : ∀ x ∈ moves, lk L x.1 = some (some x.2)) (hnd : nodupN moves = true) :
    l.length = s.length ∧ ∀ (n : Nat) (x : Id × Res), l[n]? = some x → (s[n]?).getD 0 < 1000000 ∧ ∃ r0, updT (fun j => ((moves[j]?).map (·.1)).getD 0) ι (fun j => ((moves[j]?).map (·.2.2)).getD (tail 0 0 0)) (tkf L Rf) moves.length ((s[n]?).getD 0) = some (x.1, r0) ∧ ∀ b o, r0.h τ x.1 b o → x.2.h τ x.1 b o := by
  have hlt : ∀ m y, lk L m = some (some y) → m < 1000000 := fun m y hm => by
    rcases Nat.lt_or_ge m 1000000 with h | h
    · exact h
    · rw [lk_low hlow h] at hm; cases hm
  have hinj : ∀ i j, i < moves.length → j < moves.length → ((moves[i]?).map (·.1)).getD 0 = ((moves[j]?).map (·.1)).getD 0 → i = j := by
    intro i j hi hj e
    simp only [List.getElem?_eq_getElem hi, List.getElem?_eq_getElem hj, Option.map_some, Option.getD_some] at e
    exact nodup_inj (nodup_of hnd) (by simpa using hi) (by simpa using hj) (by simpa using e)
  induction h with
  | nil => exact ⟨rfl, fun n x hx => by simp at hx⟩
  | @moved j m old r0 r l s hj he _ ih =>
    refine ⟨by simp [ih.1], fun n x hx => ?_⟩
    cases n with
    | zero =>
      simp at hx
      subst hx
      have hjl := (List.getElem?_eq_some_iff.1 hj).1
      refine ⟨by simpa using hlt m _ (hmoves _ (List.mem_of_getElem? hj)), r0, ?_, he⟩
      have := updT_hit (t := fun j => ((moves[j]?).map (·.1)).getD 0) (ι := ι) (r := fun j => ((moves[j]?).map (·.2.2)).getD (tail 0 0 0)) (R := tkf L Rf) moves.length j hjl hinj
      simpa [hj] using this
    | succ n => simpa using ih.2 n x (by simpa using hx)
  | @kept m id r0 r l s hm hn he _ ih =>
    refine ⟨by simp [ih.1], fun n x hx => ?_⟩
    cases n with
    | zero =>
      simp at hx
      subst hx
      refine ⟨by simpa using hlt m _ hm, r0, ?_, he⟩
      simp only [List.getElem?_cons_zero, Option.getD_some]
      rw [updT_miss]
      · simp [tkf, hm]
      · intro j hj e
        rw [List.all_eq_true] at hn
        have := hn _ (List.getElem_mem hj)
        simp only [List.getElem?_eq_getElem hj, Option.map_some, Option.getD_some] at e
        rw [← e] at this
        simp at this
    | succ n => simpa using ih.2 n x (by simpa using hx)
section
variable {P : Program} {C : Cx} {F : Fr} {L : Tk} {fn : Func} {R : Ending → World → Prop} {post : (Nat → Id) → Pred} {prod : (Nat → Id) → List (Id × Res)} {moves : List (Nat × Id × Res)} {s : List Nat}
theorem owesN_use {k : Nat} {W : World} {σ : Sg} {v : Value} {p : Pred} (ho : OwesN C R k post prod) (hk : moves.length = k) (h1 : Le C.σ0 σ) (h2 : KeepB C σ) (hm : Models σ (tkf L C.Rf) W) (hv : p.h σ v) (hlow : lowL L = true)
    (hmoves : ∀ x ∈ moves, lk L x.1 = some (some x.2)) (hnd : nodupN moves = true) (hren : ∀ x ∈ moves, RenR x.2.2) (hs : nodupB s = true)
    (hconv : ∀ (τ : Sg) (ι : Nat → Id), Sames τ ι moves → (∀ v, p.h τ v → (post ι).h τ v) ∧ Prods τ ι L moves (prod ι) s) : R (.returned v) W := by
  subst hk
  refine ho v W σ (tkf L C.Rf) (fun j => ((moves[j]?).map (·.1)).getD 0) (fun j => ((moves[j]?).map (·.2.1)).getD (0, 0)) (fun j => ((moves[j]?).map (·.2.2)).getD (tail 0 0 0)) (fun n => (s[n]?).getD 0) h1 h2 hm ?_ ?_ ?_ ?_ ?_
  · intro n hn
    simp only [tkf, lk_low hlow hn]
  · intro j hj
    have hx := hmoves _ (List.getElem_mem hj)
    simp only [List.getElem?_eq_getElem hj, Option.map_some, Option.getD_some]
    refine ⟨by simp [tkf, hx], ?_⟩
    rcases Nat.lt_or_ge moves[j].1 1000000 with h | h
    · exact h
    · rw [lk_low hlow h] at hx; cases hx
  · intro i j hi hj e
    simp only [List.getElem?_eq_getElem hi, List.getElem?_eq_getElem hj, Option.map_some, Option.getD_some] at e
    exact nodup_inj (nodup_of hnd) (by simpa using hi) (by simpa using hj) (by simpa using e)
  · intro j hj
    simp only [List.getElem?_eq_getElem hj, Option.map_some, Option.getD_some]
    exact hren _ (List.getElem_mem hj)
  · intro τ ι hle hsm
    obtain ⟨g1, g2⟩ := hconv τ ι (fun j x hx => by
      have hj := (List.getElem?_eq_some_iff.1 hx).1
      have := hsm j hj
      simpa [hx] using this)
    obtain ⟨g3, g4⟩ := g2.at_ (Rf := C.Rf) hlow hmoves hnd
    refine ⟨g1 v (p.m _ _ _ hle hv), g4, fun n m hn hm e => ?_⟩
    rw [g3] at hn hm
    simp only [List.getElem?_eq_getElem hn, List.getElem?_eq_getElem hm, Option.getD_some] at e
    exact nodup_inj (nodup_of hs) hn hm e
theorem pe_ownT {k : Nat} {rs : List ResultVar} {ps : List Pred} (moves : List (Nat × Id × Res)) (s : List Nat) (hres : fn.results = rs.toArray) (hlen : Nat.beq ps.length 1 = false) (ho : OwesN C R k post prod) (hk : moves.length = k) (hlow : lowL L = true) (hr : RV P F L rs ps)
    (hmoves : ∀ x ∈ moves, lk L x.1 = some (some x.2)) (hnd : nodupN moves = true) (hren : ∀ x ∈ moves, RenR x.2.2) (hs : nodupB s = true)
    (hconv : ∀ (τ : Sg) (ι : Nat → Id), Sames τ ι moves → (∀ v, (tupP ps).h τ v → (post ι).h τ v) ∧ Prods τ ι L moves (prod ι) s) : Post C F L (bodyPost P fn R .ret) := by
  rintro a W ⟨σ, h1, h2, h3⟩
  obtain ⟨vs, hrun, hl, hv⟩ := hr.run h3
  have hne : ¬ vs.length = 1 := fun e => by rw [hl] at e; rw [e] at hlen; simp at hlen
  refine ⟨h3.defers, .tuple vs.toArray, ?_, ?_⟩
  · have := run_results' (P := P) hres a W hrun
    rwa [dif_neg hne] at this
  · exact owesN_use (v := .tuple vs.toArray) (p := tupP ps) ho hk h1 h2 h3.mod ⟨vs, rfl, hl, hv⟩ hlow hmoves hnd hren hs hconv
theorem pe_ownS {k : Nat} {r : ResultVar} {p : Pred} (moves : List (Nat × Id × Res)) (s : List Nat) (hres : fn.results = #[r]) (ho : OwesN C R k post prod) (hk : moves.length = k) (hlow : lowL L = true) (hr : RV P F L [r] [p])
    (hmoves : ∀ x ∈ moves, lk L x.1 = some (some x.2)) (hnd : nodupN moves = true) (hren : ∀ x ∈ moves, RenR x.2.2) (hs : nodupB s = true)
    (hconv : ∀ (τ : Sg) (ι : Nat → Id), Sames τ ι moves → (∀ v, p.h τ v → (post ι).h τ v) ∧ Prods τ ι L moves (prod ι) s) : Post C F L (bodyPost P fn R .ret) := by
  rintro a W ⟨σ, h1, h2, h3⟩
  obtain ⟨vs, hrun, hl, hv⟩ := hr.run h3
  obtain ⟨v, rfl⟩ : ∃ v, vs = [v] := by
    match vs, hl with
    | [v], _ => exact ⟨v, rfl⟩
  refine ⟨h3.defers, v, run_results' (rs := [r]) hres a W hrun, ?_⟩
  exact owesN_use (v := v) (p := p) ho hk h1 h2 h3.mod (hv 0 p v rfl rfl) hlow hmoves hnd hren hs hconv
end
theorem row_ren {α : Type} {τ : Sg} {old new : Id} {f : α → List Pred} {k : Nat} {xs : List α} (h1 : τ.ρ new = τ.ρ old) (h2 : τ.z new = τ.z old) : ∀ v, (rowP old f k xs).h τ v → (rowP new f k xs).h τ v := fun v h => (Ren.row f k xs 0 0).p τ old new v h1 h2 h
theorem ptr_ren {τ : Sg} {old new : Id} {off : Nat} (h1 : τ.ρ new = τ.ρ old) : ∀ v, (ptrP old off).h τ v → (ptrP new off).h τ v := by
  rintro v ⟨b, hb, hv⟩
  exact ⟨b, by rw [h1]; exact hb, hv⟩
inductive EntsAt (τ : Sg) : List Pred → List Pred → Prop
  | nil : EntsAt τ [] []
  | cons {p q : Pred} {ps qs : List Pred} (h : ∀ v, p.h τ v → q.h τ v) (t : EntsAt τ ps qs) : EntsAt τ (p :: ps) (q :: qs)
theorem EntsAt.vs {τ : Sg} {ps qs : List Pred} (h : EntsAt τ ps qs) : ∀ vs, Vs τ ps vs → Vs τ qs vs := by
  induction h with
  | nil => exact fun vs h => h
  | @cons p q ps qs h _ ih =>
    intro vs hv
    match vs, hv with
    | [], hv => exact absurd hv.1 (by simp)
    | v :: vs, hv =>
      have h2 := ih vs ⟨by have := hv.1; simpa using this, fun j p u hp hu => hv.2 (j + 1) p u (by simpa using hp) (by simpa using hu)⟩
      refine ⟨by simp [h2.1], fun j p' u hp hu => ?_⟩
      cases j with
      | zero =>
        simp at hp hu
        subst hp
        subst hu
        have := hv.2 0 p v rfl rfl
        exact ⟨h v this.1, this.2⟩
      | succ j => exact h2.2 j p' u (by simpa using hp) (by simpa using hu)
theorem blk_ents {τ : Sg} {κ : Nat} {T : TypeId} {ps qs : List Pred} (h : EntsAt τ ps qs) {id : Id} : ∀ b o, (blkX κ T ps).h τ id b o → (blkX κ T qs).h τ id b o := by
  rintro b o ⟨cs, rest, ho, hv, hz, hn⟩
  exact ⟨cs, rest, ho, h.vs cs hv, hz, hn⟩
end Go.AL


namespace Go.AL
open Go.RowKit
section
variable {P : Program} {n N : Nat} {F : Fr} {R : Toks} {d : Option Nat} {T t t' e K E : TypeId} {pos : String} {after : Array Edge} {x y : Operand} {id : Id} {k bytes : Nat}
/-- 'make([]T, len, cap)' -/
theorem op_makeSlice {lx cx : Operand} {l c : Nat} {li ci : Int} {lk ck : IntKind} {m' kk : Nat} {z : Value} {zs : List Pred} (hl : opd F lx = some (eqP (.int lk li))) (hc : opd F cx = some (eqP (.int ck ci))) (hli : li = (l : Int)) (hci : ci = (c : Int)) (hm' : R m' = none)
    (ht : elemB P t = some e) (hz : zeroB P e = some (some z)) (hs : sizeB P e = some k) (hby : bytesB P e = some bytes) (hzs : z.cells.toList.map eqP = zs) (hzk : Nat.beq zs.length k = true) (hk0 : Nat.blt 0 k = true) (h1 : z.cells.toList.all Value.oneCell' = true)
    (hlc : l ≤ c) (hc1 : bytes * c ≤ 281474976710656) (hc2 : c ≤ maxLen) :
    OpJ P n N F R ⟨d, .makeSlice t lx cx, T, pos, after, none⟩ ⟨rdo lx (eqP (.int lk li)) ++ rdo cx (eqP (.int ck ci)), [], [], [(m', ((N, kk), blkX k e (List.replicate c zs).flatten))], [kk], mvP (N, kk) k 0 l c⟩ where
  loc := by
    intro σ W R a K hm h2 h3 h4 h5 h6 h7 h8 h9 Q
    have hid := h8 kk (by simp)
    have hRm' : R m' = none := by have h := h7 (m', ((N, kk), blkX k e (List.replicate c zs).flatten)) (by simp); simpa using h
    have e1 : a.eval lx = .int lk li := holds_of hl fun w hw => h4 w (List.mem_append_left _ hw)
    have e2 : a.eval cx = .int ck ci := holds_of hc fun w hw => h4 w (List.mem_append_right _ hw)
    have hzk := Nat.eq_of_beq_eq_true hzk
    have hk0 : 0 < k := Nat.le_of_ble_eq_true hk0
    obtain ⟨i, hi, hiz, his, hib⟩ := info_of hz hs hby
    have hzsz : z.cells.size = k := by rw [← hzk, ← hzs]; simp
    have h63 : (ci : Int) ≤ 9223372036854775807 := by rw [hci]; unfold maxLen at hc2; omega
    have hbb : (i.bytes : Int) * ci ≤ 281474976710656 := by
      rw [hib, hci]
      have h : ((bytes * c : Nat) : Int) ≤ 281474976710656 := by omega
      rwa [Int.natCast_mul] at h
    have hr := run_make (P := P) W t e i z (elem_of ht) hi hiz lk ck li ci (by omega) (by omega) hbb h63
    rw [hli, hci, Int.toNat_natCast, Int.toNat_natCast, his] at hr
    have hcells : (madeCells z.cells (c * k)).toList = (List.replicate c z.cells.toList).flatten := by
      simp only [madeCells, Array.toList_map, Array.toList_range]
      rw [← flatten_replicate_range hzsz hk0]
    have hflat : (List.replicate c zs).flatten = ((List.replicate c z.cells.toList).flatten).map eqP := by rw [← hzs]; simp [List.map_flatten]
    have hvs : Vs σ (List.replicate c zs).flatten (madeCells z.cells (c * k)).toList := by
      rw [hcells, hflat]
      refine Vs.eqs ?_
      rw [List.all_eq_true] at h1 ⊢
      intro u hu
      obtain ⟨q, hq, huq⟩ := List.mem_flatten.1 hu
      rw [List.mem_replicate] at hq
      exact h1 u (by rw [← hq.2]; exact huq)
    have hmod := hm.alloc (id := (N, kk)) (z := c) (n := m') (r := blkX k e (List.replicate c zs).flatten) (o := .cells (madeCells z.cells (c * k)) e) hid hRm'
      ⟨(madeCells z.cells (c * k)).toList, [], by simp, hvs.mono (le_bind hid), fun _ => by rw [bind_z]; simp [size_madeCells], fun i => no_imm_new hm i⟩
    refine wp_value (v := .slice (some ⟨W.heap.size, 0, none⟩) l c) (W' := W.alloc (.cells (madeCells z.cells (c * k)) e)) ?_ (h9 _ _ _ (le_bind hid) keep_bind (hmod.congr (updR_new ..)) ?_)
    · rw [← hli, ← hci] at hr
      simp only [execOp, e1, e2, Sem.run_bind, hr, Result.andThen_ok, Sem.run_pure]
    · exact ⟨_, by rw [bind_z]; rfl, by rw [bind_z]; omega, by rw [bind_z]; exact hc2, by rw [bind_at]; simp, fun _ => ⟨_, bind_at .., by simp⟩⟩
  rd := rd_app (rd_of hl) (rd_of hc)
  use := by simp
  del := by simp
  add := by simpa using hm'
end
end Go.AL


namespace Go.AL
open Go.RowKit
theorem SubF.append {F A B : Fr} (h : SubF F A) (k : SubF F B) : SubF F (A ++ B) := by
  induction h with
  | nil => exact k
  | cons h _ ih => exact .cons h ih
  | ent h he _ ih => exact .ent h he ih
theorem SubL.append {L A B : Tk} (h : SubL L A) (k : SubL L B) : SubL L (A ++ B) := by
  induction h with
  | nil => exact k
  | cons h _ ih => exact .cons h ih
section
variable {P : Program} {C : Cx} {F : Fr} {L : Tk} {Q : Exit → Act → World → Prop}
/-- a loop of which what changes is said; the rest stays -/
theorem tr_loopK {α : Type} {c : Code} {Fk : Fr} {Lk : Tk} (x0 : α) (Fx : α → Fr) (Lx : α → Tk) (μ : α → Nat) (hC : CxOK C) (hF : SubF F Fk) (hL : SubL L Lk) (hlow : lowL L = true)
    (h0 : SubF F (Fx x0)) (l0 : SubL L (Lx x0))
    (round : ∀ x, Tr P C c (Fx x ++ Fk) (Lx x ++ Lk) (Exit.then (fun a W => ∃ y, μ y < μ x ∧ St C (Fx y ++ Fk) (Lx y ++ Lk) a W) Q)) : Tr P C (.loop c) F L Q :=
  tr_loop x0 (fun x => Fx x ++ Fk) (fun x => Lx x ++ Lk) μ (pe_st hC (h0.append hF) (l0.append hL) hlow) round
end
/-- the blocks that get a new name -/
inductive Moves (L : Tk) : List (Nat × Id × Res) → Prop
  | nil : Moves L []
  | cons {m : Nat} {id : Id} {r : Res} {l : List (Nat × Id × Res)} (h : lk L m = some (some (id, r))) (hr : RenR r) (hl : Moves L l) : Moves L ((m, id, r) :: l)
theorem Moves.at_ {L : Tk} {l : List (Nat × Id × Res)} (h : Moves L l) : (∀ x ∈ l, lk L x.1 = some (some x.2)) ∧ ∀ x ∈ l, RenR x.2.2 := by
  induction h with
  | nil => exact ⟨by simp, by simp⟩
  | cons h hr _ ih =>
    refine ⟨fun x hx => ?_, fun x hx => ?_⟩
    · rcases List.mem_cons.1 hx with rfl | hx
      · exact h
      · exact ih.1 x hx
    · rcases List.mem_cons.1 hx with rfl | hx
      · exact hr
      · exact ih.2 x hx
section
variable {P : Program} {C : Cx} {F : Fr} {L : Tk} {fn : Func} {R : Ending → World → Prop} {post : (Nat → Id) → Pred} {prod : (Nat → Id) → List (Id × Res)} {moves : List (Nat × Id × Res)}
theorem pe_ownT' {k : Nat} {rs : List ResultVar} {ps : List Pred} (s : List Nat) (hres : fn.results = rs.toArray) (hlen : Nat.beq ps.length 1 = false) (ho : OwesN C R k post prod) (hlow : lowL L = true) (hr : RV P F L rs ps)
    (hm : Moves L moves) (hk : moves.length = k) (hnd : nodupN moves = true) (hs : nodupB s = true)
    (hconv : ∀ (τ : Sg) (ι : Nat → Id), Sames τ ι moves → (∀ v, (tupP ps).h τ v → (post ι).h τ v) ∧ Prods τ ι L moves (prod ι) s) : Post C F L (bodyPost P fn R .ret) :=
  pe_ownT moves s hres hlen ho hk hlow hr hm.at_.1 hnd hm.at_.2 hs hconv
theorem pe_ownS' {k : Nat} {r : ResultVar} {p : Pred} (s : List Nat) (hres : fn.results = #[r]) (ho : OwesN C R k post prod) (hlow : lowL L = true) (hr : RV P F L [r] [p])
    (hm : Moves L moves) (hk : moves.length = k) (hnd : nodupN moves = true) (hs : nodupB s = true)
    (hconv : ∀ (τ : Sg) (ι : Nat → Id), Sames τ ι moves → (∀ v, p.h τ v → (post ι).h τ v) ∧ Prods τ ι L moves (prod ι) s) : Post C F L (bodyPost P fn R .ret) :=
  pe_ownS moves s hres ho hk hlow hr hm.at_.1 hnd hm.at_.2 hs hconv
end
theorem aggP_at {τ : Sg} {ps qs : List Pred} (h : EntsAt τ ps qs) : ∀ v, (aggP ps).h τ v → (aggP qs).h τ v := by
  rintro v ⟨cs, hv, hc⟩
  exact ⟨cs, hv, h.vs cs hc⟩
theorem tupP_at {τ : Sg} {ps qs : List Pred} (h : EntsAt τ ps qs) : ∀ v, (tupP ps).h τ v → (tupP qs).h τ v := by
  intro v hv
  obtain ⟨cs, rfl, hl, hc⟩ := hv
  refine ⟨cs, rfl, ?_, ?_⟩
  · clear hc
    induction h generalizing cs with
    | nil => exact hl
    | cons h t ih =>
      cases cs with
      | nil => simp at hl
      | cons c cs => simpa using ih cs (by simpa using hl)
  · clear hl
    intro j p u hp hu
    induction h generalizing cs j with
    | nil => simp at hp
    | @cons p' q' ps qs h t ih =>
      cases cs with
      | nil => simp at hu
      | cons c cs =>
        cases j with
        | zero =>
          simp at hp hu
          subst hp
          subst hu
          exact h c (hc 0 p' c rfl rfl)
        | succ j => exact ih cs (fun j p u hp hu => hc (j + 1) p u (by simpa using hp) (by simpa using hu)) j (by simpa using hp) (by simpa using hu)
theorem ent_at {p q : Pred} (h : Ent p q) {τ : Sg} : ∀ v, p.h τ v → q.h τ v := fun v hv => h τ v hv
theorem mv_ren {τ : Sg} {old new : Id} {k off n c : Nat} (h1 : τ.ρ new = τ.ρ old) (h2 : τ.z new = τ.z old) : ∀ v, (mvP old k off n c).h τ v → (mvP new k off n c).h τ v := fun v h => (Ren.mv k off n c 0 0 []).p τ old new v h1 h2 h
end Go.AL


namespace Go.AL
open Go.RowKit
def Fact (p : Pred) (φ : Prop) : Prop := ∀ σ v, p.h σ v → φ
theorem Fact.sl {α : Type} (f : α → List Pred) (n : Nat) (xs : List α) : Fact (slP f n xs) (xs.length ≤ 9223372036854775807) := fun _ _ ⟨_, _, _, h1, h2, _⟩ => by unfold maxLen at h2; omega
theorem Fact.row {α : Type} (id : Id) (f : α → List Pred) (n : Nat) (xs : List α) : Fact (rowP id f n xs) (xs.length ≤ 9223372036854775807) := fun σ v h => Fact.sl f n xs σ v (Ent.row id f n xs σ v h)
theorem Fact.mv (id : Id) (k off n c : Nat) : Fact (mvP id k off n c) (n ≤ 9223372036854775807) := fun _ _ ⟨_, _, h1, h2, _⟩ => by unfold maxLen at h2; omega
theorem Fact.agg {ps : List Pred} {p : Pred} {φ : Prop} (j : Nat) (h : ps[j]? = some p) (hf : Fact p φ) : Fact (aggP ps) φ := fun σ v ⟨cs, _, hc⟩ => by
  have hlt : j < cs.length := by rw [hc.1]; exact (List.getElem?_eq_some_iff.1 h).1
  exact hf σ _ (hc.2 j p _ h (List.getElem?_eq_getElem hlt)).1
theorem Fact.cells {ps : List Pred} {p : Pred} {φ : Prop} (j : Nat) (h : ps[j]? = some p) (hf : Fact p φ) : Fact (cellsP ps) φ := fun σ v ⟨b, off, _, hc⟩ => by
  obtain ⟨u, _, hu⟩ := hc j p h
  exact hf σ u hu.1
/-- the cells of the elements of a slice bear facts, too -/
theorem Fact.each {α : Type} {f : α → List Pred} {n : Nat} {xs : List α} {φ : α → Prop} (h : ∀ x, ∃ (j : Nat) (p : Pred), (f x)[j]? = some p ∧ Fact p (φ x)) : Fact (slP f n xs) (∀ x ∈ xs, φ x) := fun σ v ⟨a, cap, _, _, _, h3⟩ x hx => by
  obtain ⟨i, hi⟩ := List.mem_iff_getElem?.1 hx
  obtain ⟨b, off, _, hc⟩ := h3 (by have := (List.getElem?_eq_some_iff.1 hi).1; omega)
  obtain ⟨j, p, hp, hf⟩ := h x
  obtain ⟨u, _, hu⟩ := hc i x hi j p hp
  exact hf σ u hu.1
theorem Fact.and {p : Pred} {φ ψ : Prop} (h : Fact p φ) (k : Fact p ψ) : Fact p (φ ∧ ψ) := fun σ v x => ⟨h σ v x, k σ v x⟩
section
variable {α : Type} {f : α → List Pred} {k : Nat}
theorem flatMap_cut (hk : ∀ z, (f z).length = k) : ∀ (xs : List α) (j : Nat) (z : α), xs[j]? = some z → (xs.flatMap f) = (xs.take j).flatMap f ++ (f z ++ (xs.drop (j + 1)).flatMap f)
  | [], j, z, h => by simp at h
  | x :: xs, 0, z, h => by simp at h; subst h; simp [List.flatMap_cons]
  | x :: xs, j + 1, z, h => by
    have := flatMap_cut hk xs j z (by simpa using h)
    simp only [List.flatMap_cons, List.take_succ_cons, List.drop_succ_cons, List.append_assoc]
    rw [this]
theorem flatMap_take_len (hk : ∀ z, (f z).length = k) {xs : List α} {j : Nat} (hj : j ≤ xs.length) : ((xs.take j).flatMap f).length = j * k := by
  rw [flatMap_len hk, List.length_take, Nat.min_eq_left hj]
theorem flatMap_part (hk : ∀ z, (f z).length = k) {xs : List α} {j fo n : Nat} {z : α} (hz : xs[j]? = some z) (hn : fo + n ≤ k) : ((xs.flatMap f).drop (j * k + fo)).take n = ((f z).drop fo).take n := by
  have hj : j < xs.length := (List.getElem?_eq_some_iff.1 hz).1
  rw [flatMap_cut hk xs j z hz, ← List.drop_drop]
  have hl := flatMap_take_len hk (xs := xs) (j := j) (by omega)
  rw [List.drop_left' hl, List.drop_append_of_le_length (by rw [hk]; omega), List.take_append_of_le_length (by rw [List.length_drop, hk]; omega)]
end
section
variable {P : Program} {n N : Nat} {F : Fr} {R : Toks} {d : Option Nat} {T Ty : TypeId} {pos : String} {after : Array Edge} {α : Type} {f : α → List Pred} {k : Nat} {xs : List α} {id : Id} {m κ : Nat} {B : TypeId}
/-- a load of a whole element, of a part of one, of one cell of one -/
theorem op_tload {x : Operand} {off j fo w : Nat} {z : α} {qs : List Pred} (hx : opd F x = some (ptrP id off)) (hR : R m = some (id, blkX κ B (xs.flatMap f))) (ha : aggB P Ty = some true) (hs : sizeB P Ty = some w)
    (hk : ∀ z, (f z).length = k) (hoff : off = j * k + fo) (hz : xs[j]? = some z) (hw : Nat.ble (fo + w) k = true) (hq : ((f z).drop fo).take w = qs) :
    OpJ P n N F R ⟨d, .load Ty x, T, pos, after, none⟩ ⟨rdo x (ptrP id off), [(m, id, blkX κ B (xs.flatMap f))], [], [], [], aggP qs⟩ := by
  have hw' := Nat.le_of_ble_eq_true hw
  have hj : j < xs.length := (List.getElem?_eq_some_iff.1 hz).1
  refine op_bload_part hx hR ha hs ?_ (by rw [hoff, flatMap_part hk hz hw', hq])
  have : (j + 1) * k ≤ xs.length * k := Nat.mul_le_mul_right _ hj
  rw [Nat.succ_mul] at this
  rw [flatMap_len hk, Nat.ble_eq]
  omega
end
section
variable {P : Program} {C : Cx} {F : Fr} {L : Tk} {Q : Exit → Act → World → Prop} {c : Code}
inductive SubX (L : Tk) : Tk → Prop
  | nil : SubX L []
  | cons {t : Nat} {id : Id} {r r' : Res} {l : Tk} (h : lk L t = some (some (id, r))) (he : ∀ σ b o, r.h σ id b o → r'.h σ id b o) (hl : SubX L l) : SubX L ((t, some (id, r')) :: l)
theorem SubX.sub {Rf : Toks} (hlowRf : ∀ m, m < 1000000 → Rf m = none) {L L' : Tk} (h : SubX L L') (hlow : lowL L = true) : ∀ m x, tkf L' Rf m = some x → ∃ r0, tkf L Rf m = some (x.1, r0) ∧ ∀ σ b o, r0.h σ x.1 b o → x.2.h σ x.1 b o := by
  induction h with
  | nil =>
    intro m x hx
    simp only [tkf, lk] at hx
    by_cases hm : m < 1000000
    · rw [hlowRf m hm] at hx; cases hx
    · exact ⟨x.2, by simp only [tkf, lk_low hlow (Nat.le_of_not_lt hm)]; exact hx, fun _ _ _ h => h⟩
  | @cons t id r r' l ht he _ ih =>
    intro m x hx
    simp only [tkf, lk_cons] at hx
    by_cases e : t = m
    · subst e
      simp at hx
      subst hx
      exact ⟨r, by simp [tkf, ht], he⟩
    · simp only [e, if_false] at hx
      exact ih m x hx
end
theorem blk_ents' {κ : Nat} {T : TypeId} {ps qs : List Pred} (h : Ents ps qs) : ∀ (σ : Sg) (id : Id) (b : Nat) (o : Obj), (blkX κ T ps).h σ id b o → (blkX κ T qs).h σ id b o := by
  rintro σ id b o ⟨cs, rest, ho, hv, hz, hn⟩
  exact ⟨cs, rest, ho, hv.ents h, hz, hn⟩
section
variable {P : Program} {n N : Nat} {F : Fr} {R : Toks} {d : Option Nat} {T : TypeId} {pos : String} {after : Array Edge} {α : Type} {f : α → List Pred} {k bytes : Nat} {xs ys : List α} {t e : TypeId} {id : Id}
/-- **append to a list of the call's own whose cells may be written** -/
theorem op_append_t {x y : Operand} {m m' kk : Nat} {z : Value} (hx : opd F x = some (mvP id k 0 xs.length xs.length)) (hy : opd F y = some (slP f k ys)) (hR : R m = some (id, blkX k e (xs.flatMap f))) (hm' : m' = m ∨ R m' = none)
    (ht : elemB P t = some e) (hz : zeroB P e = some (some z)) (hs : sizeB P e = some k) (hby : bytesB P e = some bytes) (hzs : z.cells.size = k) (hk0 : k ≠ 0) (hk : ∀ z, (f z).length = k)
    (h63 : xs.length + ys.length ≤ 1152921504606846976) (hbytes : (xs.length + ys.length) * bytes ≤ 140737488355328) :
    OpJ P n N F R ⟨d, .call { callee := .builtin .append, args := #[x, y], argTypes := #[t, t] }, T, pos, after, none⟩
      ⟨rdo x (mvP id k 0 xs.length xs.length) ++ rdo y (slP f k ys), [], [(m, (id, blkX k e (xs.flatMap f)))], [(m', ((N, kk), blkX k e ((xs ++ ys).flatMap f)))], [kk], mvP (N, kk) k 0 (xs ++ ys).length (xs ++ ys).length⟩ := by
  have := op_append_mut (P := P) (n := n) (N := N) (F := F) (R := R) (d := d) (T := T) (pos := pos) (after := after) (m := m) (m' := m') (kk := kk) (f := f) hx hy hR hm' ht hz hs hby hzs hk0 (flatMap_len hk xs) hk h63 hbytes
  rw [List.flatMap_append, List.length_append]
  exact this
theorem flatten_rep (c : Nat) (z : α) : (List.replicate c (f z)).flatten = (List.replicate c z).flatMap f := by
  induction c with
  | zero => rfl
  | succ c ih => simp [List.replicate_succ, ih]
end
section
variable {P : Program} {C : Cx} {F : Fr} {L : Tk} {fn : Func} {R : Ending → World → Prop} {post : (Nat → Id) → Pred} {prod : (Nat → Id) → List (Id × Res)} {moves : List (Nat × Id × Res)}
end
end Go.AL
namespace Go.AL
open Go.RowKit
inductive TokIn (R : Toks) : List (Nat × Id × Res) → Prop
  | nil : TokIn R []
  | cons {m : Nat} {id : Id} {r : Res} {l : List (Nat × Id × Res)} (h : R m = some (id, r)) (t : TokIn R l) : TokIn R ((m, id, r) :: l)
theorem TokIn.at_ {R : Toks} {l : List (Nat × Id × Res)} (h : TokIn R l) : ∀ x ∈ l, R x.1 = some x.2 := by
  induction h with
  | nil => intro x hx; cases hx
  | cons h _ ih =>
    intro x hx
    rcases List.mem_cons.1 hx with rfl | hx
    · exact h
    · exact ih x hx
inductive AddOK (R : Toks) (del : List (Nat × Id × Res)) : List (Nat × Id × Res) → Prop
  | nil : AddOK R del []
  | new {m : Nat} {x : Id × Res} {l : List (Nat × Id × Res)} (h : R m = none) (t : AddOK R del l) : AddOK R del ((m, x) :: l)
  | old {m : Nat} {x : Id × Res} {l : List (Nat × Id × Res)} (h : del.any (fun y => y.1 == m) = true) (t : AddOK R del l) : AddOK R del ((m, x) :: l)
theorem AddOK.at_ {R : Toks} {del l : List (Nat × Id × Res)} (h : AddOK R del l) : ∀ x ∈ l, R x.1 = none ∨ del.any (fun y => y.1 == x.1) = true := by
  induction h with
  | nil => intro x hx; cases hx
  | new h _ ih =>
    intro x hx
    rcases List.mem_cons.1 hx with rfl | hx
    · exact .inl h
    · exact ih x hx
  | old h _ ih =>
    intro x hx
    rcases List.mem_cons.1 hx with rfl | hx
    · exact .inr h
    · exact ih x hx
section
variable {P : Program} {n N : Nat} {F : Fr} {R : Toks} {d : Option Nat} {T : TypeId} {pos : String} {after : Array Edge}
/-- **a call, blocks handed over and taken back** -/
theorem op_callG2 {f : FuncId} {l : List Operand} {ts : Array TypeId} {pre : List Pred} {k : Nat} {post : (Nat → Id) → Pred} {prod : (Nat → Id) → List (Id × Res)} {rd : List (Nat × Pred)} {del add : List (Nat × Id × Res)} {ks : List Nat} {φ : Pred}
    (hdel : TokIn R del) (hc : FnOK P f pre (del.map (·.2)) k post prod) (hargs : Args F l pre rd) (hf : fnB P f = true) (hk : ks.length = k) (hφ : post (fun j => (N, ks.getD j 0)) = φ) (hprod : prod (fun j => (N, ks.getD j 0)) = add.map (·.2))
    (hadd : AddOK R del add) (hnd : (nodupN del && nodupN add && nodupB ks && Nat.ble add.length 1000000) = true) :
    OpJ P n N F R ⟨d, .call { callee := .value (.func f), args := l.toArray, argTypes := ts }, T, pos, after, none⟩ ⟨rd, [], del, add, ks, φ⟩ :=
  hφ ▸ op_callG hc hargs hf hk hprod hnd hdel.at_ hadd.at_
end
end Go.AL
namespace Go.AL
open Go.RowKit
section
variable {P : Program} {n N : Nat} {F : Fr} {R : Toks} {d : Option Nat} {T : TypeId} {pos : String} {after : Array Edge} {α : Type} {f : α → List Pred} {k : Nat} {xs : List α} {t e : TypeId}
/-- '[]T{..}': a row of the call's own -/
theorem op_buildRow {len m' kk : Nat} {l : List (Nat × Operand)} {rd : List (Nat × Pred)} {z : Value} (hz : zeroB P e = some (some z)) (h1 : z.cells.toList.all Value.oneCell' = true) (hzs : z.cells.size = k) (hk0 : 0 < k) (ht : elemB P t = some e) (hs : sizeB P e = some k)
    (hk : ∀ z, (f z).length = k) (hl : Elems F f 0 l xs rd) (hlen : xs.length = len) (hbig : len * k ≤ 16777216) (hm' : R m' = none) :
    OpJ P n N F R ⟨d, .buildSlice t len l.toArray, T, pos, after, none⟩ ⟨rd, [], [], [(m', ((N, kk), tail e k (xs.length * k)))], [kk], rowP (N, kk) f k xs⟩ where
  loc := by
    intro σ W R a K hm h2 h3 h4 h5 h6 h7 h8 h9 Q
    have hid := h8 kk (by simp)
    have hRm' : R m' = none := by have h := h7 (m', ((N, kk), tail e k (xs.length * k))) (by simp); simpa using h
    subst hlen
    have hzc : Vs σ ((List.replicate xs.length (z.cells.toList.map eqP)).flatten) ((Array.range (xs.length * k)).map (z.cells[· % z.cells.size]!)).toList := by
      have e1 : ((Array.range (xs.length * k)).map (z.cells[· % z.cells.size]!)).toList = (List.replicate xs.length z.cells.toList).flatten := by
        have := @flatten_replicate_range z.cells k hzs hk0 xs.length
        simpa using this
      rw [e1]
      have e2 : (List.replicate xs.length (z.cells.toList.map eqP)).flatten = ((List.replicate xs.length z.cells.toList).flatten).map eqP := by simp [List.map_flatten]
      rw [e2]
      exact Vs.eqs (by
        rw [List.all_eq_true]
        intro v hv
        obtain ⟨y, hy, hv⟩ := List.mem_flatten.1 hv
        rw [List.mem_replicate] at hy
        rw [hy.2] at hv
        exact List.all_eq_true.1 h1 v hv)
    obtain ⟨cells', hc', hv'⟩ := run_elems hl hk h4 _ _ hzc (by simp [hzs])
    simp only [Nat.zero_mul, List.take_zero, List.nil_append] at hv'
    have hcl : cells'.toList.length = xs.length * k := by rw [hv'.1]; exact flatMap_len hk xs
    have hmax : xs.length ≤ maxLen := by
      unfold maxLen
      rcases Nat.eq_zero_or_pos xs.length with h | h
      · omega
      · have : xs.length * 1 ≤ xs.length * k := Nat.mul_le_mul_left _ hk0
        omega
    obtain ⟨hmod, hrow⟩ := hm.rowNew (e := e) (xs := xs) (rest := []) hid hRm' hk hv' (cap := xs.length) (by rw [List.append_nil]; exact hcl) (Nat.le_refl _) hmax _ rfl
    refine wp_value (v := .slice (some ⟨W.heap.size, 0, none⟩) xs.length xs.length) (W' := W.alloc (.cells (cells'.toList ++ []).toArray e)) ?_ (h9 _ _ _ (le_bindC hid) (fun q _ hq => bind_ne _ _ _ _ _ (hq kk (by simp))) (hmod.congr (updR_new ..)) hrow)
    have hla : (l.toArray.map fun (i, x) => (i, a.eval x)).toList = l.map fun (i, x) => (i, a.eval x) := by simp
    simp only [execOp, Instr.buildSlice, Sem.run_bind, run_underlying (elem_of ht), Result.andThen_ok, run_sizeOf' hs]
    rw [show (2 : Nat) ^ 24 = 16777216 from rfl, if_neg (by omega)]
    by_cases h0 : xs.length * k = 0
    · have hr0 : (Array.range (xs.length * k)).map ((#[] : Array Value)[· % (#[] : Array Value).size]!) = (Array.range (xs.length * k)).map (z.cells[· % z.cells.size]!) := by simp [h0]
      simp only [if_pos h0, Sem.run_bind, Sem.run_pure, Result.andThen_ok, hr0, hla, hc', newRow]
      simp
    · simp only [if_neg h0, Sem.run_bind, run_zero hz, Sem.run_pure, Result.andThen_ok, hla, hc', newRow]
      simp
  rd := hl.rd
  use := by simp
  del := by simp
  add := by simpa using hm'
end
end Go.AL


namespace Go.AL
open Go.RowKit
def IsPtr (p : Pred) (b : Bool) : Prop := ∀ σ v, p.h σ v → ∃ a, v = .pointer a ∧ a.isNone = b
theorem IsPtr.own (id : Id) (off : Nat) : IsPtr (ptrP id off) false := fun _ _ ⟨_, _, h⟩ => ⟨_, h, rfl⟩
theorem IsPtr.cells (ps : List Pred) : IsPtr (cellsP ps) false := fun _ _ ⟨_, _, h, _⟩ => ⟨_, h, rfl⟩
theorem IsPtr.nil : IsPtr (eqP (.pointer none)) true := fun _ _ h => ⟨none, h, rfl⟩
section
variable {P : Program} {n N : Nat} {F : Fr} {R : Toks} {d : Option Nat} {T T' t e : TypeId} {pos : String} {after : Array Edge} {x y : Operand}
theorem op_eql_str {a b : ByteArray} (ht : P.underlying t = some .string) (hx : opd F x = some (eqP (.string a))) (hy : opd F y = some (eqP (.string b))) :
    OpJ P n N F R ⟨d, .binOp .eql t x y T', T, pos, after, none⟩ ⟨rdo x (eqP (.string a)) ++ rdo y (eqP (.string b)), [], [], [], [], eqP (.bool (a.toList == b.toList))⟩ :=
  opj2 hx hy fun σ W c h1 h2 => ⟨.bool (a.toList == b.toList), by
    have e1 : c.eval x = .string a := h1
    have e2 : c.eval y = .string b := h2
    simp [execOp, e1, e2, eqGuard, binOp, Op.stringOp], rfl⟩
theorem op_neq_str {a b : ByteArray} (ht : P.underlying t = some .string) (hx : opd F x = some (eqP (.string a))) (hy : opd F y = some (eqP (.string b))) :
    OpJ P n N F R ⟨d, .binOp .neq t x y T', T, pos, after, none⟩ ⟨rdo x (eqP (.string a)) ++ rdo y (eqP (.string b)), [], [], [], [], eqP (.bool (!(a.toList == b.toList)))⟩ :=
  opj2 hx hy fun σ W c h1 h2 => ⟨.bool (!(a.toList == b.toList)), by
    have e1 : c.eval x = .string a := h1
    have e2 : c.eval y = .string b := h2
    simp [execOp, e1, e2, eqGuard, binOp, Op.stringOp], rfl⟩
end
end Go.AL


namespace Go.AL
open Go.RowKit Go.Lib
section
variable {P : Program} {n N : Nat} {F : Fr} {R : Toks} {d : Option Nat} {T t e : TypeId} {pos : String} {after : Array Edge} {x : Operand}
def byP (u : Int) : List Pred := [eqP (.int .u8 u)]
def byL (s : ByteArray) : List Int := s.data.toList.map fun b => (b.toNat : Int)
theorem byL_len (s : ByteArray) : (byL s).length = s.size := by
  unfold byL
  rw [List.length_map, Array.length_toList]
  rfl
def byV (s : ByteArray) : List Value := (byL s).map fun u => .int .u8 u
/-- a row of bytes in a new block, never written again -/
theorem Models.bytesNew {σ : Sg} {W : World} (h : Models σ R W) (s : ByteArray) : Models (addC σ (putC W.heap.size 0 (byV s))) R (bytesWorld W e s) := by
  have hold : ∀ b i, b ≠ W.heap.size → (addC σ (putC W.heap.size 0 (byV s))).c b i = σ.c b i := fun b i hb => addC_ne (c := putC W.heap.size 0 (byV s)) (fun i => by simp [putC, hb]) i
  have hnew : ∀ i, (addC σ (putC W.heap.size 0 (byV s))).c W.heap.size i = (byV s)[i]? := fun i => by
    rw [addC_new (no_imm_new h i)]
    simp [putC]
  have hbel : Below σ.n0 W (bytesWorld W e s) := ⟨rfl, rfl, rfl, by rw [bytesWorld_size]; omega, fun k hk => bytesWorld_at_old W e s k (Nat.lt_of_lt_of_le hk h.n0)⟩
  refine ⟨h.base.trans hbel, Nat.le_trans h.n0 hbel.size, ?_, ?_, h.sep, h.used, h.fin⟩
  · intro b i v hv
    by_cases hb : b = W.heap.size
    · subst hb
      rw [hnew] at hv
      have hi : i < s.size := by
        have := (List.getElem?_eq_some_iff.1 hv).1
        simpa [byV, byL_len] using this
      rw [bytesWorld_cell W e s i hi]
      rw [byV, List.getElem?_map, byL, List.getElem?_map] at hv
      have hi' : i < s.data.toList.length := by simpa using hi
      rw [List.getElem?_eq_getElem hi'] at hv
      simp only [Option.map_some, Option.some.injEq] at hv
      rw [← hv, List.getD_eq_getElem?_getD, List.getElem?_eq_getElem hi']
      rfl
    · rw [hold b i hb] at hv
      rw [bytesWorld_old W e s ⟨b, i, none⟩ (h.imm_lt hv)]
      exact h.imm b i v hv
  · intro n id r hn b hb
    obtain ⟨h1, o, h2, h3⟩ := h.res n id r hn b hb
    have hlt := h.ptr_lt (r := r) hn hb
    refine ⟨h1, o, by rw [bytesWorld_at_old W e s b hlt]; exact h2, ?_⟩
    exact r.m σ _ id b o (le_addC σ _) hb (fun i => hold b i (by omega)) h3
/-- '[]byte(s)': a row that is never written -/
theorem op_str_bytes {src : TypeId} {u : TypeDesc} {s : ByteArray} (hx : opd F x = some (eqP (.string s))) (hs : P.underlying src = some u) (hd : P.underlying t = some (.slice e)) (he : P.underlying e = some (.int .u8)) (hb : s.size ≤ 4000000) :
    OpJ P n N F R ⟨d, .convert src t x, T, pos, after, none⟩ ⟨rdo x (eqP (.string s)), [], [], [], [], slP byP 1 (byL s)⟩ where
  loc := by
    intro σ W R a K h1 h2 h3 h4 h5 h6 h7 h8 h9 Q
    have hv : a.eval x = .string s := holds_of hx h4
    have g1 := grownCap_ge W s.size 0 e
    have g2 := grownCap_le_maxLen W s.size 0 e (by unfold maxLen; omega)
    have hrun := Go.Lib.run_convert_string_bytes (P := P) W src t e s hs hd he
    refine wp_value (v := .slice (some ⟨W.heap.size, 0, none⟩) s.size (grownCap W s.size 0 e)) (W' := bytesWorld W e s) ?_
      (h9 _ _ _ (le_addC σ (putC W.heap.size 0 (byV s))) (fun _ _ _ => rfl) (by rw [updR_same]; exact h1.bytesNew s) ?_)
    · simp only [execOp, hv, Sem.run_bind, hrun, Result.andThen_ok, Sem.run_pure]
    · refine ⟨_, _, by rw [byL_len], by rw [byL_len]; exact g1, g2, fun _ => ⟨_, _, rfl, fun i z hz => ?_⟩⟩
      intro j p hp
      cases j with
      | zero =>
        simp only [byP, List.getElem?_cons_zero, Option.some.injEq] at hp
        subst hp
        refine ⟨.int .u8 z, ?_, rfl, rfl⟩
        rw [addC_new (no_imm_new h1 _)]
        simp [putC, byV, hz]
      | succ j => simp [byP] at hp
  rd := rd_of hx
  use := by simp
  del := by simp
  add := by simp
def strB (xs : List Int) : ByteArray := xs.foldl (fun r n => r.push (UInt8.ofNat n.toNat)) ByteArray.empty
/-- 'string(b)' -/
theorem op_bytes_str {src : TypeId} {xs : List Int} (hx : opd F x = some (slP byP 1 xs)) (hs : P.underlying src = some (.slice e)) (hd : P.underlying t = some .string) (he : P.underlying e = some (.int .u8)) :
    OpJ P n N F R ⟨d, .convert src t x, T, pos, after, none⟩ ⟨rdo x (slP byP 1 xs), [], [], [], [], eqP (.string (strB xs))⟩ where
  loc := by
    intro σ W R a K h1 h2 h3 h4 h5 h6 h7 h8 h9 Q
    obtain ⟨ad, cap, hv, g1, g2, g3⟩ := holds_of hx h4
    refine wp_value (v := .string (strB xs)) (W' := W) ?_ (h9 σ W _ (Le.refl σ) (fun _ _ _ => rfl) (by rw [updR_same]; exact h1) rfl)
    have hc := run_convert_bytes_string (P := P) W src t e ad xs.length cap hs he hd
    have hb : (Conv.bytesToString (.slice ad xs.length cap)).run P W = .ok (.string (strB xs)) W := by
      cases xs with
      | nil =>
        cases ad with
        | none => simp [Conv.bytesToString, strB, Sem.run_pure]
        | some q => exact run_bytesToString W q 0 cap [] (by simpa using run_loadCells_list (P := P) W q [] (by simp))
      | cons y ys =>
        obtain ⟨b, off, rfl, hcs⟩ := g3 (by simp)
        refine run_bytesToString W ⟨b, off, none⟩ _ cap (y :: ys) ?_
        have hl := run_cells (P := P) (W := W) (b := b) (off := off) (cs := (y :: ys).map (Value.int .u8)) fun j v hj => by
          rw [List.getElem?_map] at hj
          cases hz : (y :: ys)[j]? with
          | none => rw [hz] at hj; cases hj
          | some z =>
            rw [hz] at hj
            simp only [Option.map_some, Option.some.injEq] at hj
            obtain ⟨w, hw, hh, _⟩ := hcs j z hz 0 (eqP (.int .u8 z)) rfl
            have e : w = v := (show w = .int .u8 z from hh).trans hj
            subst e
            have := h1.imm _ _ _ hw
            simpa using this
        rw [List.length_map] at hl
        exact hl
    simp only [execOp, hv, Sem.run_bind, hc, hb, Result.andThen_ok, Sem.run_pure]
  rd := rd_of hx
  use := by simp
  del := by simp
  add := by simp
end
end Go.AL


namespace Go.AL
open Go.RowKit Go.Lib
section
variable {P : Program} {n N : Nat} {F : Fr} {R : Toks} {d : Option Nat} {T t e : TypeId} {pos : String} {after : Array Edge} {x : Operand}
end
end Go.AL


namespace Go.AL
theorem entB {b c : Bool} (e : b = c) : Ent (eqP (.bool b)) (eqP (.bool c)) := Ent.of_eq (by rw [e])
theorem entI {k : IntKind} {b c : Int} (e : b = c) : Ent (eqP (.int k b)) (eqP (.int k c)) := Ent.of_eq (by rw [e])
def idxF {α : Type} (φ : α → Bool) (l : List α) : Int := match l.findIdx? φ with | some i => (i : Int) | none => -1
section
variable {α : Type} {φ : α → Bool} {l : List α} {k : Nat}
theorem take_step {xs ys : List α} (h : xs.take k = ys.take k) (hx : k < xs.length) (hy : k < ys.length) (he : xs[k] = ys[k]) : xs.take (k + 1) = ys.take (k + 1) := by
  rw [List.take_succ_eq_append_getElem hx, List.take_succ_eq_append_getElem hy, h, he]
theorem take_end {xs ys : List α} (h : xs.take k = ys.take k) (hx : xs.length ≤ k) (hy : ys.length ≤ k) : xs = ys := by
  rwa [List.take_of_length_le hx, List.take_of_length_le hy] at h
theorem ne_at [DecidableEq α] {xs ys : List α} (hx : k < xs.length) (hy : k < ys.length) (he : xs[k] ≠ ys[k]) : decide (xs = ys) = false := by
  refine decide_eq_false fun e => ?_
  subst e
  exact he rfl
theorem drop_at (hk : k < l.length) : l.drop k = l[k] :: l.drop (k + 1) := List.drop_eq_getElem_cons hk
theorem take_at (hk : k < l.length) : l.take (k + 1) = l.take k ++ [l[k]] := List.take_succ_eq_append_getElem hk
end
end Go.AL


namespace Go.AL
open Go.RowKit
/-- a slice over a new block of the call's own, all its cells zero: n of them -/
def growP (id : Id) (n : Nat) : Pred := ⟨fun σ v => ∃ b, σ.ρ id = some (some b) ∧ v = .slice (some ⟨b, 0, none⟩) n (σ.z id) ∧ n ≤ σ.z id ∧ σ.z id ≤ maxLen, fun _ _ _ hle ⟨b, hb, hv, h1, h2⟩ =>
  ⟨b, hle.ρ _ _ hb, by rw [hle.z _ _ hb]; exact hv, by rw [hle.z _ _ hb]; exact h1, by rw [hle.z _ _ hb]; exact h2⟩⟩
section
variable {P : Program} {n N : Nat} {F : Fr} {R : Toks} {d : Option Nat} {T t tn e : TypeId} {pos : String} {after : Array Edge} {x y : Operand} {k bytes : Nat} {ik kn : IntKind}
theorem op_len_nil (hx : opd F x = some (eqP (.slice none 0 0))) (ht : elemB P t = some e) :
    OpJ P n N F R ⟨d, .call { callee := .builtin .len, args := #[x], argTypes := #[t] }, T, pos, after, none⟩ ⟨rdo x (eqP (.slice none 0 0)), [], [], [], [], eqP (.int .i64 0)⟩ :=
  opj1 hx fun σ W a h => ⟨.int .i64 0, by
    have hv : a.eval x = .slice none 0 0 := h
    simp [execOp, resolve, invoke, builtin, Builtin.len_, hv, run_underlying (elem_of ht), goInt], rfl⟩
end
end Go.AL
namespace Go.AL
open Go.RowKit
section
variable {P : Program} {n N : Nat} {F : Fr} {R : Toks} {d : Option Nat} {T : TypeId} {pos : String} {after : Array Edge} {x y : Operand} {u v : Int} {t t' : TypeId}
/-- sums whatever their size -/
theorem op_add_w (hx : opd F x = some (eqP (.int .i64 u))) (hy : opd F y = some (eqP (.int .i64 v))) :
    OpJ P n N F R ⟨d, .binOp .add t x y t', T, pos, after, none⟩ ⟨rdo x (eqP (.int .i64 u)) ++ rdo y (eqP (.int .i64 v)), [], [], [], [], eqP (.int .i64 (IntKind.i64.wrap (u + v)))⟩ :=
  op_bin_raw hx hy fun W => by simp [binOp, eqGuard, Op.intArith]
theorem wrap_in {z : Int} (h : -9223372036854775808 ≤ z ∧ z ≤ 9223372036854775807) : IntKind.i64.wrap z = z := IntWalk.i64_in _ h
end
end Go.AL
namespace Go.AL
section
variable {P : Program} {C : Cx} {F : Fr} {L : Tk} {Q : Exit → Act → World → Prop}
/-- a test that is asked again: what it was is kept -/
theorem tr_cond2 {t : Nat} {x y : Code} {b : Bool} (hb : lk F t = some (eqP (.bool b))) (ht : b = true → Tr P C x ((t, eqP (.bool true)) :: F) L Q) (hf : b = false → Tr P C y ((t, eqP (.bool false)) :: F) L Q) : Tr P C (.cond (.tmp t) x y) F L Q := by
  refine tr_cond hb (fun h => ?_) (fun h => ?_)
  · rintro a W ⟨σ, h1, h2, h3⟩
    refine ht h a W ⟨σ, h1, h2, h3.size, h3.defers, h3.mod, fun t' q hq => ?_⟩
    rw [lk_cons] at hq
    split at hq
    · rename_i e; subst e; simp at hq; subst hq; have := h3.fr t _ hb; rwa [h] at this
    · exact h3.fr t' q hq
  · rintro a W ⟨σ, h1, h2, h3⟩
    refine hf h a W ⟨σ, h1, h2, h3.size, h3.defers, h3.mod, fun t' q hq => ?_⟩
    rw [lk_cons] at hq
    split at hq
    · rename_i e; subst e; simp at hq; subst hq; have := h3.fr t _ hb; rwa [h] at this
    · exact h3.fr t' q hq
end
end Go.AL


namespace Go.AL
section
variable {P : Program} {n N : Nat} {F : Fr} {R : Toks} {d : Option Nat} {T t t' : TypeId} {pos : String} {after : Array Edge} {x y : Operand} {k k' : IntKind} {u v : Int}
theorem op_shr (hx : opd F x = some (eqP (.int k u))) (hy : opd F y = some (eqP (.int k' v))) (h : decide (v < 0) = false) :
    OpJ P n N F R ⟨d, .binOp .shr t x y t', T, pos, after, none⟩ ⟨rdo x (eqP (.int k u)) ++ rdo y (eqP (.int k' v)), [], [], [], [], eqP (.int k (u.fdiv (2 ^ (min v.toNat k.bits))))⟩ :=
  op_bin_raw hx hy fun W => by
    have h : ¬ v < 0 := by simpa using h
    simp [binOp, eqGuard, Op.shift, h]
theorem half {i j : Nat} (h : i + j ≤ 4611686018427387904) : IntKind.i64.wrap ((IntKind.u64.wrap ((i : Int) + (j : Int))).fdiv (2 ^ (min (1 : Int).toNat IntKind.u64.bits))) = (((i + j) / 2 : Nat) : Int) := by
  have h1 : IntKind.u64.wrap ((i : Int) + (j : Int)) = (i : Int) + (j : Int) := by
    simp only [IntKind.wrap, show IntKind.u64.bits = 64 from rfl, show IntKind.u64.signed = false from rfl]
    simp
    omega
  have h2 : (2 : Int) ^ (min (1 : Int).toNat IntKind.u64.bits) = 2 := by decide
  rw [h1, h2]
  have h3 : ((i : Int) + (j : Int)).fdiv 2 = (((i + j) / 2 : Nat) : Int) := by
    rw [Int.fdiv_eq_ediv_of_nonneg _ (by decide)]
    omega
  rw [h3, wrap_in (by omega)]
end
end Go.AL


namespace Go.AL
/-- '&' and '^' of the model -/
def andI (k : IntKind) (a b : Int) : Int := k.wrap (BitVec.ofInt k.bits a &&& BitVec.ofInt k.bits b).toNat
def xorI (k : IntKind) (a b : Int) : Int := k.wrap (BitVec.ofInt k.bits a ^^^ BitVec.ofInt k.bits b).toNat
section
variable {P : Program} {n N : Nat} {F : Fr} {R : Toks} {d : Option Nat} {T t t' : TypeId} {pos : String} {after : Array Edge} {x y : Operand} {k k' : IntKind} {u v : Int}
theorem op_and (hx : opd F x = some (eqP (.int k u))) (hy : opd F y = some (eqP (.int k v))) :
    OpJ P n N F R ⟨d, .binOp .and t x y t', T, pos, after, none⟩ ⟨rdo x (eqP (.int k u)) ++ rdo y (eqP (.int k v)), [], [], [], [], eqP (.int k (andI k u v))⟩ :=
  op_bin_raw hx hy fun W => by simp [binOp, eqGuard, Op.intBits, andI]
theorem op_xor (hx : opd F x = some (eqP (.int k u))) (hy : opd F y = some (eqP (.int k v))) :
    OpJ P n N F R ⟨d, .binOp .xor t x y t', T, pos, after, none⟩ ⟨rdo x (eqP (.int k u)) ++ rdo y (eqP (.int k v)), [], [], [], [], eqP (.int k (xorI k u v))⟩ :=
  op_bin_raw hx hy fun W => by simp [binOp, eqGuard, Op.intBits, xorI]
theorem op_shl (hx : opd F x = some (eqP (.int k u))) (hy : opd F y = some (eqP (.int k' v))) (h : decide (v < 0) = false) :
    OpJ P n N F R ⟨d, .binOp .shl t x y t', T, pos, after, none⟩ ⟨rdo x (eqP (.int k u)) ++ rdo y (eqP (.int k' v)), [], [], [], [], eqP (.int k (k.wrap (u * 2 ^ (min v.toNat k.bits))))⟩ :=
  op_bin_raw hx hy fun W => by
    have h : ¬ v < 0 := by simpa using h
    simp [binOp, eqGuard, Op.shift, h]
theorem op_comp (hx : opd F x = some (eqP (.int k u))) (hs : k.signed = false) :
    OpJ P n N F R ⟨d, .unOp .xor t x, T, pos, after, none⟩ ⟨rdo x (eqP (.int k u)), [], [], [], [], eqP (.int k (xorI k k.max u))⟩ :=
  opj1 hx fun σ W a h => ⟨_, by
    have e1 : a.eval x = .int k u := h
    simp [execOp, e1, Op.unary, Op.intBits, xorI, hs], rfl⟩
end
theorem u32_wrap (z : Int) : 0 ≤ IntKind.u32.wrap z ∧ IntKind.u32.wrap z < 4294967296 := by
  simp only [IntKind.wrap, show IntKind.u32.bits = 32 from rfl, show IntKind.u32.signed = false from rfl]
  simp
  omega
theorem u32_in {z : Int} (h : 0 ≤ z) (h2 : z < 4294967296) : IntKind.u32.wrap z = z := by
  simp only [IntKind.wrap, show IntKind.u32.bits = 32 from rfl, show IntKind.u32.signed = false from rfl]
  simp
  omega
theorem u8_wrap (z : Int) : 0 ≤ IntKind.u8.wrap z ∧ IntKind.u8.wrap z < 256 := by
  simp only [IntKind.wrap, show IntKind.u8.bits = 8 from rfl, show IntKind.u8.signed = false from rfl]
  simp
  omega
theorem u8_in {z : Int} (h : 0 ≤ z) (h2 : z < 256) : IntKind.u8.wrap z = z := by
  simp only [IntKind.wrap, show IntKind.u8.bits = 8 from rfl, show IntKind.u8.signed = false from rfl]
  simp
  omega
theorem xor_bd (a b : Int) : 0 ≤ xorI .u32 a b ∧ xorI .u32 a b < 4294967296 := u32_wrap _
theorem xor_comm (k : IntKind) (a b : Int) : xorI k a b = xorI k b a := by unfold xorI; rw [BitVec.xor_comm]
/-- the lowest bit -/
theorem and_one {c : Int} (h : 0 ≤ c) (h2 : c < 4294967296) : andI .u32 c 1 = c.tmod 2 := by
  obtain ⟨m, rfl⟩ := Int.eq_ofNat_of_zero_le h
  unfold andI
  have e : (BitVec.ofInt IntKind.u32.bits (m : Int) &&& BitVec.ofInt IntKind.u32.bits 1).toNat = m % 2 := by
    rw [BitVec.toNat_and]
    have e1 : (BitVec.ofInt IntKind.u32.bits (m : Int)).toNat = m := by
      show (BitVec.ofInt 32 (m : Int)).toNat = m
      rw [BitVec.toNat_ofInt]
      omega
    have e2 : (BitVec.ofInt IntKind.u32.bits 1).toNat = 1 := by decide
    rw [e1, e2, Nat.and_one_is_mod]
  rw [e, u32_in (by omega) (by omega), Int.tmod_eq_emod_of_nonneg (by omega)]
  rfl
/-- the lowest seven bits -/
theorem and_127 {c : Int} (h : 0 ≤ c) (h2 : c < 256) : andI .u8 c 127 = c.tmod 128 := by
  obtain ⟨m, rfl⟩ := Int.eq_ofNat_of_zero_le h
  unfold andI
  have e : (BitVec.ofInt IntKind.u8.bits (m : Int) &&& BitVec.ofInt IntKind.u8.bits 127).toNat = m % 128 := by
    rw [BitVec.toNat_and]
    have e1 : (BitVec.ofInt IntKind.u8.bits (m : Int)).toNat = m := by
      show (BitVec.ofInt 8 (m : Int)).toNat = m
      rw [BitVec.toNat_ofInt]
      omega
    have e2 : (BitVec.ofInt IntKind.u8.bits 127).toNat = 127 := by decide
    rw [e1, e2]
    exact Nat.and_two_pow_sub_one_eq_mod m 7
  rw [e, u8_in (by omega) (by omega), Int.tmod_eq_emod_of_nonneg (by omega)]
  rfl
theorem shr_one (c : Int) : c.fdiv (2 ^ (min (1 : Int).toNat IntKind.u32.bits)) = c / 2 := by
  have h2 : (2 : Int) ^ (min (1 : Int).toNat IntKind.u32.bits) = 2 := by decide
  rw [h2, Int.fdiv_eq_ediv_of_nonneg _ (by decide)]
end Go.AL


set_option linter.unusedVariables false
namespace Go.AL
open Go.RowKit
/-- what is known of a block that was frozen -/
def frzP (id : Id) (ps : List Pred) : Pred := ⟨fun σ _ => ∃ x, σ.ρ id = some x ∧ ∀ b, x = some b → Cs σ b 0 ps, fun σ τ _ hle ⟨x, hx, h⟩ => ⟨x, hle.ρ _ _ hx, fun b hb => (h b hb).mono hle⟩⟩
def boundP (id : Id) : Pred := ⟨fun σ _ => ∃ x, σ.ρ id = some x, fun σ τ _ hle ⟨x, hx⟩ => ⟨x, hle.ρ _ _ hx⟩⟩
theorem FEnt.frz_bound {id : Id} {ps : List Pred} : FEnt id ps (boundP id) (frzP id ps) := fun σ v hf ⟨x, hx⟩ => ⟨x, hx, fun b hb => hf b (by rw [hx, hb])⟩
inductive FEnts (id : Id) (ps : List Pred) : List Pred → List Pred → Prop
  | nil : FEnts id ps [] []
  | cons {p q : Pred} {l m : List Pred} (h : FEnt id ps p q) (t : FEnts id ps l m) : FEnts id ps (p :: l) (q :: m)
theorem FEnts.refl (id : Id) (ps : List Pred) : ∀ l, FEnts id ps l l
  | [] => .nil
  | p :: l => .cons (.of (Ent.refl p)) (FEnts.refl id ps l)
theorem FEnts.length {id : Id} {ps l m : List Pred} (h : FEnts id ps l m) : m.length = l.length := by
  induction h with
  | nil => rfl
  | cons _ _ ih => simp [ih]
theorem FEnts.at_ {id : Id} {ps l m : List Pred} (h : FEnts id ps l m) : ∀ (j : Nat) (q : Pred), m[j]? = some q → ∃ p, l[j]? = some p ∧ FEnt id ps p q := by
  induction h with
  | nil => intro j q hq; simp at hq
  | @cons p q l m h _ ih =>
    intro j r hr
    cases j with
    | zero => simp at hr; subst hr; exact ⟨p, rfl, h⟩
    | succ j => simpa using ih j r (by simpa using hr)
theorem FEnts.vs {id : Id} {ps l m : List Pred} (h : FEnts id ps l m) {σ : Sg} {cs : List Value} (hf : ∀ b, σ.ρ id = some (some b) → Cs σ b 0 ps) (hv : Vs σ l cs) : Vs σ m cs :=
  ⟨hv.1.trans h.length.symm, fun j q u hq hu => by
    obtain ⟨p, hp, he⟩ := h.at_ j q hq
    obtain ⟨h1, h2⟩ := hv.2 j p u hp hu
    exact ⟨he σ u hf h1, h2⟩⟩
theorem FEnts.cs {id : Id} {ps l m : List Pred} (h : FEnts id ps l m) {σ : Sg} {b off : Nat} (hf : ∀ b, σ.ρ id = some (some b) → Cs σ b 0 ps) (hv : Cs σ b off l) : Cs σ b off m := fun j q hq => by
  obtain ⟨p, hp, he⟩ := h.at_ j q hq
  obtain ⟨u, hu, h1, h2⟩ := hv j p hp
  exact ⟨u, hu, he σ u hf h1, h2⟩
theorem FEnt.agg {id : Id} {ps l m : List Pred} (h : FEnts id ps l m) : FEnt id ps (aggP l) (aggP m) := fun σ v hf ⟨cs, hv, hc⟩ => ⟨cs, hv, h.vs hf hc⟩
theorem FEnt.cells {id : Id} {ps l m : List Pred} (h : FEnts id ps l m) : FEnt id ps (cellsP l) (cellsP m) := fun σ v hf ⟨b, off, hv, hc⟩ => ⟨b, off, hv, h.cs hf hc⟩
/-- a list of which every element is said anew -/
theorem FEnt.sl {α β : Type} {id : Id} {ps : List Pred} {f : α → List Pred} {g : β → List Pred} {k : Nat} {xs : List α} {ys : List β} (hl : xs.length = ys.length) (h : ∀ (i : Nat) (x : α) (y : β), xs[i]? = some x → ys[i]? = some y → FEnts id ps (f x) (g y)) : FEnt id ps (slP f k xs) (slP g k ys) :=
  fun σ v hf ⟨a, cap, hv, h1, h2, h3⟩ => ⟨a, cap, by rw [hv, hl], by omega, h2, fun hp => by
    obtain ⟨b, off, ha, hc⟩ := h3 (by omega)
    refine ⟨b, off, ha, fun i y hy => ?_⟩
    have hi : i < xs.length := by rw [hl]; exact (List.getElem?_eq_some_iff.1 hy).1
    exact (h i xs[i] y (List.getElem?_eq_getElem hi) hy).cs hf (hc i _ (List.getElem?_eq_getElem hi))⟩
section
variable {P : Program} {C : Cx} {F : Fr} {L : Tk} {Q : Exit → Act → World → Prop} {c : Code}
/-- a block of the call's own has a name -/
theorem tr_bound (t : Nat) {id : Id} {r : Res} {m : Nat} (hm : lk L m = some (some (id, r))) (h : Tr P C c ((t, boundP id) :: F) L Q) : Tr P C c F L Q := by
  rintro a W ⟨σ, h1, h2, h3⟩
  refine h a W ⟨σ, h1, h2, h3.size, h3.defers, h3.mod, fun t' p hp => ?_⟩
  rw [lk_cons] at hp
  split at hp
  · simp at hp
    subst hp
    exact Option.ne_none_iff_exists'.1 (h3.mod.used m (id, r) (by simp [tkf, hm]))
  · exact h3.fr t' p hp
/-- what was said of a frozen block is said anew: in the slots, and in one block of the call's own -/
theorem tr_thaw {F' : Fr} {id id' : Id} {ps qs qs' : List Pred} {t n κ : Nat} {B : TypeId} (ht : lk F t = some (frzP id ps)) (hF : SubZ id ps F F') (hn : lk L n = some (some (id', blkX κ B qs))) (hq : FEnts id ps qs qs')
    (h : Tr P C c F' ((n, some (id', blkX κ B qs')) :: L) Q) : Tr P C c F L Q := by
  rintro a W ⟨σ, h1, h2, h3⟩
  obtain ⟨x, hx, hfx⟩ := h3.fr t _ ht
  have hf : ∀ b, σ.ρ id = some (some b) → Cs σ b 0 ps := fun b hb => hfx b (by rw [hx] at hb; simpa using hb)
  refine h a W ⟨σ, h1, h2, h3.size, h3.defers, h3.mod.resMono (fun n => n) (fun n m h _ _ => h) ?_, fun t q hq => ?_⟩
  · intro m y hy
    rw [tkf_cons] at hy
    simp only at hy
    split at hy
    · rename_i e
      subst e
      cases hy
      refine ⟨blkX κ B qs, by simp [tkf, hn], ?_⟩
      rintro b o ⟨cs, rest, ho, hv, hz, hnn⟩
      exact ⟨cs, rest, ho, hq.vs hf hv, hz, hnn⟩
    · exact ⟨y.2, hy, fun b o h => h⟩
  · obtain ⟨p, hp, hpq⟩ := hF.at_ t q hq
    exact hpq σ _ hf (h3.fr t p hp)
/-- a nil slice in a box of the call's own gets a name, so that it may be appended to -/
theorem tr_nilbox {α : Type} (f : α → List Pred) (k : Nat) (e : TypeId) (n j m : Nat) {id' : Id} {κ : Nat} {B : TypeId} {ps : List Pred} (hn : lk L n = some (some (id', blkX κ B ps))) (hj : ps[j]? = some (eqP (.slice none 0 0))) (hm : tkf L C.Rf m = none)
    (h : ∀ id, Tr P C c F ((n, some (id', blkX κ B (ps.set j (rowP id f k [])))) :: (m, some (id, tail e k 0)) :: L) Q) : Tr P C c F L Q := by
  rintro a W ⟨σ, h1, h2, h3⟩
  obtain ⟨N, hN, hfr⟩ := fresh_N h3.mod C.M
  have hnm : n ≠ m := fun e => by
    subst e
    simp [tkf, hn] at hm
  have hmod := (h3.mod.rowNil (e := e) (k := k) (hfr 0) hm)
  have hle : Le σ (bind σ (N, 0) none 0) := le_bind (hfr 0)
  refine h (N, 0) a W ⟨bind σ (N, 0) none 0, h1.trans hle, keepB_of hN h2 keep_bind, h3.size, h3.defers, hmod.resMono (fun n => n) (fun n m h _ _ => h) ?_, ?_⟩
  · intro q y hy
    rw [tkf_cons] at hy
    simp only at hy
    split at hy
    · rename_i e
      subst e
      cases hy
      refine ⟨blkX κ B ps, by rw [if_neg hnm]; simp [tkf, hn], ?_⟩
      rintro b o ⟨cs, rest, ho, hv, hz, hnn⟩
      refine ⟨cs, rest, ho, ⟨hv.1.trans (by simp), fun i p u hp hu => ?_⟩, hz, hnn⟩
      rw [List.getElem?_set] at hp
      by_cases e : j = i
      · subst e
        have := hv.2 j _ u hj hu
        simp at hp
        obtain ⟨_, rfl⟩ := hp
        exact ⟨.inl ⟨this.1, rfl⟩, this.2⟩
      · rw [if_neg e] at hp
        exact hv.2 i p u hp hu
    · refine ⟨y.2, ?_, fun b o h => h⟩
      rw [tkf_cons] at hy
      exact hy
  · intro t' p hp
    exact p.m _ _ _ hle (h3.fr t' p hp)
end
theorem OpJ.ent {P : Program} {n N : Nat} {F : Fr} {R : Toks} {o : Oper} {rd : List (Nat × Pred)} {use del add : List (Nat × Id × Res)} {new : List Nat} {φ ψ : Pred} (h : OpJ P n N F R o ⟨rd, use, del, add, new, φ⟩) (he : Ent φ ψ) : OpJ P n N F R o ⟨rd, use, del, add, new, ψ⟩ where
  loc := fun σ W R a K h1 h2 h3 h4 h5 h6 h7 h8 h9 => h.loc σ W R a K h1 h2 h3 h4 h5 h6 h7 h8 fun σ' W' v g1 g2 g3 g4 => h9 σ' W' v g1 g2 g3 (he σ' v g4)
  rd := h.rd
  use := h.use
  del := h.del
  add := h.add
end Go.AL


namespace Go.Wr
open Go.AL
structure WF where
  seq : Int
  ack : Int
  data : List Int
  deriving DecidableEq, Inhabited
structure WE where
  window : Int
  base : Int
  sent : List (List Int)
  got : Int
  early : List WF
  deriving DecidableEq, Inhabited
structure RF where
  seq : Int
  ack : Int
  data : ByteArray
  deriving DecidableEq, Inhabited
structure RE where
  window : Int
  base : Int
  got : Int
  sent : List ByteArray
  early : List RF
  deriving DecidableEq, Inhabited
def ip (x : Int) : List Pred := [eqP (.int .i64 x)]
theorem ip_len (x : Int) : (ip x).length = 1 := rfl
def byS (b : List Int) : List Pred := [slP byP 1 b]
theorem byS_len (b : List Int) : (byS b).length = 1 := rfl
theorem byP_len (b : Int) : (byP b).length = 1 := rfl
def stP (s : ByteArray) : List Pred := [eqP (.string s)]
theorem stP_len (s : ByteArray) : (stP s).length = 1 := rfl
def WF.ps (f : WF) : List Pred := [eqP (.int .i64 f.seq), eqP (.int .i64 f.ack), slP byP 1 f.data]
theorem WF.len (f : WF) : f.ps.length = 3 := rfl
def WE.ps (e : WE) : List Pred := [eqP (.int .i64 e.window), eqP (.int .i64 e.base), slP byS 1 e.sent, eqP (.int .i64 e.got), slP WF.ps 3 e.early]
theorem WE.len (e : WE) : e.ps.length = 5 := rfl
def RF.ps (f : RF) : List Pred := [eqP (.int .i64 f.seq), eqP (.int .i64 f.ack), eqP (.string f.data)]
theorem RF.len (f : RF) : f.ps.length = 3 := rfl
def RE.ps (e : RE) : List Pred := [eqP (.int .i64 e.window), eqP (.int .i64 e.base), eqP (.int .i64 e.got), slP stP 1 e.sent, slP RF.ps 3 e.early]
theorem RE.len (e : RE) : e.ps.length = 5 := rfl
/-- a frame of the program for one of the reference -/
def RF.to (f : RF) : WF := ⟨f.seq, f.ack, byL f.data⟩
def RE.to (e : RE) : WE := ⟨e.window, e.base, e.sent.map byL, e.got, e.early.map RF.to⟩
/-- a frame of the reference for one of the program -/
def WF.to (f : WF) : RF := ⟨f.seq, f.ack, strB f.data⟩
def WE.to (e : WE) : RE := ⟨e.window, e.base, e.got, e.sent.map strB, e.early.map WF.to⟩
-- bytes and strings
theorem strB_go (xs : List Int) : ∀ r : ByteArray, (xs.foldl (fun r n => r.push (UInt8.ofNat n.toNat)) r).data.toList = r.data.toList ++ xs.map fun n => UInt8.ofNat n.toNat := by
  induction xs with
  | nil => intro r; simp
  | cons x xs ih =>
    intro r
    rw [List.foldl_cons, ih, List.map_cons]
    simp [ByteArray.push]
theorem strB_list (xs : List Int) : (strB xs).data.toList = xs.map fun n => UInt8.ofNat n.toNat := by
  unfold strB
  rw [strB_go]
  rfl
theorem strB_byL (s : ByteArray) : strB (byL s) = s := by
  apply ByteArray.ext
  apply Array.ext'
  rw [strB_list]
  unfold byL
  rw [List.map_map]
  conv => rhs; rw [← List.map_id s.data.toList]
  apply List.map_congr_left
  intro b _
  simp
theorem str_beq (a b : ByteArray) : (a.toList == b.toList) = decide (a = b) := by
  rw [ByteArray.toList_eq, ByteArray.toList_eq, Bool.eq_iff_iff, beq_iff_eq, decide_eq_true_eq]
  constructor
  · intro h
    exact ByteArray.ext (Array.ext' h)
  · rintro rfl; rfl
def isB (xs : List Int) : Prop := ∀ x ∈ xs, 0 ≤ x ∧ x ≤ 255
theorem byL_isB (s : ByteArray) : isB (byL s) := by
  intro x hx
  unfold byL at hx
  obtain ⟨b, _, rfl⟩ := List.mem_map.1 hx
  have := b.toNat_lt
  omega
theorem byL_strB {xs : List Int} (h : isB xs) : byL (strB xs) = xs := by
  unfold byL
  rw [strB_list, List.map_map]
  conv => rhs; rw [← List.map_id xs]
  apply List.map_congr_left
  intro x hx
  obtain ⟨h1, h2⟩ := h x hx
  simp
  omega
theorem strB_len (xs : List Int) : (strB xs).size = xs.length := by
  have h : (strB xs).size = (strB xs).data.toList.length := by simp
  rw [h, strB_list, List.length_map]
theorem strB_inj {xs ys : List Int} (hx : isB xs) (hy : isB ys) (h : strB xs = strB ys) : xs = ys := by rw [← byL_strB hx, h, byL_strB hy]
def numF (n : Nat) : List Int := if n < 128 then [(n : Int)] else ((n % 128 + 128 : Nat) : Int) :: numF (n / 128)
termination_by n
decreasing_by omega
theorem numF_lt {n : Nat} (h : n < 128) : numF n = [(n : Int)] := by rw [numF, if_pos h]
theorem numF_ge {n : Nat} (h : ¬ n < 128) : numF n = ((n % 128 + 128 : Nat) : Int) :: numF (n / 128) := by rw [numF, if_neg h]
theorem numF_isB (n : Nat) : isB (numF n) := by
  induction n using Nat.strongRecOn with
  | ind n ih =>
    intro x hx
    by_cases h : n < 128
    · rw [numF_lt h] at hx
      simp at hx
      omega
    · rw [numF_ge h] at hx
      rcases List.mem_cons.1 hx with rfl | hx
      · omega
      · exact ih _ (by omega) x hx
theorem numF_len (k : Nat) : ∀ n : Nat, n < 128 ^ (k + 1) → (numF n).length ≤ k + 1 := by
  induction k with
  | zero => intro n hn; rw [numF_lt (by omega)]; simp
  | succ k ih =>
    intro n hn
    by_cases h : n < 128
    · rw [numF_lt h]; simp
    · rw [numF_ge h, List.length_cons]
      have := ih (n / 128) (by rw [Nat.pow_succ] at hn; omega)
      omega
theorem numF_pos (n : Nat) : 1 ≤ (numF n).length := by
  by_cases h : n < 128
  · rw [numF_lt h]; simp
  · rw [numF_ge h]; simp
theorem numF_len10 {n : Nat} (h : n < 2 ^ 63) : (numF n).length ≤ 10 := numF_len 9 n (by omega)
-- the checksum
def crcBit (c : Int) : Int := if c % 2 = 1 then xorI .u32 (c / 2) 3988292384 else c / 2
def crcBits : Nat → Int → Int
  | 0, c => c
  | n + 1, c => crcBits n (crcBit c)
def crcByte (c x : Int) : Int := crcBits 8 (xorI .u32 c (IntKind.u32.wrap x))
def crcGo (c : Int) (xs : List Int) : Int := xs.foldl crcByte c
def crcF (xs : List Int) : Int := xorI .u32 (crcGo 4294967295 xs) 4294967295
/-- the last four bytes -/
def tailF (c : Int) : List Int := [IntKind.u8.wrap (c.fdiv (2 ^ (min (24 : Int).toNat IntKind.u32.bits))), IntKind.u8.wrap (c.fdiv (2 ^ (min (16 : Int).toNat IntKind.u32.bits))), IntKind.u8.wrap (c.fdiv (2 ^ (min (8 : Int).toNat IntKind.u32.bits))), IntKind.u8.wrap c]
def sumF (xs : List Int) : List Int := xs ++ tailF (crcF xs)
theorem tailF_len (c : Int) : (tailF c).length = 4 := rfl
theorem sumF_len (xs : List Int) : (sumF xs).length = xs.length + 4 := by unfold sumF; rw [List.length_append, tailF_len]
theorem tailF_isB (c : Int) : isB (tailF c) := by
  intro x hx
  simp only [tailF, List.mem_cons, List.not_mem_nil, or_false] at hx
  rcases hx with rfl | rfl | rfl | rfl <;> (have := u8_wrap (c.fdiv (2 ^ (min (24 : Int).toNat IntKind.u32.bits))); have := u8_wrap (c.fdiv (2 ^ (min (16 : Int).toNat IntKind.u32.bits))); have := u8_wrap (c.fdiv (2 ^ (min (8 : Int).toNat IntKind.u32.bits))); have := u8_wrap c; omega)
-- datagrams
def bodyF (f : WF) : List Int := 70 :: (numF f.seq.toNat ++ numF f.ack.toNat ++ numF f.data.length ++ f.data)
def dgF (f : WF) : List Int := sumF (bodyF f)
def frOK (f : WF) : Prop := 0 ≤ f.seq ∧ f.seq ≤ 2147483647 ∧ 0 ≤ f.ack ∧ f.ack ≤ 2147483647 ∧ f.data.length ≤ 1000 ∧ (f.seq = 0 → f.data.length = 0)
instance (f : WF) : Decidable (frOK f) := by unfold frOK; infer_instance
theorem isB_app {xs ys : List Int} (hx : isB xs) (hy : isB ys) : isB (xs ++ ys) := fun z hz => by
  rcases List.mem_append.1 hz with h | h
  · exact hx z h
  · exact hy z h
theorem dgF_isB {f : WF} (h : isB f.data) : isB (dgF f) := by
  refine isB_app (fun z hz => ?_) (tailF_isB _)
  rcases List.mem_cons.1 hz with rfl | hz
  · omega
  · exact isB_app (isB_app (isB_app (numF_isB _) (numF_isB _)) (numF_isB _)) h z hz
end Go.Wr


namespace Go.Wr
open Go.AL
def WF0 : WF := ⟨0, 0, []⟩
/-- the number at the beginning of bytes, and its length -/
def rdGo : List Int → Nat → Int → Int × Int
  | [], _, _ => (0, 0)
  | x :: r, k, v => if x < 128 then (v + x.tmod 128 * 2 ^ (7 * k), (k : Int) + 1) else rdGo r (k + 1) (v + x.tmod 128 * 2 ^ (7 * k))
def rdF (xs : List Int) : Int × Int := rdGo (xs.take 5) 0 0
theorem pow_step (k : Nat) : (2 : Int) ^ (7 * (k + 1)) = 128 * 2 ^ (7 * k) := by
  rw [show 7 * (k + 1) = 7 * k + 7 from rfl, Int.pow_add]
  generalize (2 : Int) ^ (7 * k) = z
  omega
theorem rdGo_num (rest : List Int) (j : Nat) : ∀ (n : Nat), n < 128 ^ (j + 1) → ∀ (k : Nat) (v : Int), rdGo ((numF n ++ rest).take (j + 1)) k v = (v + (n : Int) * 2 ^ (7 * k), (k : Int) + (numF n).length) := by
  induction j with
  | zero =>
    intro n hn k v
    rw [numF_lt (by omega)]
    simp only [List.cons_append, List.nil_append, List.take_succ_cons, rdGo]
    rw [if_pos (by omega), Int.tmod_eq_emod_of_nonneg (by omega), Int.emod_eq_of_lt (by omega) (by omega)]
    simp
  | succ j ih =>
    intro n hn k v
    by_cases h : n < 128
    · rw [numF_lt h]
      simp only [List.cons_append, List.nil_append, List.take_succ_cons, rdGo]
      rw [if_pos (by omega), Int.tmod_eq_emod_of_nonneg (by omega), Int.emod_eq_of_lt (by omega) (by omega)]
      simp
    · rw [numF_ge h]
      simp only [List.cons_append, List.take_succ_cons, rdGo]
      rw [if_neg (by omega), ih (n / 128) (by rw [Nat.pow_succ] at hn; omega), pow_step, List.length_cons]
      have e : ((n % 128 + 128 : Nat) : Int).tmod 128 = ((n % 128 : Nat) : Int) := by
        rw [Int.tmod_eq_emod_of_nonneg (by omega)]
        omega
      rw [e]
      refine Prod.ext ?_ ?_
      · show v + ((n % 128 : Nat) : Int) * 2 ^ (7 * k) + ((n / 128 : Nat) : Int) * (128 * 2 ^ (7 * k)) = v + (n : Int) * 2 ^ (7 * k)
        have hd : (n : Int) = ((n % 128 : Nat) : Int) + ((n / 128 : Nat) : Int) * 128 := by omega
        conv => rhs; rw [hd]
        rw [Int.add_mul, Int.mul_assoc]
        omega
      · show ((k + 1 : Nat) : Int) + ((numF (n / 128)).length : Int) = (k : Int) + (((numF (n / 128)).length + 1 : Nat) : Int)
        omega
theorem rdF_num {n : Nat} (h : n < 34359738368) (rest : List Int) : rdF (numF n ++ rest) = ((n : Int), ((numF n).length : Int)) := by
  unfold rdF
  rw [rdGo_num rest 4 n (by omega)]
  simp
/-- what is read lies within the bytes -/
theorem rdGo_len (xs : List Int) : ∀ (k : Nat) (v : Int), (rdGo xs k v).2 = 0 ∨ (k : Int) + 1 ≤ (rdGo xs k v).2 ∧ (rdGo xs k v).2 ≤ (k : Int) + xs.length := by
  induction xs with
  | nil => intro k v; exact .inl rfl
  | cons x r ih =>
    intro k v
    rw [rdGo]
    split
    · right
      simp only [List.length_cons]
      omega
    · rcases ih (k + 1) (v + x.tmod 128 * 2 ^ (7 * k)) with h | h
      · exact .inl h
      · right
        simp only [List.length_cons]
        omega
theorem rdF_len (xs : List Int) : (rdF xs).2 = 0 ∨ 1 ≤ (rdF xs).2 ∧ (rdF xs).2 ≤ (xs.length : Int) := by
  rcases rdGo_len (xs.take 5) 0 0 with h | h
  · exact .inl h
  · right
    unfold rdF
    rw [List.length_take] at h
    omega
/-- bounds of a partial value -/
theorem rd_bd {k : Nat} {v x : Int} (hk : k < 5) (hv : 0 ≤ v ∧ v < 2 ^ (7 * k)) (hx : 0 ≤ x ∧ x ≤ 255) : 0 ≤ x.tmod 128 ∧ x.tmod 128 < 128 ∧ 0 ≤ x.tmod 128 * 2 ^ (7 * k) ∧ x.tmod 128 * 2 ^ (7 * k) ≤ 34359738368 ∧ 0 ≤ v + x.tmod 128 * 2 ^ (7 * k) ∧ v + x.tmod 128 * 2 ^ (7 * k) < 2 ^ (7 * (k + 1)) ∧ (2 : Int) ^ (7 * (k + 1)) ≤ 34359738368 := by
  have e : x.tmod 128 = x % 128 := Int.tmod_eq_emod_of_nonneg hx.1
  rw [e]
  have h1 : 0 ≤ x % 128 ∧ x % 128 < 128 := by omega
  match k, hk with
  | 0, _ => simp at hv ⊢; omega
  | 1, _ => simp at hv ⊢; omega
  | 2, _ => simp at hv ⊢; omega
  | 3, _ => simp at hv ⊢; omega
  | 4, _ => simp at hv ⊢; omega
-- decoding
def decP (b : List Int) : Nat → List Int → List Int → WF × Int
  | 0, acc, rest => if frOK ⟨acc.getD 0 0, acc.getD 1 0, rest⟩ ∧ dgF ⟨acc.getD 0 0, acc.getD 1 0, rest⟩ = b then (⟨acc.getD 0 0, acc.getD 1 0, rest⟩, 0) else (WF0, 8)
  | n + 1, acc, rest => if (rdF rest).2 = 0 ∨ (rdF rest).1 > 2147483647 then (WF0, 8) else decP b n (acc ++ [(rdF rest).1]) (rest.drop (rdF rest).2.toNat)
def cut4 (b : List Int) : List Int := b.take (b.length - 4)
def decodeF (b : List Int) : WF × Int :=
  if b.length < 8 ∨ b[0]? ≠ some 70 then (WF0, 8) else if sumF (cut4 b) ≠ b then (WF0, 9) else decP b 3 [] ((cut4 b).drop 1)
/-- the reference's reading of a number -/
def rnumF (xs : List Int) : Int × List Int :=
  if (rdF xs).2 = 0 then (-1, []) else if 1 < (rdF xs).2 ∧ xs[(rdF xs).2.toNat - 1]? = some 0 then (-1, []) else ((rdF xs).1, xs.drop (rdF xs).2.toNat)
def rdec (b rest : List Int) : WF × Int :=
  let s := rnumF rest
  let a := rnumF s.2
  let n := rnumF a.2
  if s.1 < 0 ∨ a.1 < 0 ∨ n.1 < 0 ∨ n.1 ≠ (n.2.length : Int) then (WF0, 8) else if frOK ⟨s.1, a.1, n.2⟩ ∧ dgF ⟨s.1, a.1, n.2⟩ = b then (⟨s.1, a.1, n.2⟩, 0) else (WF0, 8)
theorem natInt {z : Int} (h : 0 ≤ z) : ((z.toNat : Nat) : Int) = z := Int.toNat_of_nonneg h
section
variable {b rest : List Int} {f : WF}
def restF (f : WF) : List Int := numF f.seq.toNat ++ numF f.ack.toNat ++ numF f.data.length ++ f.data
theorem decP_num (hb : frOK f) : decP b 3 [] (restF f) = if dgF f = b then (f, 0) else (WF0, 8) := by
  have hb' := hb
  obtain ⟨h1, h2, h3, h4, h5, h6⟩ := hb
  have e1 : restF f = numF f.seq.toNat ++ (numF f.ack.toNat ++ (numF f.data.length ++ f.data)) := by unfold restF; simp [List.append_assoc]
  have p1 := numF_pos f.seq.toNat
  have p2 := numF_pos f.ack.toNat
  have p3 := numF_pos f.data.length
  rw [e1, decP, rdF_num (by omega), if_neg (by simp only; omega)]
  simp only [Int.toNat_natCast, List.drop_left, List.nil_append]
  rw [decP, rdF_num (by omega), if_neg (by simp only; omega)]
  simp only [Int.toNat_natCast, List.drop_left, List.cons_append, List.nil_append]
  rw [decP, rdF_num (by omega), if_neg (by simp only; omega)]
  simp only [Int.toNat_natCast, List.drop_left, List.cons_append, List.nil_append]
  rw [decP]
  simp only [List.getD_cons_zero, List.getD_cons_succ, natInt h1, natInt h3]
  have e2 : (⟨f.seq, f.ack, f.data⟩ : WF) = f := rfl
  rw [e2]
  by_cases h : dgF f = b
  · rw [if_pos ⟨hb', h⟩, if_pos h]
  · rw [if_neg (fun hh => h hh.2), if_neg h]
theorem decP_or : ∀ (n : Nat) (acc rest : List Int), decP b n acc rest = (WF0, 8) ∨ ∃ f, frOK f ∧ dgF f = b ∧ decP b n acc rest = (f, 0) := by
  intro n
  induction n with
  | zero =>
    intro acc rest
    rw [decP]
    split
    · next h => exact .inr ⟨_, h.1, h.2, rfl⟩
    · exact .inl rfl
  | succ n ih =>
    intro acc rest
    rw [decP]
    split
    · exact .inl rfl
    · exact ih _ _
theorem cut4_dg (f : WF) : cut4 (dgF f) = bodyF f := by
  unfold cut4 dgF
  rw [sumF_len, show (bodyF f).length + 4 - 4 = (bodyF f).length by omega]
  unfold sumF
  rw [List.take_left]
theorem rest_dg (f : WF) : (cut4 (dgF f)).drop 1 = restF f := by rw [cut4_dg]; rfl
/-- a datagram of a valid frame is decoded -/
theorem dec_enc (hf : frOK f) : decodeF (dgF f) = (f, 0) := by
  unfold decodeF
  rw [if_neg, if_neg, rest_dg, decP_num hf, if_pos rfl]
  · rw [cut4_dg]
    exact fun h => h rfl
  · have p1 := numF_pos f.seq.toNat
    have p2 := numF_pos f.ack.toNat
    have p3 := numF_pos f.data.length
    rintro (h | h)
    · unfold dgF at h
      rw [sumF_len] at h
      unfold bodyF at h
      simp only [List.length_cons, List.length_append] at h
      omega
    · exact h rfl
end
theorem cut4_len (b : List Int) : (cut4 b).length = b.length - 4 := by unfold cut4; rw [List.length_take]; omega
theorem isB_take {xs : List Int} (h : isB xs) (n : Nat) : isB (xs.take n) := fun z hz => h z (List.mem_of_mem_take hz)
theorem isB_drop {xs : List Int} (h : isB xs) (n : Nat) : isB (xs.drop n) := fun z hz => h z (List.mem_of_mem_drop hz)
theorem sumF_isB {xs : List Int} (h : isB xs) : isB (sumF xs) := isB_app h (tailF_isB _)
/-- what is decoded is valid, and its bytes are bytes -/
theorem dec_ok {b : List Int} (h : (decodeF b).2 = 0) : frOK (decodeF b).1 ∧ dgF (decodeF b).1 = b := by
  unfold decodeF at h ⊢
  split at h
  · cases h
  · rename_i h1
    rw [if_neg h1]
    split at h
    · cases h
    · rename_i h2
      rw [if_neg h2]
      rcases decP_or (b := b) 3 [] ((cut4 b).drop 1) with e | ⟨f, h1, h2, e⟩
      · rw [e] at h; cases h
      · rw [e]; exact ⟨h1, h2⟩
end Go.Wr


namespace Go.Wr
open Go.AL
variable {m n k j : Nat} {xs ys : List Int} {x c v : Int}
theorem dig_hi (m : Nat) : IntKind.u8.wrap ((m : Int).tmod 128 + 128) = ((m % 128 + 128 : Nat) : Int) := by
  rw [Int.tmod_eq_emod_of_nonneg (by omega), u8_in (by omega) (by omega)]
  omega
theorem dig_bd (m : Nat) : -9223372036854775808 ≤ (m : Int).tmod 128 + 128 ∧ (m : Int).tmod 128 + 128 ≤ 9223372036854775807 := by
  rw [Int.tmod_eq_emod_of_nonneg (by omega)]
  omega
theorem dig_lo (h : m < 128) : IntKind.u8.wrap (m : Int) = (m : Int) := u8_in (by omega) (by omega)
theorem dig_quo (h : m ≤ 9223372036854775807) : IntKind.i64.wrap ((m : Int).tdiv 128) = ((m / 128 : Nat) : Int) := by
  rw [Int.tdiv_eq_ediv_of_nonneg (by omega), wrap_in (by omega)]
  omega
theorem num_step (h : ¬ m < 128) : (xs ++ [((m % 128 + 128 : Nat) : Int)]) ++ numF (m / 128) = xs ++ numF m := by rw [numF_ge h, List.append_assoc]; rfl
theorem num_end (h : m < 128) : xs ++ [(m : Int)] = xs ++ numF m := by rw [numF_lt h]
theorem num_lens (h : xs ++ numF m = ys) : xs.length + 1 ≤ ys.length := by
  have := numF_pos m
  rw [← h, List.length_append]
  omega
def numI (z : Int) : List Int := numF z.toNat
theorem numI_len (z : Int) (h : z ≤ 9223372036854775807) : (numI z).length ≤ 10 := numF_len10 (by omega)
def numsF (l : List Int) : List Int := l.flatMap numI
theorem numsF_at {l : List Int} (h : k < l.length) : numsF (l.take (k + 1)) = numsF (l.take k) ++ numI l[k] := by
  unfold numsF
  rw [take_at h, List.flatMap_append]
  simp
theorem numsF_len (l : List Int) (h : ∀ z ∈ l, z ≤ 9223372036854775807) : (numsF l).length ≤ 10 * l.length := by
  induction l with
  | nil => simp [numsF]
  | cons z l ih =>
    have h1 := numI_len z (h z (List.mem_cons_self ..))
    have h2 := ih fun y hy => h y (List.mem_cons_of_mem _ hy)
    unfold numsF at h2 ⊢
    rw [List.flatMap_cons, List.length_append, List.length_cons]
    omega
-- the checksum
theorem crc_t (h : c % 2 = 1) (hj : j < 8) : crcBits (8 - (j + 1)) (xorI .u32 (c / 2) 3988292384) = crcBits (8 - j) c := by
  obtain ⟨i, hi⟩ : ∃ i, 8 - j = i + 1 := ⟨7 - j, by omega⟩
  rw [hi, show 8 - (j + 1) = i by omega, crcBits]
  unfold crcBit
  rw [if_pos h]
theorem crc_f (h : ¬ c % 2 = 1) (hj : j < 8) : crcBits (8 - (j + 1)) (c / 2) = crcBits (8 - j) c := by
  obtain ⟨i, hi⟩ : ∃ i, 8 - j = i + 1 := ⟨7 - j, by omega⟩
  rw [hi, show 8 - (j + 1) = i by omega, crcBits]
  unfold crcBit
  rw [if_neg h]
theorem crc_at (h : k < xs.length) : crcGo v (xs.take (k + 1)) = crcByte (crcGo v (xs.take k)) xs[k] := by
  unfold crcGo
  rw [take_at h, List.foldl_append]
  rfl
theorem shl_pow {z : Int} (hk : k < 5) (hz : 0 ≤ z ∧ z < 128) : IntKind.i64.wrap (z * 2 ^ (min ((7 : Int) * (k : Int)).toNat IntKind.i64.bits)) = z * 2 ^ (7 * k) := by
  have e : min ((7 : Int) * (k : Int)).toNat IntKind.i64.bits = 7 * k := by
    have : IntKind.i64.bits = 64 := rfl
    omega
  rw [e]
  refine wrap_in ?_
  match k, hk with
  | 0, _ => simp; omega
  | 1, _ => simp; omega
  | 2, _ => simp; omega
  | 3, _ => simp; omega
  | 4, _ => simp; omega
theorem rd_next (h : k < ys.length) (hx : ¬ ys[k] < 128) : rdGo (ys.drop (k + 1)) (k + 1) (v + ys[k].tmod 128 * 2 ^ (7 * k)) = rdGo (ys.drop k) k v := by
  rw [drop_at h, rdGo, if_neg hx]
theorem rd_last (h : k < ys.length) (hx : ys[k] < 128) : rdGo (ys.drop k) k v = (v + ys[k].tmod 128 * 2 ^ (7 * k), (k : Int) + 1) := by
  rw [drop_at h, rdGo, if_pos hx]
theorem rd_none (h : ys.length ≤ k) : rdGo (ys.drop k) k v = (0, 0) := by rw [List.drop_of_length_le h, rdGo]
theorem min5 (xs : List Int) : (min (xs.length : Int) 5) = ((min xs.length 5 : Nat) : Int) := by omega
theorem take5 (xs : List Int) : xs.take (min xs.length 5) = xs.take 5 := by
  rcases Nat.lt_or_ge xs.length 5 with h | h
  · rw [Nat.min_eq_left (by omega), List.take_of_length_le (Nat.le_refl _), List.take_of_length_le (by omega)]
  · rw [Nat.min_eq_right h]
def encodeF (f : WF) : List Int × Int := if frOK f then (dgF f, 0) else ([], 1)
theorem enc_t {f : WF} (h : frOK f) : encodeF f = (dgF f, 0) := if_pos h
theorem enc_f {f : WF} (h : ¬ frOK f) : encodeF f = ([], 1) := if_neg h
theorem body_eq (f : WF) : ([70] : List Int) ++ numsF [f.seq, f.ack, (f.data.length : Int)] ++ f.data = bodyF f := by
  unfold bodyF numsF numI
  simp
end Go.Wr


namespace Go.Wr
open Go.AL
variable {b rest acc : List Int} {n : Nat} {a0 a1 a2 s a : Int}
theorem dec_bad (h : (rdF rest).2 = 0 ∨ (rdF rest).1 > 2147483647) : decP b (n + 1) acc rest = (WF0, 8) := by rw [decP, if_pos h]
theorem dec_step (h : ¬ ((rdF rest).2 = 0 ∨ (rdF rest).1 > 2147483647)) : decP b (n + 1) acc rest = decP b n (acc ++ [(rdF rest).1]) (rest.drop (rdF rest).2.toNat) := by rw [decP, if_neg h]
theorem enc_iff (f : WF) : (frOK f ∧ dgF f = b) ↔ ((encodeF f).2 = 0 ∧ (encodeF f).1 = b) := by
  unfold encodeF
  by_cases h : frOK f
  · rw [if_pos h]; simp [h]
  · rw [if_neg h]; simp [h]
theorem dec_end_bad (h : (decide ((encodeF ⟨a0, a1, rest⟩).2 ≠ 0) || !(decide ((encodeF ⟨a0, a1, rest⟩).1 = b))) = true) : decP b 0 [a0, a1, a2] rest = (WF0, 8) := by
  rw [decP]
  simp only [List.getD_cons_zero, List.getD_cons_succ]
  rw [if_neg]
  rw [enc_iff]
  simp only [Bool.or_eq_true, decide_eq_true_eq, Bool.not_eq_true', decide_eq_false_iff_not] at h
  rintro ⟨h1, h2⟩
  rcases h with h | h
  · exact h h1
  · exact h h2
theorem dec_end_ok (h : (decide ((encodeF ⟨a0, a1, rest⟩).2 ≠ 0) || !(decide ((encodeF ⟨a0, a1, rest⟩).1 = b))) = false) : decP b 0 [a0, a1, a2] rest = (⟨a0, a1, rest⟩, 0) := by
  rw [decP]
  simp only [List.getD_cons_zero, List.getD_cons_succ]
  rw [if_pos]
  rw [enc_iff]
  simp only [Bool.or_eq_false_iff, decide_eq_false_iff_not, Bool.not_eq_false', decide_eq_true_eq, Decidable.not_not] at h
  exact h
theorem dec_short (h : b.length < 8 ∨ b[0]? ≠ some 70) : decodeF b = (WF0, 8) := by unfold decodeF; rw [if_pos h]
theorem dec_sum (h : ¬ (b.length < 8 ∨ b[0]? ≠ some 70)) (h2 : sumF (cut4 b) ≠ b) : decodeF b = (WF0, 9) := by unfold decodeF; rw [if_neg h, if_pos h2]
theorem dec_body (h : ¬ (b.length < 8 ∨ b[0]? ≠ some 70)) (h2 : sumF (cut4 b) = b) : decP b 3 [] ((cut4 b).drop 1) = decodeF b := by unfold decodeF; rw [if_neg h, if_neg (fun e => e h2)]
theorem get0 (h : 0 < b.length) : b[0]? = some (b.getD 0 0) := by
  rw [List.getD_eq_getElem?_getD, List.getElem?_eq_getElem h]
  rfl
theorem dec_h1 (h : (decide ((b.length : Int) < 8) || decide (b.getD 0 0 ≠ 70)) = true) : b.length < 8 ∨ b[0]? ≠ some 70 := by
  simp only [Bool.or_eq_true, decide_eq_true_eq] at h
  rcases Nat.lt_or_ge b.length 8 with h8 | h8
  · exact .inl h8
  · right
    rw [get0 (by omega)]
    rcases h with h | h
    · omega
    · exact fun e => h (Option.some.inj e)
theorem dec_h2 (h : (decide ((b.length : Int) < 8) || decide (b.getD 0 0 ≠ 70)) = false) : ¬ (b.length < 8 ∨ b[0]? ≠ some 70) := by
  simp only [Bool.or_eq_false_iff, decide_eq_false_iff_not, Decidable.not_not] at h
  rw [get0 (by omega), h.2]
  rintro (e | e)
  · omega
  · exact e rfl
theorem enc_len2 {f : WF} : (encodeF f).1.length ≤ 1035 := by
  unfold encodeF
  split
  · next h =>
    unfold frOK at h
    have h1 := numF_len10 (n := f.seq.toNat) (by omega)
    have h2 := numF_len10 (n := f.ack.toNat) (by omega)
    have h3 := numF_len10 (n := f.data.length) (by omega)
    simp only [dgF, sumF_len, bodyF, List.length_cons, List.length_append]
    omega
  · exact Nat.zero_le _
section
variable {r0 : List Int}
end
end Go.Wr


namespace Go.AL
open Go.RowKit
theorem run_copy_rowk {P : Program} (w : World) (dT sT ty elem : TypeId) (g o dLen dCap : Nat) (a : Addr) (sLen sCap k : Nat) (cur : Array Value) (t : TypeId) (cs : List Value)
    (hu : P.underlying dT = some (.slice elem)) (hs : (P.info? elem).map (·.size) = some k)
    (hg : w.heap[g]? = some (.cells cur t (0, 0))) (hn : cs.length = Nat.min sLen dLen * k)
    (hsrc : ∀ j v, cs[j]? = some v → w.cell? (a.add j) = some v) (hfit : o + cs.length ≤ cur.size) (h1 : ∀ v ∈ cs, v.oneCell' = true) :
    (Builtin.copy_ #[dT, sT] ty #[.slice (some ⟨g, o, none⟩) dLen dCap, .slice (some a) sLen sCap]).run P w =
      .ok (goInt (Nat.min sLen dLen)) (w.setRow g (cur.toList.take o ++ cs ++ cur.toList.drop (o + cs.length)).toArray) := by
  have hl := run_loadCells_list (P := P) w a cs hsrc
  have hst := run_storeCells_at P g o t cs 0 cur w hg (by simpa using hfit) h1
  cases hq : P.info? elem with
  | none => simp [hq] at hs
  | some i =>
    have hi : i.size = k := by simpa [hq] using hs
    simp [Builtin.copy_, run_underlying hu, Builtin.lenOf, Builtin.firstCells, sizeOf, typeInfo, hq, hi, ← hn, hl, hst]
/-- the block has room for z elements (said of whatever value) -/
def zP (id : Id) (z : Nat) : Pred :=
  ⟨fun σ _ => σ.z id = z ∧ σ.ρ id ≠ none, fun σ τ v hle ⟨h1, h2⟩ => by
     obtain ⟨ob, hob⟩ := Option.ne_none_iff_exists'.1 h2
     exact ⟨by rw [hle.z _ _ hob]; exact h1, by rw [hle.ρ _ _ hob]; simp⟩⟩
/-- a slice's room -/
def capP (id : Id) (off : Nat) : Pred :=
  ⟨fun σ v => v = .int .i64 ((σ.z id - off : Nat) : Int) ∧ σ.ρ id ≠ none, fun σ τ v hle ⟨h1, h2⟩ => by
     obtain ⟨ob, hob⟩ := Option.ne_none_iff_exists'.1 h2
     exact ⟨by rw [hle.z _ _ hob]; exact h1, by rw [hle.ρ _ _ hob]; simp⟩⟩
section
variable {P : Program} {C : Cx} {F : Fr} {L : Tk} {Q : Exit → Act → World → Prop} {cd : Code}
end
section
variable {P : Program} {n N : Nat} {F : Fr} {R : Toks} {d : Option Nat} {T : TypeId} {pos : String} {after : Array Edge} {k : Nat} {t e : TypeId} {ik : IntKind} {id : Id} {off len c : Nat}
/-- s[:hi] beyond its length, within the block -/
theorem op_mslice_xh {x y : Operand} {i : Int} {hi : Nat} (hx : opd F x = some (mvP id k off len c)) (hy : opd F y = some (eqP (.int ik i))) (ht : elemB P t = some e) (hs : sizeB P e = some k) (hii : i = (hi : Int)) (hhi : off + hi ≤ c) :
    OpJ P n N F R ⟨d, .slice t x none (some y) none, T, pos, after, none⟩ ⟨rdo x (mvP id k off len c) ++ rdo y (eqP (.int ik i)), [], [], [], [], mvP id k off hi c⟩ :=
  opj2 hx hy fun σ W a ⟨ad, hv, h1, h2, h3, h5⟩ h4 => by
    have e2 : a.eval y = .int ik i := h4
    have hc := mv_cut (c := c) (lo := 0) (hi := hi) (len := hi) (by omega) h2 h3 h5 (Nat.zero_le _) (Nat.le_refl _)
    simp only [Nat.add_zero, Nat.sub_zero, Nat.zero_mul] at hc
    have hcap : hi ≤ σ.z id - off := by omega
    refine ⟨_, ?_, hc⟩
    subst hii
    simp only [execOp, Instr.sliceAt, Sem.run_bind, run_underlying (elem_of ht), Result.andThen_ok, hv, Option.map_some, Option.map_none, e2]
    simp only [Instr.slice, Sem.run_bind, run_underlying (elem_of ht), Result.andThen_ok, Instr.sliceBounds, Sem.run_pure, Option.isSome_none, Instr.sliceBound, asIntOf]
    simp [hcap, run_sizeOf' hs]
end
theorem drop_rest {α : Type} {cs rest us : List α} {o : Nat} (h : o ≤ cs.length) :
    (cs ++ rest).take o ++ us ++ (cs ++ rest).drop (o + us.length) = (cs.take o ++ us ++ cs.drop (o + us.length)) ++ rest.drop (o + us.length - cs.length) := by
  rw [List.take_append_of_le_length h, List.drop_append]
  simp
/-- a stretch of a block written, past what is known of it -/
theorem Models.wrX {σ : Sg} {R : Toks} {W : World} (h : Models σ R W) {m b κ : Nat} {id : Id} {B : TypeId} {ps qs : List Pred} {us : List Value} (hRm : R m = some (id, blkX κ B ps)) (hb : σ.ρ id = some (some b)) (hκ : κ ≠ 0) {o : Nat} (hu : Vs σ qs us) (ho : o ≤ ps.length) (hl : o + qs.length ≤ σ.z id * κ) :
    ∃ cur : List Value, W.heap[b]? = some (.cells cur.toArray B (0, 0)) ∧ cur.length = σ.z id * κ ∧
      Models σ (fun q => if q = m then some (id, blkX κ B (splice ps o qs)) else R q) (W.setRow b (cur.take o ++ us ++ cur.drop (o + us.length)).toArray) := by
  obtain ⟨cs, rest, hcs, hvs, hz, _⟩ := blk_read h hRm hb
  have l1 := hvs.1
  have l2 := hu.1
  have l3 := hz hκ
  refine ⟨cs ++ rest, hcs, l3, ?_⟩
  have hdr := drop_rest (us := us) (rest := rest) (show o ≤ cs.length by omega)
  have hlen : ((cs ++ rest).take o ++ us ++ (cs ++ rest).drop (o + us.length)).length = σ.z id * κ := by
    simp only [List.length_append, List.length_take, List.length_drop] at l3 ⊢
    omega
  rw [hdr] at hlen ⊢
  exact h.write hRm hb (setRow_heap W b _ _ B (0, 0) hcs) (fun _ => hlen) (fun k hk => setRow_other W b k _ hk) (by simp) rfl rfl rfl (hvs.splice hu o)
section
variable {P : Program} {n N : Nat} {F : Fr} {R : Toks} {d : Option Nat} {T : TypeId} {pos : String} {after : Array Edge} {k : Nat} {t ts e : TypeId} {id : Id}
theorem op_copy_src {x y : Operand} {p : Pred} {m o1 n1 cnt c : Nat} {ps qs : List Pred} {us : List (Nat × Id × Res)} (hx : opd F x = some (mvP id k o1 n1 c)) (hy : opd F y = some p) (hR : R m = some (id, blkX k e ps)) (hus : ∀ z ∈ us, R z.1 = some z.2)
    (ht : elemB P t = some e) (hs : sizeB P e = some k) (hk0 : k ≠ 0) (hpos : 0 < cnt) (hcnt : cnt ≤ n1) (ho : o1 * k ≤ ps.length) (hql : qs.length = cnt * k)
    (hsrc : ∀ (σ : Sg) (W : World) (R : Toks) (v : Value), Models σ R W → R m = some (id, blkX k e ps) → (∀ z ∈ us, R z.1 = some z.2) → p.h σ v → ∃ ad sl sc vs, v = .slice (some ad) sl sc ∧ Nat.min sl n1 = cnt ∧ Vs σ qs vs ∧ ∀ (j : Nat) (u : Value), vs[j]? = some u → W.cell? (ad.add j) = some u) :
    OpJ P n N F R ⟨d, .call { callee := .builtin .copy, args := #[x, y], argTypes := #[t, ts] }, T, pos, after, none⟩
      ⟨rdo x (mvP id k o1 n1 c) ++ rdo y p, us, [(m, (id, blkX k e ps))], [(m, (id, blkX k e (splice ps (o1 * k) qs)))], [], eqP (.int .i64 cnt)⟩ where
  loc := by
    intro σ W R a K hm h2' h3 h4 h5 h6 h7 h8 h9 Q
    have hRm := h6 _ (List.mem_cons_self ..)
    obtain ⟨a1, hv1, x1, x2, x3, x4⟩ := holds_of hx fun w hw => h4 w (List.mem_append_left _ hw)
    have hyp := holds_of hy fun w hw => h4 w (List.mem_append_right _ hw)
    obtain ⟨ad, sl, sc, vs, hv2, hmin, hvs, hcell⟩ := hsrc σ W R _ hm hRm h5 hyp
    obtain ⟨b, hb, rfl⟩ := x4 (by omega)
    have hfit : o1 * k + qs.length ≤ σ.z id * k := by
      rw [hql, ← Nat.add_mul]
      exact Nat.mul_le_mul_right _ (by omega)
    obtain ⟨cur, hcur, hcl, hmod⟩ := hm.wrX hRm hb hk0 hvs ho hfit
    obtain ⟨i, hi, his⟩ : ∃ i, P.info? e = some i ∧ i.size = k := by
      unfold sizeB at hs
      cases hi : P.info? e with
      | none => rw [hi] at hs; cases hs
      | some i => rw [hi] at hs; simp at hs; exact ⟨i, rfl, hs⟩
    have hr := run_copy_rowk (P := P) W t ts T e b (o1 * k) n1 (σ.z id - o1) ad sl sc k cur.toArray e vs (elem_of ht) (by rw [hi]; simp [his]) hcur (by rw [hmin, hvs.1, hql]) hcell (by rw [hvs.1, List.size_toArray, hcl]; exact hfit) hvs.ones
    rw [hmin] at hr
    refine wp_value (v := .int .i64 cnt) ?_ (h9 σ _ _ (Le.refl σ) (fun _ _ _ => rfl) (hmod.congr (updR_turn ..)) rfl)
    simp only [execOp, resolve, invoke, builtin, Sem.run_bind, Sem.run_pure, Result.andThen_ok, List.map_toArray, List.map_cons, List.map_nil, hv1, hv2, hr]
    rfl
  rd := rd_app (rd_of hx) (rd_of hy)
  use := hus
  del := by simpa using hR
  add := by simp
def spl {α : Type} (xs : List α) (o : Nat) (ys : List α) : List α := xs.take o ++ ys ++ xs.drop (o + ys.length)
theorem fm_take {α : Type} {f : α → List Pred} {k : Nat} (hk : ∀ z, (f z).length = k) : ∀ (xs : List α) (o : Nat), (xs.flatMap f).take (o * k) = (xs.take o).flatMap f
  | [], o => by simp
  | x :: xs, 0 => by simp
  | x :: xs, o + 1 => by
    rw [List.flatMap_cons, List.take_succ_cons, List.flatMap_cons, List.take_append, hk, ← fm_take hk xs o, List.take_of_length_le (by rw [hk, Nat.succ_mul]; omega), Nat.succ_mul, Nat.add_sub_cancel]
theorem fm_drop {α : Type} {f : α → List Pred} {k : Nat} (hk : ∀ z, (f z).length = k) : ∀ (xs : List α) (o : Nat), (xs.flatMap f).drop (o * k) = (xs.drop o).flatMap f
  | [], o => by simp
  | x :: xs, 0 => by simp
  | x :: xs, o + 1 => by
    rw [List.flatMap_cons, List.drop_succ_cons, List.drop_append, hk, ← fm_drop hk xs o, List.drop_eq_nil_of_le (by rw [hk, Nat.succ_mul]; omega), Nat.succ_mul, Nat.add_sub_cancel, List.nil_append]
theorem fm_spl {α : Type} {f : α → List Pred} {k : Nat} (hk : ∀ z, (f z).length = k) (xs ys : List α) (o : Nat) : splice (xs.flatMap f) (o * k) (ys.flatMap f) = (spl xs o ys).flatMap f := by
  unfold splice spl
  rw [flatMap_len hk, ← Nat.add_mul, fm_take hk, fm_drop hk, List.flatMap_append, List.flatMap_append]
variable {α : Type} {f : α → List Pred}
/-- copy within one block of the call's own -/
theorem op_copy_in {x y : Operand} {m o1 n1 o2 n2 cnt c c2 : Nat} {xs : List α} (hx : opd F x = some (mvP id k o1 n1 c)) (hy : opd F y = some (mvP id k o2 n2 c2)) (hR : R m = some (id, blkX k e (xs.flatMap f)))
    (ht : elemB P t = some e) (hs : sizeB P e = some k) (hk0 : k ≠ 0) (hk : ∀ z, (f z).length = k) (hpos : 0 < cnt) (hmin : Nat.min n2 n1 = cnt) (ho : o1 ≤ xs.length) (hsx : o2 + cnt ≤ xs.length) :
    OpJ P n N F R ⟨d, .call { callee := .builtin .copy, args := #[x, y], argTypes := #[t, ts] }, T, pos, after, none⟩
      ⟨rdo x (mvP id k o1 n1 c) ++ rdo y (mvP id k o2 n2 c2), [], [(m, (id, blkX k e (xs.flatMap f)))], [(m, (id, blkX k e ((spl xs o1 ((xs.drop o2).take cnt)).flatMap f)))], [], eqP (.int .i64 cnt)⟩ := by
  have hcl : ((xs.drop o2).take cnt).length = cnt := by rw [List.length_take, List.length_drop]; omega
  have hm2 : cnt ≤ n1 ∧ cnt ≤ n2 := by rw [← hmin]; exact ⟨Nat.min_le_right .., Nat.min_le_left ..⟩
  have h := op_copy_src (P := P) (n := n) (N := N) (F := F) (R := R) (d := d) (T := T) (pos := pos) (after := after) (ts := ts) (m := m) (cnt := cnt) (us := []) (qs := ((xs.drop o2).take cnt).flatMap f) hx hy hR (by simp) ht hs hk0 hpos hm2.1
    (by rw [flatMap_len hk]; exact Nat.mul_le_mul_right _ ho) (by rw [flatMap_len hk, hcl]) (by
      intro σ W R v hm hRm _ ⟨a2, hv, y1, y2, y3, y4⟩
      obtain ⟨b, hb, rfl⟩ := y4 (by omega)
      obtain ⟨cs, rest, hcs, hvs, _, _⟩ := blk_read hm hRm hb
      refine ⟨_, _, _, (cs.drop (o2 * k)).take (cnt * k), hv, hmin, ?_, fun j u hu => ?_⟩
      · rw [← fm_take hk, ← fm_drop hk]; exact hvs.drop _ _
      · rw [addr_add]
        rw [List.getElem?_take] at hu
        split at hu
        · rw [List.getElem?_drop] at hu
          exact cell_blk hcs hu
        · cases hu)
  rwa [fm_spl hk] at h
/-- copy from one block of the call's own into another -/
theorem op_copy_two {x y : Operand} {m m2 o1 n1 o2 n2 cnt c c2 κ2 : Nat} {id2 : Id} {B2 : TypeId} {xs ys : List α} (hx : opd F x = some (mvP id k o1 n1 c)) (hy : opd F y = some (mvP id2 k o2 n2 c2)) (hR : R m = some (id, blkX k e (xs.flatMap f))) (hR2 : R m2 = some (id2, blkX κ2 B2 (ys.flatMap f)))
    (ht : elemB P t = some e) (hs : sizeB P e = some k) (hk0 : k ≠ 0) (hk : ∀ z, (f z).length = k) (hpos : 0 < cnt) (hmin : Nat.min n2 n1 = cnt) (ho : o1 ≤ xs.length) (hsx : o2 + cnt ≤ ys.length) :
    OpJ P n N F R ⟨d, .call { callee := .builtin .copy, args := #[x, y], argTypes := #[t, ts] }, T, pos, after, none⟩
      ⟨rdo x (mvP id k o1 n1 c) ++ rdo y (mvP id2 k o2 n2 c2), [(m2, (id2, blkX κ2 B2 (ys.flatMap f)))], [(m, (id, blkX k e (xs.flatMap f)))], [(m, (id, blkX k e ((spl xs o1 ((ys.drop o2).take cnt)).flatMap f)))], [], eqP (.int .i64 cnt)⟩ := by
  have hcl : ((ys.drop o2).take cnt).length = cnt := by rw [List.length_take, List.length_drop]; omega
  have hm2 : cnt ≤ n1 ∧ cnt ≤ n2 := by rw [← hmin]; exact ⟨Nat.min_le_right .., Nat.min_le_left ..⟩
  have h := op_copy_src (P := P) (n := n) (N := N) (F := F) (R := R) (d := d) (T := T) (pos := pos) (after := after) (ts := ts) (m := m) (cnt := cnt) (us := [(m2, (id2, blkX κ2 B2 (ys.flatMap f)))]) (qs := ((ys.drop o2).take cnt).flatMap f) hx hy hR (by simpa using hR2) ht hs hk0 hpos hm2.1
    (by rw [flatMap_len hk]; exact Nat.mul_le_mul_right _ ho) (by rw [flatMap_len hk, hcl]) (by
      intro σ W R v hm _ hus ⟨a2, hv, y1, y2, y3, y4⟩
      obtain ⟨b, hb, rfl⟩ := y4 (by omega)
      obtain ⟨cs, rest, hcs, hvs, _, _⟩ := blk_read hm (hus _ (List.mem_cons_self ..)) hb
      refine ⟨_, _, _, (cs.drop (o2 * k)).take (cnt * k), hv, hmin, ?_, fun j u hu => ?_⟩
      · rw [← fm_take hk, ← fm_drop hk]; exact hvs.drop _ _
      · rw [addr_add]
        rw [List.getElem?_take] at hu
        split at hu
        · rw [List.getElem?_drop] at hu
          exact cell_blk hcs hu
        · cases hu)
  rwa [fm_spl hk] at h
/-- copy from a list into a block of the call's own -/
theorem op_copy_sl {x y : Operand} {m o1 n1 c : Nat} {xs ys : List α} (hx : opd F x = some (mvP id k o1 n1 c)) (hy : opd F y = some (slP f k ys)) (hR : R m = some (id, blkX k e (xs.flatMap f)))
    (ht : elemB P t = some e) (hs : sizeB P e = some k) (hk0 : k ≠ 0) (hk : ∀ z, (f z).length = k) (hpos : 0 < ys.length) (hn : ys.length ≤ n1) (ho : o1 ≤ xs.length) :
    OpJ P n N F R ⟨d, .call { callee := .builtin .copy, args := #[x, y], argTypes := #[t, ts] }, T, pos, after, none⟩
      ⟨rdo x (mvP id k o1 n1 c) ++ rdo y (slP f k ys), [], [(m, (id, blkX k e (xs.flatMap f)))], [(m, (id, blkX k e ((spl xs o1 ys).flatMap f)))], [], eqP (.int .i64 ys.length)⟩ := by
  have h := op_copy_src (P := P) (n := n) (N := N) (F := F) (R := R) (d := d) (T := T) (pos := pos) (after := after) (ts := ts) (m := m) (cnt := ys.length) (us := []) (qs := ys.flatMap f) hx hy hR (by simp) ht hs hk0 hpos hn
    (by rw [flatMap_len hk]; exact Nat.mul_le_mul_right _ ho) (by rw [flatMap_len hk]) (by
      intro σ W R v hm _ _ ⟨ad, cap, hv, h1, h2, h3⟩
      obtain ⟨yb, yo, rfl, hyc⟩ := h3 (by omega)
      obtain ⟨news, hnv, hncell⟩ := slP_cells hm hk hyc
      exact ⟨_, _, _, news, hv, Nat.min_eq_left hn, hnv, fun j u hu => by rw [addr_add]; exact hncell j u hu⟩)
  rwa [fm_spl hk] at h
end
end Go.AL


namespace Go.AL
open Go.RowKit
section
variable {P : Program} {n N : Nat} {F : Fr} {R : Toks} {d : Option Nat} {T : TypeId} {pos : String} {after : Array Edge} {k bytes : Nat} {t tn e : TypeId} {id : Id} {ik kn : IntKind}
theorem firstCells_of {w : World} {k len cap : Nat} {a : Option Addr} {olds : List Value} (hl : olds.length = len * k) (h : ∀ ad, a = some ad → ∀ (j : Nat) (v : Value), olds[j]? = some v → w.cell? (ad.add j) = some v) (h0 : a = none → len = 0) :
    (Builtin.firstCells k len (.slice a len cap)).run P w = .ok olds.toArray w := by
  cases a with
  | none =>
    have := h0 rfl
    subst this
    have : olds = [] := List.eq_nil_of_length_eq_zero (by simpa using hl)
    subst this
    simp [Builtin.firstCells]
  | some ad =>
    have hr := run_loadCells_list (P := P) w ad olds (h ad rfl)
    simp [Builtin.firstCells, ← hl, hr]
/-- 'append(s[:i], make([]T, c)...)' where there is no room: a new block -/
theorem op_append_zeros {x y : Operand} {m m' kk u o1 c z0 : Nat} {z : Value} {i : Int} {c1 : Nat} {ps : List Pred} (hx : opd F x = some (mvP id k 0 o1 c1)) (hy : opd F y = some (eqP (.int ik i))) (hi : i = (c : Int)) (hc : 0 < c) (hu : lk F u = some (zP id z0)) (hgrow : z0 < o1 + c)
    (hR : R m = some (id, blkX k e ps)) (hm' : R m' = none) (hop : o1 * k ≤ ps.length)
    (ht : elemB P t = some e) (htn : P.underlying tn = some (.int kn)) (hz : zeroB P e = some (some z)) (hs : sizeB P e = some k) (hby : bytesB P e = some bytes) (hzs : z.cells.size = k) (hk0 : 0 < k) (h1 : z.cells.toList.all Value.oneCell' = true) (hb1 : (o1 + c) * bytes ≤ 140737488355328) (hb2 : o1 + c ≤ 1152921504606846976) :
    OpJ P n N F R ⟨d, .call { callee := .builtin .append, args := #[x, y], argTypes := #[t, tn] }, T, pos, after, none⟩
      ⟨rdo x (mvP id k 0 o1 c1) ++ (rdo y (eqP (.int ik i)) ++ [(u, zP id z0)]), [(m, (id, blkX k e ps))], [], [(m', ((N, kk), blkX k e (ps.take (o1 * k) ++ (List.replicate c (z.cells.toList.map eqP)).flatten)))], [kk], mvP (N, kk) k 0 (o1 + c) (o1 + c)⟩ where
  loc := by
    intro σ W R a K hm h2 h3 h4 h5 h6 h7 h8 h9 Q
    have hid := h8 kk (by simp)
    have hRm := h5 _ (List.mem_cons_self ..)
    have hRm' : R m' = none := by have h := h7 (m', ((N, kk), blkX k e (ps.take (o1 * k) ++ (List.replicate c (z.cells.toList.map eqP)).flatten))) (by simp); simpa using h
    obtain ⟨a1, hv, x1, x2, x3, x4⟩ := holds_of hx fun w hw => h4 w (List.mem_append_left _ hw)
    have hyv : a.eval y = .int ik i := holds_of hy fun w hw => h4 w (List.mem_append_right _ (List.mem_append_left _ hw))
    have hzz : σ.z id = z0 := (h4 (u, zP id z0) (List.mem_append_right _ (List.mem_append_right _ (by simp)))).1
    simp only [Nat.sub_zero, Nat.zero_add, Nat.zero_mul] at hv x1 x4
    rw [hzz] at hv x1 x2 x4
    obtain ⟨ti, hti, htz, hts, htb⟩ := info_of hz hs hby
    obtain ⟨olds, hov, hol, hfc⟩ : ∃ olds : List Value, Vs σ (ps.take (o1 * k)) olds ∧ olds.length = o1 * k ∧ (Builtin.firstCells ti.size o1 (.slice a1 o1 z0)).run P W.drew = .ok olds.toArray W.drew := by
      by_cases hz0 : z0 = 0
      · have : o1 = 0 := by omega
        subst this
        refine ⟨[], by simp [Vs], by simp, firstCells_of (by simp) (by simp) (fun _ => rfl)⟩
      · obtain ⟨b, hb, rfl⟩ := x4 (by omega)
        obtain ⟨cs, rest, hcs, hvs, hz', _⟩ := blk_read hm hRm hb
        refine ⟨cs.take (o1 * k), by simpa using hvs.drop 0 (o1 * k), by rw [List.length_take, hvs.1]; omega, firstCells_of (by rw [List.length_take, hvs.1, hts]; omega) (fun ad had j v hj => ?_) (by simp)⟩
        simp only [Option.some.injEq] at had
        subst had
        rw [addr_add, Nat.zero_add]
        rw [List.getElem?_take] at hj
        split at hj
        · have := cell_blk hcs hj
          exact this
        · cases hj
    have hr := Lib.run_append_grow_zeros (P := P) W t tn T e ti z ik kn (elem_of ht) htn hti htz a1 o1 z0 olds hfc c hc (by omega) (by omega) (by omega) (by rw [htb]; have : c * bytes ≤ (o1 + c) * bytes := Nat.mul_le_mul_right _ (by omega); omega) (by rw [htb]; exact growslice_fits (by omega) hb1)
    have g1 := grownCap_ge W (o1 + c) z0 e
    have g2 := grownCap_le_maxLen W (o1 + c) z0 e (by unfold maxLen; omega)
    have hzc : Vs σ ((List.replicate c (z.cells.toList.map eqP)).flatten) (Builtin.zeroCells z.cells c).toList := by
      have e1 : (Builtin.zeroCells z.cells c).toList = (List.replicate c z.cells.toList).flatten := by
        simp only [Builtin.zeroCells, Array.toList_map, Array.toList_range]
        rw [hzs, ← flatten_replicate_range hzs hk0, hzs]
      rw [e1]
      have : (List.replicate c (z.cells.toList.map eqP)).flatten = ((List.replicate c z.cells.toList).flatten).map eqP := by simp [List.map_flatten]
      rw [this]
      refine Vs.eqs ?_
      rw [List.all_eq_true]
      intro u hu
      obtain ⟨l, hl, hul⟩ := List.mem_flatten.1 hu
      rw [List.mem_replicate] at hl
      rw [List.all_eq_true] at h1
      exact h1 u (by rw [← hl.2]; exact hul)
    have hmod := hm.drew.alloc (id := (N, kk)) (z := grownCap W (o1 + c) z0 e) (n := m') (r := blkX k e (ps.take (o1 * k) ++ (List.replicate c (z.cells.toList.map eqP)).flatten))
      (o := .cells (olds.toArray ++ Builtin.zeroCells z.cells c ++ Builtin.zeroCells z.cells (grownCap W (o1 + c) z0 e - (o1 + c))) e) hid hRm'
      ⟨olds ++ (Builtin.zeroCells z.cells c).toList, (Builtin.zeroCells z.cells (grownCap W (o1 + c) z0 e - (o1 + c))).toList, by congr 1; apply Array.ext'; simp, (hov.append hzc).mono (le_bind hid), fun _ => by
        rw [bind_z, List.length_append, List.length_append, hol, zc_len, zc_len, hzs, ← Nat.add_mul, ← Nat.add_mul]; congr 1; omega, fun i => no_imm_new hm.drew i⟩
    refine wp_value (v := .slice (some ⟨W.heap.size, 0, none⟩) (o1 + c) (grownCap W (o1 + c) z0 e)) ?_ (h9 _ _ _ (le_bind hid) keep_bind (hmod.congr (updR_new ..)) ?_)
    · subst hi
      simp only [execOp, resolve, invoke, builtin, Sem.run_bind, Sem.run_pure, Result.andThen_ok, List.map_toArray, List.map_cons, List.map_nil, hv, hyv, hr]
    · exact ⟨_, by rw [bind_z]; rfl, by rw [bind_z]; omega, by rw [bind_z]; exact g2, by rw [bind_at]; simp, fun _ => ⟨_, bind_at .., by simp⟩⟩
  rd := rd_app (rd_of hx) (rd_app (rd_of hy) (by intro y hy; simp at hy; subst hy; exact hu))
  use := by simpa using hR
  del := by simp
  add := by simpa using hm'
/-- slices.overlaps of a row of the call's own and a view of another block of its own -/
theorem op_overlaps {f : FuncId} {fn : Func} {tS tR : TypeId} {ts : Array TypeId} {x y : Operand} {α : Type} {g : α → List Pred} {ys : List α} {ida : Id} {ma mb na κ off len c : Nat} {ea eb : TypeId} {ps : List Pred}
    (hf : P.funcs[f]? = some fn) (hb : ((fn.name == "runtime.NumGoroutine") = false ∧ fn.body.isNone = true) ∧ Extern.findNext fn = none) (he : Extern.find fn = some (Extern.SlicesOverlaps.overlaps #[tS, tS] #[tR]))
    (hx : opd F x = some (rowP ida g k ys)) (hy : opd F y = some (mvP id k off len c)) (hRa : R ma = some (ida, tail ea k na)) (hRb : R mb = some (id, blkX κ eb ps)) (hne : Nat.beq ma mb = false) (hys : Nat.blt 0 ys.length = true) (hn : 0 < len) (hk : κ ≠ 0)
    (ht : elemB P tS = some e) (hs : sizeB P e = some k) :
    OpJ P n N F R ⟨d, .call { callee := .value (.func f), args := #[x, y], argTypes := ts }, T, pos, after, none⟩
      ⟨rdo x (rowP ida g k ys) ++ rdo y (mvP id k off len c), [(ma, (ida, tail ea k na)), (mb, (id, blkX κ eb ps))], [], [], [], eqP (.bool false)⟩ where
  loc := by
    intro σ W R a K hm h2 h3 h4 h5 h6 h7 h8 h9 Q
    have hA := h5 _ (List.mem_cons_self ..)
    have hB := h5 _ (List.mem_cons_of_mem _ (List.mem_cons_self ..))
    have hxv := holds_of hx fun w hw => h4 w (List.mem_append_left _ hw)
    obtain ⟨a2, hyv, y1, y2, y3, y4⟩ := holds_of hy fun w hw => h4 w (List.mem_append_right _ hw)
    obtain ⟨b, hb', rfl⟩ := y4 (by omega)
    have hrun : ∀ (v : Value), a.eval x = v → (Extern.SlicesOverlaps.overlaps #[tS, tS] #[tR] #[v, .slice (some ⟨b, off * k, none⟩) len (σ.z id - off)]).run P W = .ok (.bool false) W → (execOp a.eval ⟨d, .call { callee := .value (.func f), args := #[x, y], argTypes := ts }, T, pos, after, none⟩).run P W = .ok (.value (.bool false)) W := by
      intro v hv hr
      have hcf := run_callFunc_extern (P := P) hf hb.1.1 hb.1.2 hb.2 he #[v, .slice (some ⟨b, off * k, none⟩) len (σ.z id - off)] W
      rw [hr] at hcf
      have e0 : (a.eval (.func f)) = .func (.func f) #[] #[] := rfl
      simp only [execOp, resolve, e0, Deferred.ofValue, Sem.run_bind, Sem.run_pure, Result.andThen_ok, invoke, List.map_toArray, List.map_cons, List.map_nil, hv, hyv]
      rw [show ∀ x : Array Value, (#[] ++ x) ++ #[] = x by intro x; simp]
      rw [hcf]
      rfl
    refine wp_value (hrun _ rfl ?_) (h9 σ W _ (Le.refl σ) (fun _ _ _ => rfl) (by rw [updR_same]; exact hm) rfl)
    obtain ⟨hge, o, ho, cs, rest, rfl, hvs, hz', _⟩ := hm.res mb id _ hB b hb'
    rcases hxv with ⟨_, hnil⟩ | ⟨b1, hxs, hb1, z1, z2, z3⟩
    · have hpos : 0 < ys.length := Nat.le_of_ble_eq_true hys
      rw [hnil] at hpos
      exact absurd hpos (by simp)
    · rw [hxs]
      obtain ⟨_, o1, ho1, cs1, rfl, hl1, hn1⟩ := hm.res ma ida _ hA b1 hb1
      have hmab : ma ≠ mb := fun e => by subst e; simp at hne
      have hbb : b1 ≠ b := fun e => by
        subst e
        exact hm.sep ma mb _ _ b1 hmab hA hB hb1 hb'
      have hlen := hz' hk
      refine Lib.run_overlaps_apart W tS tR e (elem_of ht) k (fun w => run_sizeOf' hs w) ⟨b1, 0, none⟩ ⟨b, off * k, none⟩ _ _ _ _ hbb ea eb cs1.length ((cs ++ rest).length) ?_ ?_ ?_ ?_ ?_
      · simp [World.shape?, ho1]
      · simp [World.shape?, ho]
      · rw [hlen]
        exact Nat.mul_ne_zero (by omega) hk
      · simp [World.frozen?, ho1]
      · simp [World.frozen?, ho1]
  rd := rd_app (rd_of hx) (rd_of hy)
  use := by
    intro z hz
    simp at hz
    rcases hz with rfl | rfl
    · exact hRa
    · exact hRb
  del := by simp
  add := by simp
end
section
variable {P : Program} {C : Cx} {F : Fr} {L : Tk} {Q : Exit → Act → World → Prop} {cd : Code}
/-- the room of a block gets a number -/
theorem tr_room2 (s u : Nat) {id : Id} {k off n c : Nat} (hs : lk F s = some (mvP id k off n c)) (h : ∀ z, off + n ≤ z → c ≤ z → z ≤ maxLen → Tr P C cd ((s, mvP id k off n z) :: (u, zP id z) :: F) L Q) : Tr P C cd F L Q := by
  rintro a W ⟨σ, h1, h2, h3⟩
  obtain ⟨ad, hv, ⟨x1, x1'⟩, x2, x3, x4⟩ := h3.fr s _ hs
  refine h (σ.z id) x1 x1' x2 a W ⟨σ, h1, h2, h3.size, h3.defers, h3.mod, fun t' p hp => ?_⟩
  rw [lk_cons] at hp
  split at hp
  · rename_i e; subst e; simp at hp; subst hp; exact ⟨ad, hv, ⟨x1, Nat.le_refl _⟩, x2, x3, x4⟩
  · rw [lk_cons] at hp
    split at hp
    · simp at hp; subst hp; exact ⟨rfl, x3⟩
    · exact h3.fr t' p hp
end
theorem Ent.mvc {id : Id} {k off n c c' : Nat} (h : c' ≤ off + n) : Ent (mvP id k off n c) (mvP id k off n c') := fun σ v ⟨a, hv, ⟨h1, h2⟩, h3, h4, h5⟩ => ⟨a, hv, ⟨h1, by omega⟩, h3, h4, h5⟩
theorem mv_ren' {τ : Sg} {old new : Id} {k off n c c' n' : Nat} (h1 : τ.ρ new = τ.ρ old) (h2 : τ.z new = τ.z old) (hn : n' = n) (hc : c' ≤ off + n) : ∀ v, (mvP old k off n c).h τ v → (mvP new k off n' c').h τ v := fun v h => by
  subst hn
  exact Ent.mvc hc τ v ((Ren.mv k off n' c 0 0 []).p τ old new v h1 h2 h)
section
variable {P : Program} {n N : Nat} {F : Fr} {R : Toks} {d : Option Nat} {T : TypeId} {pos : String} {after : Array Edge} {k : Nat} {t e : TypeId} {id : Id} {off len c z : Nat}
theorem op_cap_z {x : Operand} (u : Nat) (hx : opd F x = some (mvP id k off len c)) (hu : lk F u = some (zP id z)) (ht : elemB P t = some e) :
    OpJ P n N F R ⟨d, .call { callee := .builtin .cap, args := #[x], argTypes := #[t] }, T, pos, after, none⟩ ⟨rdo x (mvP id k off len c) ++ [(u, zP id z)], [], [], [], [], eqP (.int .i64 ((z - off : Nat) : Int))⟩ :=
  opj_pure (rd_app (rd_of hx) (by intro y hy; simp at hy; subst hy; exact hu)) fun σ W a hr => by
    obtain ⟨b, hv, _, _, h3, _⟩ := holds_of hx fun w hw => hr w (List.mem_append_left _ hw)
    have hz : σ.z id = z := (hr (u, zP id z) (List.mem_append_right _ (by simp))).1
    subst hz
    refine ⟨.int .i64 ((σ.z id - off : Nat) : Int), ?_, rfl⟩
    simp [execOp, resolve, invoke, builtin, Builtin.cap_, hv, run_underlying (elem_of ht), goInt]
theorem OpJ.entTok {o : Oper} {rd : List (Nat × Pred)} {use del : List (Nat × Id × Res)} {m : Nat} {i : Id} {r r' : Res} {new : List Nat} {φ : Pred} (h : OpJ P n N F R o ⟨rd, use, del, [(m, (i, r))], new, φ⟩) (he : ∀ (σ : Sg) (b : Nat) (o : Obj), r.h σ i b o → r'.h σ i b o) :
    OpJ P n N F R o ⟨rd, use, del, [(m, (i, r'))], new, φ⟩ where
  loc := fun σ W R a K h1 h2 h3 h4 h5 h6 h7 h8 h9 => h.loc σ W R a K h1 h2 h3 h4 h5 h6 (fun x hx => by simp at hx; subst hx; exact h7 (m, (i, r')) (by simp)) h8 fun σ' W' v g1 g2 g3 g4 => h9 σ' W' v g1 g2 (g3.resMono (fun n => n) (fun n m h _ _ => h) (fun q y hy => by
      unfold updR at hy ⊢
      simp only [List.find?_cons, List.find?_nil] at hy ⊢
      by_cases hq : (m == q) = true
      · simp only [hq] at hy ⊢
        cases hy
        exact ⟨r, rfl, fun b o => he σ' b o⟩
      · simp only [hq] at hy ⊢
        exact ⟨y.2, hy, fun b o h => h⟩)) g4
  rd := h.rd
  use := h.use
  del := h.del
  add := by
    intro x hx
    simp at hx
    subst hx
    exact h.add (m, (i, r)) (by simp)
theorem Ents.app : ∀ {a b c d : List Pred}, Ents a b → Ents c d → Ents (a ++ c) (b ++ d)
  | _, _, _, _, .nil, h => h
  | _, _, _, _, .cons h t, k => .cons h (Ents.app t k)
theorem Ents.rep {zs qs : List Pred} (h : Ents zs qs) : ∀ c, Ents (List.replicate c zs).flatten (List.replicate c qs).flatten
  | 0 => .nil
  | c + 1 => by simpa [List.replicate_succ] using Ents.app h (Ents.rep h c)
/-- 'append(s[:i], make([]T, c)...)' where there is no room, typed -/
theorem op_append_zeros_t {α : Type} {f : α → List Pred} {bytes : Nat} {tn : TypeId} {ik kn : IntKind} {x y : Operand} {m m' kk u o1 cz z0 : Nat} {z : Value} {i : Int} {c1 : Nat} {xs : List α} (d0 : α) (hx : opd F x = some (mvP id k 0 o1 c1)) (hy : opd F y = some (eqP (.int ik i))) (hi : i = (cz : Int)) (hc : 0 < cz) (hu : lk F u = some (zP id z0)) (hgrow : z0 < o1 + cz)
    (hR : R m = some (id, blkX k e (xs.flatMap f))) (hm' : R m' = none) (hop : o1 ≤ xs.length) (hk : ∀ z, (f z).length = k) (hd0 : Ents (z.cells.toList.map eqP) (f d0))
    (ht : elemB P t = some e) (htn : P.underlying tn = some (.int kn)) (hz : zeroB P e = some (some z)) (hs : sizeB P e = some k) (hby : bytesB P e = some bytes) (hzs : z.cells.size = k) (hk0 : Nat.blt 0 k = true) (h1 : z.cells.toList.all Value.oneCell' = true) (hb1 : (o1 + cz) * bytes ≤ 140737488355328) (hb2 : o1 + cz ≤ 1152921504606846976) :
    OpJ P n N F R ⟨d, .call { callee := .builtin .append, args := #[x, y], argTypes := #[t, tn] }, T, pos, after, none⟩
      ⟨rdo x (mvP id k 0 o1 c1) ++ (rdo y (eqP (.int ik i)) ++ [(u, zP id z0)]), [(m, (id, blkX k e (xs.flatMap f)))], [], [(m', ((N, kk), blkX k e ((xs.take o1 ++ List.replicate cz d0).flatMap f)))], [kk], mvP (N, kk) k 0 (o1 + cz) (o1 + cz)⟩ := by
  have h := op_append_zeros (P := P) (n := n) (N := N) (F := F) (R := R) (d := d) (T := T) (pos := pos) (after := after) (m := m) (m' := m') (kk := kk) (u := u) hx hy hi hc hu hgrow hR hm' (by rw [flatMap_len hk]; exact Nat.mul_le_mul_right _ hop) ht htn hz hs hby hzs (Nat.le_of_ble_eq_true hk0) h1 hb1 hb2
  refine h.entTok fun σ b o hr => blk_ents' ?_ σ _ b o hr
  rw [List.flatMap_append, fm_take hk]
  refine Ents.app (Ents.refl _) ?_
  rw [← flatten_rep]
  exact Ents.rep hd0 cz
end
def insL {α : Type} (xs : List α) (i : Nat) (v : α) : List α := xs.take i ++ v :: xs.drop i
theorem insL_len {α : Type} {xs : List α} {i : Nat} {v : α} (h : i ≤ xs.length) : (insL xs i v).length = xs.length + 1 := by
  unfold insL; simp; omega
theorem insL_end {α : Type} {xs : List α} {v : α} : xs ++ [v] = insL xs xs.length v := by
  unfold insL; simp
theorem insL_grow {α : Type} {xs : List α} {i c : Nat} {v d : α} (h : i < xs.length) (hc : c = xs.length + 1 - i) : spl (spl (xs.take i ++ List.replicate c d) i [v]) (i + 1) (xs.drop i) = insL xs i v := by
  have hl : (xs.take i).length = i := by rw [List.length_take]; omega
  unfold spl insL
  rw [List.take_left' hl]
  have e1 : (xs.take i ++ [v] ++ (xs.take i ++ List.replicate c d).drop (i + [v].length)).take (i + 1) = xs.take i ++ [v] := by
    rw [List.take_left' (by simp [hl])]
  have e2 : (xs.take i ++ [v] ++ (xs.take i ++ List.replicate c d).drop (i + [v].length)).drop (i + 1 + (xs.drop i).length) = [] := List.drop_eq_nil_of_le (by simp; omega)
  rw [e1, e2]
  simp
theorem insL_in {α : Type} {xs : List α} {i : Nat} {v : α} (h : i < xs.length) : spl (spl xs (i + 1) ((xs.drop i).take (xs.length - i))) i [v] = insL xs i v := by
  have hl : (xs.take i).length = i := by rw [List.length_take]; omega
  rw [List.take_of_length_le (by rw [List.length_drop]; omega)]
  unfold spl insL
  have e1 : (xs.take (i + 1) ++ xs.drop i ++ xs.drop (i + 1 + (xs.drop i).length)).take i = xs.take i := by
    rw [List.append_assoc, List.take_append_of_le_length (by rw [List.length_take]; omega), List.take_take, Nat.min_eq_left (by omega)]
  have e2 : (xs.take (i + 1) ++ xs.drop i ++ xs.drop (i + 1 + (xs.drop i).length)).drop (i + [v].length) = xs.drop i := by
    have e3 : xs.drop (i + 1 + (xs.drop i).length) = [] := List.drop_eq_nil_of_le (by rw [List.length_drop]; omega)
    rw [e3, List.append_nil, List.length_singleton, List.drop_left' (by rw [List.length_take]; omega)]
  rw [e1, e2]
  simp
theorem insL_grow2 {α : Type} {xs : List α} {i c : Nat} {v d : α} (h : i < xs.length) (hc : c = xs.length + 1 - i) : spl (spl (xs.take i ++ List.replicate c d) (0 + i) [v]) (0 + (i + 1)) ((xs.drop (0 + i)).take (xs.length - i)) = insL xs i v := by
  have e : (xs.drop i).take (xs.length - i) = xs.drop i := List.take_of_length_le (by rw [List.length_drop]; omega)
  rw [Nat.zero_add, Nat.zero_add, e]
  exact insL_grow h hc
theorem insL_in2 {α : Type} {xs : List α} {i : Nat} {v : α} (h : i < xs.length) : spl (spl xs (0 + (i + 1)) ((xs.drop (0 + i)).take (xs.length - i))) (0 + i) [v] = insL xs i v := by
  rw [Nat.zero_add, Nat.zero_add]
  exact insL_in h
end Go.AL


namespace Go.Wr
open Go.AL
def WE0 : WE := ⟨0, 0, [], 0, []⟩
def RE0 : RE := ⟨0, 0, 0, [], []⟩
def newF (w : Int) : WE × Int := if 1 ≤ w ∧ w ≤ 16 then (⟨w, 0, [], 0, []⟩, 0) else (WE0, 1)
def lenOK (b : List Int) : Bool := decide (b.length ≤ 1000)
def earlyOK : Int → Int → List WF → Bool
  | _, _, [] => true
  | next, hi, f :: r => (decide (next ≤ f.seq) && decide (f.seq ≤ hi) && decide (f.ack = 0) && lenOK f.data) && earlyOK (f.seq + 1) hi r
def headOK (e : WE) : Prop := 1 ≤ e.window ∧ e.window ≤ 16 ∧ 0 ≤ e.base ∧ e.base ≤ 1000000000 ∧ 0 ≤ e.got ∧ e.got ≤ 1000000000 ∧ (e.sent.length : Int) ≤ e.window ∧ e.base + (e.sent.length : Int) ≤ 1000000000
instance (e : WE) : Decidable (headOK e) := by unfold headOK; infer_instance
def hiF (e : WE) : Int := min (e.got + e.window) 1000000000
def validF (e : WE) : Bool := decide (headOK e) && (e.sent.all lenOK && earlyOK (e.got + 2) (hiF e) e.early)
section
variable {e : WE} {k : Nat} {next hi : Int} {l : List WF}
theorem valid_no (h : ¬ headOK e) : validF e = false := by unfold validF; rw [decide_eq_false h]; rfl
theorem valid_yes (h : headOK e) : validF e = (e.sent.all lenOK && earlyOK (e.got + 2) (hiF e) e.early) := by unfold validF; rw [decide_eq_true h]; rfl
theorem len_no {ls : List (List Int)} (hk : k < ls.length) (h : 1000 < ls[k].length) : (ls.drop k).all lenOK = false := by
  rw [drop_at hk, List.all_cons]
  unfold lenOK
  rw [decide_eq_false (by omega)]
  rfl
theorem len_yes {ls : List (List Int)} (hk : k < ls.length) (h : ls[k].length ≤ 1000) : (ls.drop (k + 1)).all lenOK = (ls.drop k).all lenOK := by
  rw [drop_at hk, List.all_cons]
  unfold lenOK
  rw [decide_eq_true h]
  rfl
theorem len_end {ls : List (List Int)} (hk : ls.length ≤ k) : (ls.drop k).all lenOK = true := by rw [List.drop_of_length_le hk]; rfl
theorem early_no (hk : k < l.length) (h : ¬ (next ≤ l[k].seq ∧ l[k].seq ≤ hi ∧ l[k].ack = 0 ∧ l[k].data.length ≤ 1000)) : earlyOK next hi (l.drop k) = false := by
  rw [drop_at hk, earlyOK]
  have : (decide (next ≤ l[k].seq) && decide (l[k].seq ≤ hi) && decide (l[k].ack = 0) && lenOK l[k].data) = false := by
    rw [Bool.eq_false_iff]
    intro hh
    unfold lenOK at hh
    simp only [Bool.and_eq_true, decide_eq_true_eq] at hh
    exact h ⟨hh.1.1.1, hh.1.1.2, hh.1.2, hh.2⟩
  rw [this, Bool.false_and]
theorem early_yes (hk : k < l.length) (h : next ≤ l[k].seq ∧ l[k].seq ≤ hi ∧ l[k].ack = 0 ∧ l[k].data.length ≤ 1000) : earlyOK (l[k].seq + 1) hi (l.drop (k + 1)) = earlyOK next hi (l.drop k) := by
  rw [drop_at hk, earlyOK]
  have : (decide (next ≤ l[k].seq) && decide (l[k].seq ≤ hi) && decide (l[k].ack = 0) && lenOK l[k].data) = true := by
    unfold lenOK
    simp only [Bool.and_eq_true, decide_eq_true_eq]
    exact ⟨⟨⟨h.1, h.2.1⟩, h.2.2.1⟩, h.2.2.2⟩
  rw [this, Bool.true_and]
theorem early_end (hk : l.length ≤ k) : earlyOK next hi (l.drop k) = true := by rw [List.drop_of_length_le hk]; rfl
/-- what is known of a valid list of early frames -/
theorem early_mem : ∀ (l : List WF) (next : Int), earlyOK next hi l = true → (∀ f ∈ l, next ≤ f.seq ∧ f.seq ≤ hi ∧ f.ack = 0 ∧ f.data.length ≤ 1000) ∧ l.Pairwise (fun a b => a.seq < b.seq) ∧ (l = [] ∨ next + (l.length : Int) ≤ hi + 1) := by
  intro l
  induction l with
  | nil => intro next _; exact ⟨fun f hf => by simp at hf, List.Pairwise.nil, .inl rfl⟩
  | cons f r ih =>
    intro next h
    rw [earlyOK] at h
    unfold lenOK at h
    simp only [Bool.and_eq_true, decide_eq_true_eq] at h
    obtain ⟨⟨⟨⟨h1, h2⟩, h3⟩, h4⟩, h5⟩ := h
    obtain ⟨g1, g2, g3⟩ := ih _ h5
    refine ⟨fun g hg => ?_, List.Pairwise.cons (fun g hg => by have := (g1 g hg).1; omega) g2, .inr ?_⟩
    · rcases List.mem_cons.1 hg with rfl | hg
      · exact ⟨h1, h2, h3, h4⟩
      · have := g1 g hg
        exact ⟨by omega, this.2.1, this.2.2.1, this.2.2.2⟩
    · rcases g3 with rfl | g3
      · simp; omega
      · simp; omega
theorem valid_head (h : validF e = true) : headOK e := by
  unfold validF at h
  simp only [Bool.and_eq_true, decide_eq_true_eq] at h
  exact h.1
theorem valid_sent (h : validF e = true) : ∀ b ∈ e.sent, b.length ≤ 1000 := fun b hb => by
  unfold validF at h
  simp only [Bool.and_eq_true, decide_eq_true_eq, List.all_eq_true] at h
  have := h.2.1 b hb
  unfold lenOK at this
  simpa using this
theorem valid_early (h : validF e = true) : earlyOK (e.got + 2) (hiF e) e.early = true := by
  unfold validF at h
  simp only [Bool.and_eq_true] at h
  exact h.2.2
structure BdE (e : WE) : Prop where
  sent : e.sent.length ≤ 16
  each : ∀ b ∈ e.sent, b.length ≤ 1000
  early : e.early.length ≤ 16
  data : ∀ f ∈ e.early, f.data.length ≤ 1000
theorem valid_bd (h : validF e = true) : BdE e := by
  have h1 := valid_head h
  have h2 := early_mem _ _ (valid_early h)
  unfold headOK at h1
  refine ⟨by omega, valid_sent h, ?_, fun f hf => (h2.1 f hf).2.2.2⟩
  rcases h2.2.2 with h3 | h3
  · rw [h3]; simp
  · unfold hiF at h3
    omega
end
def sendF (e : WE) (d : List Int) : WE × Int :=
  if validF e = false then (WE0, 1) else if d.length > 1000 ∨ e.base + (e.sent.length : Int) ≥ 1000000000 then (WE0, 3) else if (e.sent.length : Int) = e.window then (WE0, 11) else ({ e with sent := e.sent ++ [d] }, 0)
def rsendF (e : RE) (d : ByteArray) : RE × Int :=
  if validF e.to = false then (RE0, 1) else if d.size > 1000 ∨ e.base + (e.sent.length : Int) ≥ 1000000000 then (RE0, 3) else if (e.sent.length : Int) = e.window then (RE0, 11) else ({ e with sent := e.sent ++ [d] }, 0)
def fr1 (e : WE) (i : Nat) (b : List Int) : List Int := (encodeF ⟨e.base + 1 + (i : Int), e.got, b⟩).1
def framesF (e : WE) : List (List Int) :=
  if validF e = false then [] else if e.sent = [] then [(encodeF ⟨0, e.got, []⟩).1] else e.sent.mapIdx (fr1 e)
theorem mapIdx_at {α β : Type} {f : Nat → α → β} {l : List α} {k : Nat} (hk : k < l.length) : (l.mapIdx f).take (k + 1) = (l.mapIdx f).take k ++ [f k l[k]] := by
  rw [take_at (by rw [List.length_mapIdx]; exact hk), List.getElem_mapIdx]
-- what the walks of Valid know
theorem head_bad {e : WE} {z : Int} (h : z = e.base + (e.sent.length : Int) ∨ ¬ (-9223372036854775808 ≤ e.base + (e.sent.length : Int) ∧ e.base + (e.sent.length : Int) ≤ 9223372036854775807)) (hb : ¬ (1 ≤ e.window ∧ e.window ≤ 16) ∨ ¬ (0 ≤ e.base ∧ e.base ≤ 1000000000) ∨ ¬ (0 ≤ e.got ∧ e.got ≤ 1000000000) ∨ e.window < (e.sent.length : Int) ∨ 1000000000 < z) : ¬ headOK e := by unfold headOK; omega
theorem wrap_or (z : Int) : IntKind.i64.wrap z = z ∨ ¬ (-9223372036854775808 ≤ z ∧ z ≤ 9223372036854775807) := by
  by_cases h : -9223372036854775808 ≤ z ∧ z ≤ 9223372036854775807
  · exact .inl (wrap_in h)
  · exact .inr h
-- early frames
def cmpI (a b : Int) : Int := if a < b then -1 else if b < a then 1 else 0
def Srt (l : List WF) : Prop := l.Pairwise fun a b => a.seq < b.seq
def pos (l : List WF) (x : Int) : Nat := l.countP fun o => decide (o.seq < x)
def fnd (l : List WF) (x : Int) : Bool := l.any fun o => decide (o.seq = x)
section
variable {l : List WF} {x : Int} {i j h : Nat}
theorem srt_lt (hs : Srt l) (hij : i < j) (hj : j < l.length) : (l[i]'(by omega)).seq < l[j].seq := List.pairwise_iff_getElem.1 hs i j (by omega) hj hij
theorem lo_step (hs : Srt l) (hh : h < l.length) (hx : l[h].seq < x) : ∀ o ∈ l.take (h + 1), o.seq < x := fun o ho => by
  obtain ⟨p, hp, rfl⟩ := List.mem_iff_getElem.1 ho
  rw [List.length_take] at hp
  rw [List.getElem_take]
  by_cases e : p = h
  · subst e; exact hx
  · exact Int.lt_trans (srt_lt hs (by omega) hh) hx
theorem hi_step (hs : Srt l) (hh : h < l.length) (hx : x ≤ l[h].seq) : ∀ o ∈ l.drop h, x ≤ o.seq := fun o ho => by
  obtain ⟨p, hp, rfl⟩ := List.mem_iff_getElem.1 ho
  rw [List.length_drop] at hp
  rw [List.getElem_drop]
  by_cases e : p = 0
  · subst e; exact hx
  · exact Int.le_trans hx (Int.le_of_lt (srt_lt hs (by omega) (by omega)))
theorem pos_at (hi : i ≤ l.length) (h1 : ∀ o ∈ l.take i, o.seq < x) (h2 : ∀ o ∈ l.drop i, x ≤ o.seq) : pos l x = i := by
  unfold pos
  rw [← List.take_append_drop i l, List.countP_append]
  rw [List.countP_eq_length.2 (fun o ho => decide_eq_true (h1 o ho)), List.countP_eq_zero.2 (fun o ho => by have := h2 o ho; simp; omega), List.length_take]
  omega
theorem fnd_at (hs : Srt l) (hi : i < l.length) (h1 : ∀ o ∈ l.take i, o.seq < x) (h2 : ∀ o ∈ l.drop i, x ≤ o.seq) : fnd l x = decide (cmpI l[i].seq x = 0) := by
  have hge : x ≤ l[i].seq := h2 _ (by rw [drop_at hi]; exact List.mem_cons_self ..)
  have hc : cmpI l[i].seq x = 0 ↔ l[i].seq = x := by unfold cmpI; split <;> (try split) <;> omega
  unfold fnd
  rw [Bool.eq_iff_iff, decide_eq_true_eq, hc, List.any_eq_true]
  simp only [decide_eq_true_eq]
  constructor
  · rintro ⟨o, ho, e⟩
    obtain ⟨p, hp, rfl⟩ := List.mem_iff_getElem.1 ho
    rcases Nat.lt_trichotomy p i with h | h | h
    · have := h1 l[p] (by rw [List.mem_iff_getElem]; exact ⟨p, by rw [List.length_take]; omega, by simp⟩); omega
    · subst h; exact e
    · have := srt_lt hs h hp; omega
  · intro e; exact ⟨_, List.getElem_mem hi, e⟩
theorem fnd_no (hi : l.length ≤ i) (h1 : ∀ o ∈ l.take i, o.seq < x) : fnd l x = false := by
  rw [List.take_of_length_le hi] at h1
  unfold fnd
  rw [List.any_eq_false]
  intro o ho
  have := h1 o ho
  simp
  omega
theorem cmp_lt {a b : Int} (h : cmpI a b < 0) : a < b := by unfold cmpI at h; split at h <;> (try split at h) <;> omega
theorem cmp_ge {a b : Int} (h : 0 ≤ cmpI a b) : b ≤ a := by unfold cmpI at h; split at h <;> (try split at h) <;> omega
theorem pos_le : pos l x ≤ l.length := List.countP_le_length
/-- early frames with another one -/
def addF (l : List WF) (f : WF) : List WF := if fnd l f.seq = true then l else insL l (pos l f.seq) f
theorem add_yes {f : WF} (h : fnd l f.seq = true) : addF l f = l := if_pos h
theorem add_no {f : WF} (h : fnd l f.seq = false) : addF l f = insL l (pos l f.seq) f := by unfold addF; rw [if_neg (by rw [h]; simp)]
theorem add_len {f : WF} : (addF l f).length ≤ l.length + 1 := by
  unfold addF
  split
  · omega
  · rw [insL_len pos_le]
    exact Nat.le_refl _
/-- how many frames are next in order -/
def dlv : Int → List WF → Nat
  | _, [] => 0
  | g, f :: r => if f.seq = g + 1 then dlv (g + 1) r + 1 else 0
theorem dlv_step {g : Int} (hi : i < l.length) (h : l[i].seq = g + 1) : dlv g (l.drop i) = dlv (g + 1) (l.drop (i + 1)) + 1 := by rw [drop_at hi, dlv, if_pos h]
theorem dlv_stop {g : Int} (hi : i < l.length) (h : l[i].seq ≠ g + 1) : dlv g (l.drop i) = 0 := by rw [drop_at hi, dlv, if_neg h]
theorem dlv_end {g : Int} (hi : l.length ≤ i) : dlv g (l.drop i) = 0 := by rw [List.drop_of_length_le hi]; rfl
theorem dlv_le (l : List WF) : ∀ g : Int, dlv g l ≤ l.length := by
  induction l with
  | nil => intro g; exact Nat.le_refl _
  | cons f r ih =>
    intro g
    rw [dlv]
    split
    · have := ih (g + 1); simp; omega
    · exact Nat.zero_le _
end
-- Receive
def sentF (e : WE) (a : Int) : List (List Int) := if 0 < a - e.base then e.sent.drop (a - e.base).toNat else e.sent
def baseF (e : WE) (a : Int) : Int := if 0 < a - e.base then a else e.base
def early1 (e : WE) (f : WF) : List WF := addF e.early ⟨f.seq, 0, f.data⟩
def recvE (e : WE) (f : WF) : WE × List (List Int) × Int :=
  if f.ack > e.base + (e.sent.length : Int) ∨ f.seq > hiF e then (e, [], 12)
  else if f.seq ≤ e.got then (⟨e.window, baseF e f.ack, sentF e f.ack, e.got, e.early⟩, [], 0)
  else (⟨e.window, baseF e f.ack, sentF e f.ack, e.got + (dlv e.got (early1 e f) : Int), (early1 e f).drop (dlv e.got (early1 e f))⟩, ((early1 e f).take (dlv e.got (early1 e f))).map WF.data, 0)
def recvF (e : WE) (b : List Int) : WE × List (List Int) × Int :=
  if validF e = false then (e, [], 1) else if (decodeF b).2 ≠ 0 then (e, [], (decodeF b).2) else recvE e (decodeF b).1
end Go.Wr


namespace Go.Wr
open Go.AL
structure BdR (n : Nat) (e : RE) : Prop where
  sent : e.sent.length ≤ n
  each : ∀ s ∈ e.sent, s.size ≤ n
  early : e.early.length ≤ n
  data : ∀ f ∈ e.early, f.data.size ≤ n
def rv (f : RF) : List Value := [.int .i64 f.seq, .int .i64 f.ack, .string f.data]
section
variable {a b : RE} {k : Nat}
end
theorem send_1 {e : WE} {d : List Int} (h : validF e = false) : sendF e d = (WE0, 1) := if_pos h
theorem send_2 {e : WE} {d : List Int} (h : validF e = true) (h2 : d.length > 1000 ∨ e.base + (e.sent.length : Int) ≥ 1000000000) : sendF e d = (WE0, 3) := by unfold sendF; rw [if_neg (by rw [h]; simp), if_pos h2]
theorem send_3 {e : WE} {d : List Int} (h : validF e = true) (h2 : ¬ (d.length > 1000 ∨ e.base + (e.sent.length : Int) ≥ 1000000000)) (h3 : (e.sent.length : Int) = e.window) : sendF e d = (WE0, 11) := by unfold sendF; rw [if_neg (by rw [h]; simp), if_neg h2, if_pos h3]
theorem send_4 {e : WE} {d : List Int} (h : validF e = true) (h2 : ¬ (d.length > 1000 ∨ e.base + (e.sent.length : Int) ≥ 1000000000)) (h3 : ¬ (e.sent.length : Int) = e.window) : sendF e d = ({ e with sent := e.sent ++ [d] }, 0) := by unfold sendF; rw [if_neg (by rw [h]; simp), if_neg h2, if_neg h3]
theorem frames_1 {e : WE} (h : validF e = false) : framesF e = [] := if_pos h
theorem frames_2 {e : WE} (h : validF e = true) (h2 : e.sent.length = 0) : framesF e = [(encodeF ⟨0, e.got, []⟩).1] := by unfold framesF; rw [if_neg (by rw [h]; simp), if_pos (List.eq_nil_of_length_eq_zero h2)]
theorem frames_3 {e : WE} (h : validF e = true) (h2 : ¬ e.sent.length = 0) : framesF e = e.sent.mapIdx (fr1 e) := by unfold framesF; rw [if_neg (by rw [h]; simp), if_neg (fun hh => h2 (by rw [hh]; rfl))]
theorem mapIdx_end {α β : Type} {f : Nat → α → β} {l : List α} {k : Nat} (hk : l.length ≤ k) : (l.mapIdx f).take k = l.mapIdx f := List.take_of_length_le (by rw [List.length_mapIdx]; exact hk)
end Go.Wr


namespace Go.Wr
open Go.AL
section
variable {e : WE} {b : List Int} {f : WF} {l : List WF} {q : Nat}
theorem recv_1 (h : validF e = false) : recvF e b = (e, [], 1) := if_pos h
theorem recv_2 (h : validF e = true) (h2 : (decodeF b).2 ≠ 0) : recvF e b = (e, [], (decodeF b).2) := by unfold recvF; rw [if_neg (by rw [h]; simp), if_pos h2]
theorem recv_e (h : validF e = true) (h2 : (decodeF b).2 = 0) : recvF e b = recvE e (decodeF b).1 := by unfold recvF; rw [if_neg (by rw [h]; simp), if_neg (fun hh => hh h2)]
theorem recvE_3 (h : f.ack > e.base + (e.sent.length : Int) ∨ f.seq > hiF e) : recvE e f = (e, [], 12) := if_pos h
theorem recvE_4 (h : ¬ (f.ack > e.base + (e.sent.length : Int) ∨ f.seq > hiF e)) (h2 : f.seq ≤ e.got) : recvE e f = (⟨e.window, baseF e f.ack, sentF e f.ack, e.got, e.early⟩, [], 0) := by unfold recvE; rw [if_neg h, if_pos h2]
theorem recvE_5 (h : ¬ (f.ack > e.base + (e.sent.length : Int) ∨ f.seq > hiF e)) (h2 : ¬ f.seq ≤ e.got) {n : Nat} (hn : dlv e.got (early1 e f) = n) : recvE e f = (⟨e.window, baseF e f.ack, sentF e f.ack, e.got + (n : Int), (early1 e f).drop n⟩, ((early1 e f).take n).map WF.data, 0) := by
  unfold recvE
  rw [if_neg h, if_neg h2, hn]
theorem sentF_t {a : Int} (h : 0 < a - e.base) : sentF e a = e.sent.drop (a - e.base).toNat := if_pos h
theorem sentF_f {a : Int} (h : ¬ 0 < a - e.base) : sentF e a = e.sent := if_neg h
theorem baseF_t {a : Int} (h : 0 < a - e.base) : baseF e a = a := if_pos h
theorem baseF_f {a : Int} (h : ¬ 0 < a - e.base) : baseF e a = e.base := if_neg h
theorem drop0_at (h : q < l.length) : (l.drop q)[0]? = some (l.getD q WF0) := by
  rw [List.getElem?_drop, Nat.add_zero, List.getD_eq_getElem?_getD, List.getElem?_eq_getElem h]
  rfl
theorem getD_at (h : q < l.length) : l.getD q WF0 = l[q] := by
  rw [List.getD_eq_getElem?_getD, List.getElem?_eq_getElem h]
  rfl
theorem early1_len (h : BdE e) : (early1 e f).length ≤ 17 := by
  have h1 := h.early
  have h2 := add_len (l := e.early) (f := ⟨f.seq, 0, f.data⟩)
  unfold early1
  omega
theorem data_step (h : q < l.length) : ((l.take q).map WF.data) ++ [(l.getD q WF0).data] = (l.take (q + 1)).map WF.data := by
  rw [take_at h, List.map_append, getD_at h]
  rfl
end
end Go.Wr


namespace Go.Wr
open Go.AL
/-- one side of a connection: its end, what was sent from it, what it delivered, the datagrams on the way to it -/
structure Side where
  e : WE
  s : List ByteArray
  g : List ByteArray
  n : List (List Int)
/-- an early frame at a side of which b is the other one -/
def EF (b : Side) (f : WF) : Prop := ∃ s, 1 ≤ f.seq ∧ b.s[f.seq.toNat - 1]? = some s ∧ f.data = byL s
/-- a frame on the way to a -/
def DG (w : Int) (a b : Side) (f : WF) : Prop := 0 ≤ f.ack ∧ f.ack ≤ b.e.got ∧ ((f.seq = 0 ∧ f.data = []) ∨ (f.seq ≤ a.e.got + w ∧ EF b f))
structure SideOK (w : Int) (m : Nat) (a b : Side) : Prop where
  win : a.e.window = w
  w1 : 1 ≤ w ∧ w ≤ 16
  base0 : 0 ≤ a.e.base
  sent : a.e.sent = (a.s.drop a.e.base.toNat).map byL
  wide : (a.e.sent.length : Int) ≤ w
  count : a.e.base + (a.e.sent.length : Int) = (a.s.length : Int)
  many : a.s.length ≤ m
  short : ∀ s ∈ a.s, s.size ≤ 1000
  got : a.e.got = (a.g.length : Int)
  pre : a.g = b.s.take a.g.length
  gle : a.g.length ≤ b.s.length
  acked : b.e.base ≤ a.e.got
  early : ∀ f ∈ a.e.early, a.e.got + 2 ≤ f.seq ∧ f.seq ≤ a.e.got + w ∧ f.ack = 0 ∧ EF b f
  srt : Srt a.e.early
  net : ∀ d ∈ a.n, ∃ f, d = dgF f ∧ DG w a b f
section
variable {w : Int} {m : Nat} {a b : Side} {f : WF}
theorem early_of : ∀ (l : List WF) (next hi : Int), (∀ f ∈ l, next ≤ f.seq ∧ f.seq ≤ hi ∧ f.ack = 0 ∧ f.data.length ≤ 1000) → Srt l → earlyOK next hi l = true := by
  intro l
  induction l with
  | nil => intro next hi _ _; rfl
  | cons f r ih =>
    intro next hi h hs
    obtain ⟨h1, h2, h3, h4⟩ := h f (List.mem_cons_self ..)
    have hs' := List.pairwise_cons.1 hs
    rw [earlyOK, ih (f.seq + 1) hi (fun g hg => by
      obtain ⟨g1, g2, g3, g4⟩ := h g (List.mem_cons_of_mem _ hg)
      have := hs'.1 g hg
      exact ⟨by omega, g2, g3, g4⟩) hs'.2]
    unfold lenOK
    rw [decide_eq_true h1, decide_eq_true h2, decide_eq_true h3, decide_eq_true h4]
    rfl
theorem EF.bd (h : EF b f) (hs : ∀ s ∈ b.s, s.size ≤ 1000) : 1 ≤ f.seq ∧ f.seq ≤ (b.s.length : Int) ∧ f.data.length ≤ 1000 := by
  obtain ⟨s, h1, h2, h3⟩ := h
  obtain ⟨hlt, rfl⟩ := List.getElem?_eq_some_iff.1 h2
  refine ⟨h1, by omega, ?_⟩
  rw [h3, byL_len]
  exact hs _ (List.getElem_mem hlt)
theorem SideOK.valid (h : SideOK w m a b) (h' : SideOK w m b a) (hm : m ≤ 150) : validF a.e = true := by
  have h1 := h.w1
  have h2 := h.count
  have h3 := h.many
  have h4 := h'.many
  have h5 := h.gle
  have h6 := h.got
  have h7 := h.base0
  have h8 := h.wide
  have h9 := h.win
  rw [valid_yes]
  · rw [Bool.and_eq_true]
    constructor
    · rw [List.all_eq_true]
      intro x hx
      rw [h.sent] at hx
      obtain ⟨s, hs, rfl⟩ := List.mem_map.1 hx
      unfold lenOK
      rw [decide_eq_true_eq, byL_len]
      exact h.short s (List.mem_of_mem_drop hs)
    · refine early_of _ _ _ (fun f hf => ?_) h.srt
      obtain ⟨g1, g2, g3, g4⟩ := h.early f hf
      obtain ⟨b1, b2, b3⟩ := g4.bd h'.short
      unfold hiF
      exact ⟨g1, by omega, g3, b3⟩
  · unfold headOK
    omega
/-- the frames that a side transmits -/
theorem frames_at (h : SideOK w m a b) (h' : SideOK w m b a) (hm : m ≤ 150) :
    (a.e.sent.length = 0 ∧ framesF a.e = [dgF ⟨0, a.e.got, []⟩]) ∨
    (a.e.sent.length ≠ 0 ∧ (framesF a.e).length = a.e.sent.length ∧ ∀ i, i < a.e.sent.length → ∃ s, a.s[a.e.base.toNat + i]? = some s ∧ (framesF a.e)[i]? = some (dgF ⟨a.e.base + 1 + (i : Int), a.e.got, byL s⟩)) := by
  have hv := h.valid h' hm
  have h3 := h.many
  have h4 := h'.many
  have h5 := h.gle
  have h6 := h.got
  have h7 := h.base0
  have h2 := h.count
  by_cases h0 : a.e.sent.length = 0
  · left
    refine ⟨h0, ?_⟩
    rw [frames_2 hv h0, enc_t]
    exact ⟨Int.le_refl 0, by simp only; omega, by simp only; omega, by simp only; omega, Nat.zero_le _, fun _ => rfl⟩
  · right
    rw [frames_3 hv h0]
    refine ⟨h0, List.length_mapIdx, fun i hi => ?_⟩
    have hsl : (a.s.drop a.e.base.toNat).length = a.e.sent.length := by rw [List.length_drop]; omega
    refine ⟨(a.s.drop a.e.base.toNat)[i]'(by omega), ?_, ?_⟩
    · rw [← List.getElem?_drop, List.getElem?_eq_getElem]
    · rw [List.getElem?_mapIdx, List.getElem?_eq_getElem hi, Option.map_some]
      unfold fr1
      have e : a.e.sent[i] = byL ((a.s.drop a.e.base.toNat)[i]'(by omega)) := by
        have := List.getElem_of_eq h.sent hi
        rw [this, List.getElem_map]
      rw [e, enc_t]
      have hs := h.short _ (List.mem_of_mem_drop (List.getElem_mem (by omega : i < (a.s.drop a.e.base.toNat).length)))
      rw [← byL_len] at hs
      exact ⟨by simp only; omega, by simp only; omega, by simp only; omega, by simp only; omega, hs, fun h0 => by simp only at h0; omega⟩
theorem frames_dg (h : SideOK w m a b) (h' : SideOK w m b a) (hm : m ≤ 150) : ∀ d ∈ framesF a.e, ∃ f, d = dgF f ∧ DG w b a f := by
  intro d hd
  have h6 := h.got
  have h7 := h.base0
  have h8 := h.wide
  have h9 := h'.acked
  rcases frames_at h h' hm with ⟨_, h0⟩ | ⟨_, hl, hi⟩
  · rw [h0, List.mem_singleton] at hd
    exact ⟨_, hd, by show (0 : Int) ≤ a.e.got; omega, Int.le_refl _, .inl ⟨rfl, rfl⟩⟩
  · obtain ⟨i, hil, rfl⟩ := List.mem_iff_getElem.1 hd
    obtain ⟨s, hs, hf⟩ := hi i (by omega)
    rw [List.getElem?_eq_getElem hil] at hf
    refine ⟨_, Option.some.inj hf, by show (0 : Int) ≤ a.e.got; omega, Int.le_refl _, .inr ⟨by simp only; omega, s, by simp only; omega, ?_, rfl⟩⟩
    simp only
    rw [show (a.e.base + 1 + (i : Int)).toNat - 1 = a.e.base.toNat + i by omega]
    exact hs
-- what arrives
theorem pos_cons {o : WF} {l : List WF} {x : Int} (hs : Srt (o :: l)) : pos (o :: l) x = if o.seq < x then pos l x + 1 else 0 := by
  have h1 := (List.pairwise_cons.1 hs).1
  unfold pos
  rw [List.countP_cons]
  by_cases h : o.seq < x
  · rw [if_pos (decide_eq_true h), if_pos h]
  · rw [if_neg (by simpa using h), if_neg h, Nat.add_zero, List.countP_eq_zero]
    intro y hy
    have := h1 y hy
    simp
    omega
theorem insL_cons {o x : WF} {l : List WF} {i : Nat} : insL (o :: l) (i + 1) x = o :: insL l i x := rfl
theorem ins_srt (x : WF) : ∀ l : List WF, Srt l → fnd l x.seq = false → Srt (insL l (pos l x.seq) x) := by
  intro l
  induction l with
  | nil => intro _ _; exact List.pairwise_singleton _ _
  | cons o l ih =>
    intro hs hf
    have hs' := List.pairwise_cons.1 hs
    have hne : o.seq ≠ x.seq ∧ fnd l x.seq = false := by
      unfold fnd at hf ⊢
      rw [List.any_cons, Bool.or_eq_false_iff] at hf
      exact ⟨by simpa using hf.1, hf.2⟩
    rw [pos_cons hs]
    split
    · next h =>
      rw [insL_cons]
      refine List.pairwise_cons.2 ⟨fun y hy => ?_, ih hs'.2 hne.2⟩
      unfold insL at hy
      rcases List.mem_append.1 hy with hy | hy
      · exact hs'.1 y (List.mem_of_mem_take hy)
      · rcases List.mem_cons.1 hy with rfl | hy
        · exact h
        · exact hs'.1 y (List.mem_of_mem_drop hy)
    · next h =>
      refine List.pairwise_cons.2 ⟨fun y hy => ?_, hs⟩
      rcases List.mem_cons.1 hy with rfl | hy
      · have := hne.1; omega
      · have := hs'.1 y hy; have := hne.1; omega
theorem add_srt {x : WF} {l : List WF} (hs : Srt l) : Srt (addF l x) := by
  cases h : fnd l x.seq with
  | true => rw [add_yes h]; exact hs
  | false => rw [add_no h]; exact ins_srt x l hs h
theorem add_mem {x y : WF} {l : List WF} (h : y ∈ addF l x) : y ∈ l ∨ y = x := by
  cases hf : fnd l x.seq with
  | true => rw [add_yes hf] at h; exact .inl h
  | false =>
    rw [add_no hf] at h
    unfold insL at h
    rcases List.mem_append.1 h with h | h
    · exact .inl (List.mem_of_mem_take h)
    · rcases List.mem_cons.1 h with h | h
      · exact .inr h
      · exact .inl (List.mem_of_mem_drop h)
/-- the frame with the number x is there -/
theorem add_has {x : WF} {l : List WF} : ∃ y ∈ addF l x, y.seq = x.seq := by
  cases hf : fnd l x.seq with
  | true =>
    rw [add_yes hf]
    unfold fnd at hf
    rw [List.any_eq_true] at hf
    obtain ⟨y, hy, e⟩ := hf
    exact ⟨y, hy, by simpa using e⟩
  | false =>
    rw [add_no hf]
    exact ⟨x, by unfold insL; simp, rfl⟩
/-- what is delivered, and what stays -/
theorem dlv_spec (S : List ByteArray) : ∀ (l : List WF) (g : Nat), Srt l → (∀ f ∈ l, (g : Int) + 1 ≤ f.seq ∧ ∃ s, S[f.seq.toNat - 1]? = some s ∧ f.data = byL s) →
    ((l.take (dlv g l)).map WF.data).map strB = (S.drop g).take (dlv g l) ∧ (dlv g l = 0 ∨ g + dlv g l ≤ S.length) ∧ (∀ f ∈ l.drop (dlv g l), (g : Int) + (dlv g l : Int) + 2 ≤ f.seq) ∧ ((∃ f ∈ l, f.seq = (g : Int) + 1) → 1 ≤ dlv g l) := by
  intro l
  induction l with
  | nil => intro g _ _; simp [dlv]
  | cons f r ih =>
    intro g hs h
    have hs' := List.pairwise_cons.1 hs
    obtain ⟨h1, s, h2, h3⟩ := h f (List.mem_cons_self ..)
    rw [dlv]
    split
    · next he =>
      have hg : f.seq.toNat - 1 = g := by omega
      rw [hg] at h2
      obtain ⟨hlt, hsv⟩ := List.getElem?_eq_some_iff.1 h2
      obtain ⟨i1, i2, i3, _⟩ := ih (g + 1) hs'.2 (fun y hy => ⟨by have := hs'.1 y hy; omega, (h y (List.mem_cons_of_mem _ hy)).2⟩)
      have hc : ((g + 1 : Nat) : Int) = (g : Int) + 1 := by omega
      rw [hc] at i1 i2 i3
      refine ⟨?_, .inr (by omega), fun y hy => ?_, fun _ => by omega⟩
      · rw [List.take_succ_cons, List.map_cons, List.map_cons, i1, List.drop_eq_getElem_cons hlt, List.take_succ_cons, h3, strB_byL, hsv]
      · rw [List.drop_succ_cons] at hy
        have := i3 y hy
        omega
    · next he =>
      refine ⟨rfl, .inl rfl, fun y hy => ?_, fun ⟨y, hy, hyg⟩ => ?_⟩
      · rw [List.drop_zero] at hy
        rcases List.mem_cons.1 hy with rfl | hy
        · omega
        · have := hs'.1 y hy; omega
      · rcases List.mem_cons.1 hy with rfl | hy
        · exact absurd hyg he
        · have := hs'.1 y hy; omega
/-- the acknowledgment moves the window -/
theorem base_spec {e : WE} {S : List ByteArray} {x : Int} (h0 : 0 ≤ e.base) (hs : e.sent = (S.drop e.base.toNat).map byL) (hc : e.base + (e.sent.length : Int) = (S.length : Int)) (hx : x ≤ (S.length : Int)) :
    0 ≤ baseF e x ∧ sentF e x = (S.drop (baseF e x).toNat).map byL ∧ baseF e x + ((sentF e x).length : Int) = (S.length : Int) ∧ (sentF e x).length ≤ e.sent.length ∧ e.base ≤ baseF e x ∧ x ≤ baseF e x ∧ (baseF e x = e.base ∨ baseF e x = x) := by
  by_cases h : 0 < x - e.base
  · rw [baseF_t h, sentF_t h]
    have e1 : e.sent.drop (x - e.base).toNat = (S.drop x.toNat).map byL := by
      rw [hs, ← List.map_drop, List.drop_drop]
      congr 2
      omega
    refine ⟨by omega, e1, ?_, by rw [List.length_drop]; omega, by omega, Int.le_refl _, .inr rfl⟩
    rw [List.length_drop]
    omega
  · rw [baseF_f h, sentF_f h]
    exact ⟨h0, hs, hc, Nat.le_refl _, Int.le_refl _, by omega, .inl rfl⟩
def rstep (a : Side) (d : List Int) : Side := { a with e := (recvF a.e d).1, g := a.g ++ (recvF a.e d).2.1.map strB }
theorem DG.ok (hf : DG w a b f) (h : SideOK w m a b) (h' : SideOK w m b a) (hm : m ≤ 150) : frOK f := by
  obtain ⟨h1, h2, h3⟩ := hf
  have g1 := h'.got
  have g2 := h'.gle
  have g3 := h.many
  have g4 := h'.many
  rcases h3 with ⟨e1, e2⟩ | ⟨_, h4⟩
  · exact ⟨by omega, by omega, h1, by omega, by rw [e2]; exact Nat.zero_le _, fun _ => by rw [e2]; rfl⟩
  · obtain ⟨b1, b2, b3⟩ := h4.bd h'.short
    exact ⟨by omega, by omega, h1, by omega, b3, fun h0 => by omega⟩
/-- **a datagram on the way is received**: there is no error, and both sides stay as they should be -/
theorem recv_ok (h : SideOK w m a b) (h' : SideOK w m b a) (hm : m ≤ 150) (hf : DG w a b f) :
    (recvF a.e (dgF f)).2.2 = 0 ∧ SideOK w m (rstep a (dgF f)) b ∧ SideOK w m b (rstep a (dgF f)) ∧
    (a.g.length ≤ (rstep a (dgF f)).g.length ∧ (f.seq ≤ a.e.got + 1 → f.seq ≤ (rstep a (dgF f)).e.got) ∧ a.e.base ≤ (rstep a (dgF f)).e.base ∧ f.ack ≤ (rstep a (dgF f)).e.base) ∧ (recvF a.e (dgF f)).2.1.length ≤ 17 := by
  have hfo := hf.ok h h' hm
  have hv := h.valid h' hm
  have hde := dec_enc hfo
  have hre : recvF a.e (dgF f) = recvE a.e f := by rw [recv_e hv (by rw [hde]), hde]
  have hbd := valid_bd hv
  obtain ⟨f1, f2, f3⟩ := hf
  have g1 := h.got
  have g2 := h.gle
  have g3 := h.many
  have g4 := h'.many
  have g5 := h'.got
  have g6 := h'.gle
  have g7 := h.acked
  have hw := h.w1
  have hwin := h.win
  have hcount := h.count
  have hwide := h.wide
  obtain ⟨c1, c2, c3, c4, c5, c6, c7⟩ := base_spec (x := f.ack) h.base0 h.sent h.count (by omega)
  have hacked : baseF a.e f.ack ≤ b.e.got := by
    have := h'.acked
    rcases c7 with e | e <;> omega
  have hseq : f.seq ≤ (b.s.length : Int) := by
    rcases f3 with ⟨e1, _⟩ | ⟨_, h4⟩
    · omega
    · exact (h4.bd h'.short).2.1
  have hseqw : f.seq ≤ a.e.got + w := by
    rcases f3 with ⟨e1, _⟩ | ⟨h4, _⟩ <;> omega
  have hin : ¬ (f.ack > a.e.base + (a.e.sent.length : Int) ∨ f.seq > hiF a.e) := by
    unfold hiF
    omega
  by_cases hold : f.seq ≤ a.e.got
  · have hr := recvE_4 hin hold
    rw [← hre] at hr
    have hst : rstep a (dgF f) = { a with e := ⟨a.e.window, baseF a.e f.ack, sentF a.e f.ack, a.e.got, a.e.early⟩ } := by
      unfold rstep
      rw [hr]
      simp
    rw [hst, hr]
    refine ⟨rfl, ⟨h.win, h.w1, c1, c2, by simp only; omega, c3, h.many, h.short, h.got, h.pre, h.gle, h.acked, h.early, h.srt, h.net⟩,
      ⟨h'.win, h'.w1, h'.base0, h'.sent, h'.wide, h'.count, h'.many, h'.short, h'.got, h'.pre, h'.gle, hacked, h'.early, h'.srt, h'.net⟩, ⟨Nat.le_refl _, fun _ => hold, c5, c6⟩, by simp⟩
  · have hEF : EF b f := by
      rcases f3 with ⟨e1, _⟩ | ⟨_, h4⟩
      · omega
      · exact h4
    obtain ⟨n, hn⟩ : ∃ n, n = dlv a.e.got (early1 a.e f) := ⟨_, rfl⟩
    have hr := recvE_5 hin hold hn.symm
    rw [← hre] at hr
    obtain ⟨l, hl⟩ : ∃ l, l = early1 a.e f := ⟨_, rfl⟩
    rw [← hl] at hr hn
    have hll : l.length ≤ 17 := by rw [hl]; exact early1_len hbd
    have hmem : ∀ y ∈ l, a.e.got + 1 ≤ y.seq ∧ y.seq ≤ a.e.got + w ∧ y.ack = 0 ∧ EF b y := by
      intro y hy
      rw [hl] at hy
      rcases add_mem hy with hy | rfl
      · obtain ⟨e1, e2, e3, e4⟩ := h.early y hy
        exact ⟨by omega, e2, e3, e4⟩
      · exact ⟨by simp only; omega, hseqw, rfl, hEF⟩
    have hsrt : Srt l := by rw [hl]; exact add_srt h.srt
    have hspec := dlv_spec b.s l a.g.length hsrt (fun y hy => by
      obtain ⟨e1, _, _, s, _, e2, e3⟩ := hmem y hy
      exact ⟨by omega, s, e2, e3⟩)
    rw [← g1, ← hn] at hspec
    obtain ⟨s1, s2, s3, s4⟩ := hspec
    have hnl : n ≤ l.length := by rw [hn]; exact dlv_le _ _
    have hlen : (((l.take n).map WF.data).map strB).length = n := by rw [List.length_map, List.length_map, List.length_take]; omega
    have hst : rstep a (dgF f) = { a with e := ⟨a.e.window, baseF a.e f.ack, sentF a.e f.ack, a.e.got + (n : Int), l.drop n⟩, g := a.g ++ ((l.take n).map WF.data).map strB } := by
      unfold rstep
      rw [hr]
    have hgl : (a.g ++ ((l.take n).map WF.data).map strB).length = a.g.length + n := by rw [List.length_append, hlen]
    have hpre : a.g ++ ((l.take n).map WF.data).map strB = b.s.take (a.g.length + n) := by
      rw [s1, List.take_add]
      congr 1
      exact h.pre
    rw [hst, hr]
    refine ⟨rfl, ⟨h.win, h.w1, c1, c2, by simp only; omega, c3, h.many, h.short, ?_, ?_, ?_, ?_, ?_, ?_, ?_⟩,
      ⟨h'.win, h'.w1, h'.base0, h'.sent, h'.wide, h'.count, h'.many, h'.short, h'.got, h'.pre, h'.gle, hacked, h'.early, h'.srt, ?_⟩, ⟨?_, ?_, c5, c6⟩, ?_⟩
    · show a.e.got + (n : Int) = _
      rw [hgl]; omega
    · show _ = b.s.take (a.g ++ ((l.take n).map WF.data).map strB).length
      rw [hgl]; exact hpre
    · show (a.g ++ ((l.take n).map WF.data).map strB).length ≤ _
      rw [hgl]; omega
    · show _ ≤ a.e.got + (n : Int)
      omega
    · intro y hy
      obtain ⟨e1, e2, e3, e4⟩ := hmem y (List.mem_of_mem_drop hy)
      have := s3 y hy
      refine ⟨?_, ?_, e3, e4⟩
      · show a.e.got + (n : Int) + 2 ≤ _
        exact this
      · show _ ≤ a.e.got + (n : Int) + w
        omega
    · exact List.Pairwise.sublist (List.drop_sublist n l) hsrt
    · intro d hd
      obtain ⟨y, hy, e1, e2, e3⟩ := h.net d hd
      refine ⟨y, hy, e1, e2, ?_⟩
      rcases e3 with e3 | ⟨e3, e4⟩
      · exact .inl e3
      · refine .inr ⟨?_, e4⟩
        show _ ≤ a.e.got + (n : Int) + w
        omega
    · intro d hd
      obtain ⟨y, hy, e1, e2, e3⟩ := h'.net d hd
      refine ⟨y, hy, e1, ?_, e3⟩
      show _ ≤ a.e.got + (n : Int)
      omega
    · rw [hgl]; omega
    · intro hle
      show _ ≤ a.e.got + (n : Int)
      have := s4 (by
        obtain ⟨y, hy, hys⟩ := add_has (x := ⟨f.seq, 0, f.data⟩) (l := a.e.early)
        exact ⟨y, by rw [hl]; exact hy, by rw [hys]; simp only; omega⟩)
      omega
    · rw [List.length_map, List.length_take]
      omega
end
end Go.Wr


namespace Go.Wr
open Go.AL
def Inv (w : Int) (m : Nat) (a b : Side) : Prop := SideOK w m a b ∧ SideOK w m b a
section
variable {w : Int} {m : Nat} {a b : Side} {f : WF}
theorem Inv.swap (h : Inv w m a b) : Inv w m b a := ⟨h.2, h.1⟩
theorem SideOK.mono {m' : Nat} (h : SideOK w m a b) (hm : m ≤ m') : SideOK w m' a b :=
  ⟨h.win, h.w1, h.base0, h.sent, h.wide, h.count, Nat.le_trans h.many hm, h.short, h.got, h.pre, h.gle, h.acked, h.early, h.srt, h.net⟩
theorem Inv.mono {m' : Nat} (h : Inv w m a b) (hm : m ≤ m') : Inv w m' a b := ⟨h.1.mono hm, h.2.mono hm⟩
/-- other datagrams on the way -/
theorem Inv.net (h : Inv w m a b) {n : List (List Int)} (hn : ∀ d ∈ n, ∃ f, d = dgF f ∧ DG w a b f) : Inv w m { a with n := n } b :=
  ⟨⟨h.1.win, h.1.w1, h.1.base0, h.1.sent, h.1.wide, h.1.count, h.1.many, h.1.short, h.1.got, h.1.pre, h.1.gle, h.1.acked, h.1.early, h.1.srt, hn⟩,
   ⟨h.2.win, h.2.w1, h.2.base0, h.2.sent, h.2.wide, h.2.count, h.2.many, h.2.short, h.2.got, h.2.pre, h.2.gle, h.2.acked, h.2.early, h.2.srt, h.2.net⟩⟩
def addN (n fs : List (List Int)) : List (List Int) := fs.foldl (fun n d => if n.length < 60 then n ++ [d] else n) n
theorem addN_at {n fs : List (List Int)} {k : Nat} (hk : k < fs.length) : addN n (fs.take (k + 1)) = if (addN n (fs.take k)).length < 60 then addN n (fs.take k) ++ [fs[k]] else addN n (fs.take k) := by
  unfold addN
  rw [take_at hk, List.foldl_append]
  rfl
theorem addN_mem {d : List Int} : ∀ (fs n : List (List Int)), d ∈ addN n fs → d ∈ n ∨ d ∈ fs := by
  intro fs
  induction fs with
  | nil => intro n h; exact .inl h
  | cons x fs ih =>
    intro n h
    have h : d ∈ addN (if n.length < 60 then n ++ [x] else n) fs := h
    rcases ih _ h with h | h
    · split at h
      · rcases List.mem_append.1 h with h | h
        · exact .inl h
        · rw [List.mem_singleton] at h
          subst h
          exact .inr (List.mem_cons_self ..)
      · exact .inl h
    · exact .inr (List.mem_cons_of_mem _ h)
def cutN (n : List (List Int)) (i : Nat) : List (List Int) := n.take i ++ n.drop (i + 1)
theorem cutN_mem {n : List (List Int)} {i : Nat} {d : List Int} (h : d ∈ cutN n i) : d ∈ n := by
  unfold cutN at h
  rcases List.mem_append.1 h with h | h
  · exact List.mem_of_mem_take h
  · exact List.mem_of_mem_drop h
def sendS (a : Side) (d : ByteArray) : Side := if (sendF a.e (byL d)).2 = 0 then { a with e := (sendF a.e (byL d)).1, s := a.s ++ [d] } else a
theorem EF.app {b : Side} {s : List ByteArray} {e : WE} {g : List ByteArray} {n : List (List Int)} (h : EF b f) : EF ⟨e, b.s ++ s, g, n⟩ f := by
  obtain ⟨x, h1, h2, h3⟩ := h
  refine ⟨x, h1, ?_, h3⟩
  obtain ⟨hlt, _⟩ := List.getElem?_eq_some_iff.1 h2
  show (b.s ++ s)[f.seq.toNat - 1]? = _
  rw [List.getElem?_append_left hlt]
  exact h2
theorem send_cases (h : Inv w m a b) (hm : m < 150) {d : ByteArray} (hd : d.size ≤ 1000) : (sendF a.e (byL d) = ({ a.e with sent := a.e.sent ++ [byL d] }, 0) ∧ (a.e.sent.length : Int) < w) ∨ (sendF a.e (byL d) = (WE0, 11) ∧ (a.e.sent.length : Int) = a.e.window) := by
  have hv := h.1.valid h.2 (by omega)
  have h1 := h.1.count
  have h2 := h.1.many
  have h3 := h.1.wide
  have h4 := h.1.win
  have hc : ¬ ((byL d).length > 1000 ∨ a.e.base + (a.e.sent.length : Int) ≥ 1000000000) := by rw [byL_len]; omega
  by_cases he : (a.e.sent.length : Int) = a.e.window
  · exact .inr ⟨send_3 hv hc he, he⟩
  · exact .inl ⟨send_4 hv hc he, by omega⟩
theorem send_inv (h : Inv w m a b) (hm : m < 150) {d : ByteArray} (hd : d.size ≤ 1000) : Inv w (m + 1) (sendS a d) b := by
  unfold sendS
  rcases send_cases h hm hd with ⟨e, hw⟩ | ⟨e, _⟩
  · rw [e, if_pos rfl]
    obtain ⟨ha, hb⟩ := h
    have h0 := ha.base0
    have hc := ha.count
    have hs : a.e.sent ++ [byL d] = ((a.s ++ [d]).drop a.e.base.toNat).map byL := by
      rw [List.drop_append_of_le_length (by omega), List.map_append, ← ha.sent]
      rfl
    refine ⟨⟨ha.win, ha.w1, ha.base0, hs, ?_, ?_, ?_, ?_, ha.got, ha.pre, ha.gle, ha.acked, ha.early, ha.srt, ha.net⟩,
      ⟨hb.win, hb.w1, hb.base0, hb.sent, hb.wide, hb.count, Nat.le_succ_of_le hb.many, hb.short, hb.got, ?_, ?_, hb.acked, ?_, hb.srt, ?_⟩⟩
    · show ((a.e.sent ++ [byL d]).length : Int) ≤ w
      simp only [List.length_append, List.length_singleton]
      omega
    · show a.e.base + ((a.e.sent ++ [byL d]).length : Int) = ((a.s ++ [d]).length : Int)
      simp only [List.length_append, List.length_singleton]
      omega
    · show (a.s ++ [d]).length ≤ m + 1
      have := ha.many
      simp only [List.length_append, List.length_singleton]
      omega
    · intro x hx
      rcases List.mem_append.1 hx with hx | hx
      · exact ha.short x hx
      · rw [List.mem_singleton] at hx
        subst hx
        exact hd
    · show b.g = (a.s ++ [d]).take b.g.length
      rw [List.take_append_of_le_length hb.gle]
      exact hb.pre
    · show b.g.length ≤ (a.s ++ [d]).length
      have := hb.gle
      simp only [List.length_append, List.length_singleton]
      omega
    · intro y hy
      obtain ⟨e1, e2, e3, e4⟩ := hb.early y hy
      exact ⟨e1, e2, e3, e4.app⟩
    · intro x hx
      obtain ⟨y, hy, e1, e2, e3⟩ := hb.net x hx
      refine ⟨y, hy, e1, e2, ?_⟩
      rcases e3 with e3 | ⟨e3, e4⟩
      · exact .inl e3
      · exact .inr ⟨e3, e4.app⟩
  · rw [e, if_neg (by decide)]
    exact h.mono (by omega)
theorem recv_inv (h : Inv w m a b) (hm : m ≤ 150) (hf : DG w a b f) : Inv w m (rstep a (dgF f)) b :=
  have := recv_ok h.1 h.2 hm hf
  ⟨this.2.1, this.2.2.1⟩
theorem put_inv (h : Inv w m a b) (hm : m ≤ 150) : Inv w m a { b with n := addN b.n (framesF a.e) } := by
  refine (h.swap.net (n := addN b.n (framesF a.e)) fun d hd => ?_).swap
  rcases addN_mem _ _ hd with hd | hd
  · exact h.2.net d hd
  · exact frames_dg h.1 h.2 hm d hd
theorem cut_inv (h : Inv w m a b) (i : Nat) : Inv w m { a with n := cutN a.n i } b := h.net fun d hd => h.1.net d (cutN_mem hd)
-- a step of a script at a
def dataS (a : Side) (p : Int) : ByteArray := strB [IntKind.u8.wrap (97 + (a.s.length : Int).tmod 26), p]
def pickI (a : Side) (p : Int) : Nat := (p.tmod (a.n.length : Int)).toNat
def pickD (a : Side) (p : Int) : List Int := a.n.getD (pickI a p) []
def stepF (a b : Side) (k p : Int) : Side × Side :=
  if k = 0 then (sendS a (dataS a p), b)
  else if k = 1 then (a, { b with n := addN b.n (framesF a.e) })
  else if k = 2 then (if a.n.length = 0 then (a, b) else (rstep { a with n := cutN a.n (pickI a p) } (pickD a p), b))
  else if k = 3 then (if a.n.length = 0 then (a, b) else (rstep a (pickD a p), b))
  else (if a.n.length = 0 then (a, b) else ({ a with n := cutN a.n (pickI a p) }, b))
theorem data_size (a : Side) (p : Int) : (dataS a p).size = 2 := strB_len _
theorem pick_lt {p : Int} (h : a.n.length ≠ 0) (hp : 0 ≤ p) : p.tmod (a.n.length : Int) = (pickI a p : Int) ∧ pickI a p < a.n.length := by
  unfold pickI
  rw [Int.tmod_eq_emod_of_nonneg hp]
  have h1 := Int.emod_nonneg p (show ((a.n.length : Nat) : Int) ≠ 0 by omega)
  have h2 := Int.emod_lt_of_pos p (show (0 : Int) < (a.n.length : Int) by omega)
  omega
theorem pick_at {p : Int} (h : a.n.length ≠ 0) (hp : 0 ≤ p) : a.n[pickI a p]? = some (pickD a p) := by
  have hl := (pick_lt h hp).2
  unfold pickD
  rw [List.getD_eq_getElem?_getD, List.getElem?_eq_getElem hl]
  rfl
theorem pick_dg {p : Int} (h : Inv w m a b) (h0 : a.n.length ≠ 0) (hp : 0 ≤ p) : ∃ f, pickD a p = dgF f ∧ DG w a b f := h.1.net _ (List.mem_of_getElem? (pick_at h0 hp))
theorem step_inv (h : Inv w m a b) (hm : m < 150) {k p : Int} (hp : 0 ≤ p) : Inv w (m + 1) (stepF a b k p).1 (stepF a b k p).2 := by
  unfold stepF
  split
  · exact send_inv h hm (by rw [data_size]; decide)
  · split
    · exact (put_inv h (by omega)).mono (by omega)
    · split
      · split
        · exact h.mono (by omega)
        · next h0 =>
          obtain ⟨f, e, hf⟩ := pick_dg h h0 hp
          rw [e]
          exact (recv_inv (a := { a with n := cutN a.n (pickI a p) }) (cut_inv h _) (by omega) hf).mono (by omega)
      · split
        · split
          · exact h.mono (by omega)
          · next h0 =>
            obtain ⟨f, e, hf⟩ := pick_dg h h0 hp
            rw [e]
            exact (recv_inv h (by omega) hf).mono (by omega)
        · split
          · exact h.mono (by omega)
          · exact (cut_inv h _).mono (by omega)
-- a step at either side
def doF (s : Side × Side) (k e p : Int) : Side × Side := if e.tmod 2 = 0 then stepF s.1 s.2 (k.tmod 5) p else ((stepF s.2 s.1 (k.tmod 5) p).2, (stepF s.2 s.1 (k.tmod 5) p).1)
theorem do_inv {s : Side × Side} (h : Inv w m s.1 s.2) (hm : m < 150) {k e p : Int} (hp : 0 ≤ p) : Inv w (m + 1) (doF s k e p).1 (doF s k e p).2 := by
  unfold doF
  split
  · exact step_inv h hm hp
  · exact (step_inv h.swap hm hp).swap
def side0 (w : Int) : Side := ⟨⟨w, 0, [], 0, []⟩, [], [], []⟩
theorem start_ok (h : 1 ≤ w ∧ w ≤ 16) : SideOK w 0 (side0 w) (side0 w) :=
  ⟨rfl, h, Int.le_refl 0, rfl, by show (0 : Int) ≤ w; omega, rfl, Nat.le_refl _, fun s hs => by simp [side0] at hs, rfl, rfl, Nat.le_refl _, Int.le_refl 0, fun f hf => by simp [side0] at hf, List.Pairwise.nil, fun d hd => by simp [side0] at hd⟩
theorem start_inv (h : 1 ≤ w ∧ w ≤ 16) : Inv w 0 (side0 w) (side0 w) := ⟨start_ok h, start_ok h⟩
-- complete transmissions
def feed (b : Side) (fs : List (List Int)) : Side := fs.foldl rstep b
theorem feed_at {fs : List (List Int)} {k : Nat} (hk : k < fs.length) : feed b (fs.take (k + 1)) = rstep (feed b (fs.take k)) fs[k] := by
  unfold feed
  rw [take_at hk, List.foldl_append]
  rfl
theorem feed_s (fs : List (List Int)) : ∀ b : Side, (feed b fs).s = b.s ∧ (feed b fs).n = b.n := by
  induction fs with
  | nil => intro b; exact ⟨rfl, rfl⟩
  | cons d fs ih => intro b; exact ih (rstep b d)
/-- while a's frames arrive at b -/
theorem feed_inv (h : Inv w m a b) (hm : m ≤ 150) : ∀ k, k ≤ (framesF a.e).length → Inv w m a (feed b ((framesF a.e).take k)) ∧ b.e.got ≤ (feed b ((framesF a.e).take k)).e.got ∧ (0 < k → a.e.got ≤ (feed b ((framesF a.e).take k)).e.base) ∧ (a.e.sent.length ≠ 0 → a.e.base + (k : Int) ≤ (feed b ((framesF a.e).take k)).e.got) := by
  intro k
  induction k with
  | zero =>
    intro _
    refine ⟨h, Int.le_refl _, fun h0 => absurd h0 (Nat.lt_irrefl 0), fun _ => ?_⟩
    have := h.2.acked
    show a.e.base + ((0 : Nat) : Int) ≤ b.e.got
    omega
  | succ k ih =>
    intro hk
    obtain ⟨i1, i2, i3, i4⟩ := ih (by omega)
    rw [feed_at (by omega)]
    generalize hbk : feed b ((framesF a.e).take k) = bk at i1 i2 i3 i4
    obtain ⟨f, hf, hd⟩ := frames_dg h.1 h.2 hm _ (List.getElem_mem (by omega : k < (framesF a.e).length))
    have hd' : DG w bk a f := by
      obtain ⟨e1, e2, e3⟩ := hd
      refine ⟨e1, e2, ?_⟩
      rcases e3 with e3 | ⟨e3, e4⟩
      · exact .inl e3
      · exact .inr ⟨by omega, e4⟩
    have hr := recv_ok i1.2 i1.1 hm hd'
    rw [hf]
    obtain ⟨r1, r2, r3, ⟨r4, r5, r6, r7⟩, _⟩ := hr
    have hgot : bk.e.got ≤ (rstep bk (dgF f)).e.got := by
      rw [i1.2.got, r2.got]
      omega
    have hinj : ∀ x : WF, frOK x → dgF x = dgF f → x = f := fun x hx e => by
      have e1 := dec_enc hx
      have e2 := dec_enc (hd'.ok i1.2 i1.1 hm)
      rw [e, e2] at e1
      exact (Prod.ext_iff.1 e1).1.symm
    rcases frames_at h.1 h.2 hm with ⟨z0, z1⟩ | ⟨z0, z1, z2⟩
    · have hk0 : k = 0 := by
        rw [z1] at hk
        simp at hk
        omega
      subst hk0
      have hff : (⟨0, a.e.got, []⟩ : WF) = f := by
        refine hinj _ ?_ ?_
        · have g1 := h.1.got
          have g2 := h.1.gle
          have g3 := h.2.many
          exact ⟨Int.le_refl 0, by simp only; omega, by simp only; omega, by simp only; omega, Nat.zero_le _, fun _ => rfl⟩
        · have e := hf
          simp only [z1, List.getElem_cons_zero] at e
          exact e
      subst hff
      refine ⟨⟨r3, r2⟩, by omega, fun _ => r7, fun hne => absurd z0 hne⟩
    · obtain ⟨s, hs, hfr⟩ := z2 k (by omega)
      rw [List.getElem?_eq_getElem (by omega), hf] at hfr
      have hfr := (Option.some.inj hfr).symm
      have hff := hinj _ (by
        have g1 := h.1.got
        have g2 := h.1.gle
        have g3 := h.2.many
        have g4 := h.1.many
        have g5 := h.1.base0
        obtain ⟨hlt, hsv⟩ := List.getElem?_eq_some_iff.1 hs
        have hsz := h.1.short s (by rw [← hsv]; exact List.getElem_mem hlt)
        rw [← byL_len] at hsz
        exact ⟨by simp only; omega, by simp only; omega, by simp only; omega, by simp only; omega, hsz, fun h0 => by simp only at h0; omega⟩) hfr
      subst hff
      refine ⟨⟨r3, r2⟩, by omega, fun _ => r7, fun hne => ?_⟩
      have h4 := i4 hne
      have h5 := r5
      simp only at h5
      rcases Int.lt_or_le (bk.e.got) (a.e.base + 1 + (k : Int)) with hlt | hle
      · have := h5 (by omega)
        omega
      · omega
theorem feed_all (h : Inv w m a b) (hm : m ≤ 150) : Inv w m a (feed b (framesF a.e)) ∧ (feed b (framesF a.e)).e.got = (a.s.length : Int) ∧ a.e.got ≤ (feed b (framesF a.e)).e.base := by
  obtain ⟨i1, i2, i3, i4⟩ := feed_inv h hm _ (Nat.le_refl _)
  rw [List.take_of_length_le (Nat.le_refl _)] at i1 i2 i3 i4
  have hpos : 0 < (framesF a.e).length := by
    rcases frames_at h.1 h.2 hm with ⟨_, z1⟩ | ⟨z0, z1, _⟩
    · rw [z1]; simp
    · omega
  refine ⟨i1, ?_, i3 hpos⟩
  have g1 := i1.2.got
  have g2 := i1.2.gle
  have g3 := h.1.count
  have g4 := h.2.acked
  rcases frames_at h.1 h.2 hm with ⟨z0, _⟩ | ⟨z0, z1, _⟩
  · omega
  · have := i4 z0
    omega
/-- **three complete transmissions** -/
theorem complete (h : Inv w m a b) (hm : m ≤ 150) {b1 a2 b3 : Side} (h1 : b1 = feed b (framesF a.e)) (h2 : a2 = feed a (framesF b1.e)) (h3 : b3 = feed b1 (framesF a2.e)) :
    Inv w m a b1 ∧ Inv w m a2 b1 ∧ Inv w m a2 b3 ∧ a2.g.length = b3.s.length ∧ b3.g.length = a2.s.length ∧ a2.e.sent.length = 0 ∧ b3.e.sent.length = 0 := by
  obtain ⟨p1, p2, _⟩ := feed_all h hm
  rw [← h1] at p1 p2
  obtain ⟨q1, q2, q3⟩ := feed_all p1.swap hm
  rw [← h2] at q1 q2 q3
  have q1 := q1.swap
  obtain ⟨r1, r2, r3⟩ := feed_all q1 hm
  rw [← h3] at r1 r2 r3
  have e1 : b1.s = b.s := by rw [h1]; exact (feed_s _ b).1
  have e2 : a2.s = a.s := by rw [h2]; exact (feed_s _ a).1
  have e3 : b3.s = b1.s := by rw [h3]; exact (feed_s _ b1).1
  have c1 := r1.1.count
  have c2 := r1.2.count
  have g1 := r1.1.got
  have g2 := r1.2.got
  rw [e1] at q2
  rw [e2] at c1 r2 ⊢
  rw [e3, e1] at c2 ⊢
  exact ⟨p1, q1, r1, by omega, by omega, by omega, by omega⟩
end
end Go.Wr


namespace Go.Wr
open Go.AL
theorem frames_len (e : WE) : (framesF e).length ≤ e.sent.length + 1 := by
  unfold framesF
  split
  · exact Nat.zero_le _
  · split
    · simp
    · rw [List.length_mapIdx]; omega
end Go.Wr


namespace Go.Wr
open Go.AL
def prP (a b : Side) (i1 i2 i3 i4 i5 i6 : AL.Id) : List Pred :=
  [eqP (.int .i64 a.e.window), eqP (.int .i64 a.e.base), slP byS 1 a.e.sent, eqP (.int .i64 a.e.got), slP WF.ps 3 a.e.early,
   eqP (.int .i64 b.e.window), eqP (.int .i64 b.e.base), slP byS 1 b.e.sent, eqP (.int .i64 b.e.got), slP WF.ps 3 b.e.early,
   rowP i1 stP 1 a.s, rowP i2 stP 1 b.s, rowP i3 stP 1 a.g, rowP i4 stP 1 b.g, rowP i5 byS 1 a.n, rowP i6 byS 1 b.n]
def opP (k e p : Int) : List Pred := [eqP (.int .u8 k), eqP (.int .u8 e), eqP (.int .u8 p)]
theorem new_yes {w : Int} (h : 1 ≤ w ∧ w ≤ 16) : newF w = (⟨w, 0, [], 0, []⟩, 0) := if_pos h
section
variable {w : Int} {m : Nat} {a b : Side} {f : WF}
theorem DG.isB (h : DG w a b f) : isB (dgF f) := by
  refine dgF_isB ?_
  rcases h.2.2 with ⟨_, e⟩ | ⟨_, s, _, _, e⟩
  · rw [e]; intro x hx; cases hx
  · rw [e]; exact byL_isB s
theorem dg_len (h : frOK f) : (dgF f).length ≤ 1000000 := by
  have := enc_len2 (f := f)
  rw [enc_t h] at this
  exact Nat.le_trans this (by decide)
/-- what the walk of receive needs of a datagram -/
def RecvOK (a : Side) (d : List Int) : Prop := isB d ∧ d.length ≤ 1000000 ∧ (recvF a.e d).2.2 = 0 ∧ (recvF a.e d).2.1.length ≤ 17
theorem dg_recv (h : Inv w m a b) (hm : m ≤ 150) (hf : DG w a b f) : RecvOK a (dgF f) :=
  have := recv_ok h.1 h.2 hm hf
  ⟨hf.isB, dg_len (hf.ok h.1 h.2 hm), this.1, this.2.2.2.2⟩
theorem pick_recv {p : Int} (h : Inv w m a b) (hm : m ≤ 150) (h0 : a.n.length ≠ 0) (hp : 0 ≤ p) : RecvOK a (pickD a p) := by
  obtain ⟨f, e, hf⟩ := pick_dg h h0 hp
  rw [e]
  exact dg_recv h hm hf
theorem inv_g (h : Inv w m a b) : a.g.length ≤ m := Nat.le_trans h.1.gle h.2.many
theorem inv_frames (h : Inv w m a b) : (framesF a.e).length ≤ 17 := by
  have h1 := h.1.wide
  have h2 := h.1.w1
  have h3 := frames_len a.e
  omega
theorem u8_conv {z : Int} (h : 0 ≤ z ∧ z ≤ 255) : IntKind.i64.wrap z = z := wrap_in (by omega)
theorem add97 (k : Nat) (h : k ≤ 150) : -9223372036854775808 ≤ 97 + (k : Int).tmod 26 ∧ 97 + (k : Int).tmod 26 ≤ 9223372036854775807 := by
  rw [Int.tmod_eq_emod_of_nonneg (by omega)]
  omega
theorem tmod5 {k : Int} (h : 0 ≤ k ∧ k ≤ 255) : 0 ≤ k.tmod 5 ∧ k.tmod 5 < 5 := by
  rw [Int.tmod_eq_emod_of_nonneg h.1]
  omega
theorem tmod2 {k : Int} (h : 0 ≤ k ∧ k ≤ 255) : k.tmod 2 = 0 ∨ k.tmod 2 = 1 := by
  rw [Int.tmod_eq_emod_of_nonneg h.1]
  omega
-- the results of a step
theorem step_0t {p : Int} (h : (sendF a.e (byL (dataS a p))).2 = 0) : stepF a b 0 p = ({ a with e := (sendF a.e (byL (dataS a p))).1, s := a.s ++ [dataS a p] }, b) := by
  unfold stepF sendS
  rw [if_pos rfl, if_pos h]
theorem step_0f {p : Int} (h : (sendF a.e (byL (dataS a p))).2 ≠ 0) : stepF a b 0 p = (a, b) := by
  unfold stepF sendS
  rw [if_pos rfl, if_neg h]
theorem step_2n {p : Int} (h : a.n.length = 0) : stepF a b 2 p = (a, b) := by
  unfold stepF
  rw [if_neg (by decide), if_neg (by decide), if_pos rfl, if_pos h]
theorem step_2 {p : Int} (h : a.n.length ≠ 0) : stepF a b 2 p = (rstep { a with n := cutN a.n (pickI a p) } (pickD a p), b) := by
  unfold stepF
  rw [if_neg (by decide), if_neg (by decide), if_pos rfl, if_neg h]
theorem step_3n {p : Int} (h : a.n.length = 0) : stepF a b 3 p = (a, b) := by
  unfold stepF
  rw [if_neg (by decide), if_neg (by decide), if_neg (by decide), if_pos rfl, if_pos h]
theorem step_3 {p : Int} (h : a.n.length ≠ 0) : stepF a b 3 p = (rstep a (pickD a p), b) := by
  unfold stepF
  rw [if_neg (by decide), if_neg (by decide), if_neg (by decide), if_pos rfl, if_neg h]
theorem step_4n {p : Int} (h : a.n.length = 0) : stepF a b 4 p = (a, b) := by
  unfold stepF
  rw [if_neg (by decide), if_neg (by decide), if_neg (by decide), if_neg (by decide), if_pos h]
theorem step_4 {p : Int} (h : a.n.length ≠ 0) : stepF a b 4 p = ({ a with n := cutN a.n (pickI a p) }, b) := by
  unfold stepF
  rw [if_neg (by decide), if_neg (by decide), if_neg (by decide), if_neg (by decide), if_neg h]
/-- the number of datagrams on the way -/
def NB (a b : Side) : Prop := a.n.length ≤ 60 ∧ b.n.length ≤ 60
theorem addN_len : ∀ (fs n : List (List Int)), n.length ≤ 60 → (addN n fs).length ≤ 60 := by
  intro fs
  induction fs with
  | nil => intro n h; exact h
  | cons x fs ih =>
    intro n h
    refine ih _ ?_
    show (if n.length < 60 then n ++ [x] else n).length ≤ 60
    split
    · rw [List.length_append, List.length_singleton]; omega
    · exact h
theorem cutN_len {n : List (List Int)} {i : Nat} (h : n.length ≤ 60) : (cutN n i).length ≤ 60 := by
  unfold cutN
  rw [List.length_append, List.length_take, List.length_drop]
  omega
theorem sendS_n {d : ByteArray} : (sendS a d).n = a.n := by
  unfold sendS
  split <;> rfl
theorem step_nb {k p : Int} (h : NB a b) : NB (stepF a b k p).1 (stepF a b k p).2 := by
  unfold stepF
  split
  · exact ⟨by show (sendS a (dataS a p)).n.length ≤ 60; rw [sendS_n]; exact h.1, h.2⟩
  · split
    · exact ⟨h.1, addN_len _ _ h.2⟩
    · split
      · split
        · exact h
        · exact ⟨cutN_len h.1, h.2⟩
      · split
        · split
          · exact h
          · exact h
        · split
          · exact h
          · exact ⟨cutN_len h.1, h.2⟩
theorem do_nb {s : Side × Side} {k e p : Int} (h : NB s.1 s.2) : NB (doF s k e p).1 (doF s k e p).2 := by
  unfold doF
  split
  · exact step_nb h
  · exact ⟨(step_nb ⟨h.2, h.1⟩).2, (step_nb ⟨h.2, h.1⟩).1⟩
theorem do_0 {s : Side × Side} {k e p : Int} (h : e.tmod 2 = 0) : doF s k e p = stepF s.1 s.2 (k.tmod 5) p := if_pos h
theorem do_1 {s : Side × Side} {k e p : Int} (h : e.tmod 2 = 1) : doF s k e p = ((stepF s.2 s.1 (k.tmod 5) p).2, (stepF s.2 s.1 (k.tmod 5) p).1) := if_neg (by omega)
-- what prefix compares
theorem inv_pre (h : Inv w m a b) : a.g.length ≤ b.s.length ∧ a.e.got = (a.g.length : Int) ∧ ∀ i (h1 : i < a.g.length) (h2 : i < b.s.length), b.s[i] = a.g[i] := by
  refine ⟨h.1.gle, h.1.got, fun i h1 h2 => ?_⟩
  have := List.getElem_of_eq h.1.pre h1
  rw [this, List.getElem_take]
theorem send_t {d : ByteArray} (h0 : (sendF a.e (byL d)).2 = 0) : (decide ((sendF a.e (byL d)).2 = 0) || (decide ((sendF a.e (byL d)).2 = 11) && decide ((((sendF a.e (byL d)).1.sent.length : Nat) : Int) = (sendF a.e (byL d)).1.window))) = true := by
  rw [decide_eq_true h0]
  rfl
theorem send_f (h : Inv w m a b) (hm : m < 150) {d : ByteArray} (hd : d.size ≤ 1000) (h0 : (sendF a.e (byL d)).2 ≠ 0) : (decide ((sendF a.e (byL d)).2 = 0) || (decide ((sendF a.e (byL d)).2 = 11) && decide (((a.e.sent.length : Nat) : Int) = a.e.window))) = true := by
  rcases send_cases h hm hd with ⟨e, _⟩ | ⟨e, e2⟩
  · exact absurd (by rw [e]) h0
  · rw [e, decide_eq_true e2]
    rfl
end
end Go.Wr


namespace Go.Wr
open Go.AL
def opF (x : Int × Int × Int) : List Pred := opP x.1 x.2.1 x.2.2
def opOK (x : Int × Int × Int) : Prop := (0 ≤ x.1 ∧ x.1 ≤ 255) ∧ (0 ≤ x.2.1 ∧ x.2.1 ≤ 255) ∧ (0 ≤ x.2.2 ∧ x.2.2 ≤ 255)
section
variable {w : Int} {m : Nat} {a b : Side} {f : WF}
theorem feed_recv (h : Inv w m a b) (hm : m ≤ 150) {j : Nat} (hj : j < (framesF a.e).length) : RecvOK (feed b ((framesF a.e).take j)) (framesF a.e)[j] := by
  obtain ⟨i1, i2, _, _⟩ := feed_inv h hm j (by omega)
  obtain ⟨f, hf, e1, e2, e3⟩ := frames_dg h.1 h.2 hm _ (List.getElem_mem hj)
  rw [hf]
  refine dg_recv i1.swap hm ⟨e1, e2, ?_⟩
  rcases e3 with e3 | ⟨e3, e4⟩
  · exact .inl e3
  · exact .inr ⟨by omega, e4⟩
theorem feed_g (h : Inv w m a b) (hm : m ≤ 150) {j : Nat} (hj : j ≤ (framesF a.e).length) : (feed b ((framesF a.e).take j)).g.length ≤ 1000 := by
  have := inv_g (feed_inv h hm j hj).1.swap
  omega
theorem feed_full {z : Side} {fs : List (List Int)} {j : Nat} (hz : z = feed b (fs.take j)) (hj : fs.length ≤ j) : z = feed b fs := by rw [hz, List.take_of_length_le hj]
theorem inv_s (h : Inv w m a b) (hm : m ≤ 150) : a.s.length ≤ 1000 ∧ b.s.length ≤ 1000 := by
  have h1 := h.1.many
  have h2 := h.2.many
  omega
theorem nb0 (w : Int) : NB (side0 w) (side0 w) := ⟨Nat.zero_le _, Nat.zero_le _⟩
end
end Go.Wr


namespace Go.Proofs.Ytgdhogmghffbaaa
open Go.AL Go.Wr Go.RowKit Go.ChangeShapes Go.WideShapes
/-- a reading's bulk, with the letters of strings -/
structure BulkS {H : Type} (bk : DataW H → Nat) : Prop extends BulkOK bk where
  str : ∀ l, l.length + 1 ≤ bk (.lit (.string l))
theorem bulkAll {H : Type} : ∀ l : List (DataW H), Rows.uptoBulkAll l = (l.map Rows.uptoBulk).sum
  | [] => rfl
  | d :: l => by
    rw [Rows.uptoBulkAll, bulkAll l, List.map_cons, List.sum_cons]
theorem bulkOK {H : Type} : BulkS (H := H) Rows.uptoBulk where
  lit := fun l => by cases l <;> simp [Rows.uptoBulk]
  nil := by simp [Rows.uptoBulk]
  slice := fun e s => by rw [Rows.uptoBulk, bulkAll, bulkAll]; omega
  agg := fun l => by rw [Rows.uptoBulk, bulkAll]; omega
  str := fun l => by simp [Rows.uptoBulk]
section
variable {H : Type} {enc : TypeId × Value → H} {W : World} {base : Nat} {spare : Nat → Bool} {held : Bool} {bk : DataW H → Nat}
def szS (s : ByteArray) : Nat := s.size + 1
def szF (f : RF) : Nat := f.data.size + 1
def szLs {α : Type} (sz : α → Nat) (l : List α) : Nat := (l.map sz).sum + 1
def szE (e : RE) : Nat := szLs szS e.sent + szLs szF e.early
theorem rd_op (hB : BulkS bk) : RdS enc Try.prog W base spare held bk 65 opF (fun _ => 0) opOK :=
  (rdS_struct hB.toBulkOK (fs := [(0, 5, 1), (1, 5, 1), (2, 5, 1)]) (m := 3) (by kernel_rfl) (by kernel_rfl) (rdfS_cons (rdS_int hB.toBulkOK Try.underlying5) (rdfS_cons (rdS_int hB.toBulkOK Try.underlying5) (rdfS_cons (rdS_int hB.toBulkOK Try.underlying5) rdfS_nil)))).map
    (fun x => (x.1, x.2.1, x.2.2.1)) (fun _ => rfl) (fun _ => Nat.zero_le _) (fun x h => ⟨h.1, h.2.1, h.2.2.1⟩)
theorem rd_script (hB : BulkS bk) : RdS enc Try.prog W base spare held bk 60 (fun l => [slP opF 3 l]) (fun _ => 0) (fun l => ∀ x ∈ l, opOK x) :=
  (rdS_slice hB.toBulkOK Try.underlying60 (rd_op hB) (by kernel_rfl) (by decide)).map (fun x => x) (fun _ => rfl) (fun _ => Nat.zero_le _) (fun _ h => h)
end
end Go.Proofs.Ytgdhogmghffbaaa
