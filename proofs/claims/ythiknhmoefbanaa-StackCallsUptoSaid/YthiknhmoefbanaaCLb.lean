/- Parts of a proof that share one text: AlMut2, AlSym, AlArith, AlRead, AlSize, AlMap, AlOwn, AlMake, AlLoop, AlTyped, AlKey, AlList, AlGrow, ChTypes, AlFam, HpTypes, HpSize, AlCopy, AlCopy2, AlFamily, AlFamily2, StFam, StFam2, HpPlain, StFam3, AlCopy3, StTypes, StLeave, HpPlain2, HpPlain3, HpPlain4, HpPlain5, StValid, StProg. -/
import Derived.Test.YthiknhmoefbanaaCLa
import Derived.Deep.Slices
import Derived.OpenShut
import Derived.Below
import Derived.ProofKit
import Derived.Laws.MakeOwn
import Derived.Laws.Cover3
import Derived.Lib.AppendZeros
import Derived.Laws.CopyRow
import Derived.Lib.AppendZerosOnto
import Derived.Lib.Overlaps
import Derived.Laws.IdiomCopy

namespace Go.AL
open Go.RowKit
/-- a block gets another name and holds something else -/
theorem Models.retok {σ : Sg} {R : Toks} {W W' : World} {id id' : Id} {m m' z : Nat} {r r' : Res} {ob : Option Nat} (h : Models σ R W) (hRm : R m = some (id, r)) (hid : σ.ρ id' = none) (hm' : m' = m ∨ R m' = none) (hob : σ.ρ id = some ob)
    (hbase : Below σ.n0 W W') (hother : ∀ b', ob ≠ some b' → W'.heap[b']? = W.heap[b']?) (hr : ∀ b, ob = some b → ∃ o, W'.heap[b]? = some o ∧ r'.h (bind σ id' ob z) id' b o) (hno : ∀ b i, ob = some b → σ.c b i = none) :
    Models (bind σ id' ob z) (fun q => if q = m' then some (id', r') else if q = m then none else R q) W' := by
  have h' : Models σ (fun q => if q = m then none else R q) W := h.sub fun q x hx => by
    split at hx
    · cases hx
    · exact hx
  have hsep : ∀ q x b, (if q = m then none else R q) = some x → ob = some b → σ.ρ x.1 ≠ some (some b) := by
    intro q x b hq hb hxb
    by_cases hqm : q = m
    · simp [hqm] at hq
    · simp only [hqm, if_false] at hq
      exact h.sep q m x _ b hqm hq hRm hxb (by rw [hob, hb])
  refine h'.move (le_bind hid) m' id' _ (fun i hi => bind_ne _ _ _ _ _ hi) (by rw [bind_at]; simp) (.inl ?_) ?_ hbase ?_ ?_ ?_ ?_
  · rcases hm' with rfl | hm'
    · simp
    · simp only [hm']; split <;> rfl
  · intro q x _ hq e
    exact h'.used q x hq (by rw [e]; exact hid)
  · intro q x b _ hq hb
    exact ⟨hother b fun e => hsep q x b hq e hb, fun _ => rfl⟩
  · intro b i v hv
    have hne : ob ≠ some b := fun e => by
      have : σ.c b i = some v := hv
      rw [hno b i e] at this
      cases this
    rw [World.cell?_of_block (w := W) (a := ⟨b, i, none⟩) (hother b hne)]
    exact h.imm b i v hv
  · intro b hb
    rw [bind_at] at hb
    simp only [Option.some.injEq] at hb
    obtain ⟨h1, _⟩ := h.res m id _ hRm b (by rw [hob, hb])
    exact ⟨h1, hr b hb⟩
  · intro q x b _ hq hb hxb
    rw [bind_at] at hb
    simp only [Option.some.injEq] at hb
    exact hsep q x b hq hb hxb
theorem Models.noC {σ : Sg} {R : Toks} {W : World} {id : Id} {m b κ : Nat} {B : TypeId} {ps : List Pred} (h : Models σ R W) (hRm : R m = some (id, blkX κ B ps)) (hb : σ.ρ id = some (some b)) (i : Nat) : σ.c b i = none := by
  obtain ⟨_, o, _, cs, rest, _, _, _, hn⟩ := h.res m id _ hRm b hb
  exact hn i
section
variable {P : Program} {n N : Nat} {F : Fr} {R : Toks} {d : Option Nat} {T : TypeId} {pos : String} {after : Array Edge} {α : Type} {f : α → List Pred} {k bytes len c : Nat} {ys : List α} {t e : TypeId} {id : Id}
/-- '[]T{}', to be written into -/
theorem op_buildEmptyM {m' kk : Nat} (ht : elemB P t = some e) (hs : sizeB P e = some k) (hm' : R m' = none) :
    OpJ P n N F R ⟨d, .buildSlice t 0 #[], T, pos, after, none⟩ ⟨[], [], [], [(m', ((N, kk), blkX k e []))], [kk], mvP (N, kk) k 0 0 0⟩ where
  loc := by
    intro σ W R a K hm h2 h3 h4 h5 h6 h7 h8 h9 Q
    have hid := h8 kk (by simp)
    have hRm' : R m' = none := by have h := h7 (m', ((N, kk), blkX k e [])) (by simp); simpa using h
    have hmod := hm.alloc (id := (N, kk)) (z := 0) (n := m') (r := blkX k e []) (o := .cells ([] : List Value).toArray e) hid hRm' ⟨[], [], rfl, ⟨rfl, by simp⟩, fun _ => by rw [bind_z]; simp, fun i => no_imm_new hm i⟩
    refine wp_value (v := .slice (some ⟨W.heap.size, 0, none⟩) 0 0) (W' := W.alloc (.cells ([] : List Value).toArray e)) ?_ (h9 _ _ _ (le_bind hid) keep_bind (hmod.congr (updR_new ..)) ?_)
    · simp [execOp, Instr.buildSlice, run_underlying (elem_of ht), run_sizeOf' hs, Instr.fill, newRow, Array.range_zero']
    · exact ⟨_, by rw [bind_z], by rw [bind_z]; simp, by rw [bind_z]; simp [maxLen], by rw [bind_at]; simp, by rw [bind_z]; intro h; omega⟩
  rd := by simp
  use := by simp
  del := by simp
  add := by simpa using hm'
/-- **append to a slice of the call's own whose cells may be written** -/
theorem op_append_mut {x y : Operand} {m m' kk : Nat} {z : Value} {ps : List Pred} (hx : opd F x = some (mvP id k 0 len c)) (hy : opd F y = some (slP f k ys)) (hR : R m = some (id, blkX k e ps)) (hm' : m' = m ∨ R m' = none)
    (ht : elemB P t = some e) (hz : zeroB P e = some (some z)) (hs : sizeB P e = some k) (hby : bytesB P e = some bytes) (hzs : z.cells.size = k) (hk0 : k ≠ 0) (hps : ps.length = len * k) (hk : ∀ z, (f z).length = k)
    (h63 : len + ys.length ≤ 1152921504606846976) (hbytes : (len + ys.length) * bytes ≤ 140737488355328) :
    OpJ P n N F R ⟨d, .call { callee := .builtin .append, args := #[x, y], argTypes := #[t, t] }, T, pos, after, none⟩
      ⟨rdo x (mvP id k 0 len c) ++ rdo y (slP f k ys), [], [(m, (id, blkX k e ps))], [(m', ((N, kk), blkX k e (ps ++ ys.flatMap f)))], [kk], mvP (N, kk) k 0 (len + ys.length) (len + ys.length)⟩ where
  loc := by
    intro σ W R a K hm h2 h3 h4 h5 h6 h7 h8 h9 Q
    have hid := h8 kk (by simp)
    have hRm := h6 _ (List.mem_cons_self ..)
    have hRm' : m' = m ∨ R m' = none := by
      rcases h7 (m', ((N, kk), blkX k e (ps ++ ys.flatMap f))) (by simp) with h | h
      · exact .inr h
      · left; simp at h; exact h.symm
    obtain ⟨a1, hv, x1, x2, x3, x4⟩ := holds_of hx fun w hw => h4 w (List.mem_append_left _ hw)
    obtain ⟨ad, cap, hyv, hy1, hy2, hy3⟩ := holds_of hy fun w hw => h4 w (List.mem_append_right _ hw)
    simp only [Nat.sub_zero, Nat.zero_add, Nat.zero_mul] at hv x1 x4
    have ht' := elem_of ht
    obtain ⟨i, hi, hiz, his, hib⟩ := info_of hz hs hby
    have hexec : ∀ {v' : Value} {W' : World}, (Builtin.append_ #[t, t] T #[.slice a1 len (σ.z id), .slice ad ys.length cap]).run P W = .ok v' W' →
        (execOp a.eval ⟨d, .call { callee := .builtin .append, args := #[x, y], argTypes := #[t, t] }, T, pos, after, none⟩).run P W = .ok (.value v') W' := by
      intro v' W' hr
      simp only [execOp, resolve, invoke, builtin, Sem.run_bind, Sem.run_pure, Result.andThen_ok, List.map_toArray, List.map_cons, List.map_nil, hv, hyv, hr]
    obtain ⟨ob, hob⟩ : ∃ ob, σ.ρ id = some ob := Option.ne_none_iff_exists'.1 x3
    by_cases hy0 : ys.length = 0
    · have hys : ys = [] := List.eq_nil_of_length_eq_zero hy0
      subst hys
      have hmod := hm.retok (W' := W) (z := σ.z id) (r' := blkX k e (ps ++ ([] : List α).flatMap f)) hRm hid hRm' hob (Below.refl _ _) (fun _ _ => rfl) (fun b hb => by
        subst hb
        obtain ⟨cs, rest, hcs, hvs, hz', _⟩ := blk_read hm hRm hob
        exact ⟨_, hcs, cs, rest, rfl, by simpa using hvs.mono (le_bind hid), fun h => by rw [bind_z]; exact hz' h, fun i => hm.noC hRm hob i⟩) (fun b i hb => by subst hb; exact hm.noC hRm hob i)
      refine wp_value (hexec (run_append_zero ht' hi a1 ad len _ cap (by omega) T W)) (h9 _ W _ (le_bind hid) keep_bind (hmod.congr ?_) ?_)
      · rw [updR_row]
      · refine ⟨a1, by rw [bind_z]; rfl, by rw [bind_z]; simp; omega, by rw [bind_z]; exact x2, by rw [bind_at]; simp, fun h => ?_⟩
        rw [bind_z] at h
        obtain ⟨b, hb, ha⟩ := x4 h
        rw [bind_at]
        rw [hob] at hb
        exact ⟨b, hb, by simpa using ha⟩
    · obtain ⟨yb, yo, rfl, hyc⟩ := hy3 (by omega)
      obtain ⟨news, hnv, hncell⟩ := slP_cells hm hk hyc
      have hnl : news.length = ys.length * k := by rw [hnv.1, flatMap_len hk]
      have hnews : ∀ (j : Nat) (v : Value), news[j]? = some v → W.cell? ((⟨yb, yo, none⟩ : Addr).add j) = some v := fun j v hv => by rw [addr_add]; exact hncell j v hv
      have hmdrop : Models σ (fun q => if q = m then none else R q) W := hm.sub fun q y hq => by
        split at hq
        · cases hq
        · exact hq
      have hfree : (fun q => if q = m then none else R q) m' = none := by
        rcases hRm' with rfl | h
        · simp
        · simp only [h]; split <;> rfl
      by_cases hroom : len + ys.length ≤ σ.z id
      · obtain ⟨b, hb, rfl⟩ := x4 (by omega)
        rw [hb] at hob
        simp only [Option.some.injEq] at hob
        subst hob
        obtain ⟨cs, rest, hcs, hvs, hz', _⟩ := blk_read hm hRm hb
        have hz'' := hz' hk0
        have hcl : cs.length = len * k := by rw [hvs.1, hps]
        have hroom2 : (len + ys.length) * k ≤ (cs ++ rest).length := by rw [hz'']; exact Nat.mul_le_mul_right _ hroom
        rw [Nat.add_mul] at hroom2
        have hr := run_append_room (P := P) W t T e i ht' hi b len (σ.z id) (cs ++ rest).toArray hcs ⟨yb, yo, none⟩ ys.length cap news (by rw [his]; exact hnl) hnews hnv.ones hroom (by rw [his, hnl]; simpa using hroom2)
        rw [his] at hr
        have hrow : (cs ++ rest).take (len * k) ++ news ++ (cs ++ rest).drop (len * k + news.length) = (cs ++ news) ++ (cs ++ rest).drop (len * k + news.length) := by
          rw [List.take_append_of_le_length (by omega), List.take_of_length_le (by omega)]
        simp only at hr
        rw [hrow] at hr
        have hmod := hm.retok (W' := W.setRow b (cs ++ news ++ (cs ++ rest).drop (len * k + news.length)).toArray) (z := σ.z id) (r' := blkX k e (ps ++ ys.flatMap f)) hRm hid hRm' hb
          ⟨rfl, rfl, rfl, by simp, fun q hq => setRow_other W b q _ (by
            intro e'
            subst e'
            have := (hm.res m id _ hRm q hb).1
            omega)⟩ (fun b' hb' => setRow_other W b b' _ (fun e' => hb' (by rw [e']))) (fun b' hb' => by
              simp only [Option.some.injEq] at hb'
              subst hb'
              refine ⟨_, setRow_heap W b _ _ e (0, 0) hcs, cs ++ news, (cs ++ rest).drop (len * k + news.length), rfl, (hvs.append hnv).mono (le_bind hid), fun h => ?_, fun i => hm.noC hRm hb i⟩
              rw [bind_z, ← hz'']
              simp only [List.length_append, List.length_drop] at hroom2 ⊢
              omega) (fun b' i hb' => by
                simp only [Option.some.injEq] at hb'
                subst hb'
                exact hm.noC hRm hb i)
        refine wp_value (hexec hr) (h9 _ _ _ (le_bind hid) keep_bind (hmod.congr (by rw [updR_row])) ?_)
        exact ⟨_, by rw [bind_z]; rfl, by rw [bind_z]; omega, by rw [bind_z]; exact x2, by rw [bind_at]; simp, fun _ => ⟨b, bind_at .., by simp⟩⟩
      · -- a new block
        have g1 := grownCap_ge W (len + ys.length) (σ.z id) e
        have g2 := grownCap_le_maxLen W (len + ys.length) (σ.z id) e (by unfold maxLen; omega)
        obtain ⟨olds, hov, hol, hrun⟩ : ∃ olds : List Value, Vs σ ps olds ∧ olds.length = len * k ∧
            (Builtin.append_ #[t, t] T #[.slice a1 len (σ.z id), .slice (some ⟨yb, yo, none⟩) ys.length cap]).run P W =
              .ok (.slice (some ⟨W.heap.size, 0, none⟩) (len + ys.length) (grownCap W (len + ys.length) (σ.z id) e)) (W.drew.alloc (.cells (olds.toArray ++ news.toArray ++ Builtin.zeroCells z.cells (grownCap W (len + ys.length) (σ.z id) e - (len + ys.length))) e)) := by
          by_cases hz0 : σ.z id = 0
          · have hl0 : len = 0 := by omega
            subst hl0
            have hp0 : ps = [] := List.eq_nil_of_length_eq_zero (by rw [hps]; simp)
            subst hp0
            refine ⟨[], ⟨rfl, by simp⟩, by simp, ?_⟩
            cases a1 with
            | none =>
              have hr := run_append_nil (P := P) W t T e i z ht' hi hiz ⟨yb, yo, none⟩ ys.length cap news (by rw [his]; exact hnl) hnews (by omega) (by omega) (by rw [hib]; simp at hbytes; omega)
              rw [hz0]
              simp only [Nat.zero_add]
              rw [hr]
              simp
            | some a0 =>
              exact run_append_grow (P := P) W t T e i z ht' hi hiz a0 0 (σ.z id) [] (by simp) (fun j v hjv => by simp at hjv) ⟨yb, yo, none⟩ ys.length cap news (by rw [his]; exact hnl) hnews
                (by omega) (by omega) (by rw [hib]; exact growslice_fits (by omega) hbytes)
          · obtain ⟨b, hb, rfl⟩ := x4 (by omega)
            obtain ⟨cs, rest, hcs, hvs, hz', _⟩ := blk_read hm hRm hb
            refine ⟨cs, hvs, by rw [hvs.1, hps], ?_⟩
            exact run_append_grow (P := P) W t T e i z ht' hi hiz ⟨b, 0, none⟩ len (σ.z id) cs (by rw [his, hvs.1, hps]) (fun j v hjv => by rw [addr_add, Nat.zero_add]; exact cell_blk hcs hjv) ⟨yb, yo, none⟩ ys.length cap news (by rw [his]; exact hnl) hnews
              (by omega) (by omega) (by rw [hib]; exact growslice_fits (by omega) hbytes)
        have hmod := hmdrop.drew.alloc (id := (N, kk)) (z := grownCap W (len + ys.length) (σ.z id) e) (n := m') (r := blkX k e (ps ++ ys.flatMap f))
          (o := .cells (olds.toArray ++ news.toArray ++ Builtin.zeroCells z.cells (grownCap W (len + ys.length) (σ.z id) e - (len + ys.length))) e) hid hfree
          ⟨olds ++ news, (Builtin.zeroCells z.cells (grownCap W (len + ys.length) (σ.z id) e - (len + ys.length))).toList, by congr 1; apply Array.ext'; simp, (hov.append hnv).mono (le_bind hid), fun _ => by
            rw [bind_z, List.length_append, List.length_append, hol, hnl, zc_len, hzs, ← Nat.add_mul, ← Nat.add_mul]; congr 1; omega, fun i => no_imm_new hmdrop.drew i⟩
        refine wp_value (hexec hrun) (h9 _ _ _ (le_bind hid) keep_bind (hmod.congr ?_) ?_)
        · rw [updR_row]
        · refine ⟨some ⟨W.heap.size, 0, none⟩, ?_, ?_, ?_, by rw [bind_at]; simp, fun _ => ⟨_, bind_at .., by simp⟩⟩
          · rw [bind_z]; rfl
          · rw [bind_z]; omega
          · rw [bind_z]; exact g2
  rd := rd_app (rd_of hx) (rd_of hy)
  use := by simp
  del := by simpa using hR
  add := by
    intro y hy
    simp at hy
    subst hy
    rcases hm' with rfl | h
    · right; simp
    · left; exact h
end
end Go.AL


namespace Go.AL
open Go.RowKit
/-- where c holds: p; else nothing was computed -/
def wP (c : Bool) (p : Pred) : Pred := ⟨fun σ v => (c = true → p.h σ v) ∧ (c = false → v = undef), fun _ _ _ hle h => ⟨fun hc => p.m _ _ _ hle (h.1 hc), h.2⟩⟩
theorem entW {c : Bool} {p : Pred} (h : c = true) : Ent (wP c p) p := fun _ _ x => x.1 h
theorem entS {c d : Bool} {p : Pred} (h : c = true) : Ent (wP (c && d) p) (wP d p) := fun _ _ x => by subst h; simpa using x
/-- a guard: where c holds it lets by, else not -/
def GuardIs (p : Pred) (w c : Bool) : Prop := ∀ σ v, p.h σ v → if c then v = .bool w else v ≠ .bool w
theorem guard_eq {b w : Bool} : GuardIs (eqP (.bool b)) w (b == w) := fun σ v h => by
  have h : v = .bool b := h
  subst h
  cases b <;> cases w <;> simp
theorem guard_w {c b w : Bool} : GuardIs (wP c (eqP (.bool b))) w (c && (b == w)) := fun σ v h => by
  cases c
  · have := h.2 rfl
    subst this
    simp [undef]
  · have h : v = .bool b := h.1 rfl
    subst h
    cases b <;> cases w <;> simp
inductive SubC (c : Bool) (F : Fr) : Fr → Prop
  | nil : SubC c F []
  | cons {t : Nat} {q p : Pred} {l : Fr} (h : lk F t = some q) (he : c = true → Ent q p) (hl : SubC c F l) : SubC c F ((t, p) :: l)
theorem SubC.at_ {c : Bool} {F F' : Fr} (h : SubC c F F') : ∀ t p, lk F' t = some p → ∃ q, lk F t = some q ∧ (c = true → Ent q p) := by
  induction h with
  | nil => intro t q hq; simp [lk] at hq
  | @cons k q p l hk he _ ih =>
    intro t p' hp
    rw [lk_cons] at hp
    split at hp
    · rename_i e; subst e; simp at hp; subst hp; exact ⟨q, hk, he⟩
    · exact ih t p' hp
section
variable {P : Program} {n N : Nat} {ops : Array Oper} {Q : Exit → Act → World → Prop} {Rf : Toks} {F : Fr} {L : Tk} {K : List Rec → Fr → Tk → Prop} {l : List Oper} {t : Nat} {op : Op} {T : TypeId} {pos : String} {after : Array Edge}
  {rd : List (Nat × Pred)} {use : List (Nat × Id × Res)}
def rdF (F : Fr) (rd : List (Nat × Pred)) : List (Nat × Pred) := rd.map fun x => (x.1, (lk F x.1).getD anyP)
/-- a guarded operation, whether it runs or not -/
theorem lxs {F' : Fr} {g s : Nat} {w c : Bool} {pg φ : Pred} (hs : gslot ops g = some s) (hsn : Nat.blt s n = true) (hg : lk F s = some pg) (hc : GuardIs pg w c) (hF : SubC c F F')
    (h : OpJ P n N F' (tkf L Rf) ⟨some t, op, T, pos, after, none⟩ ⟨rd, use, [], [], [], φ⟩) (hd : Nat.blt t n = true)
    (hk : LexK P n N ops Q Rf l ((t, wP c φ) :: F) L (fun rs => K (⟨(s, pg) :: rdF F rd, use, [], [], [], wP c φ⟩ :: rs))) : LexK P n N ops Q Rf (⟨some t, op, T, pos, after, some (g, w)⟩ :: l) F L K := by
  obtain ⟨rs, F2, L2, hl, hK⟩ := hk
  have hrd : ∀ x ∈ rdF F rd, lk F x.1 = some x.2 := by
    intro x hx
    obtain ⟨y, hy, rfl⟩ := List.mem_map.1 hx
    obtain ⟨q, hq, _⟩ := hF.at_ y.1 y.2 (h.rd y hy)
    simp [hq]
  refine ⟨_, F2, L2, .cons (r := ⟨(s, pg) :: rdF F rd, use, [], [], [], wP c φ⟩) ?_ (dOK_spec (d := some t) hd) ?_ h.use (by simp) (by simp) hl, hK⟩
  · intro σ W R a K' h1 h2 h3 h4 h5 h6 h7 h8 h9
    have hv := hc _ _ (h4 (s, pg) (List.mem_cons_self ..))
    have hlt : s < a.tmps.size := by have := Nat.le_of_ble_eq_true hsn; omega
    cases hcc : c with
    | true =>
      subst hcc
      simp only [if_true] at hv
      have hloc := exec_of_guard (P := P) (Q := Q) (N := N) hs (by have := Nat.le_of_ble_eq_true hsn; omega) (w := w) h.loc
      refine hloc σ W R a K' h1 h2 h3 ?_ h5 h6 h7 h8 ?_
      · intro x hx
        rcases List.mem_cons.1 hx with rfl | hx
        · exact hv
        · obtain ⟨q, hq, he⟩ := hF.at_ x.1 x.2 (h.rd x hx)
          refine he rfl _ _ ?_
          have := h4 (x.1, (lk F x.1).getD anyP) (List.mem_cons_of_mem _ (List.mem_map.2 ⟨x, hx, rfl⟩))
          simpa [hq] using this
      · intro σ' W' v hle hkeep hmod hφ
        exact h9 σ' W' v hle hkeep (hmod.congr (by funext m; simp [updR])) (show (wP true φ).h σ' v from ⟨fun _ => hφ, fun e => Bool.noConfusion e⟩)
    | false =>
      subst hcc
      simp only [Bool.false_eq_true, if_false] at hv
      have hy : yielded ops a.tmps g ≠ some w := by
        unfold yielded
        unfold gslot at hs
        rw [hs]
        simp only [Option.bind_some, Array.getElem?_eq_getElem hlt]
        simp [Array.getD, hlt] at hv
        split
        · rename_i b hb'
          simp at hb'
          intro e
          simp at e
          subst e
          exact hv hb'
        · simp
      unfold Exec
      rw [if_neg (by simp [Region.wanted, hy])]
      exact h9 σ W undef (Le.refl σ) (fun _ _ _ => rfl) (h1.congr (by funext m; simp [updR])) (show (wP false φ).h σ undef from ⟨fun e => Bool.noConfusion e, fun _ => rfl⟩)
  · intro x hx
    rcases List.mem_cons.1 hx with rfl | hx
    · exact hg
    · exact hrd x hx
end
section
variable {P : Program} {n N : Nat} {F : Fr} {R : Toks} {d : Option Nat} {T : TypeId} {pos : String} {after : Array Edge} {b v : Bool} {c x y : Operand}
theorem op_pick_and (hc : opd F c = some (eqP (.bool b))) (hx : opd F x = some (wP (b == true) (eqP (.bool v)))) : OpJ P n N F R ⟨d, .pick c x (.const (.bool false)), T, pos, after, none⟩ ⟨rdo c (eqP (.bool b)) ++ rdo x (wP (b == true) (eqP (.bool v))), [], [], [], [], eqP (.bool (b && v))⟩ :=
  opj2 hc hx fun σ W a h1 h2 => ⟨.bool (b && v), by
    have h1 : a.eval c = .bool b := h1
    have hf : a.eval (.const (.bool false)) = .bool false := rfl
    cases b
    · simp only [execOp, h1, asBool, hf]; rfl
    · have h2 : a.eval x = .bool v := h2.1 rfl
      simp [execOp, h1, h2, asBool], rfl⟩
theorem op_pick_or (hc : opd F c = some (eqP (.bool b))) (hy : opd F y = some (wP (b == false) (eqP (.bool v)))) : OpJ P n N F R ⟨d, .pick c (.const (.bool true)) y, T, pos, after, none⟩ ⟨rdo c (eqP (.bool b)) ++ rdo y (wP (b == false) (eqP (.bool v))), [], [], [], [], eqP (.bool (b || v))⟩ :=
  opj2 hc hy fun σ W a h1 h2 => ⟨.bool (b || v), by
    have h1 : a.eval c = .bool b := h1
    cases b
    · have h2 : a.eval y = .bool v := h2.1 rfl
      simp [execOp, h1, h2, asBool]
    · have hf : a.eval (.const (.bool true)) = .bool true := rfl
      simp only [execOp, h1, asBool, hf]; rfl, rfl⟩
end
end Go.AL
namespace Go.AL
open Go.RowKit
section
variable {P : Program} {C : Cx} {F : Fr} {L : Tk} {Q : Exit → Act → World → Prop} {c : Code} {id' : Nat}
/-- a nil slice of the call's own gets a name, so that it may be written and appended to -/
theorem tr_nilmv (k : Nat) (e : TypeId) (t m : Nat) (ht : lk F t = some (eqP (.slice none 0 0))) (hm : tkf L C.Rf m = none)
    (h : ∀ id, Tr P C c ((t, mvP id k 0 0 0) :: F) ((m, some (id, blkX k e [])) :: L) Q) : Tr P C c F L Q := by
  rintro a W ⟨σ, h1, h2, h3⟩
  obtain ⟨N, hN, hfr⟩ := fresh_N h3.mod C.M
  have hmod : Models (bind σ (N, 0) none 0) (fun n => if n = m then some ((N, 0), blkX k e []) else tkf L C.Rf n) W := by
    refine h3.mod.move (le_bind (hfr 0)) m (N, 0) _ (fun i hi => bind_ne _ _ _ _ _ hi) (by rw [bind_at]; simp) (.inl hm) ?_ (Below.refl _ _) (fun n x b _ hn hb => ⟨rfl, fun _ => rfl⟩) (fun b i v hv => h3.mod.imm b i v hv) ?_ ?_
    · intro n x _ hn e
      exact h3.mod.used n x hn (by rw [e]; exact hfr 0)
    · intro b hb; rw [bind_at] at hb; cases hb
    · intro n x b _ _ hb; rw [bind_at] at hb; cases hb
  refine h (N, 0) a W ⟨bind σ (N, 0) none 0, h1.trans (le_bind (hfr 0)), keepB_of hN h2 keep_bind, h3.size, h3.defers, hmod.congr ?_, ?_⟩
  · rw [tkf_cons]
  · intro t' p hp
    rw [lk_cons] at hp
    split at hp
    · rename_i e'
      subst e'
      simp at hp
      subst hp
      have hv : a.tmps.getD t undef = .slice none 0 0 := h3.fr t _ ht
      exact ⟨none, by rw [bind_z]; exact hv, by rw [bind_z]; omega, by rw [bind_z]; simp [maxLen], by rw [bind_at]; simp, by rw [bind_z]; intro h; omega⟩
    · exact p.m _ _ _ (le_bind (hfr 0)) (h3.fr t' p hp)
end
end Go.AL
namespace Go.AL
section
variable {P : Program} {n N : Nat} {ops : Array Oper} {Q : Exit → Act → World → Prop} {Rf : Toks} {F : Fr} {L : Tk} {K : List Rec → Fr → Tk → Prop} {l : List Oper}
end
end Go.AL
namespace Go.AL
open Go.RowKit
section
variable {P : Program} {n N : Nat} {ops : Array Oper} {Q : Exit → Act → World → Prop} {Rf : Toks} {F : Fr} {L : Tk} {K : List Rec → Fr → Tk → Prop} {l : List Oper} {t : Nat} {op : Op} {T : TypeId} {pos : String} {after : Array Edge}
  {rd : List (Nat × Pred)}
/-- a guarded operation that may run just where its guard lets by -/
theorem lxsc {F' : Fr} {g s : Nat} {w c : Bool} {pg φ : Pred} (hs : gslot ops g = some s) (hsn : Nat.blt s n = true) (hg : lk F s = some pg) (hc : GuardIs pg w c) (hF : SubC c F F')
    (h : c = true → OpJ P n N F' (tkf L Rf) ⟨some t, op, T, pos, after, none⟩ ⟨rd, [], [], [], [], φ⟩) (hr : rd.all (fun x => (lk F x.1).isSome) = true) (hd : Nat.blt t n = true)
    (hk : LexK P n N ops Q Rf l ((t, wP c φ) :: F) L (fun rs => K (⟨(s, pg) :: rdF F rd, [], [], [], [], wP c φ⟩ :: rs))) : LexK P n N ops Q Rf (⟨some t, op, T, pos, after, some (g, w)⟩ :: l) F L K := by
  cases hcc : c with
  | true => subst hcc; exact lxs hs hsn hg hc hF (h rfl) hd hk
  | false =>
    subst hcc
    obtain ⟨rs, F2, L2, hl, hK⟩ := hk
    refine ⟨_, F2, L2, .cons (r := ⟨(s, pg) :: rdF F rd, [], [], [], [], wP false φ⟩) ?_ (dOK_spec (d := some t) hd) ?_ (by simp) (by simp) (by simp) hl, hK⟩
    · intro σ W R a K' h1 h2 h3 h4 h5 h6 h7 h8 h9
      have hv := hc _ _ (h4 (s, pg) (List.mem_cons_self ..))
      have hlt : s < a.tmps.size := by have := Nat.le_of_ble_eq_true hsn; omega
      simp only [Bool.false_eq_true, if_false] at hv
      have hy : yielded ops a.tmps g ≠ some w := by
        unfold yielded
        unfold gslot at hs
        rw [hs]
        simp only [Option.bind_some, Array.getElem?_eq_getElem hlt]
        simp [Array.getD, hlt] at hv
        split
        · rename_i b hb'
          simp at hb'
          intro e
          simp at e
          subst e
          exact hv hb'
        · simp
      unfold Exec
      rw [if_neg (by simp [Region.wanted, hy])]
      exact h9 σ W undef (Le.refl σ) (fun _ _ _ => rfl) (h1.congr (by funext m; simp [updR])) (show (wP false φ).h σ undef from ⟨fun e => Bool.noConfusion e, fun _ => rfl⟩)
    · intro x hx
      rcases List.mem_cons.1 hx with rfl | hx
      · exact hg
      · obtain ⟨y, hy, rfl⟩ := List.mem_map.1 hx
        rw [List.all_eq_true] at hr
        have := hr y hy
        obtain ⟨q, hq⟩ := Option.isSome_iff_exists.1 this
        simp [hq]
end
end Go.AL
namespace Go.AL
end Go.AL


namespace Go.AL
open Go.RowKit
section
variable {P : Program} {n N : Nat} {F : Fr} {R : Toks} {d : Option Nat} {T t t' : TypeId} {pos : String} {after : Array Edge} {x y : Operand} {k : IntKind} {u v : Int}
/-- a value said otherwise -/
theorem OpJ.val {o : Oper} {rd : List (Nat × Pred)} {use : List (Nat × Id × Res)} {φ ψ : Pred} (h : OpJ P n N F R o ⟨rd, use, [], [], [], φ⟩) (e : φ = ψ) : OpJ P n N F R o ⟨rd, use, [], [], [], ψ⟩ := e ▸ h
end
end Go.AL


namespace Go.AL
open Go.RowKit Go.ChangeShapes Go.WideShapes Go.Deep
/-- all that lay in the world when the call began stays -/
def σW (W : World) : Sg := { w0 := W, n0 := W.heap.size, ρ := fun _ => none, z := fun _ => 0, c := fun b i => W.cell? ⟨b, i, none⟩ }
theorem models_W (W : World) : Models (σW W) (fun _ => none) W where
  base := Below.refl _ _
  n0 := Nat.le_refl _
  imm b i v h := h
  res n id r h := by cases h
  sep n m x y b _ h := by cases h
  used n x h := by cases h
  fin := ⟨0, fun _ _ _ => rfl⟩
/-- **a function that answers true at what it is handed** -/
theorem law_calls {P : Program} {f : FuncId} {pre : List Pred} (h : FnP P f pre (eqP (.bool true))) {W : World} {args : Array Value} (hs : args.size = pre.length) (ha : ∀ (i : Nat) (p : Pred), pre[i]? = some p → p.h (σW W) (args.getD i undef)) :
    Calls P f args W fun e W' => e = .returned (.bool true) ∧ Below W.heap.size W W' := by
  have := h (σW W) W (fun _ => none) args (fun _ => (0, 0)) 0 (models_W W) (by simp) (fun _ _ _ => rfl) (by intro j hj; omega) (by intro i j hi; omega) hs ha
  refine this.mono ?_
  rintro e W' ⟨v, σ', rfl, hle, _, hmod, hpost⟩
  have hb := hmod.base
  rw [hle.w0, hle.n0] at hb
  exact ⟨by rw [show v = .bool true from hpost], hb⟩
section
variable {H : Type} (enc : TypeId × Value → H) (P : Program) (W : World) (base : Nat) (spare : Nat → Bool) (held : Bool)
/-- whatever reads at the type is a thing of α -/
def Rd (t : TypeId) {α : Type} (f : α → List Pred) (ok : α → Prop) : Prop :=
  ∀ fuel cs x, DataW.trod enc P W base spare held fuel t cs = some x → ∃ a, ok a ∧ Vs (σW W) (f a) cs
variable {enc P W base spare held}
theorem Rd.map {t : TypeId} {α β : Type} {f : α → List Pred} {ok : α → Prop} {f' : β → List Pred} {ok' : β → Prop} (h : Rd enc P W base spare held t f ok) (g : α → β) (hf : ∀ a, f a = f' (g a)) (hok : ∀ a, ok a → ok' (g a)) : Rd enc P W base spare held t f' ok' := by
  intro fuel cs x hx
  obtain ⟨a, ha, hv⟩ := h fuel cs x hx
  exact ⟨g a, hok a ha, hf a ▸ hv⟩
theorem choose_list {α : Type} {Q : Nat → α → Prop} : ∀ (n : Nat), (∀ i, i < n → ∃ a, Q i a) → ∃ xs : List α, xs.length = n ∧ ∀ (i : Nat) (x : α), xs[i]? = some x → Q i x
  | 0, _ => ⟨[], rfl, fun i x h => by simp at h⟩
  | n + 1, h => by
    obtain ⟨xs, hl, hx⟩ := choose_list n fun i hi => h i (by omega)
    obtain ⟨a, ha⟩ := h n (by omega)
    refine ⟨xs ++ [a], by simp [hl], fun i x hi => ?_⟩
    rcases Nat.lt_or_ge i n with h1 | h1
    · rw [List.getElem?_append_left (by omega)] at hi
      exact hx i x hi
    · rw [List.getElem?_append_right (by omega), hl] at hi
      rcases Nat.eq_or_lt_of_le h1 with h2 | h2
      · subst h2; simp at hi; subst hi; exact ha
      · rw [List.getElem?_eq_none (by simp; omega)] at hi; cases hi
def structB (P : Program) (t : TypeId) : Option (List (Nat × TypeId × Nat)) := match P.underlying t with | some (.struct fs) => some (fs.toList.map fun f => (f.offset, f.type, P.cellsOf f.type)) | _ => none
def RdFs (enc : TypeId × Value → H) (P : Program) (W : World) (base : Nat) (spare : Nat → Bool) (held : Bool) (m n0 : Nat) (fs : List (Nat × TypeId × Nat)) {α : Type} (f : α → List Pred) (ok : α → Prop) : Prop :=
  ∀ n (cs : List Value), cs.length = m → (∀ x ∈ fs, ∃ y, DataW.trod enc P W base spare held n x.2.1 ((cs.drop x.1).take x.2.2) = some y) → ∃ a, ok a ∧ Vs (σW W) (f a) (cs.drop n0)
end
end Go.AL
namespace Go.AL
open Go.RowKit Go.ChangeShapes Go.WideShapes Go.Deep
def ArgsH (σ : Sg) : List Pred → List Value → Prop
  | [], [] => True
  | p :: ps, v :: vs => p.h σ v ∧ ArgsH σ ps vs
  | _, _ => False
theorem ArgsH.at_ {σ : Sg} : ∀ {ps : List Pred} {vs : List Value}, ArgsH σ ps vs → vs.length = ps.length ∧ ∀ (i : Nat) (p : Pred), ps[i]? = some p → p.h σ (vs.getD i undef)
  | [], [], _ => ⟨rfl, fun i p h => by simp at h⟩
  | p :: ps, v :: vs, h => by
    obtain ⟨h1, h2⟩ := h
    obtain ⟨g1, g2⟩ := ArgsH.at_ h2
    refine ⟨by simp [g1], fun i q hq => ?_⟩
    cases i with
    | zero => simp at hq; subst hq; simpa using h1
    | succ i => simpa using g2 i q (by simpa using hq)
  | [], _ :: _, h => h.elim
  | _ :: _, [], h => h.elim
theorem law_at {P : Program} {f : FuncId} {pre : List Pred} (h : FnP P f pre (eqP (.bool true))) {W : World} {vs : List Value} (ha : ArgsH (σW W) pre vs) :
    Calls P f vs.toArray W fun e W' => e = .returned (.bool true) ∧ Below W.heap.size W W' :=
  law_calls h (by simpa using ha.at_.1) fun i p hp => by
    have := ha.at_.2 i p hp
    simpa [Array.getD_eq_getD_getElem?, List.getD_eq_getElem?_getD] using this
end Go.AL


namespace Go.AL
open Go.RowKit Go.ChangeShapes Go.WideShapes Go.Deep
structure BulkOK {H : Type} (bk : DataW H → Nat) : Prop where
  lit : ∀ l, 1 ≤ bk (.lit l)
  nil : 1 ≤ bk .nil
  slice : ∀ e s, (e.map bk).sum + 1 ≤ bk (.slice e s)
  agg : ∀ l, (l.map bk).sum + 1 ≤ bk (.agg l)
section
variable {H : Type} (enc : TypeId × Value → H) (P : Program) (W : World) (base : Nat) (spare : Nat → Bool) (held : Bool) (bk : DataW H → Nat)
/-- whatever reads at the type is a thing of α, no larger than its reading -/
def RdS (t : TypeId) {α : Type} (f : α → List Pred) (sz : α → Nat) (ok : α → Prop) : Prop :=
  ∀ fuel cs x, DataW.trod enc P W base spare held fuel t cs = some x → ∃ a, (ok a ∧ sz a ≤ bk x.1) ∧ Vs (σW W) (f a) cs
variable {enc P W base spare held bk}
theorem RdS.map {t : TypeId} {α β : Type} {f : α → List Pred} {sz : α → Nat} {ok : α → Prop} {f' : β → List Pred} {sz' : β → Nat} {ok' : β → Prop} (h : RdS enc P W base spare held bk t f sz ok) (g : α → β) (hf : ∀ a, f a = f' (g a)) (hs : ∀ a, sz' (g a) ≤ sz a) (hok : ∀ a, ok a → ok' (g a)) :
    RdS enc P W base spare held bk t f' sz' ok' := by
  intro fuel cs x hx
  obtain ⟨a, ⟨ha, hz⟩, hv⟩ := h fuel cs x hx
  exact ⟨g a, ⟨hok a ha, Nat.le_trans (hs a) hz⟩, hf a ▸ hv⟩
theorem rdS_int (hB : BulkOK bk) {t : TypeId} {k : IntKind} (ht : P.underlying t = some (.int k)) : RdS enc P W base spare held bk t (fun x : Int => [eqP (.int k x)]) (fun _ => 1) (fun x => k.min ≤ x ∧ x ≤ k.max) := by
  intro fuel cs x hx
  obtain ⟨n, rfl, rfl, hw⟩ := DataW.trod_int ht hx
  refine ⟨n, ⟨by simpa [Lit.wf] using hw, hB.lit _⟩, rfl, fun j p u hp hu => ?_⟩
  cases j with
  | zero => simp at hp hu; subst hp; subst hu; exact ⟨rfl, rfl⟩
  | succ j => simp at hp
theorem rdS_bool (hB : BulkOK bk) {t : TypeId} (ht : P.underlying t = some .bool) : RdS enc P W base spare held bk t (fun b : Bool => [eqP (.bool b)]) (fun _ => 1) (fun _ => True) := by
  intro fuel cs x hx
  obtain ⟨n, rfl, rfl⟩ := DataW.trod_bool ht hx
  refine ⟨n, ⟨trivial, hB.lit _⟩, rfl, fun j p u hp hu => ?_⟩
  cases j with
  | zero => simp at hp hu; subst hp; subst hu; exact ⟨rfl, rfl⟩
  | succ j => simp at hp
theorem sum_le {α : Type} {sz : α → Nat} {b : Nat → Nat} : ∀ (xs : List α), (∀ i x, xs[i]? = some x → sz x ≤ b i) → (xs.map sz).sum ≤ ((List.range xs.length).map b).sum := by
  intro xs
  induction xs generalizing b with
  | nil => simp
  | cons x xs ih =>
    intro h
    have h0 := h 0 x rfl
    have := ih (b := fun i => b (i + 1)) fun i y hy => h (i + 1) y (by simpa using hy)
    rw [List.length_cons, List.range_succ_eq_map]
    simp only [List.map_cons, List.sum_cons, List.map_map]
    exact Nat.add_le_add h0 this
theorem rdS_slice (hB : BulkOK bk) {t e : TypeId} {k : Nat} {α : Type} {f : α → List Pred} {sz : α → Nat} {ok : α → Prop} (ht : P.underlying t = some (.slice e)) (he : RdS enc P W base spare held bk e f sz ok) (hk : P.cellsOf e = k) (hk0 : 0 < k) :
    RdS enc P W base spare held bk t (fun xs : List α => [slP f k xs]) (fun xs => (xs.map sz).sum + 1) (fun xs => ∀ x ∈ xs, ok x) := by
  intro fuel cs x hx
  have one : ∀ {xs : List α} {v : Value}, (slP f k xs).h (σW W) v → Vs (σW W) [slP f k xs] [v] := fun {xs v} hv => ⟨rfl, fun j p u hp hu => by
    cases j with
    | zero => simp at hp hu; subst hp; subst hu; exact ⟨hv, One.sl f k xs _ _ hv⟩
    | succ j => simp at hp⟩
  rcases open_slice ht hx with ⟨rfl, rfl⟩ | ⟨a, len, cap, m, n, D, Pl, rfl, hb, hl, hm, hmm, rfl, hi⟩
  · exact ⟨[], ⟨by simp, hB.nil⟩, one ⟨none, 0, rfl, Nat.le_refl _, by simp [maxLen], fun h => by simp at h⟩⟩
  · have hlm : len ≤ m := by rw [hmm]; split <;> omega
    obtain ⟨xs, hxl, hxs⟩ := choose_list (Q := fun i (x : α) => (ok x ∧ sz x ≤ bk (D i)) ∧ ∃ cs', W.cells? base (a.add (i * k)) k = some cs' ∧ Vs (σW W) (f x) cs') len fun i hil => by
      obtain ⟨cs', hc, ht'⟩ := hi i (by omega)
      obtain ⟨x, hok, hv⟩ := he _ _ _ ht'
      rw [hk] at hc
      exact ⟨x, hok, cs', hc, hv⟩
    subst hxl
    refine ⟨xs, ⟨fun x hx => ?_, ?_⟩, one ⟨some a, cap, rfl, hl, hm, fun hp => ?_⟩⟩
    · obtain ⟨i, hi'⟩ := List.mem_iff_getElem?.1 hx
      exact (hxs i x hi').1.1
    · have := sum_le (b := fun i => bk (D i)) xs fun i x hx => (hxs i x hx).1.2
      have h2 := hB.slice ((List.range xs.length).map D) ((List.range (m - xs.length)).map fun j => D (xs.length + j))
      rw [List.map_map] at h2
      exact Nat.le_trans (Nat.succ_le_succ this) h2
    · obtain ⟨b, off, spot⟩ := a
      have hspot : spot = none := by
        obtain ⟨_, cs', hc, hv⟩ := hxs 0 xs[0] (List.getElem?_eq_getElem hp)
        obtain ⟨_, hcl, hat⟩ := World.cells?_some hc
        have h0 := hat 0 hk0
        rw [List.getElem?_eq_getElem (show 0 < cs'.length by omega)] at h0
        simpa [Addr.add] using World.cell?_spot h0
      subst hspot
      refine ⟨b, off, rfl, fun i x hx j p hpj => ?_⟩
      obtain ⟨_, cs', hc, hv⟩ := hxs i x hx
      obtain ⟨_, hcl, hat⟩ := World.cells?_some hc
      have hj : j < cs'.length := by rw [hv.1]; exact (List.getElem?_eq_some_iff.1 hpj).1
      have h0 := hat j (by omega)
      rw [List.getElem?_eq_getElem hj] at h0
      refine ⟨cs'[j], ?_, hv.2 j p _ hpj (List.getElem?_eq_getElem hj)⟩
      simp only [addr_add] at h0
      show W.cell? ⟨b, off + i * k + j, none⟩ = some cs'[j]
      exact h0
def RdFsS (enc : TypeId × Value → H) (P : Program) (W : World) (base : Nat) (spare : Nat → Bool) (held : Bool) (bk : DataW H → Nat) (m n0 : Nat) (fs : List (Nat × TypeId × Nat)) {α : Type} (f : α → List Pred) (sz : α → Nat) (ok : α → Prop) : Prop :=
  ∀ n (cs : List Value) (ds : List (DataW H)), cs.length = m → ds.length = fs.length → (∀ (i : Nat) (x : Nat × TypeId × Nat) (d : DataW H), fs[i]? = some x → ds[i]? = some d → ∃ y, DataW.trod enc P W base spare held n x.2.1 ((cs.drop x.1).take x.2.2) = some y ∧ y.1 = d) → ∃ a, (ok a ∧ sz a ≤ (ds.map bk).sum) ∧ Vs (σW W) (f a) (cs.drop n0)
theorem rdfS_nil {m : Nat} : RdFsS enc P W base spare held bk m m [] (fun _ : Unit => []) (fun _ => 0) (fun _ => True) := fun n cs ds hl _ _ => ⟨(), ⟨trivial, Nat.zero_le _⟩, by rw [List.drop_eq_nil_of_le (by omega)]; exact ⟨rfl, by simp⟩⟩
theorem rdfS_cons {m n0 k : Nat} {t : TypeId} {fs : List (Nat × TypeId × Nat)} {α β : Type} {f : α → List Pred} {sz : α → Nat} {ok : α → Prop} {f' : β → List Pred} {sz' : β → Nat} {ok' : β → Prop} (h : RdS enc P W base spare held bk t f sz ok) (hl : RdFsS enc P W base spare held bk m (n0 + k) fs f' sz' ok') :
    RdFsS enc P W base spare held bk m n0 ((n0, t, k) :: fs) (fun x : α × β => f x.1 ++ f' x.2) (fun x => sz x.1 + sz' x.2) (fun x => ok x.1 ∧ ok' x.2) := by
  intro n cs ds hcs hds hx
  match ds, hds with
  | d :: ds, hds =>
    obtain ⟨y, hy, rfl⟩ := hx 0 _ d rfl rfl
    obtain ⟨a, ⟨ha, hz⟩, hv⟩ := h _ _ _ hy
    obtain ⟨b, ⟨hb, hz'⟩, hw⟩ := hl n cs ds hcs (by simpa using hds) fun i x d' h1 h2 => hx (i + 1) x d' (by simpa using h1) (by simpa using h2)
    refine ⟨(a, b), ⟨⟨ha, hb⟩, ?_⟩, ?_⟩
    · rw [List.map_cons, List.sum_cons]; exact Nat.add_le_add hz hz'
    · have := hv.append hw
      rwa [← List.drop_drop, List.take_append_drop] at this
theorem rdS_struct (hB : BulkOK bk) {t : TypeId} {fs : List (Nat × TypeId × Nat)} {m : Nat} {α : Type} {f : α → List Pred} {sz : α → Nat} {ok : α → Prop} (ht : structB P t = some fs) (hm : P.cellsOf t = m) (h : RdFsS enc P W base spare held bk m 0 fs f sz ok) :
    RdS enc P W base spare held bk t f (fun a => sz a + 1) ok := by
  intro fuel cs x hx
  unfold structB at ht
  split at ht
  · rename_i fs' hu
    simp only [Option.some.injEq] at ht
    subst ht
    obtain ⟨xs, n, _, rfl, hl, hlen, hg⟩ := DataW.trod_struct hu hx
    obtain ⟨a, ⟨ha, hz⟩, hv⟩ := h n cs (xs.map (·.1)) (hl.trans hm) (by simp [hlen]) fun i x d h1 h2 => by
      rw [List.getElem?_map] at h1 h2
      obtain ⟨fd, hfd, rfl⟩ := Option.map_eq_some_iff.1 h1
      obtain ⟨y, hy, rfl⟩ := Option.map_eq_some_iff.1 h2
      have hi' : fs'[i]? = some fd := by simpa using hfd
      exact ⟨y, by rw [hg i fd hi', hy], rfl⟩
    exact ⟨a, ⟨ha, Nat.le_trans (Nat.succ_le_succ hz) (hB.agg _)⟩, by simpa using hv⟩
  · cases ht
theorem rdS_agg {t : TypeId} {α : Type} {f : α → List Pred} {sz : α → Nat} {ok : α → Prop} {v : Value} {d : DataW H} {ps : List MemPlace} {r : Reach} {b0 : Nat} (h : RdS enc P W base spare held bk t f sz ok) (hs : (structB P t).isSome = true) (hv : Value.okWide P W r b0 t v) (hd : DataW.Trod enc P W base spare held t v d ps) :
    ∃ a, (ok a ∧ sz a ≤ bk d) ∧ (aggP (f a)).h (σW W) v := by
  unfold structB at hs
  split at hs
  · rename_i fs hu
    obtain ⟨cs, rfl, _⟩ := okWide_struct hu hv
    obtain ⟨fuel, hf⟩ := hd
    obtain ⟨a, ha, hw⟩ := h _ _ _ hf
    exact ⟨a, ha, cs.toList, by simp, hw⟩
  · cases hs
end
end Go.AL


namespace Go.AL
open Go.RowKit
section
variable {α β : Type} {P : Program} {t : TypeId} {ls : List Leaf} {f : α → List Value} {g : β → Value}
def ents (f : α → List Value) (g : β → Value) (m : List (α × β)) : List (Value × Value) := m.map fun x => (.agg (f x.1).toArray, g x.2)
structure KeyOK (P : Program) (t : TypeId) (ls : List Leaf) (f : α → List Value) : Prop where
  agg : aggB P t = some true
  leaf : leafK P 8 t = some ls
  typed : ∀ a, typedB ls (f a) = true
  inj : ∀ a b, f a = f b → a = b
theorem KeyOK.struct (h : KeyOK P t ls f) : ∃ fs, P.underlying t = some (.struct fs) := by
  have h1 := h.leaf
  have h2 := h.agg
  unfold leafK at h1
  unfold aggB at h2
  split at h1
  · rename_i hu; rw [hu] at h2; simp [isAggD] at h2
  · rename_i hu; rw [hu] at h2; simp [isAggD] at h2
  · rename_i hu; rw [hu] at h2; simp [isAggD] at h2
  · rename_i fs hu; exact ⟨fs, hu⟩
  · simp at h1
end
section
variable {α β : Type} [DecidableEq α] {P : Program} {t : TypeId} {ls : List Leaf} {f : α → List Value} {g : β → Value}
theorem KeyOK.eq (h : KeyOK P t ls f) (a b : α) (W : World) : (Op.equal t (.agg (f a).toArray) (.agg (f b).toArray)).run P W = .ok (decide (b = a)) W := by
  have := run_equal_flat 8 t ls h.leaf 9992 (f a) (f b) W (h.typed a) (h.typed b)
  simp only [pack, h.agg, if_true] at this
  refine this.trans ?_
  congr 1
  exact decide_eq_decide.mpr ⟨fun e => (h.inj _ _ e).symm, fun e => by rw [e]⟩
end
end Go.AL
namespace Go.AL
open Go.RowKit
def mapP (id : Id) : Pred := ⟨fun σ v => ∃ b, σ.ρ id = some (some b) ∧ v = .map (some b), fun _ _ _ hle ⟨b, hb, hv⟩ => ⟨b, hle.ρ _ _ hb, hv⟩⟩
theorem One.map (id : Id) : One (mapP id) := fun _ _ ⟨_, _, h⟩ => by subst h; rfl
def mapR {α β : Type} (f : α → List Value) (g : β → Value) (m : List (α × β)) : Res :=
  ⟨fun _ _ _ o => ∃ es clock, o = .map es clock ∧ es.toList.map (fun e => (e.key, e.val)) = ents f g m, fun _ _ _ _ _ _ _ _ h => h⟩
theorem Ren.map {α β : Type} (f : α → List Value) (g : β → Value) (m : List (α × β)) : Ren mapP (mapR f g m) where
  p := by
    rintro σ id id' v h1 h2 ⟨b, hb, hv⟩
    exact ⟨b, by rw [h1]; exact hb, hv⟩
  r := fun _ _ _ _ _ _ _ h => h
def mapB (P : Program) (t : TypeId) : Option (TypeId × TypeId) := match P.underlying t with | some (.map k e) => some (k, e) | _ => none
section
variable {P : Program} {n N : Nat} {F : Fr} {R : Toks} {d : Option Nat} {T t K E : TypeId} {pos : String} {after : Array Edge} {α β : Type}
end
section
variable {P : Program} {n N : Nat} {F : Fr} {R : Toks} {d : Option Nat} {T t K E : TypeId} {pos : String} {after : Array Edge} {α β : Type} [DecidableEq α] {f : α → List Value} {g : β → Value} {mm : List (α × β)} {ls : List Leaf} {id : Id} {m : Nat}
def found (mm : List (α × β)) (a : α) : Option (α × β) := mm.find? fun x => decide (x.1 = a)
end
end Go.AL


namespace Go.AL
open Go.RowKit
def RenR (r : Res) : Prop := ∀ (σ : Sg) (id id' : Id) (b : Nat) (o : Obj), σ.ρ id' = σ.ρ id → σ.z id' = σ.z id → r.h σ id b o → r.h σ id' b o
theorem RenR.blk (κ : Nat) (T : TypeId) (ps : List Pred) : RenR (blkX κ T ps) := (Ren.mv 0 0 0 0 κ T ps).r
theorem RenR.tail (T : TypeId) (n m : Nat) : RenR (tail T n m) := by
  rintro σ id id' b o h1 h2 ⟨cs, ho, hl, hn⟩
  exact ⟨cs, ho, by rw [h2]; exact hl, hn⟩
theorem RenR.map {α β : Type} (f : α → List Value) (g : β → Value) (m : List (α × β)) : RenR (mapR f g m) := (Ren.map f g m).r
theorem bind_zne (σ : Sg) (id i : Id) (b : Option Nat) (z : Nat) (h : i ≠ id) : (bind σ id b z).z i = σ.z i := by simp [bind, h]
theorem Models.rename1 {σ : Sg} {R : Toks} {W : World} {n0 : Nat} {old new : Id} {r : Res} {ob : Option Nat} (h : Models σ R W) (hR : R n0 = some (old, r)) (hnew : σ.ρ new = none) (hren : RenR r) (hob : σ.ρ old = some ob) :
    Models (bind σ new ob (σ.z old)) (fun n => if n = n0 then some (new, r) else R n) W := by
  have hne : old ≠ new := fun e => by rw [e, hnew] at hob; cases hob
  have hle : Le σ (bind σ new ob (σ.z old)) := le_bind hnew
  have e1 : (bind σ new ob (σ.z old)).ρ new = (bind σ new ob (σ.z old)).ρ old := by rw [bind_at, bind_ne _ _ _ _ _ hne, hob]
  have e2 : (bind σ new ob (σ.z old)).z new = (bind σ new ob (σ.z old)).z old := by rw [bind_z, bind_zne _ _ _ _ _ hne]
  have hm1 : Models σ (fun n => if n = n0 then none else R n) W := h.sub fun m x hx => by
    split at hx
    · cases hx
    · exact hx
  have hm2 := hm1.move (W' := W) hle n0 new r (fun i hi => bind_ne _ _ _ _ _ hi) (by rw [bind_at]; simp) (.inl (by simp)) ?_ (Below.refl _ _) (fun m x b _ _ _ => ⟨rfl, fun _ => rfl⟩) (fun b i v hv => hm1.imm b i v hv) ?_ ?_
  · refine hm2.congr ?_
    funext n
    by_cases hn : n = n0 <;> simp [hn]
  · intro m x _ hm e
    exact hm1.used m x hm (by rw [e]; exact hnew)
  · intro b hb
    rw [bind_at] at hb
    simp only [Option.some.injEq] at hb
    rw [hb] at hob
    obtain ⟨g1, o, g2, g3⟩ := h.res n0 old r hR b hob
    exact ⟨g1, o, g2, hren _ old new b o e1 e2 (r.m σ _ old b o hle hob (fun _ => rfl) g3)⟩
  · intro m x b hm0 hm hb hxb
    rw [bind_at] at hb
    simp only [Option.some.injEq] at hb
    rw [hb] at hob
    exact h.sep m n0 x (old, r) b hm0 (by simpa [hm0] using hm) hR hxb hob
def updT (t : Nat → Nat) (ι : Nat → Id) (r : Nat → Res) (R : Toks) : Nat → Toks
  | 0 => R
  | k + 1 => fun n => if n = t k then some (ι k, r k) else updT t ι r R k n
theorem updT_miss {t : Nat → Nat} {ι : Nat → Id} {r : Nat → Res} {R : Toks} {n : Nat} : ∀ k, (∀ j, j < k → n ≠ t j) → updT t ι r R k n = R n
  | 0, _ => rfl
  | k + 1, h => by
    simp only [updT, if_neg (h k (by omega))]
    exact updT_miss k fun j hj => h j (by omega)
theorem updT_hit {t : Nat → Nat} {ι : Nat → Id} {r : Nat → Res} {R : Toks} : ∀ k j, j < k → (∀ i j, i < k → j < k → t i = t j → i = j) → updT t ι r R k (t j) = some (ι j, r j)
  | 0, _, h, _ => by omega
  | k + 1, j, hj, hinj => by
    simp only [updT]
    by_cases h : t j = t k
    · have := hinj j k (by omega) (by omega) h
      subst this
      simp
    · rw [if_neg h]
      exact updT_hit k j (by
        rcases Nat.lt_or_eq_of_le (Nat.le_of_lt_succ hj) with h1 | h1
        · exact h1
        · subst h1; exact absurd rfl h) fun a b ha hb => hinj a b (by omega) (by omega)
theorem renAll {σ : Sg} {R : Toks} {W : World} (h : Models σ R W) (t : Nat → Nat) (olds ι : Nat → Id) (r : Nat → Res) : ∀ k, (∀ j, j < k → R (t j) = some (olds j, r j)) → (∀ i j, i < k → j < k → t i = t j → i = j) →
    (∀ j, j < k → σ.ρ (ι j) = none) → (∀ i j, i < k → j < k → ι i = ι j → i = j) → (∀ j, j < k → RenR (r j)) →
    ∃ τ, Le σ τ ∧ (∀ j, j < k → τ.ρ (ι j) = τ.ρ (olds j) ∧ τ.z (ι j) = τ.z (olds j)) ∧ (∀ id, (∀ j, j < k → id ≠ ι j) → τ.ρ id = σ.ρ id) ∧ Models τ (updT t ι r R k) W
  | 0, _, _, _, _, _ => ⟨σ, Le.refl σ, fun j hj => by omega, fun _ _ => rfl, h⟩
  | k + 1, h1, h2, h3, h4, h5 => by
    obtain ⟨τ, hle, hs, hk, hm⟩ := renAll h t olds ι r k (fun j hj => h1 j (by omega)) (fun i j hi hj => h2 i j (by omega) (by omega)) (fun j hj => h3 j (by omega)) (fun i j hi hj => h4 i j (by omega) (by omega)) (fun j hj => h5 j (by omega))
    obtain ⟨ob, hob⟩ := Option.ne_none_iff_exists'.1 (h.used (t k) _ (h1 k (by omega)))
    have hobt := hle.ρ _ _ hob
    have hnew : τ.ρ (ι k) = none := by rw [hk (ι k) (fun j hj e => by have := h4 k j (by omega) (by omega) e; omega)]; exact h3 k (by omega)
    have hne : olds k ≠ ι k := fun e => by rw [e, hnew] at hobt; cases hobt
    have hrt : updT t ι r R k (t k) = some (olds k, r k) := by rw [updT_miss k (fun j hj e => by have := h2 k j (by omega) (by omega) e; omega)]; exact h1 k (by omega)
    have hm2 := hm.rename1 hrt hnew (h5 k (by omega)) hobt
    refine ⟨bind τ (ι k) ob (τ.z (olds k)), hle.trans (le_bind hnew), ?_, ?_, hm2⟩
    · intro j hj
      by_cases hjk : j = k
      · subst hjk
        rw [bind_at, bind_ne _ _ _ _ _ hne, bind_z, bind_zne _ _ _ _ _ hne]
        exact ⟨hobt.symm, rfl⟩
      · have hj' : j < k := by omega
        obtain ⟨ob2, hob2⟩ := Option.ne_none_iff_exists'.1 (h.used (t j) _ (h1 j (by omega)))
        have hne2 : olds j ≠ ι k := fun e => by have := hle.ρ _ _ hob2; rw [e, hnew] at this; cases this
        have hne3 : ι j ≠ ι k := fun e => hjk (h4 j k (by omega) (by omega) e)
        rw [bind_ne _ _ _ _ _ hne2, bind_ne _ _ _ _ _ hne3, bind_zne _ _ _ _ _ hne2, bind_zne _ _ _ _ _ hne3]
        exact hs j hj'
    · intro id hid
      rw [bind_ne _ _ _ _ _ (hid k (by omega))]
      exact hk id fun j hj => hid j (by omega)
theorem Models.resMono {τ : Sg} {Ra Rb : Toks} {W : World} (h : Models τ Ra W) (g : Nat → Nat) (hg : ∀ n m, n ≠ m → Rb n ≠ none → Rb m ≠ none → g n ≠ g m)
    (hr : ∀ n x, Rb n = some x → ∃ r0, Ra (g n) = some (x.1, r0) ∧ ∀ b o, r0.h τ x.1 b o → x.2.h τ x.1 b o) : Models τ Rb W where
  base := h.base
  n0 := h.n0
  imm := h.imm
  res n id r hn b hb := by
    obtain ⟨r0, h1, h2⟩ := hr n (id, r) hn
    obtain ⟨g1, o, g2, g3⟩ := h.res (g n) id r0 h1 b hb
    exact ⟨g1, o, g2, h2 b o g3⟩
  sep n m x y b hnm hx hy := by
    obtain ⟨r0, h1, _⟩ := hr n x hx
    obtain ⟨r1, h2, _⟩ := hr m y hy
    exact h.sep (g n) (g m) (x.1, r0) (y.1, r1) b (hg n m hnm (by simp [hx]) (by simp [hy])) h1 h2
  used n x hx := by
    obtain ⟨r0, h1, _⟩ := hr n x hx
    exact h.used (g n) (x.1, r0) h1
  fin := h.fin
def OwesN (C : Cx) (R : Ending → World → Prop) (k : Nat) (post : (Nat → Id) → Pred) (prod : (Nat → Id) → List (Id × Res)) : Prop :=
  ∀ (v : Value) (W : World) (σ : Sg) (R' : Toks) (t : Nat → Nat) (olds : Nat → Id) (r : Nat → Res) (s : Nat → Nat), Le C.σ0 σ → KeepB C σ → Models σ R' W → (∀ n, 1000000 ≤ n → R' n = C.Rf n) →
    (∀ j, j < k → R' (t j) = some (olds j, r j) ∧ t j < 1000000) → (∀ i j, i < k → j < k → t i = t j → i = j) → (∀ j, j < k → RenR (r j)) →
    (∀ τ ι, Le σ τ → (∀ j, j < k → τ.ρ (ι j) = τ.ρ (olds j) ∧ τ.z (ι j) = τ.z (olds j)) → (post ι).h τ v ∧
      (∀ n x, (prod ι)[n]? = some x → s n < 1000000 ∧ ∃ r0, updT t ι r R' k (s n) = some (x.1, r0) ∧ ∀ b o, r0.h τ x.1 b o → x.2.h τ x.1 b o) ∧
      (∀ n m, n < (prod ι).length → m < (prod ι).length → s n = s m → n = m)) → R (.returned v) W
theorem fn_ownN {P : Program} {f : FuncId} {fn : Func} {c : Code} {pre : List Pred} {need : List (Id × Res)} {k : Nat} {post : (Nat → Id) → Pred} {prod : (Nat → Id) → List (Id × Res)} {n : Nat} (hf : P.funcs[f]? = some fn) (hb : fn.body = some c) (hn : fn.ntmps = n) (hl : (Nat.ble pre.length n && Nat.ble need.length 1000000) = true)
    (h : ∀ (σ0 : Sg) (M : Nat) (Rf : Toks) (R : Ending → World → Prop), CxOK ⟨σ0, M, [], Rf, n⟩ → OwesN ⟨σ0, M, [], Rf, n⟩ R k post prod → Tr P ⟨σ0, M, [], Rf, n⟩ c (frameOf 0 pre) (tokOf 0 need) (bodyPost P fn R)) : FnOK P f pre need k post prod := by
  intro σ W R args ι M hmod hR hM hι hinj hsz hargs
  simp only [Bool.and_eq_true] at hl
  have hl' := Nat.le_of_ble_eq_true hl.1
  have hl2 := Nat.le_of_ble_eq_true hl.2
  refine calls_of_wp hf hb ?_
  refine h σ M (fun m => if m < 1000000 then none else R m) _ ⟨fun m hm => by simp [hm]⟩ ?_ _ W ⟨σ, Le.refl σ, fun _ _ _ => rfl, ?_⟩
  · intro v W' σ' R' t olds r s hle hkeep hmod' hhigh ht htinj hren hconv
    obtain ⟨τ, hleτ, hs, hk, hm⟩ := renAll hmod' t olds ι r k (fun j hj => (ht j hj).1) htinj (fun j hj => by rw [hkeep (ι j) (hι j hj).1 (by simp)]; exact (hι j hj).2) hinj hren
    obtain ⟨hp, hprod, hsinj⟩ := hconv τ ι hleτ hs
    refine ⟨v, τ, rfl, hle.trans hleτ, ?_, ?_, hp⟩
    · intro i hi hne
      rw [hk i hne]
      exact hkeep i hi (by simp)
    · refine hm.resMono (fun m => if m < 1000000 then s m else m) ?_ ?_
      · intro a b hab ha hb' e
        by_cases h1 : a < 1000000
        · simp only [h1, if_true] at ha e
          obtain ⟨x, hx⟩ := Option.ne_none_iff_exists'.1 ha
          have hax := hprod a x hx
          by_cases h2 : b < 1000000
          · simp only [h2, if_true] at hb' e
            obtain ⟨y, hy⟩ := Option.ne_none_iff_exists'.1 hb'
            exact hab (hsinj a b (List.getElem?_eq_some_iff.1 hx).1 (List.getElem?_eq_some_iff.1 hy).1 e)
          · simp only [h2, if_false] at e
            omega
        · simp only [h1, if_false] at ha e
          by_cases h2 : b < 1000000
          · simp only [h2, if_true] at hb' e
            obtain ⟨y, hy⟩ := Option.ne_none_iff_exists'.1 hb'
            have hby := hprod b y hy
            omega
          · simp only [h2, if_false] at e
            exact hab e
      · intro m x hx
        by_cases h1 : m < 1000000
        · simp only [h1, if_true] at hx ⊢
          exact (hprod m x hx).2
        · simp only [h1, if_false] at hx ⊢
          refine ⟨x.2, ?_, fun _ _ h => h⟩
          rw [updT_miss k (fun j hj e => by have := (ht j hj).2; omega), hhigh m (by omega)]
          simp only [h1, if_false]
          exact hx
  · refine ⟨by simp; omega, rfl, hmod.sub ?_, ?_⟩
    · intro m x hx
      simp only [tkf, lk_tokOf, Nat.zero_le, if_true, Nat.sub_zero] at hx
      by_cases hm : m < 1000000
      · rw [hR m hm]
        cases hnd : need[m]? with
        | none => rw [hnd] at hx; simp [hm] at hx
        | some y => rw [hnd] at hx; simpa using hx
      · have : need[m]? = none := by rw [List.getElem?_eq_none_iff]; omega
        rw [this] at hx
        simpa [hm] using hx
    · intro t p hp
      rw [lk_frameOf] at hp
      simp only [Nat.zero_le, if_true, Nat.sub_zero] at hp
      have ht : t < args.size := by rw [hsz]; exact (List.getElem?_eq_some_iff.1 hp).1
      have := hargs t p hp
      have e : (args ++ Array.replicate (fn.ntmps - args.size) undef).getD t undef = args.getD t undef := by
        simp [Array.getD, ht, show t < args.size + (fn.ntmps - args.size) by omega]
      show p.h σ ((args ++ Array.replicate (fn.ntmps - args.size) undef).getD t undef)
      rw [e]
      exact this
end Go.AL
namespace Go.AL
open Go.RowKit
/-- what is handed over: blocks that get a new name, blocks that keep theirs -/
inductive Prods (τ : Sg) (ι : Nat → Id) (L : Tk) (moves : List (Nat × Id × Res)) : List (Id × Res) → List Nat → Prop
  | nil : Prods τ ι L moves [] []
  | moved {j m : Nat} {old : Id} {r0 r : Res} {l : List (Id × Res)} {s : List Nat} (hj : moves[j]? = some (m, old, r0)) (he : ∀ b o, r0.h τ (ι j) b o → r.h τ (ι j) b o) (hl : Prods τ ι L moves l s) : Prods τ ι L moves ((ι j, r) :: l) (m :: s)
  | kept {m : Nat} {id : Id} {r0 r : Res} {l : List (Id × Res)} {s : List Nat} (hm : lk L m = some (some (id, r0))) (hn : moves.all (fun x => !Nat.beq x.1 m) = true) (he : ∀ b o, r0.h τ id b o → r.h τ id b o) (hl : Prods τ ι L moves l s) :
      Prods τ ι L moves ((id, r) :: l) (m :: s)
def Sames (τ : Sg) (ι : Nat → Id) (moves : List (Nat × Id × Res)) : Prop := ∀ (j : Nat) (x : Nat × Id × Res), moves[j]? = some x → τ.ρ (ι j) = τ.ρ x.2.1 ∧ τ.z (ι j) = τ.z x.2.1
theorem Prods.at_ {τ : Sg} {ι : Nat → Id} {L : Tk} {moves : List (Nat × Id × Res)} {Rf : Toks} {l : List (Id × Res)} {s : List Nat} (h : Prods τ ι L moves l s) (hlow : lowL L = true) (hmoves : ∀ x ∈ moves, lk L x.1 = some (some x.2)) (hnd : nodupN moves = true) :
    l.length = s.length ∧ ∀ (n : Nat) (x : Id × Res), l[n]? = some x → (s[n]?).getD 0 < 1000000 ∧ ∃ r0, updT (fun j => ((moves[j]?).map (·.1)).getD 0) ι (fun j => ((moves[j]?).map (·.2.2)).getD (tail 0 0 0)) (tkf L Rf) moves.length ((s[n]?).getD 0) = some (x.1, r0) ∧ ∀ b o, r0.h τ x.1 b o → x.2.h τ x.1 b o := by
  have hlt : ∀ m y, lk L m = some (some y) → m < 1000000 := fun m y hm => by
    rcases Nat.lt_or_ge m 1000000 with h | h
    · exact h
    · rw [lk_low hlow h] at hm; cases hm
  have hinj : ∀ i j, i < moves.length → j < moves.length → ((moves[i]?).map (·.1)).getD 0 = ((moves[j]?).map (·.1)).getD 0 → i = j := by
    intro i j hi hj e
    simp only [List.getElem?_eq_getElem hi, List.getElem?_eq_getElem hj, Option.map_some, Option.getD_some] at e
    exact nodup_inj (nodup_of hnd) (by simpa using hi) (by simpa using hj) (by simpa using e)
  induction h with
  | nil => exact ⟨rfl, fun n x hx => by simp at hx⟩
  | @moved j m old r0 r l s hj he _ ih =>
    refine ⟨by simp [ih.1], fun n x hx => ?_⟩
    cases n with
    | zero =>
      simp at hx
      subst hx
      have hjl := (List.getElem?_eq_some_iff.1 hj).1
      refine ⟨by simpa using hlt m _ (hmoves _ (List.mem_of_getElem? hj)), r0, ?_, he⟩
      have := updT_hit (t := fun j => ((moves[j]?).map (·.1)).getD 0) (ι := ι) (r := fun j => ((moves[j]?).map (·.2.2)).getD (tail 0 0 0)) (R := tkf L Rf) moves.length j hjl hinj
      simpa [hj] using this
    | succ n => simpa using ih.2 n x (by simpa using hx)
  | @kept m id r0 r l s hm hn he _ ih =>
    refine ⟨by simp [ih.1], fun n x hx => ?_⟩
    cases n with
    | zero =>
      simp at hx
      subst hx
      refine ⟨by simpa using hlt m _ hm, r0, ?_, he⟩
      simp only [List.getElem?_cons_zero, Option.getD_some]
      rw [updT_miss]
      · simp [tkf, hm]
      · intro j hj e
        rw [List.all_eq_true] at hn
        have := hn _ (List.getElem_mem hj)
        simp only [List.getElem?_eq_getElem hj, Option.map_some, Option.getD_some] at e
        rw [← e] at this
        simp at this
    | succ n => simpa using ih.2 n x (by simpa using hx)
section
variable {P : Program} {C : Cx} {F : Fr} {L : Tk} {fn : Func} {R : Ending → World → Prop} {post : (Nat → Id) → Pred} {prod : (Nat → Id) → List (Id × Res)} {moves : List (Nat × Id × Res)} {s : List Nat}
theorem owesN_use {k : Nat} {W : World} {σ : Sg} {v : Value} {p : Pred} (ho : OwesN C R k post prod) (hk : moves.length = k) (h1 : Le C.σ0 σ) (h2 : KeepB C σ) (hm : Models σ (tkf L C.Rf) W) (hv : p.h σ v) (hlow : lowL L = true)
    (hmoves : ∀ x ∈ moves, lk L x.1 = some (some x.2)) (hnd : nodupN moves = true) (hren : ∀ x ∈ moves, RenR x.2.2) (hs : nodupB s = true)
    (hconv : ∀ (τ : Sg) (ι : Nat → Id), Sames τ ι moves → (∀ v, p.h τ v → (post ι).h τ v) ∧ Prods τ ι L moves (prod ι) s) : R (.returned v) W := by
  subst hk
  refine ho v W σ (tkf L C.Rf) (fun j => ((moves[j]?).map (·.1)).getD 0) (fun j => ((moves[j]?).map (·.2.1)).getD (0, 0)) (fun j => ((moves[j]?).map (·.2.2)).getD (tail 0 0 0)) (fun n => (s[n]?).getD 0) h1 h2 hm ?_ ?_ ?_ ?_ ?_
  · intro n hn
    simp only [tkf, lk_low hlow hn]
  · intro j hj
    have hx := hmoves _ (List.getElem_mem hj)
    simp only [List.getElem?_eq_getElem hj, Option.map_some, Option.getD_some]
    refine ⟨by simp [tkf, hx], ?_⟩
    rcases Nat.lt_or_ge moves[j].1 1000000 with h | h
    · exact h
    · rw [lk_low hlow h] at hx; cases hx
  · intro i j hi hj e
    simp only [List.getElem?_eq_getElem hi, List.getElem?_eq_getElem hj, Option.map_some, Option.getD_some] at e
    exact nodup_inj (nodup_of hnd) (by simpa using hi) (by simpa using hj) (by simpa using e)
  · intro j hj
    simp only [List.getElem?_eq_getElem hj, Option.map_some, Option.getD_some]
    exact hren _ (List.getElem_mem hj)
  · intro τ ι hle hsm
    obtain ⟨g1, g2⟩ := hconv τ ι (fun j x hx => by
      have hj := (List.getElem?_eq_some_iff.1 hx).1
      have := hsm j hj
      simpa [hx] using this)
    obtain ⟨g3, g4⟩ := g2.at_ (Rf := C.Rf) hlow hmoves hnd
    refine ⟨g1 v (p.m _ _ _ hle hv), g4, fun n m hn hm e => ?_⟩
    rw [g3] at hn hm
    simp only [List.getElem?_eq_getElem hn, List.getElem?_eq_getElem hm, Option.getD_some] at e
    exact nodup_inj (nodup_of hs) hn hm e
theorem pe_ownS {k : Nat} {r : ResultVar} {p : Pred} (moves : List (Nat × Id × Res)) (s : List Nat) (hres : fn.results = #[r]) (ho : OwesN C R k post prod) (hk : moves.length = k) (hlow : lowL L = true) (hr : RV P F L [r] [p])
    (hmoves : ∀ x ∈ moves, lk L x.1 = some (some x.2)) (hnd : nodupN moves = true) (hren : ∀ x ∈ moves, RenR x.2.2) (hs : nodupB s = true)
    (hconv : ∀ (τ : Sg) (ι : Nat → Id), Sames τ ι moves → (∀ v, p.h τ v → (post ι).h τ v) ∧ Prods τ ι L moves (prod ι) s) : Post C F L (bodyPost P fn R .ret) := by
  rintro a W ⟨σ, h1, h2, h3⟩
  obtain ⟨vs, hrun, hl, hv⟩ := hr.run h3
  obtain ⟨v, rfl⟩ : ∃ v, vs = [v] := by
    match vs, hl with
    | [v], _ => exact ⟨v, rfl⟩
  refine ⟨h3.defers, v, run_results' (rs := [r]) hres a W hrun, ?_⟩
  exact owesN_use (v := v) (p := p) ho hk h1 h2 h3.mod (hv 0 p v rfl rfl) hlow hmoves hnd hren hs hconv
end
inductive EntsAt (τ : Sg) : List Pred → List Pred → Prop
  | nil : EntsAt τ [] []
  | cons {p q : Pred} {ps qs : List Pred} (h : ∀ v, p.h τ v → q.h τ v) (t : EntsAt τ ps qs) : EntsAt τ (p :: ps) (q :: qs)
theorem EntsAt.vs {τ : Sg} {ps qs : List Pred} (h : EntsAt τ ps qs) : ∀ vs, Vs τ ps vs → Vs τ qs vs := by
  induction h with
  | nil => exact fun vs h => h
  | @cons p q ps qs h _ ih =>
    intro vs hv
    match vs, hv with
    | [], hv => exact absurd hv.1 (by simp)
    | v :: vs, hv =>
      have h2 := ih vs ⟨by have := hv.1; simpa using this, fun j p u hp hu => hv.2 (j + 1) p u (by simpa using hp) (by simpa using hu)⟩
      refine ⟨by simp [h2.1], fun j p' u hp hu => ?_⟩
      cases j with
      | zero =>
        simp at hp hu
        subst hp
        subst hu
        have := hv.2 0 p v rfl rfl
        exact ⟨h v this.1, this.2⟩
      | succ j => exact h2.2 j p' u (by simpa using hp) (by simpa using hu)
theorem blk_ents {τ : Sg} {κ : Nat} {T : TypeId} {ps qs : List Pred} (h : EntsAt τ ps qs) {id : Id} : ∀ b o, (blkX κ T ps).h τ id b o → (blkX κ T qs).h τ id b o := by
  rintro b o ⟨cs, rest, ho, hv, hz, hn⟩
  exact ⟨cs, rest, ho, h.vs cs hv, hz, hn⟩
end Go.AL


namespace Go.AL
open Go.RowKit
section
variable {P : Program} {n N : Nat} {F : Fr} {R : Toks} {d : Option Nat} {T t t' e K E : TypeId} {pos : String} {after : Array Edge} {x y : Operand} {id : Id} {k bytes : Nat}
/-- 'make([]T, len, cap)' -/
theorem op_makeSlice {lx cx : Operand} {l c : Nat} {li ci : Int} {lk ck : IntKind} {m' kk : Nat} {z : Value} {zs : List Pred} (hl : opd F lx = some (eqP (.int lk li))) (hc : opd F cx = some (eqP (.int ck ci))) (hli : li = (l : Int)) (hci : ci = (c : Int)) (hm' : R m' = none)
    (ht : elemB P t = some e) (hz : zeroB P e = some (some z)) (hs : sizeB P e = some k) (hby : bytesB P e = some bytes) (hzs : z.cells.toList.map eqP = zs) (hzk : Nat.beq zs.length k = true) (hk0 : Nat.blt 0 k = true) (h1 : z.cells.toList.all Value.oneCell' = true)
    (hlc : l ≤ c) (hc1 : bytes * c ≤ 281474976710656) (hc2 : c ≤ maxLen) :
    OpJ P n N F R ⟨d, .makeSlice t lx cx, T, pos, after, none⟩ ⟨rdo lx (eqP (.int lk li)) ++ rdo cx (eqP (.int ck ci)), [], [], [(m', ((N, kk), blkX k e (List.replicate c zs).flatten))], [kk], mvP (N, kk) k 0 l c⟩ where
  loc := by
    intro σ W R a K hm h2 h3 h4 h5 h6 h7 h8 h9 Q
    have hid := h8 kk (by simp)
    have hRm' : R m' = none := by have h := h7 (m', ((N, kk), blkX k e (List.replicate c zs).flatten)) (by simp); simpa using h
    have e1 : a.eval lx = .int lk li := holds_of hl fun w hw => h4 w (List.mem_append_left _ hw)
    have e2 : a.eval cx = .int ck ci := holds_of hc fun w hw => h4 w (List.mem_append_right _ hw)
    have hzk := Nat.eq_of_beq_eq_true hzk
    have hk0 : 0 < k := Nat.le_of_ble_eq_true hk0
    obtain ⟨i, hi, hiz, his, hib⟩ := info_of hz hs hby
    have hzsz : z.cells.size = k := by rw [← hzk, ← hzs]; simp
    have h63 : (ci : Int) ≤ 9223372036854775807 := by rw [hci]; unfold maxLen at hc2; omega
    have hbb : (i.bytes : Int) * ci ≤ 281474976710656 := by
      rw [hib, hci]
      have h : ((bytes * c : Nat) : Int) ≤ 281474976710656 := by omega
      rwa [Int.natCast_mul] at h
    have hr := run_make (P := P) W t e i z (elem_of ht) hi hiz lk ck li ci (by omega) (by omega) hbb h63
    rw [hli, hci, Int.toNat_natCast, Int.toNat_natCast, his] at hr
    have hcells : (madeCells z.cells (c * k)).toList = (List.replicate c z.cells.toList).flatten := by
      simp only [madeCells, Array.toList_map, Array.toList_range]
      rw [← flatten_replicate_range hzsz hk0]
    have hflat : (List.replicate c zs).flatten = ((List.replicate c z.cells.toList).flatten).map eqP := by rw [← hzs]; simp [List.map_flatten]
    have hvs : Vs σ (List.replicate c zs).flatten (madeCells z.cells (c * k)).toList := by
      rw [hcells, hflat]
      refine Vs.eqs ?_
      rw [List.all_eq_true] at h1 ⊢
      intro u hu
      obtain ⟨q, hq, huq⟩ := List.mem_flatten.1 hu
      rw [List.mem_replicate] at hq
      exact h1 u (by rw [← hq.2]; exact huq)
    have hmod := hm.alloc (id := (N, kk)) (z := c) (n := m') (r := blkX k e (List.replicate c zs).flatten) (o := .cells (madeCells z.cells (c * k)) e) hid hRm'
      ⟨(madeCells z.cells (c * k)).toList, [], by simp, hvs.mono (le_bind hid), fun _ => by rw [bind_z]; simp [size_madeCells], fun i => no_imm_new hm i⟩
    refine wp_value (v := .slice (some ⟨W.heap.size, 0, none⟩) l c) (W' := W.alloc (.cells (madeCells z.cells (c * k)) e)) ?_ (h9 _ _ _ (le_bind hid) keep_bind (hmod.congr (updR_new ..)) ?_)
    · rw [← hli, ← hci] at hr
      simp only [execOp, e1, e2, Sem.run_bind, hr, Result.andThen_ok, Sem.run_pure]
    · exact ⟨_, by rw [bind_z]; rfl, by rw [bind_z]; omega, by rw [bind_z]; exact hc2, by rw [bind_at]; simp, fun _ => ⟨_, bind_at .., by simp⟩⟩
  rd := rd_app (rd_of hl) (rd_of hc)
  use := by simp
  del := by simp
  add := by simpa using hm'
end
end Go.AL


namespace Go.AL
open Go.RowKit
theorem SubF.append {F A B : Fr} (h : SubF F A) (k : SubF F B) : SubF F (A ++ B) := by
  induction h with
  | nil => exact k
  | cons h _ ih => exact .cons h ih
  | ent h he _ ih => exact .ent h he ih
theorem SubL.append {L A B : Tk} (h : SubL L A) (k : SubL L B) : SubL L (A ++ B) := by
  induction h with
  | nil => exact k
  | cons h _ ih => exact .cons h ih
section
variable {P : Program} {C : Cx} {F : Fr} {L : Tk} {Q : Exit → Act → World → Prop}
/-- a loop of which what changes is said; the rest stays -/
theorem tr_loopK {α : Type} {c : Code} {Fk : Fr} {Lk : Tk} (x0 : α) (Fx : α → Fr) (Lx : α → Tk) (μ : α → Nat) (hC : CxOK C) (hF : SubF F Fk) (hL : SubL L Lk) (hlow : lowL L = true)
    (h0 : SubF F (Fx x0)) (l0 : SubL L (Lx x0))
    (round : ∀ x, Tr P C c (Fx x ++ Fk) (Lx x ++ Lk) (Exit.then (fun a W => ∃ y, μ y < μ x ∧ St C (Fx y ++ Fk) (Lx y ++ Lk) a W) Q)) : Tr P C (.loop c) F L Q :=
  tr_loop x0 (fun x => Fx x ++ Fk) (fun x => Lx x ++ Lk) μ (pe_st hC (h0.append hF) (l0.append hL) hlow) round
end
/-- the blocks that get a new name -/
inductive Moves (L : Tk) : List (Nat × Id × Res) → Prop
  | nil : Moves L []
  | cons {m : Nat} {id : Id} {r : Res} {l : List (Nat × Id × Res)} (h : lk L m = some (some (id, r))) (hr : RenR r) (hl : Moves L l) : Moves L ((m, id, r) :: l)
theorem Moves.at_ {L : Tk} {l : List (Nat × Id × Res)} (h : Moves L l) : (∀ x ∈ l, lk L x.1 = some (some x.2)) ∧ ∀ x ∈ l, RenR x.2.2 := by
  induction h with
  | nil => exact ⟨by simp, by simp⟩
  | cons h hr _ ih =>
    refine ⟨fun x hx => ?_, fun x hx => ?_⟩
    · rcases List.mem_cons.1 hx with rfl | hx
      · exact h
      · exact ih.1 x hx
    · rcases List.mem_cons.1 hx with rfl | hx
      · exact hr
      · exact ih.2 x hx
section
variable {P : Program} {C : Cx} {F : Fr} {L : Tk} {fn : Func} {R : Ending → World → Prop} {post : (Nat → Id) → Pred} {prod : (Nat → Id) → List (Id × Res)} {moves : List (Nat × Id × Res)}
theorem pe_ownS' {k : Nat} {r : ResultVar} {p : Pred} (s : List Nat) (hres : fn.results = #[r]) (ho : OwesN C R k post prod) (hlow : lowL L = true) (hr : RV P F L [r] [p])
    (hm : Moves L moves) (hk : moves.length = k) (hnd : nodupN moves = true) (hs : nodupB s = true)
    (hconv : ∀ (τ : Sg) (ι : Nat → Id), Sames τ ι moves → (∀ v, p.h τ v → (post ι).h τ v) ∧ Prods τ ι L moves (prod ι) s) : Post C F L (bodyPost P fn R .ret) :=
  pe_ownS moves s hres ho hk hlow hr hm.at_.1 hnd hm.at_.2 hs hconv
end
theorem aggP_at {τ : Sg} {ps qs : List Pred} (h : EntsAt τ ps qs) : ∀ v, (aggP ps).h τ v → (aggP qs).h τ v := by
  rintro v ⟨cs, hv, hc⟩
  exact ⟨cs, hv, h.vs cs hc⟩
theorem ent_at {p q : Pred} (h : Ent p q) {τ : Sg} : ∀ v, p.h τ v → q.h τ v := fun v hv => h τ v hv
theorem mv_ren {τ : Sg} {old new : Id} {k off n c : Nat} (h1 : τ.ρ new = τ.ρ old) (h2 : τ.z new = τ.z old) : ∀ v, (mvP old k off n c).h τ v → (mvP new k off n c).h τ v := fun v h => (Ren.mv k off n c 0 0 []).p τ old new v h1 h2 h
end Go.AL


namespace Go.AL
open Go.RowKit
def Fact (p : Pred) (φ : Prop) : Prop := ∀ σ v, p.h σ v → φ
theorem Fact.sl {α : Type} (f : α → List Pred) (n : Nat) (xs : List α) : Fact (slP f n xs) (xs.length ≤ 9223372036854775807) := fun _ _ ⟨_, _, _, h1, h2, _⟩ => by unfold maxLen at h2; omega
theorem Fact.row {α : Type} (id : Id) (f : α → List Pred) (n : Nat) (xs : List α) : Fact (rowP id f n xs) (xs.length ≤ 9223372036854775807) := fun σ v h => Fact.sl f n xs σ v (Ent.row id f n xs σ v h)
theorem Fact.mv (id : Id) (k off n c : Nat) : Fact (mvP id k off n c) (n ≤ 9223372036854775807) := fun _ _ ⟨_, _, h1, h2, _⟩ => by unfold maxLen at h2; omega
theorem Fact.agg {ps : List Pred} {p : Pred} {φ : Prop} (j : Nat) (h : ps[j]? = some p) (hf : Fact p φ) : Fact (aggP ps) φ := fun σ v ⟨cs, _, hc⟩ => by
  have hlt : j < cs.length := by rw [hc.1]; exact (List.getElem?_eq_some_iff.1 h).1
  exact hf σ _ (hc.2 j p _ h (List.getElem?_eq_getElem hlt)).1
theorem Fact.cells {ps : List Pred} {p : Pred} {φ : Prop} (j : Nat) (h : ps[j]? = some p) (hf : Fact p φ) : Fact (cellsP ps) φ := fun σ v ⟨b, off, _, hc⟩ => by
  obtain ⟨u, _, hu⟩ := hc j p h
  exact hf σ u hu.1
/-- the cells of the elements of a slice bear facts, too -/
theorem Fact.each {α : Type} {f : α → List Pred} {n : Nat} {xs : List α} {φ : α → Prop} (h : ∀ x, ∃ (j : Nat) (p : Pred), (f x)[j]? = some p ∧ Fact p (φ x)) : Fact (slP f n xs) (∀ x ∈ xs, φ x) := fun σ v ⟨a, cap, _, _, _, h3⟩ x hx => by
  obtain ⟨i, hi⟩ := List.mem_iff_getElem?.1 hx
  obtain ⟨b, off, _, hc⟩ := h3 (by have := (List.getElem?_eq_some_iff.1 hi).1; omega)
  obtain ⟨j, p, hp, hf⟩ := h x
  obtain ⟨u, _, hu⟩ := hc i x hi j p hp
  exact hf σ u hu.1
theorem Fact.and {p : Pred} {φ ψ : Prop} (h : Fact p φ) (k : Fact p ψ) : Fact p (φ ∧ ψ) := fun σ v x => ⟨h σ v x, k σ v x⟩
section
variable {α : Type} {f : α → List Pred} {k : Nat}
theorem flatMap_cut (hk : ∀ z, (f z).length = k) : ∀ (xs : List α) (j : Nat) (z : α), xs[j]? = some z → (xs.flatMap f) = (xs.take j).flatMap f ++ (f z ++ (xs.drop (j + 1)).flatMap f)
  | [], j, z, h => by simp at h
  | x :: xs, 0, z, h => by simp at h; subst h; simp [List.flatMap_cons]
  | x :: xs, j + 1, z, h => by
    have := flatMap_cut hk xs j z (by simpa using h)
    simp only [List.flatMap_cons, List.take_succ_cons, List.drop_succ_cons, List.append_assoc]
    rw [this]
theorem flatMap_take_len (hk : ∀ z, (f z).length = k) {xs : List α} {j : Nat} (hj : j ≤ xs.length) : ((xs.take j).flatMap f).length = j * k := by
  rw [flatMap_len hk, List.length_take, Nat.min_eq_left hj]
theorem flatMap_part (hk : ∀ z, (f z).length = k) {xs : List α} {j fo n : Nat} {z : α} (hz : xs[j]? = some z) (hn : fo + n ≤ k) : ((xs.flatMap f).drop (j * k + fo)).take n = ((f z).drop fo).take n := by
  have hj : j < xs.length := (List.getElem?_eq_some_iff.1 hz).1
  rw [flatMap_cut hk xs j z hz, ← List.drop_drop]
  have hl := flatMap_take_len hk (xs := xs) (j := j) (by omega)
  rw [List.drop_left' hl, List.drop_append_of_le_length (by rw [hk]; omega), List.take_append_of_le_length (by rw [List.length_drop, hk]; omega)]
theorem flatMap_splice (hk : ∀ z, (f z).length = k) {xs : List α} {j fo : Nat} {z z' : α} {qs : List Pred} (hz : xs[j]? = some z) (hn : fo + qs.length ≤ k) (hs : splice (f z) fo qs = f z') : splice (xs.flatMap f) (j * k + fo) qs = (xs.set j z').flatMap f := by
  have hj : j < xs.length := (List.getElem?_eq_some_iff.1 hz).1
  have hl := flatMap_take_len hk (xs := xs) (j := j) (by omega)
  have hz2 : (xs.set j z')[j]? = some z' := by simp [hj]
  rw [flatMap_cut hk xs j z hz, flatMap_cut hk (xs.set j z') j z' hz2, ← hs]
  unfold splice
  have e1 : (xs.set j z').take j = xs.take j := by rw [List.take_set_of_le (Nat.le_refl _)]
  have e2 : (xs.set j z').drop (j + 1) = xs.drop (j + 1) := by rw [List.drop_set_of_lt (by omega)]
  rw [e1, e2, ← hl, List.take_length_add_append, Nat.add_assoc, List.drop_length_add_append, List.take_append_of_le_length (by rw [hk]; omega), List.drop_append_of_le_length (by rw [hk]; omega)]
  simp [List.append_assoc]
end
section
variable {P : Program} {n N : Nat} {F : Fr} {R : Toks} {d : Option Nat} {T Ty : TypeId} {pos : String} {after : Array Edge} {α : Type} {f : α → List Pred} {k : Nat} {xs : List α} {id : Id} {m κ : Nat} {B : TypeId}
/-- a load of a whole element, of a part of one, of one cell of one -/
theorem op_tload {x : Operand} {off j fo w : Nat} {z : α} {qs : List Pred} (hx : opd F x = some (ptrP id off)) (hR : R m = some (id, blkX κ B (xs.flatMap f))) (ha : aggB P Ty = some true) (hs : sizeB P Ty = some w)
    (hk : ∀ z, (f z).length = k) (hoff : off = j * k + fo) (hz : xs[j]? = some z) (hw : Nat.ble (fo + w) k = true) (hq : ((f z).drop fo).take w = qs) :
    OpJ P n N F R ⟨d, .load Ty x, T, pos, after, none⟩ ⟨rdo x (ptrP id off), [(m, id, blkX κ B (xs.flatMap f))], [], [], [], aggP qs⟩ := by
  have hw' := Nat.le_of_ble_eq_true hw
  have hj : j < xs.length := (List.getElem?_eq_some_iff.1 hz).1
  refine op_bload_part hx hR ha hs ?_ (by rw [hoff, flatMap_part hk hz hw', hq])
  have : (j + 1) * k ≤ xs.length * k := Nat.mul_le_mul_right _ hj
  rw [Nat.succ_mul] at this
  rw [flatMap_len hk, Nat.ble_eq]
  omega
theorem op_tload_one {x : Operand} {off j fo : Nat} {z : α} {p : Pred} (hx : opd F x = some (ptrP id off)) (hR : R m = some (id, blkX κ B (xs.flatMap f))) (ha : aggB P Ty = some false)
    (hk : ∀ z, (f z).length = k) (hoff : off = j * k + fo) (hz : xs[j]? = some z) (hp : (f z)[fo]? = some p) :
    OpJ P n N F R ⟨d, .load Ty x, T, pos, after, none⟩ ⟨rdo x (ptrP id off), [(m, id, blkX κ B (xs.flatMap f))], [], [], [], p⟩ :=
  op_bload_one hx hR ha (by rw [hoff]; exact flatMap_at hk xs j z hz fo p hp)
/-- a store into an element -/
theorem op_tstore {x y : Operand} {off j fo w : Nat} {z z' : α} {p : Pred} {qs : List Pred} (hx : opd F x = some (ptrP id off)) (hy : opd F y = some p) (hR : R m = some (id, blkX κ B (xs.flatMap f))) (hv : Val p qs) (hs : sizeB P Ty = some w) (hl : Nat.beq qs.length w = true)
    (hk : ∀ z, (f z).length = k) (hoff : off = j * k + fo) (hz : xs[j]? = some z) (hw : Nat.ble (fo + w) k = true) (hq : splice (f z) fo qs = f z') :
    OpJ P n N F R ⟨none, .store Ty x y, T, pos, after, none⟩ ⟨rdo x (ptrP id off) ++ rdo y p, [], [(m, id, blkX κ B (xs.flatMap f))], [(m, id, blkX κ B ((xs.set j z').flatMap f))], [], eqP undef⟩ := by
  have hw' := Nat.le_of_ble_eq_true hw
  have hl' := Nat.eq_of_beq_eq_true hl
  have hj : j < xs.length := (List.getElem?_eq_some_iff.1 hz).1
  refine op_store hx hy hR hv hs hl ?_ (by rw [hoff]; exact flatMap_splice hk hz (by omega) hq)
  have : (j + 1) * k ≤ xs.length * k := Nat.mul_le_mul_right _ hj
  rw [Nat.succ_mul] at this
  rw [flatMap_len hk, Nat.ble_eq]
  omega
end
section
variable {P : Program} {C : Cx} {F : Fr} {L : Tk} {Q : Exit → Act → World → Prop} {c : Code}
inductive SubX (L : Tk) : Tk → Prop
  | nil : SubX L []
  | cons {t : Nat} {id : Id} {r r' : Res} {l : Tk} (h : lk L t = some (some (id, r))) (he : ∀ σ b o, r.h σ id b o → r'.h σ id b o) (hl : SubX L l) : SubX L ((t, some (id, r')) :: l)
theorem SubX.sub {Rf : Toks} (hlowRf : ∀ m, m < 1000000 → Rf m = none) {L L' : Tk} (h : SubX L L') (hlow : lowL L = true) : ∀ m x, tkf L' Rf m = some x → ∃ r0, tkf L Rf m = some (x.1, r0) ∧ ∀ σ b o, r0.h σ x.1 b o → x.2.h σ x.1 b o := by
  induction h with
  | nil =>
    intro m x hx
    simp only [tkf, lk] at hx
    by_cases hm : m < 1000000
    · rw [hlowRf m hm] at hx; cases hx
    · exact ⟨x.2, by simp only [tkf, lk_low hlow (Nat.le_of_not_lt hm)]; exact hx, fun _ _ _ h => h⟩
  | @cons t id r r' l ht he _ ih =>
    intro m x hx
    simp only [tkf, lk_cons] at hx
    by_cases e : t = m
    · subst e
      simp at hx
      subst hx
      exact ⟨r, by simp [tkf, ht], he⟩
    · simp only [e, if_false] at hx
      exact ih m x hx
end
section
variable {P : Program} {n N : Nat} {F : Fr} {R : Toks} {d : Option Nat} {T : TypeId} {pos : String} {after : Array Edge} {α : Type} {f : α → List Pred} {k bytes : Nat} {xs ys : List α} {t e : TypeId} {id : Id}
/-- **append to a list of the call's own whose cells may be written** -/
theorem op_append_t {x y : Operand} {m m' kk : Nat} {z : Value} (hx : opd F x = some (mvP id k 0 xs.length xs.length)) (hy : opd F y = some (slP f k ys)) (hR : R m = some (id, blkX k e (xs.flatMap f))) (hm' : m' = m ∨ R m' = none)
    (ht : elemB P t = some e) (hz : zeroB P e = some (some z)) (hs : sizeB P e = some k) (hby : bytesB P e = some bytes) (hzs : z.cells.size = k) (hk0 : k ≠ 0) (hk : ∀ z, (f z).length = k)
    (h63 : xs.length + ys.length ≤ 1152921504606846976) (hbytes : (xs.length + ys.length) * bytes ≤ 140737488355328) :
    OpJ P n N F R ⟨d, .call { callee := .builtin .append, args := #[x, y], argTypes := #[t, t] }, T, pos, after, none⟩
      ⟨rdo x (mvP id k 0 xs.length xs.length) ++ rdo y (slP f k ys), [], [(m, (id, blkX k e (xs.flatMap f)))], [(m', ((N, kk), blkX k e ((xs ++ ys).flatMap f)))], [kk], mvP (N, kk) k 0 (xs ++ ys).length (xs ++ ys).length⟩ := by
  have := op_append_mut (P := P) (n := n) (N := N) (F := F) (R := R) (d := d) (T := T) (pos := pos) (after := after) (m := m) (m' := m') (kk := kk) (f := f) hx hy hR hm' ht hz hs hby hzs hk0 (flatMap_len hk xs) hk h63 hbytes
  rw [List.flatMap_append, List.length_append]
  exact this
theorem flatten_rep (c : Nat) (z : α) : (List.replicate c (f z)).flatten = (List.replicate c z).flatMap f := by
  induction c with
  | zero => rfl
  | succ c ih => simp [List.replicate_succ, ih]
/-- 'make([]T, n)' as a list -/
theorem op_makeSlice_t {lx cx : Operand} {l : Nat} {li ci : Int} {lk ck : IntKind} {m' kk : Nat} {z : Value} (z0 : α) (hl : opd F lx = some (eqP (.int lk li))) (hc : opd F cx = some (eqP (.int ck ci))) (hli : li = (l : Int)) (hci : ci = (l : Int)) (hm' : R m' = none)
    (ht : elemB P t = some e) (hz : zeroB P e = some (some z)) (hs : sizeB P e = some k) (hby : bytesB P e = some bytes) (hzs : z.cells.toList.map eqP = f z0) (hzk : Nat.beq (f z0).length k = true) (hk0 : Nat.blt 0 k = true) (h1 : z.cells.toList.all Value.oneCell' = true)
    (hc1 : bytes * l ≤ 281474976710656) (hc2 : l ≤ maxLen) :
    OpJ P n N F R ⟨d, .makeSlice t lx cx, T, pos, after, none⟩ ⟨rdo lx (eqP (.int lk li)) ++ rdo cx (eqP (.int ck ci)), [], [], [(m', ((N, kk), blkX k e ((List.replicate l z0).flatMap f)))], [kk], mvP (N, kk) k 0 (List.replicate l z0).length (List.replicate l z0).length⟩ := by
  have := op_makeSlice (P := P) (n := n) (N := N) (F := F) (R := R) (d := d) (T := T) (pos := pos) (after := after) (m' := m') (kk := kk) hl hc hli hci hm' ht hz hs hby hzs hzk hk0 h1 (Nat.le_refl _) hc1 hc2
  rw [← flatten_rep, List.length_replicate]
  exact this
end
section
variable {P : Program} {C : Cx} {F : Fr} {L : Tk} {fn : Func} {R : Ending → World → Prop} {post : (Nat → Id) → Pred} {prod : (Nat → Id) → List (Id × Res)} {moves : List (Nat × Id × Res)}
end
end Go.AL
namespace Go.AL
open Go.RowKit
inductive TokIn (R : Toks) : List (Nat × Id × Res) → Prop
  | nil : TokIn R []
  | cons {m : Nat} {id : Id} {r : Res} {l : List (Nat × Id × Res)} (h : R m = some (id, r)) (t : TokIn R l) : TokIn R ((m, id, r) :: l)
theorem TokIn.at_ {R : Toks} {l : List (Nat × Id × Res)} (h : TokIn R l) : ∀ x ∈ l, R x.1 = some x.2 := by
  induction h with
  | nil => intro x hx; cases hx
  | cons h _ ih =>
    intro x hx
    rcases List.mem_cons.1 hx with rfl | hx
    · exact h
    · exact ih x hx
inductive AddOK (R : Toks) (del : List (Nat × Id × Res)) : List (Nat × Id × Res) → Prop
  | nil : AddOK R del []
  | new {m : Nat} {x : Id × Res} {l : List (Nat × Id × Res)} (h : R m = none) (t : AddOK R del l) : AddOK R del ((m, x) :: l)
  | old {m : Nat} {x : Id × Res} {l : List (Nat × Id × Res)} (h : del.any (fun y => y.1 == m) = true) (t : AddOK R del l) : AddOK R del ((m, x) :: l)
theorem AddOK.at_ {R : Toks} {del l : List (Nat × Id × Res)} (h : AddOK R del l) : ∀ x ∈ l, R x.1 = none ∨ del.any (fun y => y.1 == x.1) = true := by
  induction h with
  | nil => intro x hx; cases hx
  | new h _ ih =>
    intro x hx
    rcases List.mem_cons.1 hx with rfl | hx
    · exact .inl h
    · exact ih x hx
  | old h _ ih =>
    intro x hx
    rcases List.mem_cons.1 hx with rfl | hx
    · exact .inr h
    · exact ih x hx
section
variable {P : Program} {n N : Nat} {F : Fr} {R : Toks} {d : Option Nat} {T : TypeId} {pos : String} {after : Array Edge}
/-- **a call, blocks handed over and taken back** -/
theorem op_callG2 {f : FuncId} {l : List Operand} {ts : Array TypeId} {pre : List Pred} {k : Nat} {post : (Nat → Id) → Pred} {prod : (Nat → Id) → List (Id × Res)} {rd : List (Nat × Pred)} {del add : List (Nat × Id × Res)} {ks : List Nat} {φ : Pred}
    (hdel : TokIn R del) (hc : FnOK P f pre (del.map (·.2)) k post prod) (hargs : Args F l pre rd) (hf : fnB P f = true) (hk : ks.length = k) (hφ : post (fun j => (N, ks.getD j 0)) = φ) (hprod : prod (fun j => (N, ks.getD j 0)) = add.map (·.2))
    (hadd : AddOK R del add) (hnd : (nodupN del && nodupN add && nodupB ks && Nat.ble add.length 1000000) = true) :
    OpJ P n N F R ⟨d, .call { callee := .value (.func f), args := l.toArray, argTypes := ts }, T, pos, after, none⟩ ⟨rd, [], del, add, ks, φ⟩ :=
  hφ ▸ op_callG hc hargs hf hk hprod hnd hdel.at_ hadd.at_
end
end Go.AL
namespace Go.AL
open Go.RowKit
section
variable {P : Program} {n N : Nat} {F : Fr} {R : Toks} {d : Option Nat} {T : TypeId} {pos : String} {after : Array Edge} {α : Type} {f : α → List Pred} {k : Nat} {xs : List α} {t e : TypeId}
end
end Go.AL


namespace Go.AL
theorem cq1 (a b : Bool) : ((a && b) = true) = (a = true ∧ b = true) := Bool.and_eq_true a b
theorem cq2 (a b : Bool) : ((a || b) = true) = (a = true ∨ b = true) := Bool.or_eq_true a b
theorem cq3 {a b : Bool} : (a && b) = false ↔ a = false ∨ b = false := Bool.and_eq_false_iff
theorem cq4 {a b : Bool} : (a || b) = false ↔ a = false ∧ b = false := Bool.or_eq_false_iff
theorem cq5 {p : Prop} [Decidable p] : (decide p = true) = p := decide_eq_true_eq
theorem cq6 {p : Prop} {_ : Decidable p} : decide p = false ↔ ¬ p := decide_eq_false_iff_not
theorem cq7 (a : Bool) : ((!a) = true) = (a = false) := Bool.not_eq_true' a
theorem cq8 (a : Bool) : ((!a) = false) = (a = true) := Bool.not_eq_false' a
theorem cq9 {α β : Type _} {l : List α} (f : α → β) : (l.map f).length = l.length := List.length_map f
theorem cq10 {α : Sort _} (a b : α) : (a ≠ b) = ¬ (a = b) := rfl
theorem cq11 {p : Prop} [Decidable p] : ¬ ¬ p ↔ p := Decidable.not_not
theorem cq12 {a b : Int} : ¬ a < b ↔ b ≤ a := Int.not_lt
theorem cq13 {a b : Int} : ¬ a ≤ b ↔ b < a := Int.not_le
theorem ent_auto {p q : Pred} (h : Ent p q := by repeat (first | exact Ents.nil | refine Ents.cons ?_ ?_ | refine Ent.tup ?_ | refine Ent.agg ?_ | exact Ent.row _ _ _ _ | exact Ent.nil _ _ | exact Ent.func _ | exact Ent.refl _ | exact Ent.of_eq rfl | refine Ent.cells ?_)) : Ent p q := h
end Go.AL


namespace Go.AL
theorem entB {b c : Bool} (e : b = c) : Ent (eqP (.bool b)) (eqP (.bool c)) := Ent.of_eq (by rw [e])
theorem entI {k : IntKind} {b c : Int} (e : b = c) : Ent (eqP (.int k b)) (eqP (.int k c)) := Ent.of_eq (by rw [e])
def idxF {α : Type} (φ : α → Bool) (l : List α) : Int := match l.findIdx? φ with | some i => (i : Int) | none => -1
section
variable {α : Type} {φ : α → Bool} {l : List α} {k : Nat}
theorem idxF_any (φ : α → Bool) (l : List α) : decide (idxF φ l ≥ 0) = l.any φ := by
  unfold idxF
  cases h : l.findIdx? φ with
  | some i =>
    obtain ⟨hi, hp, _⟩ := List.findIdx?_eq_some_iff_getElem.1 h
    have : l.any φ = true := List.any_eq_true.2 ⟨l[i], List.getElem_mem hi, hp⟩
    rw [this]
    simp
  | none =>
    have := List.findIdx?_eq_none_iff.1 h
    have h2 : l.any φ = false := by rw [List.any_eq_false]; intro x hx; simpa using this x hx
    rw [h2]
    simp
theorem findIdx_at (hk : k < l.length) (h : ∀ x ∈ l.take k, φ x = false) (hp : φ l[k] = true) : l.findIdx? φ = some k := by
  rw [List.findIdx?_eq_some_iff_getElem]
  refine ⟨hk, hp, fun j hj => ?_⟩
  have : l[j] ∈ l.take k := by
    rw [List.mem_iff_getElem]
    exact ⟨j, by simp; omega, by simp⟩
  simpa using h _ this
theorem idxF_at (hk : k < l.length) (h : ∀ x ∈ l.take k, φ x = false) (hp : φ l[k] = true) : idxF φ l = k := by
  simp [idxF, findIdx_at hk h hp]
theorem idxF_none (h : ∀ x ∈ l, φ x = false) : idxF φ l = -1 := by
  have : l.findIdx? φ = none := by rw [List.findIdx?_eq_none_iff]; intro x hx; simpa using h x hx
  simp [idxF, this]
theorem take_all (h : ∀ x ∈ l.take k, φ x = false) (hk : k < l.length) (hp : φ l[k] = false) : ∀ x ∈ l.take (k + 1), φ x = false := by
  intro x hx
  rw [List.take_succ_eq_append_getElem hk] at hx
  rcases List.mem_append.1 hx with h1 | h1
  · exact h x h1
  · simp at h1; rw [h1]; exact hp
theorem all_step (h : (l.take k).all φ = true) (hk : k < l.length) (hp : φ l[k] = true) : (l.take (k + 1)).all φ = true := by
  rw [List.take_succ_eq_append_getElem hk, List.all_append, h]
  simp [hp]
theorem all_end (h : (l.take k).all φ = true) (hk : l.length ≤ k) : l.all φ = true := by rwa [List.take_of_length_le hk] at h
theorem all_bad (hk : k < l.length) (hp : φ l[k] = false) : l.all φ = false := by
  rw [List.all_eq_false]
  exact ⟨_, List.getElem_mem hk, by simp [hp]⟩
theorem take_step {xs ys : List α} (h : xs.take k = ys.take k) (hx : k < xs.length) (hy : k < ys.length) (he : xs[k] = ys[k]) : xs.take (k + 1) = ys.take (k + 1) := by
  rw [List.take_succ_eq_append_getElem hx, List.take_succ_eq_append_getElem hy, h, he]
theorem take_end {xs ys : List α} (h : xs.take k = ys.take k) (hx : xs.length ≤ k) (hy : ys.length ≤ k) : xs = ys := by
  rwa [List.take_of_length_le hx, List.take_of_length_le hy] at h
theorem ne_at [DecidableEq α] {xs ys : List α} (hx : k < xs.length) (hy : k < ys.length) (he : xs[k] ≠ ys[k]) : decide (xs = ys) = false := by
  refine decide_eq_false fun e => ?_
  subst e
  exact he rfl
theorem drop_at (hk : k < l.length) : l.drop k = l[k] :: l.drop (k + 1) := List.drop_eq_getElem_cons hk
theorem take_at (hk : k < l.length) : l.take (k + 1) = l.take k ++ [l[k]] := List.take_succ_eq_append_getElem hk
end
end Go.AL


namespace Go.AL
open Go.RowKit
/-- a slice over a new block of the call's own, all its cells zero: n of them -/
def growP (id : Id) (n : Nat) : Pred := ⟨fun σ v => ∃ b, σ.ρ id = some (some b) ∧ v = .slice (some ⟨b, 0, none⟩) n (σ.z id) ∧ n ≤ σ.z id ∧ σ.z id ≤ maxLen, fun _ _ _ hle ⟨b, hb, hv, h1, h2⟩ =>
  ⟨b, hle.ρ _ _ hb, by rw [hle.z _ _ hb]; exact hv, by rw [hle.z _ _ hb]; exact h1, by rw [hle.z _ _ hb]; exact h2⟩⟩
section
variable {P : Program} {n N : Nat} {F : Fr} {R : Toks} {d : Option Nat} {T t tn e : TypeId} {pos : String} {after : Array Edge} {x y : Operand} {k bytes : Nat} {ik kn : IntKind}
theorem op_len_nil (hx : opd F x = some (eqP (.slice none 0 0))) (ht : elemB P t = some e) :
    OpJ P n N F R ⟨d, .call { callee := .builtin .len, args := #[x], argTypes := #[t] }, T, pos, after, none⟩ ⟨rdo x (eqP (.slice none 0 0)), [], [], [], [], eqP (.int .i64 0)⟩ :=
  opj1 hx fun σ W a h => ⟨.int .i64 0, by
    have hv : a.eval x = .slice none 0 0 := h
    simp [execOp, resolve, invoke, builtin, Builtin.len_, hv, run_underlying (elem_of ht), goInt], rfl⟩
end
end Go.AL
namespace Go.AL
open Go.RowKit
section
variable {P : Program} {n N : Nat} {F : Fr} {R : Toks} {d : Option Nat} {T : TypeId} {pos : String} {after : Array Edge} {x y : Operand} {u v : Int} {t t' : TypeId}
/-- sums whatever their size -/
theorem op_add_w (hx : opd F x = some (eqP (.int .i64 u))) (hy : opd F y = some (eqP (.int .i64 v))) :
    OpJ P n N F R ⟨d, .binOp .add t x y t', T, pos, after, none⟩ ⟨rdo x (eqP (.int .i64 u)) ++ rdo y (eqP (.int .i64 v)), [], [], [], [], eqP (.int .i64 (IntKind.i64.wrap (u + v)))⟩ :=
  op_bin_raw hx hy fun W => by simp [binOp, eqGuard, Op.intArith]
theorem op_sub_w (hx : opd F x = some (eqP (.int .i64 u))) (hy : opd F y = some (eqP (.int .i64 v))) :
    OpJ P n N F R ⟨d, .binOp .sub t x y t', T, pos, after, none⟩ ⟨rdo x (eqP (.int .i64 u)) ++ rdo y (eqP (.int .i64 v)), [], [], [], [], eqP (.int .i64 (IntKind.i64.wrap (u - v)))⟩ :=
  op_bin_raw hx hy fun W => by simp [binOp, eqGuard, Op.intArith]
end
end Go.AL
namespace Go.AL
section
variable {P : Program} {C : Cx} {F : Fr} {L : Tk} {Q : Exit → Act → World → Prop}
/-- a test that is asked again: what it was is kept -/
theorem tr_cond2 {t : Nat} {x y : Code} {b : Bool} (hb : lk F t = some (eqP (.bool b))) (ht : b = true → Tr P C x ((t, eqP (.bool true)) :: F) L Q) (hf : b = false → Tr P C y ((t, eqP (.bool false)) :: F) L Q) : Tr P C (.cond (.tmp t) x y) F L Q := by
  refine tr_cond hb (fun h => ?_) (fun h => ?_)
  · rintro a W ⟨σ, h1, h2, h3⟩
    refine ht h a W ⟨σ, h1, h2, h3.size, h3.defers, h3.mod, fun t' q hq => ?_⟩
    rw [lk_cons] at hq
    split at hq
    · rename_i e; subst e; simp at hq; subst hq; have := h3.fr t _ hb; rwa [h] at this
    · exact h3.fr t' q hq
  · rintro a W ⟨σ, h1, h2, h3⟩
    refine hf h a W ⟨σ, h1, h2, h3.size, h3.defers, h3.mod, fun t' q hq => ?_⟩
    rw [lk_cons] at hq
    split at hq
    · rename_i e; subst e; simp at hq; subst hq; have := h3.fr t _ hb; rwa [h] at this
    · exact h3.fr t' q hq
end
end Go.AL


namespace Go.Ch
open Go.AL
structure V where
  kind : Int
  n : Int
  off : Int
  deriving DecidableEq, Inhabited
structure Wt where
  g : Int
  c : Int
  v : V
  deriving DecidableEq, Inhabited
structure Ob where
  id : Int
  cells : List V
  chan : Bool
  cap : Int
  queue : List V
  closed : Bool
  sent : Int
  received : Int
  senders : List Wt
  receivers : List Wt
  deriving DecidableEq, Inhabited
structure Trf where
  status : Int
  value : V
  ok : Bool
  number : Int
  paired : Bool
  partner : Wt
  pnumber : Int
  woken : List Wt
  failed : List Wt
  deriving DecidableEq, Inhabited
def v0 : V := ⟨0, 0, 0⟩
def w0 : Wt := ⟨0, 0, v0⟩
def ob0 : Ob := ⟨0, [], false, 0, [], false, 0, 0, [], []⟩
def tr0 : Trf := ⟨0, v0, false, 0, false, w0, 0, [], []⟩
def vp (v : V) : List Pred := [eqP (.int .i64 v.kind), eqP (.int .i64 v.n), eqP (.int .i64 v.off)]
theorem vp_len (v : V) : (vp v).length = 3 := rfl
def wp (w : Wt) : List Pred := [eqP (.int .i64 w.g), eqP (.int .i64 w.c), eqP (.int .i64 w.v.kind), eqP (.int .i64 w.v.n), eqP (.int .i64 w.v.off)]
def vv (v : V) : List Value := [.int .i64 v.kind, .int .i64 v.n, .int .i64 v.off]
def wv (w : Wt) : List Value := [.int .i64 w.g, .int .i64 w.c, .int .i64 w.v.kind, .int .i64 w.v.n, .int .i64 w.v.off]
def Ob.ps (o : Ob) : List Pred := [eqP (.int .i64 o.id), slP vp 3 o.cells, eqP (.bool o.chan), eqP (.int .i64 o.cap), slP vp 3 o.queue, eqP (.bool o.closed), eqP (.int .i64 o.sent), eqP (.int .i64 o.received), slP wp 5 o.senders, slP wp 5 o.receivers]
def Trf.ps (t : Trf) : List Pred := [eqP (.int .i64 t.status), eqP (.int .i64 t.value.kind), eqP (.int .i64 t.value.n), eqP (.int .i64 t.value.off), eqP (.bool t.ok), eqP (.int .i64 t.number), eqP (.bool t.paired), eqP (.int .i64 t.partner.g), eqP (.int .i64 t.partner.c),
  eqP (.int .i64 t.partner.v.kind), eqP (.int .i64 t.partner.v.n), eqP (.int .i64 t.partner.v.off), eqP (.int .i64 t.pnumber), slP wp 5 t.woken, slP wp 5 t.failed]
/-- an operation: a channel with a waiter -/
structure Opn where
  o : Ob
  w : Wt
def Opn.ps (p : Opn) : List Pred := [eqP (.int .i64 p.o.id), slP vp 3 p.o.cells, eqP (.bool p.o.chan), eqP (.int .i64 p.o.cap), slP vp 3 p.o.queue, eqP (.bool p.o.closed), eqP (.int .i64 p.o.sent), eqP (.int .i64 p.o.received), slP wp 5 p.o.senders, slP wp 5 p.o.receivers,
  eqP (.int .i64 p.w.g), eqP (.int .i64 p.w.c), eqP (.int .i64 p.w.v.kind), eqP (.int .i64 p.w.v.n), eqP (.int .i64 p.w.v.off)]
def ip (x : Int) : List Pred := [eqP (.int .i64 x)]
def bp (b : Bool) : List Pred := [eqP (.bool b)]
def lp (l : List Wt) : List Pred := [slP wp 5 l]
/-- small enough for every function here -/
structure Lens (o : Ob) : Prop where
  cells : o.cells.length ≤ 1000
  queue : o.queue.length ≤ 1000
  senders : o.senders.length ≤ 1000
  receivers : o.receivers.length ≤ 1000
structure Small (o : Ob) : Prop extends Lens o where
  sent : -4611686018427387904 ≤ o.sent ∧ o.sent ≤ 4611686018427387904
  received : -4611686018427387904 ≤ o.received ∧ o.received ≤ 4611686018427387904
def goro (g : Int) : Bool := decide (g ≥ 0) && decide (g < 8)
def newF (cap : Int) : Ob × Int := if cap < 0 ∨ 64 < cap then (ob0, 1) else ({ ob0 with chan := true, cap := cap }, 0)
def sendReady (o : Ob) : Bool := (o.closed || decide ((o.receivers.length : Int) > 0)) || decide ((o.queue.length : Int) < o.cap)
def recvReady (o : Ob) : Bool := (o.closed || decide ((o.senders.length : Int) > 0)) || decide ((o.queue.length : Int) > 0)
def leaveF (o : Ob) (g : Int) : Ob := { o with senders := o.senders.filter fun w => decide (w.g ≠ g), receivers := o.receivers.filter fun w => decide (w.g ≠ g) }
def otherF (l : List Wt) (g : Int) : Wt × Bool := match l.find? fun w => decide (w.g ≠ g) with | some w => (w, true) | none => (w0, false)
def closedS (p : Opn) : Ob × Trf × Bool := (p.o, { tr0 with status := 2 }, p.o.closed)
def handS (p : Opn) : Ob × Trf × Bool :=
  if (otherF p.o.receivers p.w.g).2 = false then (p.o, tr0, false)
  else ({ leaveF p.o (otherF p.o.receivers p.w.g).1.g with sent := p.o.sent + 1, received := p.o.received + 1 },
    { tr0 with value := p.w.v, ok := true, number := p.o.sent, paired := true, partner := (otherF p.o.receivers p.w.g).1, pnumber := p.o.sent }, true)
def enqS (p : Opn) : Ob × Trf × Bool :=
  if (p.o.queue.length : Int) ≥ p.o.cap then (p.o, tr0, false) else ({ p.o with queue := p.o.queue ++ [p.w.v], sent := p.o.sent + 1 }, { tr0 with value := p.w.v, ok := true, number := p.o.sent }, true)
def parkS (p : Opn) : Ob × Trf × Bool := ({ p.o with senders := p.o.senders ++ [p.w] }, { tr0 with status := 1 }, true)
def relS (p : Opn) : Ob × Trf × Bool :=
  if (otherF p.o.senders p.w.g).2 = false ∨ (p.o.cap > 0 ∧ p.o.queue.length = 0) then (p.o, tr0, false)
  else ({ leaveF p.o (otherF p.o.senders p.w.g).1.g with sent := p.o.sent + 1, received := p.o.received + 1, queue := if p.o.cap > 0 then p.o.queue.drop 1 ++ [(otherF p.o.senders p.w.g).1.v] else p.o.queue },
    { tr0 with value := if p.o.cap > 0 then p.o.queue.headD v0 else (otherF p.o.senders p.w.g).1.v, ok := true, number := p.o.received, paired := true, partner := (otherF p.o.senders p.w.g).1, pnumber := p.o.sent }, true)
def deqS (p : Opn) : Ob × Trf × Bool :=
  if p.o.queue.length = 0 then (p.o, tr0, false) else ({ p.o with queue := p.o.queue.drop 1, received := p.o.received + 1 }, { tr0 with value := p.o.queue.headD v0, ok := true, number := p.o.received }, true)
def exhS (p : Opn) : Ob × Trf × Bool := (p.o, { tr0 with number := p.o.received }, p.o.closed)
def parkR (p : Opn) : Ob × Trf × Bool := ({ p.o with receivers := p.o.receivers ++ [⟨p.w.g, p.w.c, v0⟩] }, { tr0 with status := 1 }, true)
def resS (p : Opn) (q : Nat) : Ob × Trf × Bool :=
  match q with
  | 34 => closedS p | 35 => handS p | 36 => enqS p | 37 => parkS p | 38 => relS p | 39 => deqS p | 40 => exhS p | _ => parkR p
def firstS (p : Opn) : List Nat → Ob × Trf
  | [] => (ob0, tr0)
  | q :: l => if (resS p q).2.2 = true then ((resS p q).1, (resS p q).2.1) else firstS p l
def sendP (o : Ob) (w : Wt) : Ob × Trf := firstS ⟨o, w⟩ [34, 35, 36, 37]
def recvP (o : Ob) (w : Wt) : Ob × Trf := firstS ⟨o, w⟩ [38, 39, 40, 41]
def sendF (o : Ob) (w : Wt) : Ob × Trf :=
  if o.closed = true then (o, { tr0 with status := 2 })
  else if (otherF o.receivers w.g).2 = true then ({ leaveF o (otherF o.receivers w.g).1.g with sent := o.sent + 1, received := o.received + 1 },
    { tr0 with value := w.v, ok := true, number := o.sent, paired := true, partner := (otherF o.receivers w.g).1, pnumber := o.sent })
  else if (o.queue.length : Int) < o.cap then ({ o with queue := o.queue ++ [w.v], sent := o.sent + 1 }, { tr0 with value := w.v, ok := true, number := o.sent })
  else ({ o with senders := o.senders ++ [w] }, { tr0 with status := 1 })
def recvF (o : Ob) (w : Wt) : Ob × Trf :=
  if (otherF o.senders w.g).2 = true ∧ o.cap = 0 then ({ leaveF o (otherF o.senders w.g).1.g with sent := o.sent + 1, received := o.received + 1 },
    { tr0 with value := (otherF o.senders w.g).1.v, ok := true, number := o.received, paired := true, partner := (otherF o.senders w.g).1, pnumber := o.sent })
  else if (otherF o.senders w.g).2 = true ∧ 0 < o.queue.length then ({ leaveF o (otherF o.senders w.g).1.g with sent := o.sent + 1, received := o.received + 1, queue := o.queue.drop 1 ++ [(otherF o.senders w.g).1.v] },
    { tr0 with value := o.queue.headD v0, ok := true, number := o.received, paired := true, partner := (otherF o.senders w.g).1, pnumber := o.sent })
  else if 0 < o.queue.length then ({ o with queue := o.queue.drop 1, received := o.received + 1 }, { tr0 with value := o.queue.headD v0, ok := true, number := o.received })
  else if o.closed = true then (o, { tr0 with number := o.received })
  else ({ o with receivers := o.receivers ++ [⟨w.g, w.c, v0⟩] }, { tr0 with status := 1 })
/-- the first waiter of every goroutine that is not in another list -/
def firstsF (but : List Wt) (out : List Wt) : List Wt → List Wt
  | [] => out
  | w :: l => if (out.any fun x => decide (x.g = w.g)) || (but.any fun x => decide (x.g = w.g)) then firstsF but out l else firstsF but (out ++ [w]) l
def closeF (o : Ob) : Ob × Trf :=
  if o.closed = true then (o, { tr0 with status := 2 })
  else ({ o with closed := true, senders := [], receivers := [] }, { tr0 with number := o.received, woken := firstsF [] [] o.receivers, failed := firstsF (firstsF [] [] o.receivers) [] o.senders })
/-- the filter of the program's Close: with the flags of the goroutines seen -/
def seenF : List Bool → Wt → Bool × List Bool := fun s w => if goro w.g = false ∨ s[w.g.toNat]?.getD false = true then (false, s) else (true, s.set w.g.toNat true)
def filterS {S : Type} (φ : S → Wt → Bool × S) : S → List Wt → List Wt → List Wt × S
  | s, out, [] => (out, s)
  | s, out, w :: l => if (φ s w).1 = true then filterS φ (φ s w).2 (out ++ [w]) l else filterS φ (φ s w).2 out l
def closeP (o : Ob) : Ob × Trf :=
  if o.closed = true then (o, { tr0 with status := 2 })
  else ({ o with closed := true, senders := [], receivers := [] },
    { tr0 with number := o.received, woken := (filterS seenF (List.replicate 8 false) [] o.receivers).1, failed := (filterS seenF (filterS seenF (List.replicate 8 false) [] o.receivers).2 [] o.senders).1 })
def clash (x w : Wt) : Bool := decide (x.g = w.g) && ((decide (x.c = w.c) || decide (x.c = -1)) || decide (w.c = -1))
def inR (w : Wt) : Bool := !((decide (w.g < 0) || decide (w.g ≥ 8)) || decide (w.c < -1))
/-- the reference's check of a waiter against those before it -/
def okR (both : Bool) (seen : List Wt) (w : Wt) : Bool := inR w && seen.all fun x => !(clash x w) && !(both && decide (x.g ≠ w.g))
/-- the program's -/
def okP (both : Bool) (first : Wt) (seen : List Wt) (w : Wt) : Bool := (inR w && !(both && decide (w.g ≠ first.g))) && seen.all fun x => !(clash x w)
def allR (both : Bool) (seen : List Wt) : List Wt → Bool
  | [] => true
  | w :: l => okR both seen w && allR both (seen ++ [w]) l
def allP (both : Bool) (first : Wt) (seen : List Wt) : List Wt → Bool
  | [] => true
  | w :: l => okP both first seen w && allP both first (seen ++ [w]) l
def waitersF (a b : List Wt) : Bool := allR (decide (a ≠ []) && decide (b ≠ [])) [] (a ++ b)
def head1 (o : Ob) : Prop := o.chan = true ∧ o.cells.length = 0 ∧ 0 ≤ o.cap ∧ o.cap ≤ 64 ∧ (o.queue.length : Int) ≤ o.cap ∧ 0 ≤ o.received ∧ o.received ≤ 1099511627776 ∧ o.sent = o.received + o.queue.length
def head2 (o : Ob) : Prop := (o.closed = true → o.senders = [] ∧ o.receivers = []) ∧ (o.senders ≠ [] → (o.queue.length : Int) = o.cap) ∧ (o.receivers ≠ [] → o.queue = [])
instance (o : Ob) : Decidable (head1 o) := by unfold head1; infer_instance
instance (o : Ob) : Decidable (head2 o) := by unfold head2; infer_instance
def validF (o : Ob) : Bool := (decide (head1 o) && decide (head2 o)) && ((o.receivers.all fun w => decide (w.v = v0)) && waitersF o.senders o.receivers)
/-- whether a waiter may be added -/
def fitsF (o : Ob) (w : Wt) (other : List Wt) : Bool :=
  !(((decide (w.g < 0) || decide (w.g ≥ 8)) || decide (w.c < -1)) || decide (o.received ≥ 1099511627776)) &&
  ((o.senders ++ o.receivers).all fun x => !(clash x w)) && (other.all fun x => !(((o.senders ++ o.receivers).any fun y => decide (y.g = w.g)) && (decide (x.g ≠ w.g) || decide (o.cap > 0))))
def fewF (o : Ob) : Bool := ((decide ((o.queue.length : Int) ≤ 20) && decide ((o.senders.length : Int) ≤ 20)) && decide ((o.receivers.length : Int) ≤ 20)) && decide ((o.cells.length : Int) ≤ 20)
/-- a channel whose lists are rows of the call's own -/
def Ob.rs (o : Ob) (i0 i1 i2 i3 : AL.Id) : List Pred := [eqP (.int .i64 o.id), rowP i0 vp 3 o.cells, eqP (.bool o.chan), eqP (.int .i64 o.cap), rowP i1 vp 3 o.queue, eqP (.bool o.closed), eqP (.int .i64 o.sent), eqP (.int .i64 o.received), rowP i2 wp 5 o.senders, rowP i3 wp 5 o.receivers]
def stp (p : Opn) (q : Nat) : List Pred := [clP q [aggP p.ps] []]
section
variable {p : Opn}
end
end Go.Ch


set_option linter.unusedVariables false
namespace Go.AL
open Go.RowKit
/-- what is known of a block that was frozen -/
def frzP (id : Id) (ps : List Pred) : Pred := ⟨fun σ _ => ∃ x, σ.ρ id = some x ∧ ∀ b, x = some b → Cs σ b 0 ps, fun σ τ _ hle ⟨x, hx, h⟩ => ⟨x, hle.ρ _ _ hx, fun b hb => (h b hb).mono hle⟩⟩
def boundP (id : Id) : Pred := ⟨fun σ _ => ∃ x, σ.ρ id = some x, fun σ τ _ hle ⟨x, hx⟩ => ⟨x, hle.ρ _ _ hx⟩⟩
theorem FEnt.frz_bound {id : Id} {ps : List Pred} : FEnt id ps (boundP id) (frzP id ps) := fun σ v hf ⟨x, hx⟩ => ⟨x, hx, fun b hb => hf b (by rw [hx, hb])⟩
inductive FEnts (id : Id) (ps : List Pred) : List Pred → List Pred → Prop
  | nil : FEnts id ps [] []
  | cons {p q : Pred} {l m : List Pred} (h : FEnt id ps p q) (t : FEnts id ps l m) : FEnts id ps (p :: l) (q :: m)
theorem FEnts.refl (id : Id) (ps : List Pred) : ∀ l, FEnts id ps l l
  | [] => .nil
  | p :: l => .cons (.of (Ent.refl p)) (FEnts.refl id ps l)
theorem FEnts.length {id : Id} {ps l m : List Pred} (h : FEnts id ps l m) : m.length = l.length := by
  induction h with
  | nil => rfl
  | cons _ _ ih => simp [ih]
theorem FEnts.at_ {id : Id} {ps l m : List Pred} (h : FEnts id ps l m) : ∀ (j : Nat) (q : Pred), m[j]? = some q → ∃ p, l[j]? = some p ∧ FEnt id ps p q := by
  induction h with
  | nil => intro j q hq; simp at hq
  | @cons p q l m h _ ih =>
    intro j r hr
    cases j with
    | zero => simp at hr; subst hr; exact ⟨p, rfl, h⟩
    | succ j => simpa using ih j r (by simpa using hr)
theorem FEnts.vs {id : Id} {ps l m : List Pred} (h : FEnts id ps l m) {σ : Sg} {cs : List Value} (hf : ∀ b, σ.ρ id = some (some b) → Cs σ b 0 ps) (hv : Vs σ l cs) : Vs σ m cs :=
  ⟨hv.1.trans h.length.symm, fun j q u hq hu => by
    obtain ⟨p, hp, he⟩ := h.at_ j q hq
    obtain ⟨h1, h2⟩ := hv.2 j p u hp hu
    exact ⟨he σ u hf h1, h2⟩⟩
theorem FEnts.cs {id : Id} {ps l m : List Pred} (h : FEnts id ps l m) {σ : Sg} {b off : Nat} (hf : ∀ b, σ.ρ id = some (some b) → Cs σ b 0 ps) (hv : Cs σ b off l) : Cs σ b off m := fun j q hq => by
  obtain ⟨p, hp, he⟩ := h.at_ j q hq
  obtain ⟨u, hu, h1, h2⟩ := hv j p hp
  exact ⟨u, hu, he σ u hf h1, h2⟩
theorem FEnt.agg {id : Id} {ps l m : List Pred} (h : FEnts id ps l m) : FEnt id ps (aggP l) (aggP m) := fun σ v hf ⟨cs, hv, hc⟩ => ⟨cs, hv, h.vs hf hc⟩
theorem FEnt.cells {id : Id} {ps l m : List Pred} (h : FEnts id ps l m) : FEnt id ps (cellsP l) (cellsP m) := fun σ v hf ⟨b, off, hv, hc⟩ => ⟨b, off, hv, h.cs hf hc⟩
/-- a list of which every element is said anew -/
theorem FEnt.sl {α β : Type} {id : Id} {ps : List Pred} {f : α → List Pred} {g : β → List Pred} {k : Nat} {xs : List α} {ys : List β} (hl : xs.length = ys.length) (h : ∀ (i : Nat) (x : α) (y : β), xs[i]? = some x → ys[i]? = some y → FEnts id ps (f x) (g y)) : FEnt id ps (slP f k xs) (slP g k ys) :=
  fun σ v hf ⟨a, cap, hv, h1, h2, h3⟩ => ⟨a, cap, by rw [hv, hl], by omega, h2, fun hp => by
    obtain ⟨b, off, ha, hc⟩ := h3 (by omega)
    refine ⟨b, off, ha, fun i y hy => ?_⟩
    have hi : i < xs.length := by rw [hl]; exact (List.getElem?_eq_some_iff.1 hy).1
    exact (h i xs[i] y (List.getElem?_eq_getElem hi) hy).cs hf (hc i _ (List.getElem?_eq_getElem hi))⟩
theorem FEnts.flat {α β : Type} {id : Id} {ps : List Pred} {f : α → List Pred} {g : β → List Pred} : ∀ {xs : List α} {ys : List β}, xs.length = ys.length → (∀ (i : Nat) (x : α) (y : β), xs[i]? = some x → ys[i]? = some y → FEnts id ps (f x) (g y)) → FEnts id ps (xs.flatMap f) (ys.flatMap g)
  | [], [], _, _ => .nil
  | x :: xs, y :: ys, hl, h => by
    have ih := FEnts.flat (f := f) (g := g) (xs := xs) (ys := ys) (by simpa using hl) fun i a b ha hb => h (i + 1) a b (by simpa using ha) (by simpa using hb)
    have h0 := h 0 x y rfl rfl
    rw [List.flatMap_cons, List.flatMap_cons]
    generalize f x = l at h0 ⊢
    generalize g y = m at h0 ⊢
    induction h0 with
    | nil => exact ih
    | cons hh _ ih2 => exact .cons hh ih2
section
variable {P : Program} {C : Cx} {F : Fr} {L : Tk} {Q : Exit → Act → World → Prop} {c : Code}
/-- a block of the call's own has a name -/
theorem tr_bound (t : Nat) {id : Id} {r : Res} {m : Nat} (hm : lk L m = some (some (id, r))) (h : Tr P C c ((t, boundP id) :: F) L Q) : Tr P C c F L Q := by
  rintro a W ⟨σ, h1, h2, h3⟩
  refine h a W ⟨σ, h1, h2, h3.size, h3.defers, h3.mod, fun t' p hp => ?_⟩
  rw [lk_cons] at hp
  split at hp
  · simp at hp
    subst hp
    exact Option.ne_none_iff_exists'.1 (h3.mod.used m (id, r) (by simp [tkf, hm]))
  · exact h3.fr t' p hp
/-- what was said of a frozen block is said anew: in the slots, and in one block of the call's own -/
theorem tr_thaw {F' : Fr} {id id' : Id} {ps qs qs' : List Pred} {t n κ : Nat} {B : TypeId} (ht : lk F t = some (frzP id ps)) (hF : SubZ id ps F F') (hn : lk L n = some (some (id', blkX κ B qs))) (hq : FEnts id ps qs qs')
    (h : Tr P C c F' ((n, some (id', blkX κ B qs')) :: L) Q) : Tr P C c F L Q := by
  rintro a W ⟨σ, h1, h2, h3⟩
  obtain ⟨x, hx, hfx⟩ := h3.fr t _ ht
  have hf : ∀ b, σ.ρ id = some (some b) → Cs σ b 0 ps := fun b hb => hfx b (by rw [hx] at hb; simpa using hb)
  refine h a W ⟨σ, h1, h2, h3.size, h3.defers, h3.mod.resMono (fun n => n) (fun n m h _ _ => h) ?_, fun t q hq => ?_⟩
  · intro m y hy
    rw [tkf_cons] at hy
    simp only at hy
    split at hy
    · rename_i e
      subst e
      cases hy
      refine ⟨blkX κ B qs, by simp [tkf, hn], ?_⟩
      rintro b o ⟨cs, rest, ho, hv, hz, hnn⟩
      exact ⟨cs, rest, ho, hq.vs hf hv, hz, hnn⟩
    · exact ⟨y.2, hy, fun b o h => h⟩
  · obtain ⟨p, hp, hpq⟩ := hF.at_ t q hq
    exact hpq σ _ hf (h3.fr t p hp)
end
theorem OpJ.ent {P : Program} {n N : Nat} {F : Fr} {R : Toks} {o : Oper} {rd : List (Nat × Pred)} {use del add : List (Nat × Id × Res)} {new : List Nat} {φ ψ : Pred} (h : OpJ P n N F R o ⟨rd, use, del, add, new, φ⟩) (he : Ent φ ψ) : OpJ P n N F R o ⟨rd, use, del, add, new, ψ⟩ where
  loc := fun σ W R a K h1 h2 h3 h4 h5 h6 h7 h8 h9 => h.loc σ W R a K h1 h2 h3 h4 h5 h6 h7 h8 fun σ' W' v g1 g2 g3 g4 => h9 σ' W' v g1 g2 g3 (he σ' v g4)
  rd := h.rd
  use := h.use
  del := h.del
  add := h.add
end Go.AL


namespace Go.Hp
open Go.AL Go.Ch
structure Sy where
  obj : Int
  off : Int
  kind : Int
  owner : Int
  readers : List Int
  count : Int
  deriving DecidableEq, Inhabited
structure Df where
  fn : Int
  args : List V
  deriving DecidableEq, Inhabited
structure Fm where
  fn : Int
  pc : Int
  regs : List V
  dest : Int
  defers : List Df
  leaving : Bool
  result : V
  deriving DecidableEq, Inhabited
structure Gr where
  state : Int
  fault : Int
  allocs : Int
  frames : List Fm
  deriving DecidableEq, Inhabited
structure Mc where
  objects : List Ob
  syncs : List Sy
  gors : List Gr
  output : List Int
  deriving DecidableEq, Inhabited
def Sy.ps (s : Sy) : List Pred := [eqP (.int .i64 s.obj), eqP (.int .i64 s.off), eqP (.int .i64 s.kind), eqP (.int .i64 s.owner), slP ip 1 s.readers, eqP (.int .i64 s.count)]
theorem Sy.len (s : Sy) : s.ps.length = 6 := rfl
def Df.ps (d : Df) : List Pred := [eqP (.int .i64 d.fn), slP vp 3 d.args]
theorem Df.len (d : Df) : d.ps.length = 2 := rfl
def Fm.ps (f : Fm) : List Pred := [eqP (.int .i64 f.fn), eqP (.int .i64 f.pc), slP vp 3 f.regs, eqP (.int .i64 f.dest), slP Df.ps 2 f.defers, eqP (.bool f.leaving), eqP (.int .i64 f.result.kind), eqP (.int .i64 f.result.n), eqP (.int .i64 f.result.off)]
theorem Fm.len (f : Fm) : f.ps.length = 9 := rfl
def Gr.ps (g : Gr) : List Pred := [eqP (.int .i64 g.state), eqP (.int .i64 g.fault), eqP (.int .i64 g.allocs), slP Fm.ps 9 g.frames]
theorem Gr.len (g : Gr) : g.ps.length = 4 := rfl
theorem Ob.len (o : Ob) : o.ps.length = 10 := rfl
/-- an object whose cells lie in a block of the call's own -/
def obCs (o : Ob) (id : AL.Id) : List Pred := [eqP (.int .i64 o.id), mvP id 3 0 o.cells.length o.cells.length, eqP (.bool o.chan), eqP (.int .i64 o.cap), slP vp 3 o.queue, eqP (.bool o.closed), eqP (.int .i64 o.sent), eqP (.int .i64 o.received), slP wp 5 o.senders, slP wp 5 o.receivers]
def Mc.ps (m : Mc) : List Pred := [slP Ob.ps 10 m.objects, slP Sy.ps 6 m.syncs, slP Gr.ps 4 m.gors, slP ip 1 m.output]
/-- a machine whose goroutines lie in a block of the call's own -/
def mcG (m : Mc) (id : AL.Id) : List Pred := [slP Ob.ps 10 m.objects, slP Sy.ps 6 m.syncs, mvP id 4 0 m.gors.length m.gors.length, slP ip 1 m.output]
theorem Mc.len (m : Mc) : m.ps.length = 4 := rfl
/-- lists that are not too long -/
structure BdO (n : Nat) (o : Ob) : Prop where
  cells : o.cells.length ≤ n
  queue : o.queue.length ≤ n
  senders : o.senders.length ≤ n
  receivers : o.receivers.length ≤ n
structure BdF (n : Nat) (f : Fm) : Prop where
  regs : f.regs.length ≤ n
  defers : f.defers.length ≤ n
  args : ∀ d ∈ f.defers, d.args.length ≤ n
structure BdG (n : Nat) (g : Gr) : Prop where
  frames : g.frames.length ≤ n
  each : ∀ f ∈ g.frames, BdF n f
structure Bd (n : Nat) (m : Mc) : Prop where
  objects : m.objects.length ≤ n
  object : ∀ o ∈ m.objects, BdO n o
  syncs : m.syncs.length ≤ n
  readers : ∀ s ∈ m.syncs, s.readers.length ≤ n
  gors : m.gors.length ≤ n
  gor : ∀ g ∈ m.gors, BdG n g
  output : m.output.length ≤ n
theorem BdO.mono {n n' : Nat} {o : Ob} (h : BdO n o) (hn : n ≤ n') : BdO n' o := ⟨Nat.le_trans h.cells hn, Nat.le_trans h.queue hn, Nat.le_trans h.senders hn, Nat.le_trans h.receivers hn⟩
theorem BdF.mono {n n' : Nat} {f : Fm} (h : BdF n f) (hn : n ≤ n') : BdF n' f := ⟨Nat.le_trans h.regs hn, Nat.le_trans h.defers hn, fun d hd => Nat.le_trans (h.args d hd) hn⟩
theorem BdG.mono {n n' : Nat} {g : Gr} (h : BdG n g) (hn : n ≤ n') : BdG n' g := ⟨Nat.le_trans h.frames hn, fun f hf => (h.each f hf).mono hn⟩
theorem Bd.mono {n n' : Nat} {m : Mc} (h : Bd n m) (hn : n ≤ n') : Bd n' m :=
  ⟨Nat.le_trans h.objects hn, fun o ho => (h.object o ho).mono hn, Nat.le_trans h.syncs hn, fun s hs => Nat.le_trans (h.readers s hs) hn, Nat.le_trans h.gors hn, fun g hg => (h.gor g hg).mono hn, Nat.le_trans h.output hn⟩
end Go.Hp


namespace Go.Hp
open Go.AL Go.Ch
def szL {α : Type} (sz : α → Nat) (l : List α) : Nat := (l.map sz).sum + 1
theorem mem_le {α : Type} {sz : α → Nat} : ∀ {l : List α} {x : α}, x ∈ l → sz x ≤ (l.map sz).sum
  | y :: l, x, h => by
    rw [List.map_cons, List.sum_cons]
    rcases List.mem_cons.1 h with rfl | h
    · omega
    · have := mem_le (sz := sz) h; omega
theorem len_le {α : Type} {sz : α → Nat} (h : ∀ x, 1 ≤ sz x) : ∀ (l : List α), l.length ≤ (l.map sz).sum
  | [] => Nat.le_refl _
  | y :: l => by
    rw [List.map_cons, List.sum_cons, List.length_cons]
    have := h y
    have := len_le h l
    omega
def szV (_ : V) : Nat := 4
def szW (_ : Wt) : Nat := 7
def szO (o : Ob) : Nat := szL szV o.cells + szL szV o.queue + szL szW o.senders + szL szW o.receivers
def szI (_ : Int) : Nat := 1
def szS (s : Sy) : Nat := szL szI s.readers
def szD (d : Df) : Nat := szL szV d.args
def szF (f : Fm) : Nat := szL szV f.regs + szL szD f.defers
def szG (g : Gr) : Nat := szL szF g.frames
def szM (m : Mc) : Nat := szL szO m.objects + szL szS m.syncs + szL szG m.gors + szL szI m.output
theorem bdF_of {n : Nat} {f : Fm} (h : szF f ≤ n) : BdF n f := by
  have h1 := len_le (sz := szV) (fun _ => by unfold szV; omega) f.regs
  have h2 := len_le (sz := szD) (fun _ => by unfold szD szL; omega) f.defers
  unfold szF szL at h
  refine ⟨by omega, by omega, fun d hd => ?_⟩
  have h3 := mem_le (sz := szD) hd
  have h4 := len_le (sz := szV) (fun _ => by unfold szV; omega) d.args
  have h5 : d.args.length ≤ szD d := by unfold szD szL; omega
  omega
end Go.Hp


namespace Go.AL
open Go.RowKit
theorem run_copy_rowk {P : Program} (w : World) (dT sT ty elem : TypeId) (g o dLen dCap : Nat) (a : Addr) (sLen sCap k : Nat) (cur : Array Value) (t : TypeId) (cs : List Value)
    (hu : P.underlying dT = some (.slice elem)) (hs : (P.info? elem).map (·.size) = some k)
    (hg : w.heap[g]? = some (.cells cur t (0, 0))) (hn : cs.length = Nat.min sLen dLen * k)
    (hsrc : ∀ j v, cs[j]? = some v → w.cell? (a.add j) = some v) (hfit : o + cs.length ≤ cur.size) (h1 : ∀ v ∈ cs, v.oneCell' = true) :
    (Builtin.copy_ #[dT, sT] ty #[.slice (some ⟨g, o, none⟩) dLen dCap, .slice (some a) sLen sCap]).run P w =
      .ok (goInt (Nat.min sLen dLen)) (w.setRow g (cur.toList.take o ++ cs ++ cur.toList.drop (o + cs.length)).toArray) := by
  have hl := run_loadCells_list (P := P) w a cs hsrc
  have hst := run_storeCells_at P g o t cs 0 cur w hg (by simpa using hfit) h1
  cases hq : P.info? elem with
  | none => simp [hq] at hs
  | some i =>
    have hi : i.size = k := by simpa [hq] using hs
    simp [Builtin.copy_, run_underlying hu, Builtin.lenOf, Builtin.firstCells, sizeOf, typeInfo, hq, hi, ← hn, hl, hst]
/-- the block has room for z elements (said of whatever value) -/
def zP (id : Id) (z : Nat) : Pred :=
  ⟨fun σ _ => σ.z id = z ∧ σ.ρ id ≠ none, fun σ τ v hle ⟨h1, h2⟩ => by
     obtain ⟨ob, hob⟩ := Option.ne_none_iff_exists'.1 h2
     exact ⟨by rw [hle.z _ _ hob]; exact h1, by rw [hle.ρ _ _ hob]; simp⟩⟩
/-- a slice's room -/
def capP (id : Id) (off : Nat) : Pred :=
  ⟨fun σ v => v = .int .i64 ((σ.z id - off : Nat) : Int) ∧ σ.ρ id ≠ none, fun σ τ v hle ⟨h1, h2⟩ => by
     obtain ⟨ob, hob⟩ := Option.ne_none_iff_exists'.1 h2
     exact ⟨by rw [hle.z _ _ hob]; exact h1, by rw [hle.ρ _ _ hob]; simp⟩⟩
section
variable {P : Program} {C : Cx} {F : Fr} {L : Tk} {Q : Exit → Act → World → Prop} {cd : Code}
end
section
variable {P : Program} {n N : Nat} {F : Fr} {R : Toks} {d : Option Nat} {T : TypeId} {pos : String} {after : Array Edge} {k : Nat} {t e : TypeId} {ik : IntKind} {id : Id} {off len c : Nat}
end
theorem drop_rest {α : Type} {cs rest us : List α} {o : Nat} (h : o ≤ cs.length) :
    (cs ++ rest).take o ++ us ++ (cs ++ rest).drop (o + us.length) = (cs.take o ++ us ++ cs.drop (o + us.length)) ++ rest.drop (o + us.length - cs.length) := by
  rw [List.take_append_of_le_length h, List.drop_append]
  simp
/-- a stretch of a block written, past what is known of it -/
theorem Models.wrX {σ : Sg} {R : Toks} {W : World} (h : Models σ R W) {m b κ : Nat} {id : Id} {B : TypeId} {ps qs : List Pred} {us : List Value} (hRm : R m = some (id, blkX κ B ps)) (hb : σ.ρ id = some (some b)) (hκ : κ ≠ 0) {o : Nat} (hu : Vs σ qs us) (ho : o ≤ ps.length) (hl : o + qs.length ≤ σ.z id * κ) :
    ∃ cur : List Value, W.heap[b]? = some (.cells cur.toArray B (0, 0)) ∧ cur.length = σ.z id * κ ∧
      Models σ (fun q => if q = m then some (id, blkX κ B (splice ps o qs)) else R q) (W.setRow b (cur.take o ++ us ++ cur.drop (o + us.length)).toArray) := by
  obtain ⟨cs, rest, hcs, hvs, hz, _⟩ := blk_read h hRm hb
  have l1 := hvs.1
  have l2 := hu.1
  have l3 := hz hκ
  refine ⟨cs ++ rest, hcs, l3, ?_⟩
  have hdr := drop_rest (us := us) (rest := rest) (show o ≤ cs.length by omega)
  have hlen : ((cs ++ rest).take o ++ us ++ (cs ++ rest).drop (o + us.length)).length = σ.z id * κ := by
    simp only [List.length_append, List.length_take, List.length_drop] at l3 ⊢
    omega
  rw [hdr] at hlen ⊢
  exact h.write hRm hb (setRow_heap W b _ _ B (0, 0) hcs) (fun _ => hlen) (fun k hk => setRow_other W b k _ hk) (by simp) rfl rfl rfl (hvs.splice hu o)
section
variable {P : Program} {n N : Nat} {F : Fr} {R : Toks} {d : Option Nat} {T : TypeId} {pos : String} {after : Array Edge} {k : Nat} {t ts e : TypeId} {id : Id}
theorem op_copy_src {x y : Operand} {p : Pred} {m o1 n1 cnt c : Nat} {ps qs : List Pred} {us : List (Nat × Id × Res)} (hx : opd F x = some (mvP id k o1 n1 c)) (hy : opd F y = some p) (hR : R m = some (id, blkX k e ps)) (hus : ∀ z ∈ us, R z.1 = some z.2)
    (ht : elemB P t = some e) (hs : sizeB P e = some k) (hk0 : k ≠ 0) (hpos : 0 < cnt) (hcnt : cnt ≤ n1) (ho : o1 * k ≤ ps.length) (hql : qs.length = cnt * k)
    (hsrc : ∀ (σ : Sg) (W : World) (R : Toks) (v : Value), Models σ R W → R m = some (id, blkX k e ps) → (∀ z ∈ us, R z.1 = some z.2) → p.h σ v → ∃ ad sl sc vs, v = .slice (some ad) sl sc ∧ Nat.min sl n1 = cnt ∧ Vs σ qs vs ∧ ∀ (j : Nat) (u : Value), vs[j]? = some u → W.cell? (ad.add j) = some u) :
    OpJ P n N F R ⟨d, .call { callee := .builtin .copy, args := #[x, y], argTypes := #[t, ts] }, T, pos, after, none⟩
      ⟨rdo x (mvP id k o1 n1 c) ++ rdo y p, us, [(m, (id, blkX k e ps))], [(m, (id, blkX k e (splice ps (o1 * k) qs)))], [], eqP (.int .i64 cnt)⟩ where
  loc := by
    intro σ W R a K hm h2' h3 h4 h5 h6 h7 h8 h9 Q
    have hRm := h6 _ (List.mem_cons_self ..)
    obtain ⟨a1, hv1, x1, x2, x3, x4⟩ := holds_of hx fun w hw => h4 w (List.mem_append_left _ hw)
    have hyp := holds_of hy fun w hw => h4 w (List.mem_append_right _ hw)
    obtain ⟨ad, sl, sc, vs, hv2, hmin, hvs, hcell⟩ := hsrc σ W R _ hm hRm h5 hyp
    obtain ⟨b, hb, rfl⟩ := x4 (by omega)
    have hfit : o1 * k + qs.length ≤ σ.z id * k := by
      rw [hql, ← Nat.add_mul]
      exact Nat.mul_le_mul_right _ (by omega)
    obtain ⟨cur, hcur, hcl, hmod⟩ := hm.wrX hRm hb hk0 hvs ho hfit
    obtain ⟨i, hi, his⟩ : ∃ i, P.info? e = some i ∧ i.size = k := by
      unfold sizeB at hs
      cases hi : P.info? e with
      | none => rw [hi] at hs; cases hs
      | some i => rw [hi] at hs; simp at hs; exact ⟨i, rfl, hs⟩
    have hr := run_copy_rowk (P := P) W t ts T e b (o1 * k) n1 (σ.z id - o1) ad sl sc k cur.toArray e vs (elem_of ht) (by rw [hi]; simp [his]) hcur (by rw [hmin, hvs.1, hql]) hcell (by rw [hvs.1, List.size_toArray, hcl]; exact hfit) hvs.ones
    rw [hmin] at hr
    refine wp_value (v := .int .i64 cnt) ?_ (h9 σ _ _ (Le.refl σ) (fun _ _ _ => rfl) (hmod.congr (updR_turn ..)) rfl)
    simp only [execOp, resolve, invoke, builtin, Sem.run_bind, Sem.run_pure, Result.andThen_ok, List.map_toArray, List.map_cons, List.map_nil, hv1, hv2, hr]
    rfl
  rd := rd_app (rd_of hx) (rd_of hy)
  use := hus
  del := by simpa using hR
  add := by simp
def spl {α : Type} (xs : List α) (o : Nat) (ys : List α) : List α := xs.take o ++ ys ++ xs.drop (o + ys.length)
theorem fm_take {α : Type} {f : α → List Pred} {k : Nat} (hk : ∀ z, (f z).length = k) : ∀ (xs : List α) (o : Nat), (xs.flatMap f).take (o * k) = (xs.take o).flatMap f
  | [], o => by simp
  | x :: xs, 0 => by simp
  | x :: xs, o + 1 => by
    rw [List.flatMap_cons, List.take_succ_cons, List.flatMap_cons, List.take_append, hk, ← fm_take hk xs o, List.take_of_length_le (by rw [hk, Nat.succ_mul]; omega), Nat.succ_mul, Nat.add_sub_cancel]
theorem fm_drop {α : Type} {f : α → List Pred} {k : Nat} (hk : ∀ z, (f z).length = k) : ∀ (xs : List α) (o : Nat), (xs.flatMap f).drop (o * k) = (xs.drop o).flatMap f
  | [], o => by simp
  | x :: xs, 0 => by simp
  | x :: xs, o + 1 => by
    rw [List.flatMap_cons, List.drop_succ_cons, List.drop_append, hk, ← fm_drop hk xs o, List.drop_eq_nil_of_le (by rw [hk, Nat.succ_mul]; omega), Nat.succ_mul, Nat.add_sub_cancel, List.nil_append]
theorem fm_spl {α : Type} {f : α → List Pred} {k : Nat} (hk : ∀ z, (f z).length = k) (xs ys : List α) (o : Nat) : splice (xs.flatMap f) (o * k) (ys.flatMap f) = (spl xs o ys).flatMap f := by
  unfold splice spl
  rw [flatMap_len hk, ← Nat.add_mul, fm_take hk, fm_drop hk, List.flatMap_append, List.flatMap_append]
variable {α : Type} {f : α → List Pred}
/-- copy from a list into a block of the call's own -/
theorem op_copy_sl {x y : Operand} {m o1 n1 c : Nat} {xs ys : List α} (hx : opd F x = some (mvP id k o1 n1 c)) (hy : opd F y = some (slP f k ys)) (hR : R m = some (id, blkX k e (xs.flatMap f)))
    (ht : elemB P t = some e) (hs : sizeB P e = some k) (hk0 : k ≠ 0) (hk : ∀ z, (f z).length = k) (hpos : 0 < ys.length) (hn : ys.length ≤ n1) (ho : o1 ≤ xs.length) :
    OpJ P n N F R ⟨d, .call { callee := .builtin .copy, args := #[x, y], argTypes := #[t, ts] }, T, pos, after, none⟩
      ⟨rdo x (mvP id k o1 n1 c) ++ rdo y (slP f k ys), [], [(m, (id, blkX k e (xs.flatMap f)))], [(m, (id, blkX k e ((spl xs o1 ys).flatMap f)))], [], eqP (.int .i64 ys.length)⟩ := by
  have h := op_copy_src (P := P) (n := n) (N := N) (F := F) (R := R) (d := d) (T := T) (pos := pos) (after := after) (ts := ts) (m := m) (cnt := ys.length) (us := []) (qs := ys.flatMap f) hx hy hR (by simp) ht hs hk0 hpos hn
    (by rw [flatMap_len hk]; exact Nat.mul_le_mul_right _ ho) (by rw [flatMap_len hk]) (by
      intro σ W R v hm _ _ ⟨ad, cap, hv, h1, h2, h3⟩
      obtain ⟨yb, yo, rfl, hyc⟩ := h3 (by omega)
      obtain ⟨news, hnv, hncell⟩ := slP_cells hm hk hyc
      exact ⟨_, _, _, news, hv, Nat.min_eq_left hn, hnv, fun j u hu => by rw [addr_add]; exact hncell j u hu⟩)
  rwa [fm_spl hk] at h
end
end Go.AL


namespace Go.AL
open Go.RowKit
section
variable {P : Program} {n N : Nat} {F : Fr} {R : Toks} {d : Option Nat} {T : TypeId} {pos : String} {after : Array Edge} {k bytes : Nat} {t tn e : TypeId} {id : Id} {ik kn : IntKind}
end
section
variable {P : Program} {C : Cx} {F : Fr} {L : Tk} {Q : Exit → Act → World → Prop} {cd : Code}
end
section
variable {P : Program} {n N : Nat} {F : Fr} {R : Toks} {d : Option Nat} {T : TypeId} {pos : String} {after : Array Edge} {k : Nat} {t e : TypeId} {id : Id} {off len c z : Nat}
theorem Ents.app : ∀ {a b c d : List Pred}, Ents a b → Ents c d → Ents (a ++ c) (b ++ d)
  | _, _, _, _, .nil, h => h
  | _, _, _, _, .cons h t, k => .cons h (Ents.app t k)
end
def insL {α : Type} (xs : List α) (i : Nat) (v : α) : List α := xs.take i ++ v :: xs.drop i
end Go.AL


set_option linter.unusedVariables false
namespace Go.AL
open Go.RowKit
/-- the context with K blocks of the call's own beside its tokens -/
def famC (C : Cx) (K : Nat) (ids : Nat → Id) (r : Nat → Res) : Cx :=
  { C with Rf := fun m => if m < 1000000 then none else if m < 2000000 then (if m - 1000000 < K then some (ids (m - 1000000), r (m - 1000000)) else none) else C.Rf (m - 1000000) }
theorem famC_ok {C : Cx} {K : Nat} {ids : Nat → Id} {r : Nat → Res} : CxOK (famC C K ids r) := ⟨fun m hm => by simp [famC, hm]⟩
theorem famC_mid {C : Cx} {K : Nat} {ids : Nat → Id} {r : Nat → Res} {j : Nat} (h : j < 1000000) : (famC C K ids r).Rf (1000000 + j) = if j < K then some (ids j, r j) else none := by
  have h1 : ¬ 1000000 + j < 1000000 := by omega
  have h2 : 1000000 + j < 2000000 := by omega
  have h3 : 1000000 + j - 1000000 = j := by omega
  simp only [famC, h1, h2, h3, if_false, if_true]
theorem famC_high {C : Cx} {K : Nat} {ids : Nat → Id} {r : Nat → Res} {n : Nat} (h : 1000000 ≤ n) : (famC C K ids r).Rf (n + 1000000) = C.Rf n := by
  have h1 : ¬ n + 1000000 < 1000000 := by omega
  have h2 : ¬ n + 1000000 < 2000000 := by omega
  have h3 : n + 1000000 - 1000000 = n := by omega
  simp only [famC, h1, h2, h3, if_false]
theorem St.move {C C' : Cx} {F : Fr} {L L' : Tk} {a : Act} {W : World} (h : St C F L a W) (h0 : C'.σ0 = C.σ0) (hM : C'.M = C.M) (hx : C'.ex = C.ex) (hn : C'.n = C.n) (g : Nat → Nat)
    (hg : ∀ n m, n ≠ m → tkf L' C'.Rf n ≠ none → tkf L' C'.Rf m ≠ none → g n ≠ g m) (hr : ∀ n x, tkf L' C'.Rf n = some x → tkf L C.Rf (g n) = some x) : St C' F L' a W := by
  obtain ⟨σ, h1, h2, h3⟩ := h
  refine ⟨σ, by rw [h0]; exact h1, ?_, ⟨by rw [hn]; exact h3.size, h3.defers, h3.mod.reindex g hg hr, h3.fr⟩⟩
  unfold KeepB at h2 ⊢
  rw [h0, hM, hx]
  exact h2
theorem tkf_none {L : Tk} {Rf : Toks} {n : Nat} (h : lk L n = none) : tkf L Rf n = Rf n := by simp [tkf, h]
theorem tkf_high {L : Tk} {Rf : Toks} {n : Nat} (hl : lowL L = true) (h : 1000000 ≤ n) : tkf L Rf n = Rf n := tkf_none (lk_low hl h)
theorem tkf_low {L : Tk} {C C' : Cx} (hC : CxOK C) (hC' : CxOK C') {n : Nat} (h : n < 1000000) : tkf L C.Rf n = tkf L C'.Rf n := by
  unfold tkf
  rw [hC.low n h, hC'.low n h]
section
variable {P : Program} {C : Cx} {F : Fr} {L : Tk} {K : Nat} {ids : Nat → Id} {r : Nat → Res} {X : Act → World → Prop}
/-- no family yet -/
theorem post_fam0 (hC : CxOK C) (ids : Nat → Id) (r : Nat → Res) (hl : lowL L = true) (h : Post (famC C 0 ids r) F L X) : Post C F L X := by
  intro a W hs
  refine h a W (hs.move rfl rfl rfl rfl (fun n => if n < 1000000 then n else n - 1000000) ?_ ?_)
  · intro n m hnm hn hm e
    by_cases h1 : n < 1000000
    · by_cases h2 : m < 1000000
      · simp only [h1, h2, if_true] at e; exact hnm e
      · by_cases h3 : m < 2000000
        · rw [tkf_high hl (by omega), show m = 1000000 + (m - 1000000) by omega, famC_mid (by omega)] at hm
          simp at hm
        · simp only [h1, h2, if_true, if_false] at e; omega
    · by_cases h4 : n < 2000000
      · rw [tkf_high hl (by omega), show n = 1000000 + (n - 1000000) by omega, famC_mid (by omega)] at hn
        simp at hn
      · by_cases h2 : m < 1000000
        · simp only [h1, h2, if_true, if_false] at e; omega
        · simp only [h1, h2, if_false] at e; omega
  · intro n x hx
    by_cases h1 : n < 1000000
    · simp only [h1, if_true]
      rw [tkf_low hC famC_ok h1]
      exact hx
    · simp only [h1, if_false]
      rw [tkf_high hl (by omega)] at hx
      by_cases h3 : n < 2000000
      · rw [show n = 1000000 + (n - 1000000) by omega, famC_mid (by omega)] at hx
        simp at hx
      · rw [show n = (n - 1000000) + 1000000 by omega, famC_high (by omega)] at hx
        rw [tkf_high hl (by omega)]
        exact hx
/-- the family is let go -/
theorem post_unfam (hC : CxOK C) (hl : lowL L = true) (h : Post C F L X) : Post (famC C K ids r) F L X := by
  intro a W hs
  refine h a W (hs.move rfl rfl rfl rfl (fun n => if n < 1000000 then n else n + 1000000) ?_ ?_)
  · intro n m hnm _ _ e
    by_cases h1 : n < 1000000 <;> by_cases h2 : m < 1000000 <;> simp only [h1, h2, if_true, if_false] at e <;> omega
  · intro n x hx
    by_cases h1 : n < 1000000
    · simp only [h1, if_true]
      rw [tkf_low famC_ok hC h1]
      exact hx
    · simp only [h1, if_false]
      rw [tkf_high hl (by omega)] at hx ⊢
      rw [famC_high (by omega)]
      exact hx
/-- the last of the family becomes a token -/
theorem post_take (t : Nat) (ht : t < 1000000) (hK : K < 1000000) (hl : lowL L = true) (hL : lk L t = none ∨ lk L t = some none) (h : Post (famC C K ids r) F ((t, some (ids K, r K)) :: L) X) : Post (famC C (K + 1) ids r) F L X := by
  intro a W hs
  have hRt : tkf ((t, some (ids K, r K)) :: L) (famC C K ids r).Rf t = some (ids K, r K) := by rw [tkf_cons]; simp
  have hoth : ∀ n, n ≠ t → tkf ((t, some (ids K, r K)) :: L) (famC C K ids r).Rf n = tkf L (famC C K ids r).Rf n := fun n hn => by rw [tkf_cons]; simp [hn]
  have hlast : tkf L (famC C K ids r).Rf (1000000 + K) = none := by rw [tkf_high hl (by omega), famC_mid hK]; simp
  refine h a W (hs.move rfl rfl rfl rfl (fun n => if n = t then 1000000 + K else n) ?_ ?_)
  · intro n m hnm hn hm e
    by_cases h1 : n = t <;> by_cases h2 : m = t
    · exact hnm (h1.trans h2.symm)
    · simp only [h1, h2, if_true, if_false] at e
      rw [hoth m h2, ← e, hlast] at hm
      exact hm rfl
    · simp only [h1, h2, if_true, if_false] at e
      rw [hoth n h1, e, hlast] at hn
      exact hn rfl
    · simp only [h1, h2, if_false] at e; exact hnm e
  · intro n x hx
    by_cases h1 : n = t
    · subst h1
      rw [hRt] at hx
      simp only [if_true]
      rw [tkf_high hl (by omega), famC_mid hK, if_pos (by omega)]
      exact hx
    · rw [hoth n h1] at hx
      simp only [h1, if_false]
      by_cases h2 : n < 1000000
      · rw [tkf_low famC_ok famC_ok h2]
        exact hx
      · rw [tkf_high hl (by omega)] at hx ⊢
        by_cases h3 : n < 2000000
        · rw [show n = 1000000 + (n - 1000000) by omega, famC_mid (by omega)] at hx ⊢
          split at hx
          · rw [if_pos (by omega)]; exact hx
          · cases hx
        · rw [show n = (n - 1000000) + 1000000 by omega, famC_high (by omega)] at hx ⊢
          exact hx
/-- a token becomes the last of the family -/
theorem post_push (t : Nat) {i : Id} {q : Res} (hK : K < 1000000) (hl : lowL L = true) (hL : lk L t = some (some (i, q))) (hq : q = r K) (ids' : Nat → Id) (hi : ids' K = i) (hids : ∀ j, j < K → ids' j = ids j)
    (h : Post (famC C (K + 1) ids' r) F ((t, none) :: L) X) : Post (famC C K ids r) F L X := by
  subst hq hi
  intro a W hs
  have ht : t < 1000000 := by
    rcases Nat.lt_or_ge t 1000000 with h | h
    · exact h
    · rw [lk_low hl h] at hL; cases hL
  have hno : tkf ((t, none) :: L) (famC C (K + 1) ids' r).Rf t = none := by rw [tkf_cons]; simp
  have hoth : ∀ n, n ≠ t → tkf ((t, none) :: L) (famC C (K + 1) ids' r).Rf n = tkf L (famC C (K + 1) ids' r).Rf n := fun n hn => by rw [tkf_cons]; simp [hn]
  refine h a W (hs.move rfl rfl rfl rfl (fun n => if n = 1000000 + K then t else n) ?_ ?_)
  · intro n m hnm hn hm e
    by_cases h1 : n = 1000000 + K <;> by_cases h2 : m = 1000000 + K
    · exact hnm (h1.trans h2.symm)
    · simp only [h1, h2, if_true, if_false] at e
      rw [← e, hno] at hm
      exact hm rfl
    · simp only [h1, h2, if_true, if_false] at e
      rw [e, hno] at hn
      exact hn rfl
    · simp only [h1, h2, if_false] at e; exact hnm e
  · intro n x hx
    by_cases h0 : n = t
    · subst h0; rw [hno] at hx; cases hx
    · rw [hoth n h0] at hx
      by_cases h1 : n = 1000000 + K
      · subst h1
        rw [tkf_high hl (by omega), famC_mid hK, if_pos (by omega)] at hx
        simp only [if_true]
        rw [← hx]
        simp [tkf, hL]
      · simp only [h1, if_false]
        by_cases h2 : n < 1000000
        · rw [tkf_low famC_ok famC_ok h2]
          exact hx
        · rw [tkf_high hl (by omega)] at hx ⊢
          by_cases h3 : n < 2000000
          · rw [show n = 1000000 + (n - 1000000) by omega, famC_mid (by omega)] at hx ⊢
            split at hx
            · rw [if_pos (by omega)]
              rw [hids _ (by omega)] at hx
              exact hx
            · cases hx
          · rw [show n = (n - 1000000) + 1000000 by omega, famC_high (by omega)] at hx ⊢
            exact hx
/-- the tokens of a family -/
def famT (K : Nat) (ids : Nat → Id) (r : Nat → Res) : Tk := (List.range K).map fun j => (700000 + j, some (ids j, r j))
theorem lk_map {α β : Type} (f : α → Nat × β) : ∀ (l : List α) (n : Nat) (y : β), lk (l.map f) n = some y → ∃ x ∈ l, f x = (n, y)
  | [], n, y, h => by simp [lk] at h
  | x :: l, n, y, h => by
    rw [List.map_cons] at h
    cases hf : f x with
    | mk k z =>
      rw [hf, lk_cons] at h
      split at h
      · rename_i e
        subst e
        simp at h
        subst h
        exact ⟨x, List.mem_cons_self .., hf⟩
      · obtain ⟨w, hw, hfw⟩ := lk_map f l n y h
        exact ⟨w, List.mem_cons_of_mem _ hw, hfw⟩
theorem lk_some_of_mem {β : Type} : ∀ (l : List (Nat × β)) (n : Nat) (y : β), (∀ z, (n, z) ∈ l → z = y) → (n, y) ∈ l → lk l n = some y
  | [], n, y, _, h => by cases h
  | (k, z) :: l, n, y, hu, h => by
    rw [lk_cons]
    by_cases e : k = n
    · subst e
      rw [if_pos rfl, hu z (List.mem_cons_self ..)]
    · rw [if_neg e]
      refine lk_some_of_mem l n y (fun z hz => hu z (List.mem_cons_of_mem _ hz)) ?_
      rcases List.mem_cons.1 h with h | h
      · cases h; exact absurd rfl e
      · exact h
theorem lk_famT_at {j : Nat} (hj : j < K) : lk (famT K ids r) (700000 + j) = some (some (ids j, r j)) := by
  refine lk_some_of_mem _ _ _ ?_ ?_
  · intro z hz
    unfold famT at hz
    obtain ⟨i, hi, e⟩ := List.mem_map.1 hz
    simp only [Prod.mk.injEq] at e
    obtain ⟨e1, e2⟩ := e
    have : i = j := by omega
    subst this
    exact e2.symm
  · unfold famT
    exact List.mem_map.2 ⟨j, List.mem_range.2 hj, rfl⟩
theorem lk_famT_none {n : Nat} (h : ∀ j, j < K → n ≠ 700000 + j) : lk (famT K ids r) n = none := by
  cases hl : lk (famT K ids r) n with
  | none => rfl
  | some y =>
    unfold famT at hl
    obtain ⟨j, hj, e⟩ := lk_map _ _ _ _ hl
    simp only [Prod.mk.injEq] at e
    exact absurd e.1.symm (h j (List.mem_range.1 hj))
theorem lk_app {α : Type} (A B : List (Nat × α)) (n : Nat) : lk (A ++ B) n = (lk A n).or (lk B n) := by
  induction A with
  | nil => simp [lk]
  | cons x A ih =>
    obtain ⟨k, y⟩ := x
    rw [List.cons_append, lk_cons, lk_cons, ih]
    split <;> simp
def low7 (L : Tk) : Bool := L.all fun x => Nat.blt x.1 700000
theorem lk_low7 {L : Tk} (h : low7 L = true) {m : Nat} (hm : 700000 ≤ m) : lk L m = none := by
  induction L with
  | nil => rfl
  | cons x l ih =>
    obtain ⟨k, y⟩ := x
    simp only [low7, List.all_cons, Bool.and_eq_true] at h
    have h1 : k < 700000 := by have := Nat.le_of_ble_eq_true h.1; omega
    rw [lk_cons, if_neg (by omega)]
    exact ih h.2
/-- tokens that are many go beside the others -/
theorem post_famIn (hC : CxOK C) (hK : K ≤ 300000) (hl : low7 L = true) (h : Post (famC C K ids r) F L X) : Post C F (L ++ famT K ids r) X := by
  intro a W hs
  have hlow : ∀ n, 700000 ≤ n → lk L n = none := fun n hn => lk_low7 hl hn
  have h1 : ∀ n, n < 700000 → tkf (L ++ famT K ids r) C.Rf n = tkf L (famC C K ids r).Rf n := fun n hn => by
    unfold tkf
    rw [lk_app, lk_famT_none (fun j _ => by omega), hC.low n (by omega), famC_ok.low n (by omega)]
    cases lk L n <;> rfl
  have h2 : ∀ n, 700000 ≤ n → n < 1000000 → tkf L (famC C K ids r).Rf n = none := fun n hn hn' => by
    rw [tkf_none (hlow n hn), famC_ok.low n hn']
  have h3 : ∀ j, j < 1000000 → tkf L (famC C K ids r).Rf (1000000 + j) = if j < K then some (ids j, r j) else none := fun j hj => by
    rw [tkf_none (hlow _ (by omega)), famC_mid hj]
  have h4 : ∀ n, 1000000 ≤ n → tkf L (famC C K ids r).Rf (n + 1000000) = C.Rf n := fun n hn => by
    rw [tkf_none (hlow _ (by omega)), famC_high hn]
  refine h a W (hs.move rfl rfl rfl rfl (fun n => if n < 1000000 then n else if n < 2000000 then 700000 + (n - 1000000) else n - 1000000) ?_ ?_)
  · intro n m hnm hn hm e
    have key : ∀ n, tkf L (famC C K ids r).Rf n ≠ none → n < 700000 ∨ (1000000 ≤ n ∧ n < 1000000 + K) ∨ 2000000 ≤ n := fun n hn => by
      rcases Nat.lt_or_ge n 700000 with g | g
      · exact .inl g
      · rcases Nat.lt_or_ge n 1000000 with g1 | g1
        · exact absurd (h2 n g g1) hn
        · rcases Nat.lt_or_ge n 2000000 with g2 | g2
          · refine .inr (.inl ⟨g1, ?_⟩)
            rw [show n = 1000000 + (n - 1000000) by omega, h3 _ (by omega)] at hn
            split at hn
            · omega
            · exact absurd rfl hn
          · exact .inr (.inr g2)
    have kn := key n hn
    have km := key m hm
    split at e <;> split at e <;> (try split at e) <;> (try split at e) <;> omega
  · intro n x hx
    rcases Nat.lt_or_ge n 1000000 with g1 | g1
    · simp only [g1, if_true]
      rcases Nat.lt_or_ge n 700000 with g | g
      · rw [h1 n g]; exact hx
      · rw [h2 n g g1] at hx; cases hx
    · rcases Nat.lt_or_ge n 2000000 with g2 | g2
      · simp only [show ¬ n < 1000000 by omega, g2, if_true, if_false]
        rw [show n = 1000000 + (n - 1000000) by omega, h3 _ (by omega)] at hx
        split at hx
        · rename_i hj
          have : tkf (L ++ famT K ids r) C.Rf (700000 + (n - 1000000)) = some (ids (n - 1000000), r (n - 1000000)) := by
            unfold tkf
            rw [lk_app, hlow _ (by omega), lk_famT_at hj]
            rfl
          rw [this]
          exact hx
        · cases hx
      · simp only [show ¬ n < 1000000 by omega, show ¬ n < 2000000 by omega, if_false]
        rw [show n = (n - 1000000) + 1000000 by omega, h4 _ (by omega)] at hx
        have : tkf (L ++ famT K ids r) C.Rf (n - 1000000) = C.Rf (n - 1000000) := by
          rw [tkf_none]
          rw [lk_app, hlow _ (by omega), lk_famT_none (fun j hj => by omega)]
          rfl
        rw [this]
        exact hx
end
end Go.AL


set_option linter.unusedVariables false
namespace Go.AL
open Go.RowKit
section
variable {P : Program} {C : Cx} {F : Fr} {L : Tk} {K : Nat} {ids : Nat → Id} {r : Nat → Res} {X : Act → World → Prop}
theorem post_tok {L' : Tk} (h : Post C F L' X) (hs : ∀ n x, tkf L' C.Rf n = some x → tkf L C.Rf n = some x) : Post C F L X :=
  fun a W hst => h a W (hst.move rfl rfl rfl rfl (fun n => n) (fun _ _ h _ _ => h) hs)
theorem post_congr {L' : Tk} (e : tkf L C.Rf = tkf L' C.Rf) (h : Post C F L' X) : Post C F L X := post_tok h fun n x hx => by rw [e]; exact hx
/-- a block is written no more, and what another block says of it is said anew -/
theorem post_seal {m n κ κ' : Nat} {id id' : Id} {B B' : TypeId} {ps qs qs' : List Pred} (hm : lk L m = some (some (id, blkX κ B ps))) (hn : lk L n = some (some (id', blkX κ' B' qs))) (hne : m ≠ n) (hq : FEnts id ps qs qs')
    (h : Post C F ((n, some (id', blkX κ' B' qs')) :: (m, none) :: L) X) : Post C F L X := by
  rintro a W ⟨σ, h1, h2, h3⟩
  have hmod := h3.mod
  have hR : tkf L C.Rf m = some (id, blkX κ B ps) := by simp [tkf, hm]
  have hRn : tkf L C.Rf n = some (id', blkX κ' B' qs) := by simp [tkf, hn]
  obtain ⟨ob, hob⟩ : ∃ ob, σ.ρ id = some ob := Option.ne_none_iff_exists'.1 (hmod.used m _ hR)
  have fin : ∀ τ, Le σ τ → τ.ρ = σ.ρ → (∀ b', τ.ρ id = some (some b') → Cs τ b' 0 ps) → Models τ (fun n => if n = m then none else tkf L C.Rf n) W → X a W := by
    intro τ hle hρ hcs hmodτ
    refine h a W ⟨τ, h1.trans hle, fun i hi hx => by rw [hρ]; exact h2 i hi hx, h3.size, h3.defers, hmodτ.resMono (fun n => n) (fun _ _ h _ _ => h) ?_, fun t p hp => p.m _ _ _ hle (h3.fr t p hp)⟩
    intro q y hy
    rw [tkf_cons, tkf_cons] at hy
    simp only at hy
    split at hy
    · rename_i e
      subst e
      cases hy
      refine ⟨blkX κ' B' qs, by rw [if_neg (fun e => hne e.symm)]; exact hRn, ?_⟩
      rintro b o ⟨cs, rest, ho, hv, hz, hnn⟩
      exact ⟨cs, rest, ho, hq.vs hcs hv, hz, hnn⟩
    · exact ⟨y.2, hy, fun b o h => h⟩
  cases ob with
  | none =>
    refine fin σ (Le.refl σ) rfl (fun b hb => by rw [hob] at hb; cases hb) (hmod.sub ?_)
    intro n x hx
    split at hx
    · cases hx
    · exact hx
  | some b =>
    obtain ⟨hge, o, ho, cs, rest, rfl, hvs, hz, hnone⟩ := hmod.res m id _ hR b hob
    let τ := addC σ (putC b 0 cs)
    have hle : Le σ τ := le_addC ..
    have hnew : ∀ i, τ.c b i = cs[i]? := fun i => by
      show (addC σ (putC b 0 cs)).c b i = _
      rw [addC_new (hnone i)]
      simp [putC]
    have hold : ∀ b' i, b' ≠ b → τ.c b' i = σ.c b' i := fun b' i hb' => addC_ne (c := putC b 0 cs) (fun i => by simp [putC, hb']) i
    have hcs : ∀ b', τ.ρ id = some (some b') → Cs τ b' 0 ps := by
      intro b' hb'
      have : b' = b := by
        have h' : σ.ρ id = some (some b') := hb'
        rw [hob] at h'
        simpa using h'.symm
      subst this
      intro j p hp
      have hlt : j < cs.length := by rw [hvs.1]; exact (List.getElem?_eq_some_iff.1 hp).1
      refine ⟨cs[j], ?_, (hvs.2 j p _ hp (List.getElem?_eq_getElem hlt)).mono hle⟩
      rw [Nat.zero_add, hnew, List.getElem?_eq_getElem hlt]
    refine fin τ hle rfl hcs ?_
    have hsub : Models σ (fun n => if n = m then none else tkf L C.Rf n) W := hmod.sub fun n x hx => by
      split at hx
      · cases hx
      · exact hx
    refine ⟨hsub.base, hsub.n0, ?_, ?_, hsub.sep, hsub.used, hsub.fin⟩
    · intro b' i v hv
      by_cases hb' : b' = b
      · subst hb'
        rw [hnew] at hv
        exact cell_blk ho hv
      · rw [hold b' i hb'] at hv
        exact hmod.imm b' i v hv
    · intro n id' r hn b' hb'
      obtain ⟨g1, o, go, gr⟩ := hsub.res n id' r hn b' hb'
      refine ⟨g1, o, go, r.m _ _ _ _ _ hle hb' (fun i => hold b' i ?_) gr⟩
      intro e
      subst e
      by_cases hnm : n = m
      · simp [hnm] at hn
      · simp only [hnm, if_false] at hn
        exact hmod.sep n m _ _ b' hnm hn hR hb' hob
/-- a family is sealed: what one block says of it is said anew -/
theorem post_sealFam {κf : Nat → Nat} {Bf : Nat → TypeId} {psf : Nat → List Pred} (q : Nat → List Pred) (hr : ∀ j, r j = blkX (κf j) (Bf j) (psf j)) {n t κ : Nat} {id' : Id} {B : TypeId} (htn : t ≠ n) (ht : t < 1000000) (hnn : n < 1000000) : ∀ (K : Nat) (L : Tk), K ≤ 300000 →
    (∀ j, j < K → FEnts (ids j) (psf j) (q (j + 1)) (q j)) → lowL L = true → (lk L t = none ∨ lk L t = some none) → lk L n = some (some (id', blkX κ B (q K))) →
    Post (famC C 0 ids r) F ((n, some (id', blkX κ B (q 0))) :: L) X → Post (famC C K ids r) F L X
  | 0, L, _, _, hl, hlt, hn, h => post_congr (by
      rw [tkf_cons]
      funext m
      by_cases e : m = n
      · subst e; simp [tkf, hn]
      · simp [e]) h
  | K + 1, L, hK, hq, hl, hlt, hn, h => by
    refine post_take t ht (by omega) hl hlt ?_
    have hn' : lk ((t, some (ids K, r K)) :: L) n = some (some (id', blkX κ B (q (K + 1)))) := by rw [lk_cons, if_neg htn]; exact hn
    have hm' : lk ((t, some (ids K, r K)) :: L) t = some (some (ids K, blkX (κf K) (Bf K) (psf K))) := by rw [lk_cons, if_pos rfl, hr K]
    refine post_seal (m := t) (n := n) hm' hn' htn (hq K (by omega)) ?_
    refine post_sealFam (κ := κ) (B := B) (id' := id') q hr htn ht hnn K _ (by omega) (fun j hj => hq j (by omega)) ?_ ?_ ?_ ?_
    · have := hl
      unfold lowL at this ⊢
      simp only [List.all_cons, this, Bool.and_true, Bool.and_eq_true]
      exact ⟨Nat.ble_eq_true_of_le hnn, Nat.ble_eq_true_of_le ht, Nat.ble_eq_true_of_le ht⟩
    · right
      rw [lk_cons, if_neg (fun e => htn e.symm), lk_cons, if_pos rfl]
    · rw [lk_cons, if_pos rfl]
    · refine post_congr ?_ h
      rw [tkf_cons, tkf_cons, tkf_cons, tkf_cons, tkf_cons]
      funext m
      by_cases e : m = n
      · simp [e]
      · by_cases e2 : m = t
        · subst e2
          simp only [e, if_false, if_true]
          rcases hlt with hlt | hlt <;> simp [tkf, hlt, famC_ok.low m ht]
        · simp [e, e2]
end
theorem LexOK.congrL {P : Program} {n N : Nat} {ops : Array Oper} {Q : Exit → Act → World → Prop} {Rf : Toks} {l : List Oper} {F F' : Fr} {L L' : Tk} {rs : List Rec} (h : LexOK P n N ops Q Rf l F L rs F' L') :
    ∀ {L1 : Tk}, tkf L Rf = tkf L1 Rf → ∃ L1', LexOK P n N ops Q Rf l F L1 rs F' L1' ∧ tkf L' Rf = tkf L1' Rf := by
  induction h with
  | nil F L => intro L1 e; exact ⟨L1, .nil F L1, e⟩
  | @cons o l F F' L L' r rs hloc hd hrd huse hdel hadd _ ih =>
    intro L1 e
    obtain ⟨L1', h1, h2⟩ := ih (L1 := updL L1 r) (by rw [tkf_updL, tkf_updL, e])
    exact ⟨L1', .cons hloc hd hrd (by rw [← e]; exact huse) (by rw [← e]; exact hdel) (by rw [← e]; exact hadd) h1, h2⟩
theorem lx_tail {P : Program} {n N : Nat} {ops : Array Oper} {Q : Exit → Act → World → Prop} {Rf : Toks} {l : List Oper} {F : Fr} {L : Tk} {K : List Rec → Fr → Tk → Prop} (L1 : Tk) (e : tkf L Rf = tkf L1 Rf)
    (hK : ∀ rs F' A B, tkf A Rf = tkf B Rf → K rs F' B → K rs F' A) (h : LexK P n N ops Q Rf l F L1 K) : LexK P n N ops Q Rf l F L K := by
  obtain ⟨rs, F', L1', h1, h2⟩ := h
  obtain ⟨L', h3, h4⟩ := h1.congrL e.symm
  exact ⟨rs, F', L', h3, hK rs F' L' L1' h4.symm h2⟩
def rng (b K : Nat) : List Nat := (List.range (K + 1)).map (b + ·)
/-- the names that a call gives -/
def fid (N b K : Nat) : Nat → Id := fun j => (N, (rng b K).getD j 0)
theorem nodupB_of : ∀ {l : List Nat}, l.Nodup → nodupB l = true
  | [], _ => rfl
  | x :: l, h => by
    obtain ⟨h1, h2⟩ := List.nodup_cons.1 h
    simp only [nodupB, Bool.and_eq_true, Bool.not_eq_true']
    refine ⟨?_, nodupB_of h2⟩
    rw [List.any_eq_false]
    intro y hy e
    have := Nat.eq_of_beq_eq_true e
    subst this
    exact h1 hy
theorem rng_nodup (b K : Nat) : (rng b K).Nodup := by
  unfold rng
  rw [List.Nodup, List.pairwise_map]
  exact (List.nodup_range (n := K + 1)).imp fun h e => h (by omega)
theorem nodup_one (b K : Nat) : nodupB (rng b K ++ []) = true := by
  rw [List.append_nil]
  exact nodupB_of (rng_nodup b K)
def famK (K : Nat) (ids : Nat → Id) (r : Nat → Res) : List (Nat × Id × Res) := (List.range K).map fun j => (700000 + j, (ids j, r j))
theorem lk_addL : ∀ (l : List (Nat × Id × Res)) (L : Tk), addL L l = l.map (fun x => (x.1, some x.2)) ++ L
  | [], L => rfl
  | x :: l, L => by simp [addL, lk_addL l L]
theorem famK_mem {K : Nat} {ids : Nat → Id} {r : Nat → Res} {x : Nat × Id × Res} (h : x ∈ famK K ids r) : ∃ j, j < K ∧ x = (700000 + j, (ids j, r j)) := by
  unfold famK at h
  obtain ⟨j, hj, e⟩ := List.mem_map.1 h
  exact ⟨j, List.mem_range.1 hj, e.symm⟩
theorem famK_nodup {K : Nat} {ids : Nat → Id} {r : Nat → Res} {m0 : Nat} {x0 : Id × Res} (hm : m0 < 700000) : nodupN ((m0, x0) :: famK K ids r) = true := by
  unfold nodupN
  refine nodupB_of ?_
  rw [List.map_cons]
  refine List.nodup_cons.2 ⟨fun h => ?_, ?_⟩
  · obtain ⟨x, hx, e⟩ := List.mem_map.1 h
    obtain ⟨j, _, rfl⟩ := famK_mem hx
    simp only at e
    omega
  · unfold famK
    rw [List.map_map, List.Nodup, List.pairwise_map]
    exact (List.nodup_range (n := K)).imp fun h e => h (by simpa using e)
section
variable {P : Program} {n N : Nat} {F : Fr} {R : Toks} {d : Option Nat} {T : TypeId} {pos : String} {after : Array Edge}
/-- a call that hands over one block and a family -/
theorem op_callFam {f : FuncId} {l : List Operand} {ts : Array TypeId} {pre : List Pred} {K : Nat} {post : (Nat → Id) → Pred} {prod : (Nat → Id) → List (Id × Res)} {rd : List (Nat × Pred)} (m0 b : Nat) {x0 : (Nat → Id) → Res} {r : Nat → Res}
    (hc : FnOK P f pre [] (K + 1) post prod) (hp : ∀ ι, prod ι = (ι 0, x0 ι) :: (List.range K).map fun j => (ι (j + 1), r j)) (hargs : Args F l pre rd) (hf : fnB P f = true) (hK : K ≤ 300000) (hm : Nat.blt m0 700000 = true) (hR : R m0 = none) (hRf : ∀ j, j < K → R (700000 + j) = none) :
    OpJ P n N F R ⟨d, .call { callee := .value (.func f), args := l.toArray, argTypes := ts }, T, pos, after, none⟩ ⟨rd, [], [], (m0, (fid N b K 0, x0 (fid N b K))) :: famK K (fun j => fid N b K (j + 1)) r, rng b K, post (fid N b K)⟩ := by
  have hm' : m0 < 700000 := Nat.le_of_ble_eq_true hm
  refine op_callG (del := []) (ks := rng b K) hc hargs hf (by unfold rng; simp) ?_ ?_ (by intro x hx; cases hx) ?_
  · rw [hp, List.map_cons]
    unfold famK
    rw [List.map_map]
    rfl
  · have h1 : nodupN ([] : List (Nat × Id × Res)) = true := rfl
    rw [h1, famK_nodup hm', nodupB_of (rng_nodup b K)]
    simp only [Bool.true_and]
    refine Nat.ble_eq_true_of_le ?_
    simp [famK]
    omega
  · intro x hx
    rcases List.mem_cons.1 hx with rfl | hx
    · exact .inl hR
    · obtain ⟨j, hj, rfl⟩ := famK_mem hx
      exact .inl (hRf j hj)
end
/-- the tokens after such a call, in another order -/
theorem fam_upd {L : Tk} {Rf : Toks} {rd : List (Nat × Pred)} {m0 K : Nat} {x0 : Id × Res} {ids : Nat → Id} {r : Nat → Res} {ks : List Nat} {φ : Pred} (hl : low7 L = true) :
    tkf (updL L ⟨rd, [], [], (m0, x0) :: famK K ids r, ks, φ⟩) Rf = tkf (((m0, some x0) :: L) ++ famT K ids r) Rf := by
  funext n
  have e : updL L ⟨rd, [], [], (m0, x0) :: famK K ids r, ks, φ⟩ = (m0, some x0) :: (famT K ids r ++ L) := by
    show (m0, some x0) :: addL L (famK K ids r) = _
    rw [lk_addL]
    unfold famK famT
    rw [List.map_map]
    rfl
  rw [e]
  unfold tkf
  rw [List.cons_append, lk_cons, lk_cons]
  by_cases e0 : m0 = n
  · rw [if_pos e0, if_pos e0]
  · rw [if_neg e0, if_neg e0, lk_app, lk_app]
    rcases Nat.lt_or_ge n 700000 with h | h
    · rw [lk_famT_none (fun j _ => by omega)]
      cases lk L n <;> rfl
    · rw [lk_low7 hl h]
      cases lk (famT K ids r) n <;> rfl
theorem fam_free {C : Cx} {L : Tk} {K : Nat} (hC : CxOK C) (hK : K ≤ 300000) (hl : low7 L = true) : ∀ j, j < K → tkf L C.Rf (700000 + j) = none := fun j hj => by
  rw [tkf_none (lk_low7 hl (by omega))]
  exact hC.low _ (by omega)
section
variable {C : Cx} {F : Fr} {L : Tk} {K : Nat} {ids : Nat → Id} {r : Nat → Res} {X : Act → World → Prop}
/-- tokens that are many go beside the others; which of the others stay is said -/
theorem post_famIn2 {L1 : Tk} (hC : CxOK C) (hK : K ≤ 300000) (hs : SubL L L1) (hl : low7 L1 = true) (hf : ∀ j, j < K → lk L (700000 + j) = some (some (ids j, r j))) (hh : ∀ n, 1000000 ≤ n → lk L n = none)
    (h : Post (famC C K ids r) F L1 X) : Post C F L X := by
  refine post_tok (post_famIn hC hK hl h) ?_
  intro n x hx
  have hsub : ∀ n y, lk L1 n = some (some y) → lk L n = some (some y) := by
    clear hx hl h
    induction hs with
    | nil => intro n y hy; simp [lk] at hy
    | @cons t z l ht _ ih =>
      intro n y hy
      rw [lk_cons] at hy
      split at hy
      · rename_i e
        subst e
        simp at hy
        subst hy
        exact ht
      · exact ih n y hy
  have hnn : ∀ n y, lk L1 n = some y → ∃ z, y = some z := by
    clear hx hl h hsub
    induction hs with
    | nil => intro n y hy; simp [lk] at hy
    | @cons t z l ht _ ih =>
      intro n y hy
      rw [lk_cons] at hy
      split at hy
      · simp at hy; exact ⟨_, hy.symm⟩
      · exact ih n y hy
  unfold tkf at hx
  rw [lk_app] at hx
  cases h1 : lk L1 n with
  | some y =>
    obtain ⟨z, rfl⟩ := hnn n y h1
    rw [h1] at hx
    simp at hx
    subst hx
    unfold tkf
    rw [hsub n _ h1]
  | none =>
    rw [h1, Option.none_or] at hx
    cases h2 : lk (famT K ids r) n with
    | some y =>
      rw [h2] at hx
      simp only at hx
      subst hx
      unfold famT at h2
      obtain ⟨j, hj, e⟩ := lk_map _ _ _ _ h2
      simp only [Prod.mk.injEq] at e
      obtain ⟨rfl, e2⟩ := e
      unfold tkf
      rw [hf j (List.mem_range.1 hj), e2]
    | none =>
      rw [h2] at hx
      simp only at hx
      rcases Nat.lt_or_ge n 1000000 with g | g
      · rw [hC.low n g] at hx; cases hx
      · unfold tkf
        rw [hh n g]
        exact hx
theorem post_famK {K' : Nat} (e : K = K') (h : Post (famC C K' ids r) F L X) : Post (famC C K ids r) F L X := e ▸ h
end
section
variable {P : Program} {C : Cx} {F : Fr} {L : Tk} {Q : Exit → Act → World → Prop}
theorem tr_loopC {α : Type} {c : Code} (x0 : α) (Cf : α → Cx) (Fi : α → Fr) (Li : α → Tk) (μ : α → Nat) (h0 : Post C F L (fun a W => St (Cf x0) (Fi x0) (Li x0) a W))
    (round : ∀ x, Tr P (Cf x) c (Fi x) (Li x) (Exit.then (fun a W => ∃ y, μ y < μ x ∧ St (Cf y) (Fi y) (Li y) a W) Q)) : Tr P C (.loop c) F L Q := by
  intro a W hs b k cs
  have key : ∀ n x, μ x = n → ∀ a w, St (Cf x) (Fi x) (Li x) a w →
      ∃ e a' w', Q e a' w' ∧ Arrives P (lone (b.at a (.code c :: .inLoop c :: k)) cs w) b k cs e a' w' := by
    intro n
    induction n using Nat.strongRecOn with
    | _ n ih =>
      intro x hx a w hst
      obtain ⟨e, a1, w1, hq, harr⟩ := round x a w hst b (.inLoop c :: k) cs
      cases e with
      | normal =>
        obtain ⟨y, hy, hst'⟩ := hq
        obtain ⟨e2, a2, w2, hq2, harr2⟩ := ih (μ y) (hx ▸ hy) y rfl a1 w1 hst'
        exact ⟨e2, a2, w2, hq2, .of_steps (Steps.trans harr (.one step_inLoop)) harr2⟩
      | exit id => exact ⟨_, a1, w1, hq, .pass (x := .inLoop c) rfl (fun _ _ => .inl (by simp)) harr⟩
      | goto l => exact ⟨_, a1, w1, hq, .pass (x := .inLoop c) rfl (fun _ _ => .inl (by simp)) harr⟩
      | ret => exact ⟨_, a1, w1, hq, .pass (x := .inLoop c) rfl (fun _ _ => .inl (by simp)) harr⟩
      | panic ch => exact ⟨_, a1, w1, hq, .pass (x := .inLoop c) rfl (fun _ _ => .inl (by simp)) harr⟩
      | outgrown => exact ⟨_, a1, w1, hq, .pass (x := .inLoop c) rfl (fun _ _ => .inl (by simp)) harr⟩
  obtain ⟨e, a', w', hq, harr⟩ := key _ x0 rfl a W (h0 a W hs)
  exact ⟨e, a', w', hq, .of_steps (.one step_loop) harr⟩
theorem pe_roundC {α : Type} {Cf : α → Cx} {Fi : α → Fr} {Li : α → Tk} {μ : α → Nat} {n : Nat} (y : α) (hμ : μ y < n) (h : Post C F L (St (Cf y) (Fi y) (Li y))) :
    Post C F L (Exit.then (fun a W => ∃ y, μ y < n ∧ St (Cf y) (Fi y) (Li y) a W) Q .normal) := fun a W hs => ⟨y, hμ, h a W hs⟩
theorem tr_loopKC {α : Type} {c : Code} {Fk : Fr} {Lk : Tk} (x0 : α) (Cf : α → Cx) (Fx : α → Fr) (Lx : α → Tk) (μ : α → Nat) (hC : CxOK C) (h0 : Cf x0 = C) (hF : SubF F Fk) (hL : SubL L Lk) (hlow : lowL L = true)
    (f0 : SubF F (Fx x0)) (l0 : SubL L (Lx x0))
    (round : ∀ x, Tr P (Cf x) c (Fx x ++ Fk) (Lx x ++ Lk) (Exit.then (fun a W => ∃ y, μ y < μ x ∧ St (Cf y) (Fx y ++ Fk) (Lx y ++ Lk) a W) Q)) : Tr P C (.loop c) F L Q :=
  tr_loopC x0 Cf (fun x => Fx x ++ Fk) (fun x => Lx x ++ Lk) μ (by rw [h0]; exact pe_st hC (f0.append hF) (l0.append hL) hlow) round
theorem tr_post {c : Code} {C' : Cx} {F' : Fr} {L' : Tk} (h : ∀ X, Post C' F' L' X → Post C F L X) (k : Tr P C' c F' L' Q) : Tr P C c F L Q := h _ k
end
section
variable {P : Program} {C : Cx} {F : Fr} {L : Tk} {fn : Func} {R : Ending → World → Prop} {post : (Nat → Id) → Pred} {prod : (Nat → Id) → List (Id × Res)}
theorem pe_ownFam {K : Nat} {rv : ResultVar} {p : Pred} {ids : Nat → Id} {r : Nat → Res} {m : Nat} {i0 : Id} {r0 : Res} {x0 : (Nat → Id) → Res} (hC : CxOK C) (hres : fn.results = #[rv]) (ho : OwesN C R (K + 1) post prod) (hl : low7 L = true) (hlow : lowL L = true) (hK : K ≤ 300000) (hr : RV P F L [rv] [p])
    (hm : lk L m = some (some (i0, r0))) (hren : RenR r0) (hrenf : ∀ j, RenR (r j)) (hp : ∀ ι, prod ι = (ι 0, x0 ι) :: (List.range K).map fun j => (ι (j + 1), r j))
    (hconv : ∀ (τ : Sg) (ι : Nat → Id), (τ.ρ (ι 0) = τ.ρ i0 ∧ τ.z (ι 0) = τ.z i0) → (∀ j, j < K → τ.ρ (ι (j + 1)) = τ.ρ (ids j) ∧ τ.z (ι (j + 1)) = τ.z (ids j)) → (∀ v, p.h τ v → (post ι).h τ v) ∧ (∀ b o, r0.h τ (ι 0) b o → (x0 ι).h τ (ι 0) b o)) :
    Post (famC C K ids r) F L (bodyPost P fn R .ret) := by
  rintro a W ⟨σ, h1, h2, h3⟩
  obtain ⟨vs, hrun, hlv, hv⟩ := hr.run h3
  obtain ⟨v, rfl⟩ : ∃ v, vs = [v] := by
    match vs, hlv with
    | [v], _ => exact ⟨v, rfl⟩
  refine ⟨h3.defers, v, run_results' (rs := [rv]) hres a W hrun, ?_⟩
  have hm7 : m < 700000 := by
    rcases Nat.lt_or_ge m 700000 with h | h
    · exact h
    · rw [lk_low7 hl h] at hm; cases hm
  -- the tokens, the family among the low ones
  have hmod : Models σ (fun n => if n < 700000 then tkf L (famC C K ids r).Rf n else if n < 1000000 then (if n - 700000 < K then some (ids (n - 700000), r (n - 700000)) else none) else C.Rf n) W := by
    refine h3.mod.reindex (fun n => if n < 700000 then n else if n < 1000000 then 1000000 + (n - 700000) else n + 1000000) ?_ ?_
    · intro n m' hnm _ _ e
      split at e <;> split at e <;> (try split at e) <;> (try split at e) <;> omega
    · intro n x hx
      by_cases g : n < 700000
      · simp only [g, if_true] at hx ⊢; exact hx
      · by_cases g1 : n < 1000000
        · simp only [g, g1, if_true, if_false] at hx ⊢
          rw [tkf_high hlow (by omega), famC_mid (by omega)]
          exact hx
        · simp only [g, g1, if_false] at hx ⊢
          rw [tkf_high hlow (by omega), famC_high (by omega)]
          exact hx
  refine ho v W σ _ (fun j => if j = 0 then m else 700000 + (j - 1)) (fun j => if j = 0 then i0 else ids (j - 1)) (fun j => if j = 0 then r0 else r (j - 1)) (fun j => if j = 0 then m else 700000 + (j - 1)) h1 h2 hmod ?_ ?_ ?_ ?_ ?_
  · intro n hn
    simp only [show ¬ n < 700000 by omega, show ¬ n < 1000000 by omega, if_false]
  · intro j hj
    by_cases e : j = 0
    · subst e
      simp only [if_true, hm7]
      exact ⟨by simp [tkf, hm], by omega⟩
    · simp only [e, if_false]
      have g1 : ¬ 700000 + (j - 1) < 700000 := by omega
      have g2 : 700000 + (j - 1) < 1000000 := by omega
      have g3 : 700000 + (j - 1) - 700000 = j - 1 := by omega
      simp only [g1, g2, g3, if_false, if_true]
      exact ⟨by rw [if_pos (by omega)], trivial⟩
  · intro i j hi hj e
    split at e <;> split at e <;> omega
  · intro j hj
    by_cases e : j = 0
    · simp only [e, if_true]; exact hren
    · simp only [e, if_false]; exact hrenf _
  · intro τ ι hle hs
    have hs0 := hs 0 (by omega)
    simp only [if_true] at hs0
    have hsf : ∀ j, j < K → τ.ρ (ι (j + 1)) = τ.ρ (ids j) ∧ τ.z (ι (j + 1)) = τ.z (ids j) := fun j hj => by
      have := hs (j + 1) (by omega)
      simpa using this
    obtain ⟨c1, c2⟩ := hconv τ ι hs0 hsf
    have hinj : ∀ i j, i < K + 1 → j < K + 1 → (if i = 0 then m else 700000 + (i - 1)) = (if j = 0 then m else 700000 + (j - 1)) → i = j := by
      intro i j hi hj e
      split at e <;> split at e <;> omega
    have hlen : (prod ι).length = K + 1 := by rw [hp]; simp
    refine ⟨c1 v (p.m _ _ _ hle (hv 0 p v rfl rfl)), ?_, ?_⟩
    · intro n x hx
      have hn : n < K + 1 := by rw [← hlen]; exact (List.getElem?_eq_some_iff.1 hx).1
      have hit := updT_hit (t := fun j => if j = 0 then m else 700000 + (j - 1)) (ι := ι) (r := fun j => if j = 0 then r0 else r (j - 1)) (R := fun n => if n < 700000 then tkf L (famC C K ids r).Rf n else if n < 1000000 then (if n - 700000 < K then some (ids (n - 700000), r (n - 700000)) else none) else C.Rf n) (K + 1) n hn hinj
      rw [hp] at hx
      cases n with
      | zero =>
        simp at hx
        subst hx
        refine ⟨by simp only [if_true]; omega, r0, by simpa using hit, c2⟩
      | succ n =>
        simp only [List.getElem?_cons_succ, List.getElem?_map, List.getElem?_range (show n < K by omega), Option.map_some, Option.some.injEq] at hx
        subst hx
        refine ⟨by simp only [Nat.succ_ne_zero, if_false]; omega, r n, by simpa using hit, fun b o h => h⟩
    · intro i j hi hj e
      exact hinj i j (by omega) (by omega) e
end
end Go.AL


set_option linter.unusedVariables false
namespace Go.Hp
open Go.AL Go.Ch Go.RowKit
structure FmE where
  f : Fm
  r : Option AL.Id
  d : Option AL.Id
def regP (f : Fm) : Option AL.Id → Pred
  | none => slP vp 3 f.regs
  | some id => mvP id 3 0 f.regs.length f.regs.length
def defP (f : Fm) : Option AL.Id → Pred
  | none => slP Df.ps 2 f.defers
  | some id => mvP id 2 0 f.defers.length f.defers.length
def fmE (e : FmE) : List Pred := [eqP (.int .i64 e.f.fn), eqP (.int .i64 e.f.pc), regP e.f e.r, eqP (.int .i64 e.f.dest), defP e.f e.d, eqP (.bool e.f.leaving), eqP (.int .i64 e.f.result.kind), eqP (.int .i64 e.f.result.n), eqP (.int .i64 e.f.result.off)]
theorem fmE_len (e : FmE) : (fmE e).length = 9 := rfl
def sel (ids : Nat → AL.Id) (K m : Nat) : Option AL.Id := if m < K then some (ids m) else none
theorem sel_yes {ids : Nat → AL.Id} {K m : Nat} (h : m < K) : sel ids K m = some (ids m) := by unfold sel; rw [if_pos h]
theorem sel_no {ids : Nat → AL.Id} {K m : Nat} (h : K ≤ m) : sel ids K m = none := by unfold sel; rw [if_neg (by omega)]
/-- the first K blocks are the call's own -/
def famE (l : List Fm) (ids : Nat → AL.Id) (K : Nat) : List FmE := l.zipIdx.map fun p => ⟨p.1, sel ids K (2 * p.2), sel ids K (2 * p.2 + 1)⟩
def famP (l : List Fm) (j : Nat) : List Pred := if j % 2 = 0 then (l[j / 2]?.getD default).regs.flatMap vp else (l[j / 2]?.getD default).defers.flatMap Df.ps
def famκ (j : Nat) : Nat := if j % 2 = 0 then 3 else 2
def famB (tv td : TypeId) (j : Nat) : TypeId := if j % 2 = 0 then tv else td
def famR (tv td : TypeId) (l : List Fm) (j : Nat) : Res := blkX (famκ j) (famB tv td j) (famP l j)
section
variable {l : List Fm} {ids ids' : Nat → AL.Id} {K i j : Nat} {tv td : TypeId}
theorem famR_ren : RenR (famR tv td l j) := RenR.blk _ _ _
theorem famR_even {f : Fm} (h : l[i]? = some f) : famR tv td l (2 * i) = blkX 3 tv (f.regs.flatMap vp) := by
  unfold famR famκ famB famP
  have e1 : 2 * i % 2 = 0 := by omega
  have e2 : 2 * i / 2 = i := by omega
  simp [e1, e2, h]
theorem famR_odd {f : Fm} (h : l[i]? = some f) : famR tv td l (2 * i + 1) = blkX 2 td (f.defers.flatMap Df.ps) := by
  unfold famR famκ famB famP
  have e1 : (2 * i + 1) % 2 = 1 := by omega
  have e2 : (2 * i + 1) / 2 = i := by omega
  simp [e1, e2, h]
theorem famE_len : (famE l ids K).length = l.length := by unfold famE; simp
theorem famE_get? (j : Nat) : (famE l ids K)[j]? = l[j]?.map fun f => ⟨f, sel ids K (2 * j), sel ids K (2 * j + 1)⟩ := by
  unfold famE
  rw [List.getElem?_map, List.getElem?_zipIdx]
  cases l[j]? <;> simp
theorem famE_at {f : Fm} (h : l[j]? = some f) (hK : K ≤ 2 * j) : (famE l ids K)[j]? = some ⟨f, none, none⟩ := by
  rw [famE_get?, h, sel_no hK, sel_no (by omega)]
  rfl
theorem famE_own {f : Fm} (h : l[j]? = some f) (hK : 2 * j + 2 ≤ K) : (famE l ids K)[j]? = some ⟨f, some (ids (2 * j)), some (ids (2 * j + 1))⟩ := by
  rw [famE_get?, h, sel_yes (by omega), sel_yes (by omega)]
  rfl
theorem famE_0 : (famE l ids 0).flatMap fmE = l.flatMap Fm.ps := by
  unfold famE
  rw [List.flatMap_map]
  have e : ∀ p : Fm × Nat, fmE ⟨p.1, sel ids 0 (2 * p.2), sel ids 0 (2 * p.2 + 1)⟩ = Fm.ps p.1 := fun p => by rw [sel_no (Nat.zero_le _), sel_no (Nat.zero_le _)]; rfl
  simp only [e]
  have : (l.zipIdx.map Prod.fst).flatMap Fm.ps = l.zipIdx.flatMap fun p => Fm.ps p.1 := by rw [List.flatMap_map]
  rw [← this]
  congr 1
  simp
theorem famE_push {f : Fm} {a b : AL.Id} (h : l[i]? = some f) (ha : ids' (2 * i) = a) (hb : ids' (2 * i + 1) = b) (hid : ∀ j, j < 2 * i → ids' j = ids j) :
    famE l ids' (2 * (i + 1)) = ((famE l ids (2 * i)).set i ⟨f, some a, none⟩).set i ⟨f, some a, some b⟩ := by
  have hi := (List.getElem?_eq_some_iff.1 h).1
  apply List.ext_getElem?
  intro j
  rw [List.set_set, List.getElem?_set, famE_get?]
  by_cases e : i = j
  · subst e
    rw [if_pos rfl, famE_len, if_pos hi, h, sel_yes (by omega), sel_yes (by omega), ha, hb]
    rfl
  · rw [if_neg e, famE_get?]
    cases hl : l[j]? with
    | none => rfl
    | some g =>
      simp only [Option.map_some, Option.some.injEq, FmE.mk.injEq, true_and]
      rcases Nat.lt_or_ge j i with g | g
      · rw [sel_yes (by omega), sel_yes (by omega), sel_yes (by omega), sel_yes (by omega), hid _ (by omega), hid _ (by omega)]
        exact ⟨rfl, rfl⟩
      · rw [sel_no (by omega), sel_no (by omega), sel_no (by omega), sel_no (by omega)]
        exact ⟨rfl, rfl⟩
theorem famE_ren {τ : Sg} (h : ∀ j, j < K → τ.ρ (ids' j) = τ.ρ (ids j) ∧ τ.z (ids' j) = τ.z (ids j)) : EntsAt τ ((famE l ids K).flatMap fmE) ((famE l ids' K).flatMap fmE) := by
  have sel_r : ∀ (f : Fm) m v, (regP f (sel ids K m)).h τ v → (regP f (sel ids' K m)).h τ v := fun f m v hv => by
    by_cases hm : m < K
    · rw [sel_yes hm] at hv ⊢; exact mv_ren (h m hm).1 (h m hm).2 v hv
    · rw [sel_no (by omega)] at hv ⊢; exact hv
  have sel_d : ∀ (f : Fm) m v, (defP f (sel ids K m)).h τ v → (defP f (sel ids' K m)).h τ v := fun f m v hv => by
    by_cases hm : m < K
    · rw [sel_yes hm] at hv ⊢; exact mv_ren (h m hm).1 (h m hm).2 v hv
    · rw [sel_no (by omega)] at hv ⊢; exact hv
  have key : ∀ zs : List (Fm × Nat), EntsAt τ ((zs.map fun p => (⟨p.1, sel ids K (2 * p.2), sel ids K (2 * p.2 + 1)⟩ : FmE)).flatMap fmE) ((zs.map fun p => (⟨p.1, sel ids' K (2 * p.2), sel ids' K (2 * p.2 + 1)⟩ : FmE)).flatMap fmE) := by
    intro zs
    induction zs with
    | nil => exact .nil
    | cons z zs ih =>
      rw [List.map_cons, List.map_cons, List.flatMap_cons, List.flatMap_cons]
      exact .cons (fun _ h => h) (.cons (fun _ h => h) (.cons (sel_r _ _) (.cons (fun _ h => h) (.cons (sel_d _ _) (.cons (fun _ h => h) (.cons (fun _ h => h) (.cons (fun _ h => h) (.cons (fun _ h => h) ih))))))))
  exact key _
theorem fment_mv {α : Type} {f : α → List Pred} {k : Nat} {id : AL.Id} {xs : List α} (hk : ∀ z, (f z).length = k) : FEnt id (xs.flatMap f) (mvP id k 0 xs.length xs.length) (slP f k xs) := FEnt.mv rfl ⟨[], by simp⟩ hk
end
/-- a goroutine whose frames lie in a block of the call's own -/
def grM (g : Gr) (n : Nat) (id : AL.Id) : List Pred := [eqP (.int .i64 g.state), eqP (.int .i64 g.fault), eqP (.int .i64 g.allocs), mvP id 9 0 n n]
def famProd (tf tv td : TypeId) (g : Gr) (ι : Nat → AL.Id) : List (AL.Id × Res) :=
  (ι 0, blkX 9 tf ((famE g.frames (fun j => ι (j + 1)) (2 * g.frames.length)).flatMap fmE)) :: (List.range (2 * g.frames.length)).map fun j => (ι (j + 1), famR tv td g.frames j)
end Go.Hp


set_option linter.unusedVariables false
namespace Go.Hp
open Go.AL Go.Ch Go.RowKit
theorem FEnts.app {id : AL.Id} {ps a b c d : List Pred} (h : FEnts id ps a b) (k : FEnts id ps c d) : FEnts id ps (a ++ c) (b ++ d) := by
  induction h with
  | nil => exact k
  | cons h _ ih => exact .cons h ih
section
variable {l : List Fm} {ids : Nat → AL.Id} {K m j : Nat} {tv td : TypeId} {zs : List FmE}
theorem famE_elt (hK : K < 2 * l.length) {x y : FmE} (hx : (famE l ids (K + 1))[j]? = some x) (hy : (famE l ids K)[j]? = some y) : FEnts (ids K) (famP l K) (fmE x) (fmE y) := by
  rw [famE_get?] at hx hy
  cases hl : l[j]? with
  | none => rw [hl] at hx; simp at hx
  | some f =>
    rw [hl] at hx hy
    simp only [Option.map_some, Option.some.injEq] at hx hy
    subst hx hy
    by_cases e1 : 2 * j = K
    · subst e1
      have hp : famP l (2 * j) = f.regs.flatMap vp := by
        unfold famP
        have e1 : 2 * j % 2 = 0 := by omega
        have e2 : 2 * j / 2 = j := by omega
        simp [e1, e2, hl]
      rw [hp]
      simp only [sel_yes (show 2 * j < 2 * j + 1 by omega), sel_no (Nat.le_refl (2 * j)), sel_no (Nat.le_refl (2 * j + 1)), sel_no (show 2 * j ≤ 2 * j + 1 by omega)]
      exact .cons (.of (Ent.refl _)) (.cons (.of (Ent.refl _)) (.cons (fment_mv vp_len) (FEnts.refl _ _ _)))
    · by_cases e2 : 2 * j + 1 = K
      · subst e2
        have hp : famP l (2 * j + 1) = f.defers.flatMap Df.ps := by
          unfold famP
          have e1 : (2 * j + 1) % 2 = 1 := by omega
          have e2 : (2 * j + 1) / 2 = j := by omega
          simp [e1, e2, hl]
        rw [hp]
        simp only [sel_yes (show 2 * j < 2 * j + 1 + 1 by omega), sel_yes (show 2 * j < 2 * j + 1 by omega), sel_yes (show 2 * j + 1 < 2 * j + 1 + 1 by omega), sel_no (Nat.le_refl (2 * j + 1))]
        exact .cons (.of (Ent.refl _)) (.cons (.of (Ent.refl _)) (.cons (.of (Ent.refl _)) (.cons (.of (Ent.refl _)) (.cons (fment_mv Df.len) (FEnts.refl _ _ _)))))
      · have h1 : sel ids (K + 1) (2 * j) = sel ids K (2 * j) := by
          unfold sel
          by_cases g : 2 * j < K
          · rw [if_pos g, if_pos (by omega)]
          · rw [if_neg g, if_neg (by omega)]
        have h2 : sel ids (K + 1) (2 * j + 1) = sel ids K (2 * j + 1) := by
          unfold sel
          by_cases g : 2 * j + 1 < K
          · rw [if_pos g, if_pos (by omega)]
          · rw [if_neg g, if_neg (by omega)]
        rw [h1, h2]
        exact FEnts.refl _ _ _
/-- the row: m frames of which K blocks are the call's own, then others -/
def rowE (l : List Fm) (ids : Nat → AL.Id) (m K : Nat) (zs : List FmE) : List FmE := (famE l ids K).take m ++ zs
theorem rowE_seal (hK : K < 2 * l.length) : FEnts (ids K) (famP l K) ((rowE l ids m (K + 1) zs).flatMap fmE) ((rowE l ids m K zs).flatMap fmE) := by
  unfold rowE
  rw [List.flatMap_append, List.flatMap_append]
  refine FEnts.app (FEnts.flat (by rw [List.length_take, List.length_take, famE_len, famE_len]) fun j x y hx hy => ?_) (FEnts.refl _ _ _)
  rw [List.getElem?_take] at hx hy
  split at hx
  · rename_i hj
    rw [if_pos hj] at hy
    exact famE_elt hK hx hy
  · cases hx
def pureE (f : Fm) : FmE := ⟨f, none, none⟩
theorem pureE_flat (l : List Fm) : (l.map pureE).flatMap fmE = l.flatMap Fm.ps := by
  rw [List.flatMap_map]
  rfl
theorem famE_zero : famE l ids 0 = l.map pureE := by
  apply List.ext_getElem?
  intro j
  rw [famE_get?, List.getElem?_map, sel_no (Nat.zero_le _), sel_no (Nat.zero_le _)]
  rfl
theorem rowE_zero : rowE l ids m 0 zs = (l.take m).map pureE ++ zs := by
  unfold rowE
  rw [famE_zero, List.map_take]
theorem rowE_full (hm : l.length ≤ m) : rowE l ids m K [] = famE l ids K := by
  unfold rowE
  rw [List.append_nil, List.take_of_length_le (by rw [famE_len]; exact hm)]
/-- the last of the m frames -/
theorem rowE_pop {f : Fm} (h : l[m]? = some f) : rowE l ids (m + 1) (2 * m + 2) zs = rowE l ids m (2 * m) (⟨f, some (ids (2 * m)), some (ids (2 * m + 1))⟩ :: zs) := by
  have hm := (List.getElem?_eq_some_iff.1 h).1
  unfold rowE
  apply List.ext_getElem?
  intro j
  have l1 : ((famE l ids (2 * m + 2)).take (m + 1)).length = m + 1 := by rw [List.length_take, famE_len]; omega
  have l2 : ((famE l ids (2 * m)).take m).length = m := by rw [List.length_take, famE_len]; omega
  rcases Nat.lt_trichotomy j m with g | g | g
  · rw [List.getElem?_append_left (by omega), List.getElem?_append_left (by omega), List.getElem?_take, List.getElem?_take, if_pos (by omega), if_pos g, famE_get?, famE_get?]
    cases l[j]? with
    | none => rfl
    | some f' =>
      rw [sel_yes (by omega), sel_yes (by omega), sel_yes (by omega), sel_yes (by omega)]
  · subst g
    rw [List.getElem?_append_left (by omega), List.getElem?_append_right (by omega), l2, Nat.sub_self, List.getElem?_take, if_pos (by omega), famE_own h (by omega)]
    rfl
  · rw [List.getElem?_append_right (by omega), List.getElem?_append_right (by omega), l1, l2, show j - m = (j - (m + 1)) + 1 by omega]
    rfl
theorem rowE_len (hm : m ≤ l.length) : (rowE l ids m K zs).length = m + zs.length := by
  unfold rowE
  rw [List.length_append, List.length_take, famE_len, Nat.min_eq_left hm]
theorem rowE_at (hm : m ≤ l.length) (i : Nat) : (rowE l ids m K zs)[m + i]? = zs[i]? := by
  unfold rowE
  have l1 : ((famE l ids K).take m).length = m := by rw [List.length_take, famE_len, Nat.min_eq_left hm]
  rw [List.getElem?_append_right (by omega), l1, Nat.add_sub_cancel_left]
theorem rowE_top (hm : m ≤ l.length) {z : FmE} : (rowE l ids m K (z :: zs))[m]? = some z := rowE_at (l := l) (ids := ids) (K := K) (zs := z :: zs) hm 0
theorem rowE_set (hm : m ≤ l.length) {z z' : FmE} : (rowE l ids m K (z :: zs)).set m z' = rowE l ids m K (z' :: zs) := by
  unfold rowE
  have l1 : ((famE l ids K).take m).length = m := by rw [List.length_take, famE_len, Nat.min_eq_left hm]
  rw [List.set_append_right _ _ (by omega), l1, Nat.sub_self]
  rfl
variable {C : Cx} {F : Fr} {L : Tk} {X : Act → World → Prop}
/-- the blocks of the last frame become tokens -/
theorem post_take2 {f : Fm} (t1 t2 : Nat) (h : l[j]? = some f) (ht : (Nat.blt t1 1000000 && Nat.blt t2 1000000) = true) (hne : Nat.beq t1 t2 = false) (hj : j < 200000) (hl : lowL L = true) (h1 : lk L t1 = none ∨ lk L t1 = some none) (h2 : lk L t2 = none ∨ lk L t2 = some none)
    (k : Post (famC C (2 * j) ids (famR tv td l)) F ((t1, some (ids (2 * j), blkX 3 tv (f.regs.flatMap vp))) :: (t2, some (ids (2 * j + 1), blkX 2 td (f.defers.flatMap Df.ps))) :: L) X) : Post (famC C (2 * j + 2) ids (famR tv td l)) F L X := by
  simp only [Bool.and_eq_true] at ht
  have g1 : t1 < 1000000 := Nat.le_of_ble_eq_true ht.1
  have g2 : t2 < 1000000 := Nat.le_of_ble_eq_true ht.2
  have g3 : ¬ t2 = t1 := fun e => by subst e; simp at hne
  refine post_take (K := 2 * j + 1) t2 g2 (by omega) hl h2 ?_
  refine post_take (K := 2 * j) t1 g1 (by omega) ?_ (by rw [lk_cons, if_neg g3]; exact h1) ?_
  · unfold lowL at hl ⊢
    rw [List.all_cons, hl, Bool.and_true]
    exact ht.2
  · rw [famR_even h, famR_odd h]
    exact k
/-- all is sealed, and the family let go -/
theorem post_sealFm {n t κ : Nat} {id' : AL.Id} {B : TypeId} (hC : CxOK C) (hne : (Nat.blt t 1000000 && Nat.blt n 1000000 && !Nat.beq t n) = true) (hK : K ≤ 2 * l.length) (hK' : K ≤ 300000) (hl : lowL L = true) (h1 : lk L t = none ∨ lk L t = some none)
    (hn : lk L n = some (some (id', blkX κ B ((rowE l ids m K zs).flatMap fmE)))) (k : Post C F ((n, some (id', blkX κ B (((l.take m).map pureE ++ zs).flatMap fmE))) :: L) X) : Post (famC C K ids (famR tv td l)) F L X := by
  simp only [Bool.and_eq_true, Bool.not_eq_true'] at hne
  have g1 : t < 1000000 := Nat.le_of_ble_eq_true hne.1.1
  have g2 : n < 1000000 := Nat.le_of_ble_eq_true hne.1.2
  have g3 : t ≠ n := fun e => by subst e; simp at hne
  refine post_sealFam (κf := famκ) (Bf := famB tv td) (psf := famP l) (κ := κ) (B := B) (id' := id') (fun j => (rowE l ids m j zs).flatMap fmE) (fun j => rfl) g3 g1 g2 K L hK' (fun j hj => rowE_seal (by omega)) hl h1 hn ?_
  simp only [rowE_zero]
  refine post_unfam hC ?_ k
  unfold lowL at hl ⊢
  rw [List.all_cons, hl, Bool.and_true]
  exact hne.1.2
theorem post_rowEq {n κ : Nat} {id : AL.Id} {B : TypeId} {xs ys : List FmE} (hn : lk L n = some (some (id, blkX κ B (xs.flatMap fmE)))) (e : xs = ys) (k : Post C F ((n, some (id, blkX κ B (ys.flatMap fmE))) :: L) X) : Post C F L X := by
  subst e
  refine post_congr ?_ k
  rw [tkf_cons]
  funext q
  by_cases h : q = n
  · subst h; simp [tkf, hn]
  · simp [h]
theorem post_rowPs {n κ : Nat} {id : AL.Id} {B : TypeId} {ps qs : List Pred} (hn : lk L n = some (some (id, blkX κ B ps))) (e : ps = qs) (k : Post C F ((n, some (id, blkX κ B qs)) :: L) X) : Post C F L X := by
  subst e
  refine post_congr ?_ k
  rw [tkf_cons]
  funext q
  by_cases h : q = n
  · subst h; simp [tkf, hn]
  · simp [h]
end
end Go.Hp
namespace Go.Hp
open Go.AL Go.Ch Go.RowKit
theorem famE_grow {l : List Fm} {ids ids' : Nat → AL.Id} {i : Nat} {f : Fm} {a b : AL.Id} (h : l[i]? = some f) (ha : ids' (2 * i) = a) (hb : ids' (2 * i + 1) = b) (hid : ∀ j, j < 2 * i → ids' j = ids j) :
    (famE l ids' (2 * (i + 1))).take (i + 1) = (famE l ids (2 * i)).take i ++ [⟨f, some a, some b⟩] := by
  rw [famE_push h ha hb hid, List.set_set]
  have hi := (List.getElem?_eq_some_iff.1 h).1
  apply List.ext_getElem?
  intro j
  have l1 : ((famE l ids (2 * i)).take i).length = i := by rw [List.length_take, famE_len]; omega
  rw [List.getElem?_take]
  rcases Nat.lt_trichotomy j i with g | g | g
  · rw [if_pos (by omega), List.getElem?_set, if_neg (by omega), List.getElem?_append_left (by omega), List.getElem?_take, if_pos g]
  · subst g
    rw [if_pos (by omega), List.getElem?_set, if_pos rfl, famE_len, if_pos hi, List.getElem?_append_right (by omega), l1, Nat.sub_self]
    rfl
  · rw [if_neg (by omega), List.getElem?_append_right (by omega), l1]
    cases hq : j - i with
    | zero => omega
    | succ q => rfl
end Go.Hp


namespace Go.Hp
open Go.AL Go.Ch
theorem df_ne (a b : Df) : (decide (a.fn ≠ b.fn) || !(decide (a.args = b.args))) = decide (a ≠ b) := by
  cases a; cases b
  simp only [ne_eq, decide_not, ← Bool.not_and]
  congr 1
  rw [Bool.eq_iff_iff]
  simp only [Bool.and_eq_true, decide_eq_true_eq, Df.mk.injEq]
theorem gr_eq (a b : Gr) : (((decide (a.state = b.state) && decide (a.fault = b.fault)) && decide (a.allocs = b.allocs)) && decide (a.frames = b.frames)) = decide (a = b) := by
  cases a; cases b
  rw [Bool.eq_iff_iff]
  simp only [Bool.and_eq_true, decide_eq_true_eq, Gr.mk.injEq, and_assoc]
def fmHead (a b : Fm) : Prop := a.fn = b.fn ∧ a.pc = b.pc ∧ a.dest = b.dest ∧ a.leaving = b.leaving ∧ a.result = b.result ∧ a.regs = b.regs
theorem fm_of {a b : Fm} (h : fmHead a b) (hd : a.defers = b.defers) : a = b := by
  obtain ⟨h1, h2, h3, h4, h5, h6⟩ := h
  cases a; cases b
  simp_all
section
variable {a b : Fm}
theorem fm_ne2 (h : ((((((decide (a.fn ≠ b.fn) || decide (a.pc ≠ b.pc)) || decide (a.dest ≠ b.dest)) || (a.leaving != b.leaving)) || !(decide (a.result = b.result))) || !(decide (a.regs = b.regs))) || decide ((a.defers.length : Int) ≠ (b.defers.length : Int))) = false) : fmHead a b ∧ a.defers.length = b.defers.length := by
  simp only [Bool.or_eq_false_iff, decide_eq_false_iff_not, ne_eq, Decidable.not_not, Bool.not_eq_false', decide_eq_true_eq, bne_eq_false_iff_eq] at h
  exact ⟨⟨h.1.1.1.1.1.1, h.1.1.1.1.1.2, h.1.1.1.1.2, h.1.1.1.2, h.1.1.2, h.1.2⟩, by omega⟩
theorem fm_ne1 (h : ((((((decide (a.fn ≠ b.fn) || decide (a.pc ≠ b.pc)) || decide (a.dest ≠ b.dest)) || (a.leaving != b.leaving)) || !(decide (a.result = b.result))) || !(decide (a.regs = b.regs))) || decide ((a.defers.length : Int) ≠ (b.defers.length : Int))) = true) : ¬ a = b := fun e => by
  subst e
  simp at h
end
section
variable {a b : Mc}
end
end Go.Hp


set_option linter.unusedVariables false
namespace Go.Hp
open Go.AL Go.Ch Go.RowKit
section
variable {l : List Fm} {ids : Nat → AL.Id} {K m q : Nat} {f : Fm} {zs : List FmE} {a b : AL.Id}
theorem rowE_first (h : l[q]? = some f) (hl : l.length = q + 1) : famE l ids (2 * (q + 1)) = rowE l ids q (2 * q) [⟨f, some (ids (2 * q)), some (ids (2 * q + 1))⟩] := by
  rw [show 2 * (q + 1) = 2 * q + 2 by omega, ← rowE_pop h, rowE_full (by omega)]
theorem rowE_top_ents {id : AL.Id} {ps : List Pred} {z z' : FmE} (h : FEnts id ps (fmE z) (fmE z')) : FEnts id ps ((rowE l ids m K (z :: zs)).flatMap fmE) ((rowE l ids m K (z' :: zs)).flatMap fmE) := by
  unfold rowE
  rw [List.flatMap_append, List.flatMap_append, List.flatMap_cons, List.flatMap_cons]
  exact FEnts.app (FEnts.refl _ _ _) (FEnts.app h (FEnts.refl _ _ _))
theorem seal_regs {r' : List V} {d : Option AL.Id} (hl : r'.length = f.regs.length) : FEnts a (r'.flatMap vp) ((rowE l ids m K (⟨f, some a, d⟩ :: zs)).flatMap fmE) ((rowE l ids m K (⟨{ f with regs := r' }, none, d⟩ :: zs)).flatMap fmE) := by
  refine rowE_top_ents (.cons (.of (Ent.refl _)) (.cons (.of (Ent.refl _)) (.cons ?_ (FEnts.refl _ _ _))))
  exact FEnt.mv hl.symm ⟨[], by simp⟩ vp_len
theorem seal_defs {r : Option AL.Id} {d' : List Df} (hl : d'.length = f.defers.length) : FEnts b (d'.flatMap Df.ps) ((rowE l ids m K (⟨f, r, some b⟩ :: zs)).flatMap fmE) ((rowE l ids m K (⟨{ f with defers := d' }, r, none⟩ :: zs)).flatMap fmE) := by
  refine rowE_top_ents (.cons (.of (Ent.refl _)) (.cons (.of (Ent.refl _)) (.cons (.of (by cases r <;> exact Ent.refl _)) (.cons (.of (Ent.refl _)) (.cons ?_ (FEnts.refl _ _ _))))))
  exact FEnt.mv hl.symm ⟨[], by simp⟩ Df.len
theorem rowPure (fs : List Fm) (us : List FmE) : ((l.take m).map pureE ++ (fs.map pureE ++ us)).flatMap fmE = (l.take m ++ fs).flatMap Fm.ps ++ us.flatMap fmE := by
  rw [List.flatMap_append, List.flatMap_append, pureE_flat, pureE_flat, List.flatMap_append, List.append_assoc]
/-- the last frame turned -/
def modTop (h : Fm → Fm) (l : List Fm) : List Fm := l.take (l.length - 1) ++ (l.drop (l.length - 1)).map h
theorem modTop_nil {h : Fm → Fm} (hl : l.length = 0) : modTop h l = l := by
  have : l = [] := List.eq_nil_of_length_eq_zero hl
  subst this
  rfl
theorem modTop_at {h : Fm → Fm} (hq : l[q]? = some f) (hl : l.length = q + 1) : modTop h l = l.take q ++ [h f] := by
  unfold modTop
  have e : l.length - 1 = q := by omega
  obtain ⟨hlt, rfl⟩ := List.getElem?_eq_some_iff.1 hq
  rw [e, List.drop_eq_getElem_cons hlt, List.drop_eq_nil_of_le (by omega)]
  rfl
def topF (l : List Fm) : Option Fm := l[l.length - 1]?
def setF (g : Gr) (r : Int) (v : V) : Gr := { g with frames := modTop (fun f => if 0 ≤ r ∧ r < (f.regs.length : Int) then { f with regs := f.regs.set r.toNat v } else f) g.frames }
def regF (g : Gr) (r : Int) : V := match topF g.frames with | none => v0 | some f => if 0 ≤ r ∧ r < (f.regs.length : Int) then (f.regs[r.toNat]?).getD v0 else v0
def deferF (g : Gr) (d : Df) : Gr := { g with frames := modTop (fun f => { f with defers := f.defers ++ [d] }) g.frames }
def siteF (n k : Nat) (f : Fm) : Int × Int := (f.fn, if (k : Int) + 1 < (n : Int) ∧ f.leaving = false then IntKind.i64.wrap (f.pc - 1) else f.pc)
def sitesF (l : List Fm) : List (Int × Int) := l.zipIdx.map fun p => siteF l.length p.2 p.1
def sip (s : Int × Int) : List Pred := [eqP (.int .i64 s.1), eqP (.int .i64 s.2)]
theorem sip_len (s : Int × Int) : (sip s).length = 2 := rfl
theorem sites_step {k : Nat} (hk : k < l.length) : (sitesF l).take (k + 1) = (sitesF l).take k ++ [siteF l.length k l[k]] := by
  have hl : (sitesF l).length = l.length := by unfold sitesF; simp
  rw [take_at (by omega : k < (sitesF l).length)]
  congr 2
  unfold sitesF
  simp
theorem sites_all {k : Nat} (hk : l.length ≤ k) : (sitesF l).take k = sitesF l := List.take_of_length_le (by unfold sitesF; simpa using hk)
theorem reg_none (hl : l.length = 0) {g : Gr} (hg : g.frames = l) (r : Int) : regF g r = v0 := by
  unfold regF topF
  rw [hg, List.eq_nil_of_length_eq_zero hl]
  rfl
theorem reg_some {g : Gr} (hq : g.frames[q]? = some f) (hl : g.frames.length = q + 1) (r : Int) : regF g r = if 0 ≤ r ∧ r < (f.regs.length : Int) then (f.regs[r.toNat]?).getD v0 else v0 := by
  unfold regF topF
  rw [hl, Nat.add_sub_cancel, hq]
end
end Go.Hp
namespace Go.Hp
open Go.AL Go.Ch Go.RowKit
theorem fment_row {α : Type} {f : α → List Pred} {k n c : Nat} {id : AL.Id} {xs : List α} (hk : ∀ z, (f z).length = k) (hn : n = xs.length) : FEnt id (xs.flatMap f) (mvP id k 0 n c) (slP f k xs) := FEnt.mv hn ⟨[], by simp⟩ hk
/-- .. of which not all is seen -/
theorem fment_part {α : Type} {f : α → List Pred} {k n c : Nat} {id : AL.Id} {xs : List α} {us : List Pred} (hk : ∀ z, (f z).length = k) (hn : n = xs.length) : FEnt id (xs.flatMap f ++ us) (mvP id k 0 n c) (slP f k xs) := FEnt.mv hn ⟨us, by simp⟩ hk
theorem rowPure1 {l : List Fm} {m : Nat} {f : Fm} : ((l.take m).map pureE ++ [(⟨f, none, none⟩ : FmE)]).flatMap fmE = (l.take m ++ [f]).flatMap Fm.ps := by
  have := rowPure (l := l) (m := m) [f] []
  simpa [pureE] using this
theorem rowPure0 {l : List Fm} (h : l.length = 0) : ((l.take 0).map pureE ++ ([] : List FmE)).flatMap fmE = l.flatMap Fm.ps := by
  rw [List.eq_nil_of_length_eq_zero h]
  rfl
theorem take_app_len {l : List Fm} {q : Nat} {f : Fm} (hl : l.length = q + 1) : q + 1 = (l.take q ++ [f]).length := by simp; omega
theorem set_none {g : Gr} {r : Int} {v : V} (hl : g.frames.length = 0) : setF g r v = g := by unfold setF; rw [modTop_nil hl]
theorem set_in {g : Gr} {r : Int} {v : V} {f : Fm} {q : Nat} (hq : g.frames[q]? = some f) (hl : g.frames.length = q + 1) (h : 0 ≤ r ∧ r < (f.regs.length : Int)) : setF g r v = { g with frames := g.frames.take q ++ [{ f with regs := f.regs.set r.toNat v }] } := by
  unfold setF; rw [modTop_at hq hl, if_pos h]
theorem set_out {g : Gr} {r : Int} {v : V} {f : Fm} {q : Nat} (hq : g.frames[q]? = some f) (hl : g.frames.length = q + 1) (h : ¬ (0 ≤ r ∧ r < (f.regs.length : Int))) : setF g r v = { g with frames := g.frames.take q ++ [f] } := by
  unfold setF; rw [modTop_at hq hl, if_neg h]
theorem def_none {g : Gr} {d : Df} (hl : g.frames.length = 0) : deferF g d = g := by unfold deferF; rw [modTop_nil hl]
theorem def_some {g : Gr} {d : Df} {f : Fm} {q : Nat} (hq : g.frames[q]? = some f) (hl : g.frames.length = q + 1) : deferF g d = { g with frames := g.frames.take q ++ [{ f with defers := f.defers ++ [d] }] } := by
  unfold deferF; rw [modTop_at hq hl]
end Go.Hp


namespace Go.AL
open Go.RowKit
theorem run_copy_none' {P : Program} (w : World) (dT sT ty elem : TypeId) (d a : Option Addr) (dLen dCap sLen sCap k : Nat) (hu : P.underlying dT = some (.slice elem)) (hs : (P.info? elem).map (·.size) = some k) (hn : Nat.min sLen dLen = 0) :
    (Builtin.copy_ #[dT, sT] ty #[.slice d dLen dCap, .slice a sLen sCap]).run P w = .ok (goInt 0) w := by
  cases hq : P.info? elem with
  | none => simp [hq] at hs
  | some i =>
    have hl : ∀ (x : Addr), (loadCells x 0).run P w = .ok #[] w := fun x => by simpa using run_loadCells_list (P := P) w x [] (by simp)
    cases d <;> cases a <;> simp [Builtin.copy_, run_underlying hu, Builtin.lenOf, Builtin.firstCells, sizeOf, typeInfo, hq, hn, storeCells, hl]
theorem spl_nil {α : Type} {xs : List α} {o : Nat} : spl xs o [] = xs := by unfold spl; simp
section
variable {P : Program} {n N : Nat} {F : Fr} {R : Toks} {d : Option Nat} {T : TypeId} {pos : String} {after : Array Edge} {k : Nat} {t ts e : TypeId} {id : Id} {α : Type} {f : α → List Pred}
theorem op_copy_zero {x y : Operand} {m o1 n1 c : Nat} {xs : List α} (hx : opd F x = some (mvP id k o1 n1 c)) (hy : opd F y = some (slP f k ([] : List α))) (hR : R m = some (id, blkX k e (xs.flatMap f))) (ht : elemB P t = some e) (hs : sizeB P e = some k) :
    OpJ P n N F R ⟨d, .call { callee := .builtin .copy, args := #[x, y], argTypes := #[t, ts] }, T, pos, after, none⟩
      ⟨rdo x (mvP id k o1 n1 c) ++ rdo y (slP f k ([] : List α)), [], [(m, (id, blkX k e (xs.flatMap f)))], [(m, (id, blkX k e (xs.flatMap f)))], [], eqP (.int .i64 (0 : Nat))⟩ where
  loc := by
    intro σ W R a K hm h2' h3 h4 h5 h6 h7 h8 h9 Q
    have hRm := h6 _ (List.mem_cons_self ..)
    obtain ⟨a1, hv1, _⟩ := holds_of hx fun w hw => h4 w (List.mem_append_left _ hw)
    obtain ⟨a2, cap, hv2, _⟩ := holds_of hy fun w hw => h4 w (List.mem_append_right _ hw)
    obtain ⟨i, hi, his⟩ : ∃ i, P.info? e = some i ∧ i.size = k := by
      unfold sizeB at hs
      cases hi : P.info? e with
      | none => rw [hi] at hs; cases hs
      | some i => rw [hi] at hs; simp at hs; exact ⟨i, rfl, hs⟩
    have hr := run_copy_none' (P := P) W t ts T e a1 a2 n1 (σ.z id - o1) 0 cap k (elem_of ht) (by rw [hi]; simp [his]) (by show min 0 n1 = 0; omega)
    refine wp_value (v := .int .i64 (0 : Nat)) ?_ (h9 σ W _ (Le.refl σ) (fun _ _ _ => rfl) (hm.congr ?_) rfl)
    · simp only [execOp, resolve, invoke, builtin, Sem.run_bind, Sem.run_pure, Result.andThen_ok, List.map_toArray, List.map_cons, List.map_nil, hv1, hv2, List.length_nil, hr]
      rfl
    · rw [updR_turn]
      funext q
      by_cases hq : q = m
      · subst hq; simp [hRm]
      · simp [hq]
  rd := rd_app (rd_of hx) (rd_of hy)
  use := by simp
  del := by simpa using hR
  add := by simp
theorem op_copy_any {x y : Operand} {m o1 n1 c : Nat} {xs ys : List α} (hx : opd F x = some (mvP id k o1 n1 c)) (hy : opd F y = some (slP f k ys)) (hR : R m = some (id, blkX k e (xs.flatMap f)))
    (ht : elemB P t = some e) (hs : sizeB P e = some k) (hk0 : k ≠ 0) (hk : ∀ z, (f z).length = k) (hn : ys.length ≤ n1) (ho : o1 ≤ xs.length) :
    OpJ P n N F R ⟨d, .call { callee := .builtin .copy, args := #[x, y], argTypes := #[t, ts] }, T, pos, after, none⟩
      ⟨rdo x (mvP id k o1 n1 c) ++ rdo y (slP f k ys), [], [(m, (id, blkX k e (xs.flatMap f)))], [(m, (id, blkX k e ((spl xs o1 ys).flatMap f)))], [], eqP (.int .i64 ys.length)⟩ := by
  cases ys with
  | nil => rw [spl_nil]; exact op_copy_zero hx hy hR ht hs
  | cons y' ys' => exact op_copy_sl hx hy hR ht hs hk0 hk (by simp) hn ho
end
end Go.AL


namespace Go.Hp
open Go.AL Go.Ch
structure In where
  op : Int
  a : Int
  b : Int
  c : Int
  pos : Int
  deriving DecidableEq, Inhabited
structure Fu where
  name : ByteArray
  params : Int
  regs : Int
  code : List In
structure Gl where
  name : ByteArray
  kind : Int
structure Pg where
  funcs : List Fu
  globals : List Gl
  layouts : List (List Int)
  main : Int
def In.ps (x : In) : List Pred := [eqP (.int .i64 x.op), eqP (.int .i64 x.a), eqP (.int .i64 x.b), eqP (.int .i64 x.c), eqP (.int .i64 x.pos)]
theorem In.len (x : In) : x.ps.length = 5 := rfl
def Fu.ps (f : Fu) : List Pred := [eqP (.string f.name), eqP (.int .i64 f.params), eqP (.int .i64 f.regs), slP In.ps 5 f.code]
theorem Fu.len (f : Fu) : f.ps.length = 4 := rfl
def Gl.ps (x : Gl) : List Pred := [eqP (.string x.name), eqP (.int .i64 x.kind)]
theorem Gl.len (x : Gl) : x.ps.length = 2 := rfl
def lyp (l : List Int) : List Pred := [slP ip 1 l]
def Pg.ps (p : Pg) : List Pred := [slP Fu.ps 4 p.funcs, slP Gl.ps 2 p.globals, slP lyp 1 p.layouts, eqP (.int .i64 p.main)]
def fu0 : Fu := ⟨⟨#[]⟩, 0, 0, []⟩
def pfn (p : Pg) (x : Int) : Fu := (p.funcs[x.toNat]?).getD fu0
theorem pfn_at {p : Pg} {x : Int} (h0 : 0 ≤ x) (h1 : x < (p.funcs.length : Int)) : p.funcs[x.toNat]? = some (pfn p x) := by
  unfold pfn
  rw [List.getElem?_eq_getElem (by omega)]
  rfl
def POK (p : Pg) : Prop := ∀ f ∈ p.funcs, 0 ≤ f.params ∧ f.params ≤ f.regs ∧ f.regs ≤ 64
theorem POK.at_ {p : Pg} (h : POK p) {x : Int} (h0 : 0 ≤ x) (h1 : x < (p.funcs.length : Int)) : 0 ≤ (pfn p x).params ∧ (pfn p x).params ≤ (pfn p x).regs ∧ (pfn p x).regs ≤ 64 := h _ (List.mem_of_getElem? (pfn_at h0 h1))
def gr0 : Gr := ⟨0, 0, 0, []⟩
def regsF (args : List V) (n : Nat) : List V := args ++ List.replicate (n - args.length) v0
theorem regs_spl {args : List V} {n : Nat} (h : args.length ≤ n) : spl (List.replicate n v0) 0 args = regsF args n := by
  unfold spl regsF
  simp
theorem regs_len {args : List V} {n : Nat} (h : args.length ≤ n) : (regsF args n).length = n := by
  unfold regsF
  simp
  omega
def newF (p : Pg) (x : Int) (args : List V) (dest : Int) : Fm := ⟨x, 0, regsF args (pfn p x).regs.toNat, dest, [], false, v0⟩
def enterF (p : Pg) (g : Gr) (x : Int) (args : List V) (dest : Int) : Gr × Int :=
  if x < 0 ∨ (p.funcs.length : Int) ≤ x ∨ (args.length : Int) ≠ (pfn p x).params then (gr0, 1)
  else if 32 ≤ g.frames.length then (gr0, 3)
  else ({ g with frames := g.frames ++ [newF p x args dest] }, 0)
section
variable {p : Pg} {g : Gr} {x dest : Int} {args : List V}
theorem enter_1 (h : x < 0 ∨ (p.funcs.length : Int) ≤ x ∨ (args.length : Int) ≠ (pfn p x).params) : enterF p g x args dest = (gr0, 1) := by unfold enterF; rw [if_pos h]
theorem enter_2 (h : ¬ (x < 0 ∨ (p.funcs.length : Int) ≤ x ∨ (args.length : Int) ≠ (pfn p x).params)) (h2 : 32 ≤ g.frames.length) : enterF p g x args dest = (gr0, 3) := by unfold enterF; rw [if_neg h, if_pos h2]
theorem enter_3 (h : ¬ (x < 0 ∨ (p.funcs.length : Int) ≤ x ∨ (args.length : Int) ≠ (pfn p x).params)) (h2 : ¬ 32 ≤ g.frames.length) : enterF p g x args dest = ({ g with frames := g.frames ++ [newF p x args dest] }, 0) := by unfold enterF; rw [if_neg h, if_neg h2]
end
theorem rowPureAll {l : List Fm} {n : Nat} (h : l.length ≤ n) : ((l.take n).map pureE ++ ([] : List FmE)).flatMap fmE = l.flatMap Fm.ps := by
  rw [List.append_nil, List.take_of_length_le h, pureE_flat]
end Go.Hp


namespace Go.Hp
open Go.AL Go.Ch Go.RowKit
inductive Out where
  | stop (rs : List Fm)
  | call (rs : List Fm) (d : Df)
/-- a result goes to the frame below -/
def ret1 (f h : Fm) : Fm := if 0 ≤ f.dest ∧ f.dest < (h.regs.length : Int) then { h with regs := h.regs.set f.dest.toNat f.result } else h
/-- the frame f over those below, the highest first -/
def leaveG : List Fm → Fm → Out
  | [], f => if f.leaving = false then .stop [f] else match f.defers[f.defers.length - 1]? with
    | some d => .call [{ f with defers := f.defers.take (f.defers.length - 1) }] d
    | none => .stop []
  | h :: t, f => if f.leaving = false then .stop (f :: h :: t) else match f.defers[f.defers.length - 1]? with
    | some d => .call ({ f with defers := f.defers.take (f.defers.length - 1) } :: h :: t) d
    | none => leaveG t (ret1 f h)
def topL (f : Fm) (v : V) : Fm := if f.leaving = true then f else { f with leaving := true, result := v }
def leaveF (p : Pg) (g : Gr) (v : V) : Gr :=
  match topF g.frames with
  | none => g
  | some f => match leaveG (g.frames.take (g.frames.length - 1)).reverse (topL f v) with
    | .stop rs => { g with frames := rs.reverse, state := if rs.length = 0 then 2 else g.state }
    | .call rs d => if (enterF p { g with frames := rs.reverse } d.fn d.args (-1)).2 = 0 then (enterF p { g with frames := rs.reverse } d.fn d.args (-1)).1 else { g with frames := rs.reverse, state := 3, fault := 9 }
/-- n frames, of which the last is f -/
def lst (l : List Fm) (n : Nat) (f : Fm) : Out := match n with | 0 => .stop [] | t + 1 => leaveG (l.take t).reverse f
section
variable {l : List Fm} {t : Nat} {f h : Fm} {d : Df}
theorem leave_stop (hl : f.leaving = false) : lst l (t + 1) f = .stop (f :: (l.take t).reverse) := by
  unfold lst
  simp only
  cases hr : (l.take t).reverse with
  | nil => unfold leaveG; rw [if_pos hl]
  | cons a b => unfold leaveG; rw [if_pos hl]
theorem leave_call (hl : f.leaving = true) (hd : f.defers[f.defers.length - 1]? = some d) : lst l (t + 1) f = .call ({ f with defers := f.defers.take (f.defers.length - 1) } :: (l.take t).reverse) d := by
  unfold lst
  simp only
  cases hr : (l.take t).reverse with
  | nil => unfold leaveG; rw [if_neg (by rw [hl]; simp), hd]
  | cons a b => unfold leaveG; rw [if_neg (by rw [hl]; simp), hd]
theorem nodefers (hd : f.defers.length = 0) : f.defers[f.defers.length - 1]? = none := by rw [List.getElem?_eq_none_iff]; omega
theorem leave_last (hl : f.leaving = true) (hd : f.defers.length = 0) : lst l (0 + 1) f = lst l 0 f := by
  unfold lst
  simp only [List.take_zero, List.reverse_nil]
  unfold leaveG
  rw [if_neg (by rw [hl]; simp), nodefers hd]
theorem leave_pop (hl : f.leaving = true) (hd : f.defers.length = 0) (hh : l[t]? = some h) : lst l (t + 1 + 1) f = lst l (t + 1) (ret1 f h) := by
  obtain ⟨hlt, rfl⟩ := List.getElem?_eq_some_iff.1 hh
  unfold lst
  simp only
  rw [take_at hlt, List.reverse_append]
  show leaveG (l[t] :: (l.take t).reverse) f = _
  rw [leaveG, if_neg (by rw [hl]; simp), nodefers hd]
theorem ret1_in (h1 : 0 ≤ f.dest ∧ f.dest < (h.regs.length : Int)) : ret1 f h = { h with regs := h.regs.set f.dest.toNat f.result } := by unfold ret1; rw [if_pos h1]
theorem ret1_out (h1 : ¬ (0 ≤ f.dest ∧ f.dest < (h.regs.length : Int))) : ret1 f h = h := by unfold ret1; rw [if_neg h1]
end
section
variable {p : Pg} {g : Gr} {v : V} {f : Fm} {q : Nat} {rs : List Fm} {d : Df}
theorem leaveF_none (hl : g.frames.length = 0) : leaveF p g v = g := by
  unfold leaveF topF
  rw [List.eq_nil_of_length_eq_zero hl]
  rfl
theorem leaveF_some (hq : g.frames[q]? = some f) (hl : g.frames.length = q + 1) : leaveF p g v = match lst g.frames (q + 1) (topL f v) with
    | .stop rs => { g with frames := rs.reverse, state := if rs.length = 0 then 2 else g.state }
    | .call rs d => if (enterF p { g with frames := rs.reverse } d.fn d.args (-1)).2 = 0 then (enterF p { g with frames := rs.reverse } d.fn d.args (-1)).1 else { g with frames := rs.reverse, state := 3, fault := 9 } := by
  unfold leaveF topF lst
  rw [hl, Nat.add_sub_cancel, hq]
end
/-- the row of a call stack that is being left -/
def rowS (l : List Fm) (ids : Nat → AL.Id) (n : Nat) (f : Fm) (zs : List FmE) : List FmE := match n with | 0 => rowE l ids 0 0 zs | t + 1 => rowE l ids t (2 * t) (pureE f :: zs)
def curP (id : AL.Id) (n : Nat) : Pred := match n with | 0 => eqP (.pointer none) | t + 1 => ptrP id (t * 9)
theorem rowE_set2 {l : List Fm} {ids : Nat → AL.Id} {m K : Nat} {z z1 z2 : FmE} {zs : List FmE} (hm : m ≤ l.length) : ((rowE l ids m K (z :: zs)).set m z1).set m z2 = rowE l ids m K (z2 :: zs) := by rw [rowE_set hm, rowE_set hm]
theorem fment_none {α : Type} {f : α → List Pred} {k c : Nat} {id : AL.Id} {ps : List Pred} : FEnt id ps (mvP id k 0 0 c) (slP f k ([] : List α)) := by
  rintro σ v hcs ⟨a, hv, h1, h2, h3, h4⟩
  exact ⟨a, σ.z id - 0, hv, Nat.zero_le _, by omega, fun h => by simp at h⟩
theorem rowPureT {l : List Fm} {m : Nat} {f : Fm} {zs : List FmE} : ((l.take m).map pureE ++ (pureE f :: zs)).flatMap fmE = (l.take m ++ [f]).flatMap Fm.ps ++ zs.flatMap fmE := rowPure [f] zs
theorem take_part {l : List Fm} {t : Nat} {f : Fm} (h : t ≤ l.length) : t + 1 = (l.take t ++ [f]).length := by simp; omega
theorem bdF_ret {n : Nat} {f h : Fm} (hb : BdF n h) : BdF n (ret1 f h) := by
  unfold ret1
  split
  · exact ⟨by simpa using hb.regs, hb.defers, hb.args⟩
  · exact hb
theorem bdF_topL {n : Nat} {f : Fm} {v : V} (hb : BdF n f) : BdF n (topL f v) := by
  unfold topL
  split
  · exact hb
  · exact ⟨hb.regs, hb.defers, hb.args⟩
/-- a call stack of which the last frame is another -/
theorem bdG_take {n : Nat} {g : Gr} {f : Fm} {t : Nat} (hb : BdG n g) (hf : BdF n f) (ht : t < g.frames.length) : BdG n { g with frames := g.frames.take t ++ [f] } := by
  refine ⟨?_, fun h hh => ?_⟩
  · have := hb.frames
    simp
    omega
  · rcases List.mem_append.1 hh with hh | hh
    · exact hb.each h (List.mem_of_mem_take hh)
    · rw [List.mem_singleton] at hh
      subst hh
      exact hf
theorem bdF_drop {n : Nat} {f : Fm} {k : Nat} (hb : BdF n f) : BdF n { f with defers := f.defers.take k } := ⟨hb.regs, by have := hb.defers; simp; omega, fun d hd => hb.args d (List.mem_of_mem_take hd)⟩
end Go.Hp
namespace Go.Hp
open Go.AL Go.Ch Go.RowKit
def kf (n : Nat) : Nat := match n with | 0 => 0 | t + 1 => 2 * t
section
variable {p : Pg} {g : Gr} {v : V} {f u : Fm} {q t : Nat} {d : Df}
theorem leaveF_call (hq : g.frames[q]? = some f) (hl : g.frames.length = q + 1) (hst : lst g.frames (t + 1) u = lst g.frames (q + 1) (topL f v)) (hlv : u.leaving = true) (hd : u.defers[u.defers.length - 1]? = some d) :
    leaveF p g v = if (enterF p { g with frames := g.frames.take t ++ [{ u with defers := u.defers.take (u.defers.length - 1) }] } d.fn d.args (-1)).2 = 0 then (enterF p { g with frames := g.frames.take t ++ [{ u with defers := u.defers.take (u.defers.length - 1) }] } d.fn d.args (-1)).1
      else { g with frames := g.frames.take t ++ [{ u with defers := u.defers.take (u.defers.length - 1) }], state := 3, fault := 9 } := by
  rw [leaveF_some hq hl, ← hst, leave_call hlv hd]
  simp only [List.reverse_cons, List.reverse_reverse]
theorem leaveF_stop (hq : g.frames[q]? = some f) (hl : g.frames.length = q + 1) (hst : lst g.frames (t + 1) u = lst g.frames (q + 1) (topL f v)) (hlv : u.leaving = false) : leaveF p g v = { g with frames := g.frames.take t ++ [u] } := by
  rw [leaveF_some hq hl, ← hst, leave_stop hlv]
  simp
theorem leaveF_done (hq : g.frames[q]? = some f) (hl : g.frames.length = q + 1) (hst : lst g.frames 0 u = lst g.frames (q + 1) (topL f v)) : leaveF p g v = { g with frames := [], state := 2 } := by
  rw [leaveF_some hq hl, ← hst]
  rfl
end
end Go.Hp


namespace Go.Hp
open Go.AL Go.Ch
def cmpI (a b : Int) : Int := if a < b then -1 else if b < a then 1 else 0
def Srt (l : List Ob) : Prop := l.Pairwise fun a b => a.id < b.id
def pos (l : List Ob) (x : Int) : Nat := l.countP fun o => decide (o.id < x)
def fnd (l : List Ob) (x : Int) : Bool := l.any fun o => decide (o.id = x)
section
variable {l : List Ob} {x : Int} {i j h : Nat}
end
end Go.Hp


namespace Go.Hp
open Go.AL Go.Ch
def findF (l : List Ob) (x : Int) : Ob × Bool := if fnd l x = true then (l[pos l x]?.getD ob0, true) else (ob0, false)
def rfindF (l : List Ob) (x : Int) : Ob × Bool := match l.find? fun o => decide (o.id = x) with | some o => (o, true) | none => (ob0, false)
section
variable {l : List Ob} {x : Int} {o : Ob} {k : Nat}
end
/-- the place of the object of a reference, or a fault -/
def cellF (l : List Ob) (r : V) : Int × Int :=
  if r.kind ≠ 2 ∨ fnd l r.n = false then (0, 1)
  else if (l[pos l r.n]?.getD ob0).chan = true then (0, 1)
  else if r.off < 0 ∨ ((l[pos l r.n]?.getD ob0).cells.length : Int) ≤ r.off then (0, 2) else ((pos l r.n : Int), 0)
def loadF (l : List Ob) (r : V) : V × Int :=
  if (cellF l r).2 = 0 then (((l[pos l r.n]?.getD ob0).cells[r.off.toNat]?).getD v0, 0) else (v0, (cellF l r).2)
section
variable {l : List Ob} {r : V} {o : Ob}
end
end Go.Hp


namespace Go.Hp
open Go.AL Go.Ch
def vval (v : V) : Bool := if v.kind = 0 then decide (v.off = 0) else if v.kind = 1 then decide (v.n = 0) && decide (v.off = 0) else if v.kind = 2 then (decide (v.n ≥ 0) && decide (v.off ≥ 0)) && decide (v.off ≤ 64) else false
theorem vval_0 {v : V} (h : v.kind = 0) : vval v = decide (v.off = 0) := by unfold vval; rw [if_pos h]
theorem vval_1 {v : V} (h0 : ¬ v.kind = 0) (h : v.kind = 1) : vval v = (decide (v.n = 0) && decide (v.off = 0)) := by unfold vval; rw [if_neg h0, if_pos h]
theorem vval_2 {v : V} (h0 : ¬ v.kind = 0) (h1 : ¬ v.kind = 1) (h : v.kind = 2) : vval v = ((decide (v.n ≥ 0) && decide (v.off ≥ 0)) && decide (v.off ≤ 64)) := by unfold vval; rw [if_neg h0, if_neg h1, if_pos h]
theorem vval_3 {v : V} (h0 : ¬ v.kind = 0) (h1 : ¬ v.kind = 1) (h : ¬ v.kind = 2) : vval v = false := by unfold vval; rw [if_neg h0, if_neg h1, if_neg h]
def wval (w : Wt) : Bool := (((decide (w.g ≥ 0) && decide (w.g < 8)) && decide (w.c ≥ -1)) && decide (w.c ≤ 7)) && vval w.v
def objF (o : Ob) : Bool :=
  if o.chan = true then (((((((decide ((o.cells.length : Int) = 0) && decide (o.cap ≥ 0)) && decide (o.cap ≤ 64)) && decide ((o.queue.length : Int) ≤ o.cap)) && o.queue.all vval) && decide (o.sent ≥ 0)) && decide (o.received ≥ 0)) && o.senders.all wval) && o.receivers.all wval
  else (((((((decide ((o.cells.length : Int) ≤ 64) && o.cells.all vval) && decide (o.cap = 0)) && decide ((o.queue.length : Int) = 0)) && !(o.closed)) && decide (o.sent = 0)) && decide (o.received = 0)) && decide ((o.senders.length : Int) = 0)) && decide ((o.receivers.length : Int) = 0)
theorem objF_c {o : Ob} (h : o.chan = true) : objF o = ((((((((decide ((o.cells.length : Int) = 0) && decide (o.cap ≥ 0)) && decide (o.cap ≤ 64)) && decide ((o.queue.length : Int) ≤ o.cap)) && o.queue.all vval) && decide (o.sent ≥ 0)) && decide (o.received ≥ 0)) && o.senders.all wval) && o.receivers.all wval) := by unfold objF; rw [if_pos h]
theorem objF_d {o : Ob} (h : o.chan = false) : objF o = ((((((((decide ((o.cells.length : Int) ≤ 64) && o.cells.all vval) && decide (o.cap = 0)) && decide ((o.queue.length : Int) = 0)) && !(o.closed)) && decide (o.sent = 0)) && decide (o.received = 0)) && decide ((o.senders.length : Int) = 0)) && decide ((o.receivers.length : Int) = 0)) := by unfold objF; rw [if_neg (by rw [h]; simp)]
def vfrom (last : Int) : List Ob → Bool
  | [] => true
  | o :: l => !(decide (o.id ≤ last) || !(objF o)) && vfrom o.id l
def validF (l : List Ob) : Bool := vfrom (-1) l
section
variable {l : List Ob} {last : Int} {k : Nat} {r : Bool}
theorem vfrom_bad (hk : k < l.length) (h : vfrom last (l.drop k) = r) (hc : (decide (l[k].id ≤ last) || !(objF l[k])) = true) : r = false := by
  rw [← h, drop_at hk, vfrom, hc]
  rfl
theorem vfrom_next (hk : k < l.length) (h : vfrom last (l.drop k) = r) (hc : (decide (l[k].id ≤ last) || !(objF l[k])) = false) : vfrom l[k].id (l.drop (k + 1)) = r := by
  rw [← h, drop_at hk, vfrom, hc]
  rfl
theorem vfrom_end (hk : l.length ≤ k) (h : vfrom last (l.drop k) = r) : r = true := by
  rw [← h, List.drop_eq_nil_of_le hk]
  rfl
end
end Go.Hp


namespace Go.Hp
open Go.AL Go.Ch
def prv (xs : List Ob) (k : Nat) : Int := if k = 0 then -1 else (xs[k - 1]?.getD ob0).id
section
variable {o : Ob} {last : Int}
abbrev c2 (o : Ob) : Bool := !(o.chan) && ((((((decide (o.cap ≠ 0) || decide ((o.queue.length : Int) > 0)) || o.closed) || decide (o.sent ≠ 0)) || decide (o.received ≠ 0)) || decide ((o.senders.length : Int) > 0)) || decide ((o.receivers.length : Int) > 0))
abbrev c3 (o : Ob) : Bool := o.chan && ((((((((decide ((o.cells.length : Int) > 0) || decide (o.cap < 0)) || decide (o.cap > 64)) || decide ((o.queue.length : Int) > o.cap)) || !(o.queue.all vval)) || decide (o.sent < 0)) || decide (o.received < 0)) || !(o.senders.all wval)) || !(o.receivers.all wval))
end
/-- the reference's Check and Load -/
def checkF (l : List Ob) (r : V) : Ob × Int :=
  if ¬ r.kind = 2 then (ob0, 1)
  else if (rfindF l r.n).2 = false ∨ (rfindF l r.n).1.chan = true then (ob0, 1)
  else if r.off < 0 ∨ r.off ≥ ((rfindF l r.n).1.cells.length : Int) then (ob0, 2) else ((rfindF l r.n).1, 0)
def rloadF (l : List Ob) (r : V) : V × Int := if (checkF l r).2 = 0 then (((checkF l r).1.cells[r.off.toNat]?).getD v0, 0) else (v0, (checkF l r).2)
section
variable {l : List Ob} {r : V}
end
end Go.Hp


namespace Go.Hp
open Go.AL Go.Ch
def defOK (p : Pg) (d : Df) : Bool := decide (0 ≤ d.fn ∧ d.fn < (p.funcs.length : Int) ∧ (d.args.length : Int) = (pfn p d.fn).params) && d.args.all vval
def destOK (b : Option Fm) (f : Fm) : Bool := match b with | none => decide (f.dest = -1) | some h => decide (f.dest < (h.regs.length : Int))
def midOK (p : Pg) (f : Fm) : Bool := decide ((f.regs.length : Int) = (pfn p f.fn).regs ∧ 0 ≤ f.pc ∧ f.pc < ((pfn p f.fn).code.length : Int) ∧ -1 ≤ f.dest) && f.regs.all vval && vval f.result
def fnOK' (p : Pg) (f : Fm) : Bool := decide (0 ≤ f.fn ∧ f.fn < (p.funcs.length : Int))
def frmOK (p : Pg) (b : Option Fm) (f : Fm) : Bool := fnOK' p f && midOK p f && destOK b f && f.defers.all (defOK p)
def frsOK (p : Pg) : Option Fm → List Fm → Bool
  | _, [] => true
  | b, f :: l => frmOK p b f && frsOK p (some f) l
def hdrOK (g : Gr) : Bool := decide (0 ≤ g.state ∧ g.state ≤ 3 ∧ 0 ≤ g.fault ∧ g.fault ≤ 9 ∧ (g.state = 3 ↔ g.fault ≠ 0) ∧ (g.state = 2 ↔ (g.frames.length : Int) = 0) ∧ 0 ≤ g.allocs ∧ g.allocs ≤ 200 ∧ (g.frames.length : Int) ≤ 32)
def validG (p : Pg) (g : Gr) : Bool := hdrOK g && frsOK p none g.frames
def prvF (l : List Fm) (k : Nat) : Option Fm := if k = 0 then none else l[k - 1]?
section
variable {p : Pg} {g : Gr} {f : Fm} {b : Option Fm} {d : Df} {l : List Fm} {k : Nat} {r : Bool}
theorem frs_bad (hk : k < l.length) (h : frsOK p (prvF l k) (l.drop k) = r) (hc : frmOK p (prvF l k) l[k] = false) : r = false := by
  rw [← h, drop_at hk, frsOK, hc]
  rfl
theorem prvF_succ (hk : k < l.length) : prvF l (k + 1) = some l[k] := by
  unfold prvF
  rw [if_neg (by omega), Nat.add_sub_cancel, List.getElem?_eq_getElem hk]
theorem frs_next (hk : k < l.length) (h : frsOK p (prvF l k) (l.drop k) = r) (hc : frmOK p (prvF l k) l[k] = true) : frsOK p (prvF l (k + 1)) (l.drop (k + 1)) = r := by
  rw [← h, drop_at hk, frsOK, hc, prvF_succ hk]
  rfl
theorem frs_end (hk : l.length ≤ k) (h : frsOK p (prvF l k) (l.drop k) = r) : r = true := by
  rw [← h, List.drop_eq_nil_of_le hk]
  rfl
theorem valid_hdr (h : hdrOK g = false) : validG p g = false := by unfold validG; rw [h]; rfl
theorem valid_frs (h : hdrOK g = true) : validG p g = frsOK p none g.frames := by unfold validG; rw [h]; rfl
theorem hdr_no (h : ¬ (0 ≤ g.state ∧ g.state ≤ 3 ∧ 0 ≤ g.fault ∧ g.fault ≤ 9 ∧ (g.state = 3 ↔ g.fault ≠ 0) ∧ (g.state = 2 ↔ (g.frames.length : Int) = 0) ∧ 0 ≤ g.allocs ∧ g.allocs ≤ 200 ∧ (g.frames.length : Int) ≤ 32)) : hdrOK g = false := decide_eq_false h
theorem hdr_yes (h : (0 ≤ g.state ∧ g.state ≤ 3 ∧ 0 ≤ g.fault ∧ g.fault ≤ 9 ∧ (g.state = 3 ↔ g.fault ≠ 0) ∧ (g.state = 2 ↔ (g.frames.length : Int) = 0) ∧ 0 ≤ g.allocs ∧ g.allocs ≤ 200 ∧ (g.frames.length : Int) ≤ 32)) : hdrOK g = true := decide_eq_true h
theorem frm_no1 (h : ¬ (0 ≤ f.fn ∧ f.fn < (p.funcs.length : Int))) : frmOK p b f = false := by unfold frmOK fnOK'; rw [decide_eq_false h]; rfl
theorem frm_no2 (h : midOK p f = false) : frmOK p b f = false := by unfold frmOK; rw [h]; simp
theorem frm_no3 (h : destOK b f = false) : frmOK p b f = false := by unfold frmOK; rw [h]; simp
theorem frm_no4 (h : f.defers.all (defOK p) = false) : frmOK p b f = false := by unfold frmOK; rw [h]; simp
theorem frm_yes (h1 : 0 ≤ f.fn ∧ f.fn < (p.funcs.length : Int)) (h2 : midOK p f = true) (h3 : destOK b f = true) (h4 : f.defers.all (defOK p) = true) : frmOK p b f = true := by unfold frmOK fnOK'; rw [decide_eq_true h1, h2, h3, h4]; rfl
theorem mid_no (h : ((((decide ((f.regs.length : Int) ≠ (pfn p f.fn).regs) || decide (f.pc < 0)) || decide (f.pc ≥ ((pfn p f.fn).code.length : Int))) || !(f.regs.all vval)) || !([f.result].all vval) || decide (f.dest < -1)) = true) : midOK p f = false := by
  cases hm : midOK p f with
  | false => rfl
  | true =>
    unfold midOK at hm
    simp only [Bool.and_eq_true, decide_eq_true_eq] at hm
    obtain ⟨⟨⟨e1, e2, e3, e4⟩, e5⟩, e6⟩ := hm
    rw [e5, show [f.result].all vval = true by simpa using e6, decide_eq_false (by omega), decide_eq_false (by omega), decide_eq_false (by omega), decide_eq_false (by omega)] at h
    cases h
theorem mid_yes (h : ((((decide ((f.regs.length : Int) ≠ (pfn p f.fn).regs) || decide (f.pc < 0)) || decide (f.pc ≥ ((pfn p f.fn).code.length : Int))) || !(f.regs.all vval)) || !([f.result].all vval) || decide (f.dest < -1)) = false) : midOK p f = true := by
  simp only [Bool.or_eq_false_iff, decide_eq_false_iff_not, Bool.not_eq_false'] at h
  obtain ⟨⟨⟨⟨⟨e1, e2⟩, e3⟩, e4⟩, e5⟩, e6⟩ := h
  unfold midOK
  rw [decide_eq_true (by omega), e4, show vval f.result = true by simpa using e5]
  rfl
theorem def_no (h : ((((decide (d.fn < 0) || decide (d.fn ≥ (p.funcs.length : Int))) || decide ((d.args.length : Int) ≠ (pfn p d.fn).params)) || !(d.args.all vval))) = true) : defOK p d = false := by
  cases hm : defOK p d with
  | false => rfl
  | true =>
    unfold defOK at hm
    simp only [Bool.and_eq_true, decide_eq_true_eq] at hm
    obtain ⟨⟨e1, e2, e3⟩, e5⟩ := hm
    rw [e5, decide_eq_false (by omega), decide_eq_false (by omega), decide_eq_false (by omega)] at h
    cases h
theorem def_yes (h : ((((decide (d.fn < 0) || decide (d.fn ≥ (p.funcs.length : Int))) || decide ((d.args.length : Int) ≠ (pfn p d.fn).params)) || !(d.args.all vval))) = false) : defOK p d = true := by
  simp only [Bool.or_eq_false_iff, decide_eq_false_iff_not, Bool.not_eq_false'] at h
  obtain ⟨⟨⟨e1, e2⟩, e3⟩, e4⟩ := h
  unfold defOK
  rw [decide_eq_true (by omega), e4]
  rfl
theorem two_iff {a b c d : Prop} [Decidable a] [Decidable b] [Decidable c] [Decidable d] (h : ((decide a != decide b) || (decide c != decide d)) = false) : (a ↔ b) ∧ (c ↔ d) := by
  simp only [Bool.or_eq_false_iff, bne_eq_false_iff_eq, decide_eq_decide] at h
  exact h
theorem two_no {a b c d : Prop} [Decidable a] [Decidable b] [Decidable c] [Decidable d] (h : ((decide a != decide b) || (decide c != decide d)) = true) : ¬ ((a ↔ b) ∧ (c ↔ d)) := fun ⟨h1, h2⟩ => by
  simp only [Bool.or_eq_true, bne_iff_ne, ne_eq, decide_eq_decide] at h
  rcases h with h | h
  · exact h h1
  · exact h h2
def belP (b : Option Fm) : Pred := match b with | none => eqP (.pointer none) | some h => cellsP h.ps
theorem one_obj {l : List V} (h : l.length ≤ 64) : validF [{ ob0 with cells := l }] = l.all vval := by
  unfold validF vfrom
  rw [objF_d rfl]
  have e : decide ((l.length : Int) ≤ 64) = true := decide_eq_true (by omega)
  simp [ob0, e, vfrom]
theorem all_take {l : List V} (k : Nat) : l.all vval = ((l.take k).all vval && (l.drop k).all vval) := by
  rw [← List.all_append, List.take_append_drop]
theorem all64_bad {r : Bool} {m : Nat} {l : List V} (h : ((l.drop m).take 64).all vval = false) (e : (l.drop m).all vval = r) : r = false := by
  rw [← e, all_take 64, h]
  rfl
theorem all64_go {r : Bool} {m k : Nat} {l : List V} (h : ((l.drop m).take 64).all vval = true) (e : (l.drop m).all vval = r) (hk : k = m + 64) : (l.drop k).all vval = r := by
  subst hk
  rw [← e, all_take 64 (l := l.drop m), h, List.drop_drop]
  rfl
theorem rhdr_no (h : ((((((((decide (g.state < 0) || decide (g.state > 3)) || decide (g.fault < 0)) || decide (g.fault > 9)) || (decide (g.state = 3) != decide (g.fault ≠ 0))) || decide (g.allocs < 0)) || decide (g.allocs > 200)) || decide ((g.frames.length : Int) > 32)) || (decide (g.state = 2) != decide ((g.frames.length : Int) = 0))) = true) : hdrOK g = false := by
  refine hdr_no fun hh => ?_
  simp only [Bool.or_eq_true, bne_iff_ne, ne_eq, decide_eq_decide, decide_eq_true_eq] at h
  omega
theorem rhdr_yes (h : ((((((((decide (g.state < 0) || decide (g.state > 3)) || decide (g.fault < 0)) || decide (g.fault > 9)) || (decide (g.state = 3) != decide (g.fault ≠ 0))) || decide (g.allocs < 0)) || decide (g.allocs > 200)) || decide ((g.frames.length : Int) > 32)) || (decide (g.state = 2) != decide ((g.frames.length : Int) = 0))) = false) : hdrOK g = true := by
  refine hdr_yes ?_
  simp only [Bool.or_eq_false_iff, bne_eq_false_iff_eq, decide_eq_decide, decide_eq_false_iff_not] at h
  omega
theorem prvF_0 (h : k = 0) : prvF l k = none := if_pos h
theorem prvF_pos (h : 0 < k) (hk : k < l.length) : prvF l k = some (l[k - 1]'(by omega)) := by
  unfold prvF
  rw [if_neg (by omega), List.getElem?_eq_getElem (by omega)]
theorem rfrm_no (hk : k < l.length) (h : (((((((((decide (f.fn < 0) || decide (f.fn ≥ (p.funcs.length : Int))) || decide ((f.regs.length : Int) ≠ (pfn p f.fn).regs)) || decide (f.pc < 0)) || decide (f.pc ≥ ((pfn p f.fn).code.length : Int))) || !(f.regs.all vval)) || !(vval f.result)) || decide (f.dest < -1)) || (decide ((k : Int) = 0) && decide (f.dest ≠ -1))) || (decide ((k : Int) > 0) && decide (f.dest ≥ ((l[k - 1]'(by omega)).regs.length : Int)))) = true) : frmOK p (prvF l k) f = false := by
  cases hm : frmOK p (prvF l k) f with
  | false => rfl
  | true =>
    unfold frmOK fnOK' midOK at hm
    simp only [Bool.and_eq_true, decide_eq_true_eq] at hm
    obtain ⟨⟨⟨e0, ⟨⟨e1, e5⟩, e6⟩⟩, e7⟩, -⟩ := hm
    simp only [Bool.or_eq_true, Bool.and_eq_true, decide_eq_true_eq, e5, e6, Bool.not_true, Bool.false_eq_true, or_false] at h
    rcases Nat.eq_zero_or_pos k with h0 | h0
    · rw [prvF_0 h0] at e7
      have e8 : f.dest = -1 := of_decide_eq_true e7
      omega
    · rw [prvF_pos h0 hk] at e7
      have e8 : f.dest < ((l[k - 1]'(by omega)).regs.length : Int) := of_decide_eq_true e7
      omega
theorem rfrm_yes (hk : k < l.length) (h : (((((((((decide (f.fn < 0) || decide (f.fn ≥ (p.funcs.length : Int))) || decide ((f.regs.length : Int) ≠ (pfn p f.fn).regs)) || decide (f.pc < 0)) || decide (f.pc ≥ ((pfn p f.fn).code.length : Int))) || !(f.regs.all vval)) || !(vval f.result)) || decide (f.dest < -1)) || (decide ((k : Int) = 0) && decide (f.dest ≠ -1))) || (decide ((k : Int) > 0) && decide (f.dest ≥ ((l[k - 1]'(by omega)).regs.length : Int)))) = false) (hd : f.defers.all (defOK p) = true) : frmOK p (prvF l k) f = true := by
  simp only [Bool.or_eq_false_iff, Bool.and_eq_false_iff, decide_eq_false_iff_not, Bool.not_eq_false'] at h
  obtain ⟨⟨⟨⟨⟨⟨⟨⟨⟨e0, e1⟩, e2⟩, e3⟩, e4⟩, e5⟩, e6⟩, e7⟩, e8⟩, e9⟩ := h
  refine frm_yes (by omega) ?_ ?_ hd
  · unfold midOK
    rw [decide_eq_true (by omega), e5, e6]
    rfl
  · rcases Nat.eq_zero_or_pos k with h0 | h0
    · rw [prvF_0 h0]
      exact decide_eq_true (by omega)
    · rw [prvF_pos h0 hk]
      exact decide_eq_true (by omega)
end
end Go.Hp


namespace Go.Hp
open Go.AL Go.Ch
def gt {α : Type} (d : α) (l : List α) (k : Nat) : α := (l[k]?).getD d
theorem gt_at {α : Type} {d : α} {l : List α} {k : Nat} (h : k < l.length) : l[k]? = some (gt d l k) := by
  unfold gt
  rw [List.getElem?_eq_getElem h]
  rfl
theorem gt_mem {α : Type} {d : α} {l : List α} {k : Nat} (h : k < l.length) : gt d l k ∈ l := List.mem_of_getElem? (gt_at h)
def allI (n : Nat) (φ : Nat → Bool) : Bool := (List.range n).all φ
theorem allI_iff {n : Nat} {φ : Nat → Bool} : allI n φ = true ↔ ∀ j, j < n → φ j = true := by simp [allI, List.all_eq_true]
theorem allI_step {k : Nat} {φ : Nat → Bool} (h : allI k φ = true) (hk : φ k = true) : allI (k + 1) φ = true := by
  rw [allI_iff] at h ⊢
  intro j hj
  rcases Nat.lt_succ_iff_lt_or_eq.1 hj with h1 | h1
  · exact h j h1
  · rw [h1]; exact hk
theorem allI_bad {n k : Nat} {φ : Nat → Bool} (hk : k < n) (h : φ k = false) : allI n φ = false := by
  cases e : allI n φ with
  | false => rfl
  | true => rw [allI_iff.1 e k hk] at h; cases h
theorem allI_end {n k : Nat} {φ : Nat → Bool} (h : allI k φ = true) (hk : n ≤ k) : allI n φ = true := allI_iff.2 fun j hj => allI_iff.1 h j (by omega)
def in0 : In := ⟨0, 0, 0, 0, 0⟩
def gl0 : Gl := ⟨⟨#[]⟩, 0⟩
abbrev es : ByteArray := ⟨#[]⟩
def operandF (p : Pg) (f : Fu) (i : In) (r x : Int) : Bool :=
  if r = 100 then decide (x ≥ 0) && decide (x < f.regs)
  else if r = 114 then decide (x ≥ 0) && decide (x < f.regs)
  else if r = 68 then decide (x ≥ -1) && decide (x < f.regs)
  else if r = 82 then decide (x ≥ -1) && decide (x < f.regs)
  else if r = 110 then decide (x ≥ 0) && decide (x ≤ 64)
  else if r = 106 then (decide (x ≥ 0) && decide (x < (f.code.length : Int))) && decide ((gt in0 f.code x.toNat).op ≠ 51)
  else if r = 103 then decide (x ≥ 0) && decide (x < (p.globals.length : Int))
  else if r = 108 then decide (x ≥ 0) && decide (x < (p.layouts.length : Int))
  else if r = 102 then ((decide (x ≥ 0) && decide (x < (p.funcs.length : Int))) && decide (i.c ≥ 0)) && decide (i.c ≤ IntKind.i64.wrap (f.regs - (pfn p x).params))
  else if r = 49 then (decide (x ≥ 0) && decide (x < (p.funcs.length : Int))) && decide ((pfn p x).params = 1)
  else if r = 97 then decide (x ≥ 0)
  else if r = 115 then decide (x ≥ 0) && decide (x ≤ 8)
  else if r = 98 then decide (x = 0) || decide (x = 1)
  else if r = 99 then (decide (x ≥ -1) && decide (x < f.regs)) && (decide (i.b = 0) || decide (x ≥ 0))
  else if r = 45 then decide (x = 0)
  else true
def roleAt (s : ByteArray) (k : Nat) : UInt8 := (s[k]?).getD 0
theorem roleAt_eq {s : ByteArray} {k : Nat} (h : k < s.size) : s[k]? = some (roleAt s k) := by
  unfold roleAt
  rw [getElem?_pos s k h]
  rfl
def hdrI (s : ByteArray) (p : Pg) (f : Fu) (i : In) : Bool :=
  ((((s.toList == es.toList) || decide (i.pos < 0)) || !(operandF p f i (roleAt s 0).toNat i.a)) || !(operandF p f i (roleAt s 1).toNat i.b)) || !(operandF p f i (roleAt s 2).toNat i.c)
def instrG (s : ByteArray) (p : Pg) (f : Fu) (i : In) : Bool :=
  if hdrI s p f i = true then false
  else if i.op = 24 then decide (IntKind.i64.wrap (i.a + i.c) < f.regs) && decide (i.c < 64)
  else if i.op = 25 then decide (i.b < 63) && decide (f.regs > 0)
  else decide (i.op ≠ 38) || decide (IntKind.i64.wrap (i.c + 1) < f.regs)
def nxtF (i : In) (s : Int) : Int := if i.op = 50 then i.b else if s > 0 then IntKind.i64.wrap (s - 1) else s
theorem nxt_1 {i : In} {s : Int} (h : i.op = 50) : nxtF i s = i.b := if_pos h
theorem nxt_2 {i : In} {s : Int} (h : ¬ i.op = 50) (hs : 0 < s) : nxtF i s = IntKind.i64.wrap (s - 1) := by unfold nxtF; rw [if_neg h, if_pos hs]
theorem nxt_3 {i : In} {s : Int} (h : ¬ i.op = 50) (hs : ¬ 0 < s) : nxtF i s = s := by unfold nxtF; rw [if_neg h, if_neg hs]
section
variable (ins : Pg → Fu → In → Bool)
def badI (p : Pg) (f : Fu) (i : In) (s : Int) : Bool := (decide (s > 0) != decide (i.op = 51)) || !(ins p f i)
def codeF (p : Pg) (f : Fu) : Int → List In → Bool
  | _, [] => true
  | s, i :: l => !(badI ins p f i s) && codeF p f (nxtF i s) l
def hdrF (f : Fu) : Bool := ((((((f.name.toList == es.toList) || decide (f.params < 0)) || decide (f.params > f.regs)) || decide (f.regs > 64)) || decide ((f.code.length : Int) = 0)) || decide ((f.code.length : Int) > 1000))
def lastOp (f : Fu) : Int := (gt in0 f.code (f.code.length - 1)).op
def functionF (p : Pg) (f : Fu) : Bool :=
  if hdrF f = true then false
  else if lastOp f ≠ 30 ∧ lastOp f ≠ 16 then false
  else codeF ins p f 0 f.code
end
def lay1 (l : List Int) : Bool := allI l.length (fun b => !(decide (gt 0 l b ≠ 0) && decide (gt 0 l b ≠ 1))) && !(decide ((l.length : Int) > 64))
def layoutsF (l : List (List Int)) : Bool := allI l.length (fun a => lay1 (gt [] l a)) && decide ((l.length : Int) ≤ 32)
def glOK (l : List Gl) (k : Nat) : Bool := !(((gt gl0 l k).name.toList == es.toList) || (decide ((gt gl0 l k).kind ≠ 0) && decide ((gt gl0 l k).kind ≠ 1))) && allI k (fun j => !((gt gl0 l j).name.toList == (gt gl0 l k).name.toList))
section
variable (ins : Pg → Fu → In → Bool)
def fnK (p : Pg) (k : Nat) : Bool := functionF ins p (gt fu0 p.funcs k) && allI k (fun j => !((gt fu0 p.funcs j).name.toList == (gt fu0 p.funcs k).name.toList))
def hdrP (p : Pg) : Bool := (((((decide ((p.funcs.length : Int) > 64) || decide ((p.globals.length : Int) > 64)) || !(layoutsF p.layouts)) || decide (p.main < 0)) || decide (p.main ≥ (p.funcs.length : Int))) || decide ((pfn p p.main).params ≠ 0))
def progF (p : Pg) : Bool := if hdrP p = true then false else allI p.globals.length (glOK p.globals) && allI p.funcs.length (fnK ins p)
variable {ins} {p : Pg} {f : Fu} {i : In} {s : Int} {l : List In}
theorem code_bad {k : Nat} {r : Bool} (hk : k < l.length) (h : codeF ins p f s (l.drop k) = r) (hb : badI ins p f (gt in0 l k) s = true) : r = false := by
  have e : gt in0 l k = l[k] := by unfold gt; rw [List.getElem?_eq_getElem hk]; rfl
  rw [← h, drop_at hk, codeF, ← e, hb]
  rfl
theorem code_next {k : Nat} {r : Bool} {s' : Int} (hk : k < l.length) (h : codeF ins p f s (l.drop k) = r) (hb : badI ins p f (gt in0 l k) s = false) (hs : nxtF (gt in0 l k) s = s') : codeF ins p f s' (l.drop (k + 1)) = r := by
  have e : gt in0 l k = l[k] := by unfold gt; rw [List.getElem?_eq_getElem hk]; rfl
  rw [← h, drop_at hk, codeF, ← e, hb, hs]
  rfl
theorem code_end {k : Nat} {r : Bool} (hk : l.length ≤ k) (h : codeF ins p f s (l.drop k) = r) : r = true := by
  rw [← h, List.drop_eq_nil_of_le hk]
  rfl
theorem fun_1 (h : hdrF f = true) : functionF ins p f = false := by unfold functionF; rw [if_pos h]
theorem fun_2 (h : hdrF f = false) (h2 : lastOp f ≠ 30 ∧ lastOp f ≠ 16) : functionF ins p f = false := by unfold functionF; rw [if_neg (by rw [h]; simp), if_pos h2]
theorem fun_3 (h : hdrF f = false) (h2 : ¬ (lastOp f ≠ 30 ∧ lastOp f ≠ 16)) : functionF ins p f = codeF ins p f 0 f.code := by unfold functionF; rw [if_neg (by rw [h]; simp), if_neg h2]
theorem fun_hdr (h : functionF ins p f = true) : 0 ≤ f.params ∧ f.params ≤ f.regs ∧ f.regs ≤ 64 ∧ 0 < f.code.length ∧ f.code.length ≤ 1000 := by
  cases e : hdrF f with
  | true => rw [fun_1 e] at h; cases h
  | false =>
    unfold hdrF at e
    simp only [Bool.or_eq_false_iff, decide_eq_false_iff_not] at e
    omega
theorem prog_no (h : hdrP p = true) : progF ins p = false := by unfold progF; rw [if_pos h]
theorem prog_go (h : hdrP p = false) : progF ins p = (allI p.globals.length (glOK p.globals) && allI p.funcs.length (fnK ins p)) := by unfold progF; rw [if_neg (by rw [h]; simp)]
theorem prog_g (h : hdrP p = false) (hg : allI p.globals.length (glOK p.globals) = false) : progF ins p = false := by rw [prog_go h, hg]; rfl
theorem prog_f (h : hdrP p = false) (hg : allI p.funcs.length (fnK ins p) = false) : progF ins p = false := by rw [prog_go h, hg]; simp
theorem prog_y (h : hdrP p = false) (hg : allI p.globals.length (glOK p.globals) = true) (hf : allI p.funcs.length (fnK ins p) = true) : progF ins p = true := by rw [prog_go h, hg, hf]; rfl
theorem progF_mem (h : progF ins p = true) : p.funcs.length ≤ 64 ∧ ∀ f ∈ p.funcs, functionF ins p f = true := by
  cases e : hdrP p with
  | true => rw [prog_no e] at h; cases h
  | false =>
    rw [prog_go e, Bool.and_eq_true, allI_iff, allI_iff] at h
    refine ⟨?_, fun f hf => ?_⟩
    · unfold hdrP at e
      simp only [Bool.or_eq_false_iff, decide_eq_false_iff_not] at e
      omega
    · obtain ⟨k, hk, rfl⟩ := List.getElem_of_mem hf
      have h1 := h.2 k hk
      unfold fnK at h1
      rw [Bool.and_eq_true] at h1
      have e : gt fu0 p.funcs k = p.funcs[k] := by unfold gt; rw [List.getElem?_eq_getElem hk]; rfl
      rw [e] at h1
      exact h1.1
theorem progF_POK (h : progF ins p = true) : POK p := fun f hf => by
  have := fun_hdr ((progF_mem h).2 f hf)
  omega
end
structure BdPg (n : Nat) (p : Pg) : Prop where
  funcs : p.funcs.length ≤ n
  globals : p.globals.length ≤ n
  layouts : p.layouts.length ≤ n
  lays : ∀ l ∈ p.layouts, l.length ≤ n
  codes : ∀ f ∈ p.funcs, f.code.length ≤ n
section
variable {l : List Int} {ls : List (List Int)} {gs : List Gl} {j k : Nat} {p : Pg} {ins : Pg → Fu → In → Bool}
theorem lay_no1 (hj : j < l.length) (h : (decide (gt 0 l j ≠ 0) && decide (gt 0 l j ≠ 1)) = true) : lay1 l = false := by
  unfold lay1
  rw [allI_bad (φ := fun b => !(decide (gt 0 l b ≠ 0) && decide (gt 0 l b ≠ 1))) hj (by rw [h]; rfl)]
  rfl
theorem lay_no2 (h : 64 < (l.length : Int)) : lay1 l = false := by
  unfold lay1
  rw [decide_eq_true (show (l.length : Int) > 64 from h)]
  simp
theorem lay_yes (h : allI l.length (fun b => !(decide (gt 0 l b ≠ 0) && decide (gt 0 l b ≠ 1))) = true) (h2 : ¬ 64 < (l.length : Int)) : lay1 l = true := by
  unfold lay1
  rw [h, decide_eq_false (show ¬ (l.length : Int) > 64 from h2)]
  rfl
theorem lays_no (hk : k < ls.length) (h : lay1 (gt [] ls k) = false) : layoutsF ls = false := by
  unfold layoutsF
  rw [allI_bad (φ := fun a => lay1 (gt [] ls a)) hk h]
  rfl
theorem lays_fin (h : allI ls.length (fun a => lay1 (gt [] ls a)) = true) : layoutsF ls = decide ((ls.length : Int) ≤ 32) := by
  unfold layoutsF
  rw [h]
  rfl
theorem gl_no1 (hk : k < gs.length) (h : (((gt gl0 gs k).name.toList == es.toList) || (decide ((gt gl0 gs k).kind ≠ 0) && decide ((gt gl0 gs k).kind ≠ 1))) = true) : allI gs.length (glOK gs) = false :=
  allI_bad hk (by unfold glOK; rw [h]; rfl)
theorem gl_no2 (hk : k < gs.length) (hj : j < k) (h : ((gt gl0 gs j).name.toList == (gt gl0 gs k).name.toList) = true) : allI gs.length (glOK gs) = false :=
  allI_bad hk (by
    unfold glOK
    rw [allI_bad (φ := fun j => !((gt gl0 gs j).name.toList == (gt gl0 gs k).name.toList)) hj (by rw [h]; rfl)]
    simp)
theorem gl_yes (h : (((gt gl0 gs k).name.toList == es.toList) || (decide ((gt gl0 gs k).kind ≠ 0) && decide ((gt gl0 gs k).kind ≠ 1))) = false) (h2 : allI k (fun j => !((gt gl0 gs j).name.toList == (gt gl0 gs k).name.toList)) = true) : glOK gs k = true := by
  unfold glOK
  rw [h, h2]
  rfl
theorem fn_no1 (hk : k < p.funcs.length) (h : functionF ins p (gt fu0 p.funcs k) = false) : allI p.funcs.length (fnK ins p) = false :=
  allI_bad hk (by unfold fnK; rw [h]; rfl)
theorem fn_no2 (hk : k < p.funcs.length) (hj : j < k) (h : ((gt fu0 p.funcs j).name.toList == (gt fu0 p.funcs k).name.toList) = true) : allI p.funcs.length (fnK ins p) = false :=
  allI_bad hk (by
    unfold fnK
    rw [allI_bad (φ := fun j => !((gt fu0 p.funcs j).name.toList == (gt fu0 p.funcs k).name.toList)) hj (by rw [h]; rfl)]
    simp)
theorem fn_yes (h : functionF ins p (gt fu0 p.funcs k) = true) (h2 : allI k (fun j => !((gt fu0 p.funcs j).name.toList == (gt fu0 p.funcs k).name.toList)) = true) : fnK ins p k = true := by
  unfold fnK
  rw [h, h2]
  rfl
end
end Go.Hp
