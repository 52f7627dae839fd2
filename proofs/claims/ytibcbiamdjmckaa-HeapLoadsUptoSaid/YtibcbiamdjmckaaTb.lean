/- Parts of a proof that share one text: AlMut2, AlSym, AlArith, AlRead, AlSize, AlMap, AlOwn, AlMake, AlLoop, AlTyped, AlList, AlGrow, ChTypes, AlFam, HpTypes, HpSize, HpPlain, HpPlain2, HpPlain3, HpPlain4, HpPlain5, HpPlain6, HpPlain7, HpPlain8, AlCopy, AlCopy2, HpPlain9, HpPlain10, HpPlain11, HpPlain12, HpRead, HpBulk. -/
import Derived.Test.YtibcbiamdjmckaaTa
import Derived.Deep.Slices
import Derived.OpenShut
import Derived.Below
import Derived.ProofKit
import Derived.Laws.MakeOwn
import Derived.Laws.Cover3
import Derived.Lib.AppendZeros
import Derived.Laws.CopyRow
import Derived.Lib.AppendZerosOnto
import Derived.Lib.Overlaps
import Derived.Test.YtibcbiamdjmckaaChecked
import Derived.Test.YtibcbiamdjmckaaRows
set_option linter.unusedVariables false
set_option linter.unusedSimpArgs false

namespace Go.AL
open Go.RowKit
/-- a block gets another name and holds something else -/
theorem Models.retok {σ : Sg} {R : Toks} {W W' : World} {id id' : Id} {m m' z : Nat} {r r' : Res} {ob : Option Nat} (h : Models σ R W) (hRm : R m = some (id, r)) (hid : σ.ρ id' = none) (hm' : m' = m ∨ R m' = none) (hob : σ.ρ id = some ob)
    (hbase : Below σ.n0 W W') (hother : ∀ b', ob ≠ some b' → W'.heap[b']? = W.heap[b']?) (hr : ∀ b, ob = some b → ∃ o, W'.heap[b]? = some o ∧ r'.h (bind σ id' ob z) id' b o) (hno : ∀ b i, ob = some b → σ.c b i = none) :
    Models (bind σ id' ob z) (fun q => if q = m' then some (id', r') else if q = m then none else R q) W' := by
  have h' : Models σ (fun q => if q = m then none else R q) W := h.sub fun q x hx => by
    split at hx
    · cases hx
    · exact hx
  have hsep : ∀ q x b, (if q = m then none else R q) = some x → ob = some b → σ.ρ x.1 ≠ some (some b) := by
    intro q x b hq hb hxb
    by_cases hqm : q = m
    · simp [hqm] at hq
    · simp only [hqm, if_false] at hq
      exact h.sep q m x _ b hqm hq hRm hxb (by rw [hob, hb])
  refine h'.move (le_bind hid) m' id' _ (fun i hi => bind_ne _ _ _ _ _ hi) (by rw [bind_at]; simp) (.inl ?_) ?_ hbase ?_ ?_ ?_ ?_
  · rcases hm' with rfl | hm'
    · simp
    · simp only [hm']; split <;> rfl
  · intro q x _ hq e
    exact h'.used q x hq (by rw [e]; exact hid)
  · intro q x b _ hq hb
    exact ⟨hother b fun e => hsep q x b hq e hb, fun _ => rfl⟩
  · intro b i v hv
    have hne : ob ≠ some b := fun e => by
      have : σ.c b i = some v := hv
      rw [hno b i e] at this
      cases this
    rw [World.cell?_of_block (w := W) (a := ⟨b, i, none⟩) (hother b hne)]
    exact h.imm b i v hv
  · intro b hb
    rw [bind_at] at hb
    simp only [Option.some.injEq] at hb
    obtain ⟨h1, _⟩ := h.res m id _ hRm b (by rw [hob, hb])
    exact ⟨h1, hr b hb⟩
  · intro q x b _ hq hb hxb
    rw [bind_at] at hb
    simp only [Option.some.injEq] at hb
    exact hsep q x b hq hb hxb
theorem Models.noC {σ : Sg} {R : Toks} {W : World} {id : Id} {m b κ : Nat} {B : TypeId} {ps : List Pred} (h : Models σ R W) (hRm : R m = some (id, blkX κ B ps)) (hb : σ.ρ id = some (some b)) (i : Nat) : σ.c b i = none := by
  obtain ⟨_, o, _, cs, rest, _, _, _, hn⟩ := h.res m id _ hRm b hb
  exact hn i
section
variable {P : Program} {n N : Nat} {F : Fr} {R : Toks} {d : Option Nat} {T : TypeId} {pos : String} {after : Array Edge} {α : Type} {f : α → List Pred} {k bytes len c : Nat} {ys : List α} {t e : TypeId} {id : Id}
/-- '[]T{}', to be written into -/
theorem op_buildEmptyM {m' kk : Nat} (ht : elemB P t = some e) (hs : sizeB P e = some k) (hm' : R m' = none) :
    OpJ P n N F R ⟨d, .buildSlice t 0 #[], T, pos, after, none⟩ ⟨[], [], [], [(m', ((N, kk), blkX k e []))], [kk], mvP (N, kk) k 0 0 0⟩ where
  loc := by
    intro σ W R a K hm h2 h3 h4 h5 h6 h7 h8 h9 Q
    have hid := h8 kk (by simp)
    have hRm' : R m' = none := by have h := h7 (m', ((N, kk), blkX k e [])) (by simp); simpa using h
    have hmod := hm.alloc (id := (N, kk)) (z := 0) (n := m') (r := blkX k e []) (o := .cells ([] : List Value).toArray e) hid hRm' ⟨[], [], rfl, ⟨rfl, by simp⟩, fun _ => by rw [bind_z]; simp, fun i => no_imm_new hm i⟩
    refine wp_value (v := .slice (some ⟨W.heap.size, 0, none⟩) 0 0) (W' := W.alloc (.cells ([] : List Value).toArray e)) ?_ (h9 _ _ _ (le_bind hid) keep_bind (hmod.congr (updR_new ..)) ?_)
    · simp [execOp, Instr.buildSlice, run_underlying (elem_of ht), run_sizeOf' hs, Instr.fill, newRow, Array.range_zero']
    · exact ⟨_, by rw [bind_z], by rw [bind_z]; simp, by rw [bind_z]; simp [maxLen], by rw [bind_at]; simp, by rw [bind_z]; intro h; omega⟩
  rd := by simp
  use := by simp
  del := by simp
  add := by simpa using hm'
/-- **append to a slice of the call's own whose cells may be written** -/
theorem op_append_mut {x y : Operand} {m m' kk : Nat} {z : Value} {ps : List Pred} (hx : opd F x = some (mvP id k 0 len c)) (hy : opd F y = some (slP f k ys)) (hR : R m = some (id, blkX k e ps)) (hm' : m' = m ∨ R m' = none)
    (ht : elemB P t = some e) (hz : zeroB P e = some (some z)) (hs : sizeB P e = some k) (hby : bytesB P e = some bytes) (hzs : z.cells.size = k) (hk0 : k ≠ 0) (hps : ps.length = len * k) (hk : ∀ z, (f z).length = k)
    (h63 : len + ys.length ≤ 1152921504606846976) (hbytes : (len + ys.length) * bytes ≤ 140737488355328) :
    OpJ P n N F R ⟨d, .call { callee := .builtin .append, args := #[x, y], argTypes := #[t, t] }, T, pos, after, none⟩
      ⟨rdo x (mvP id k 0 len c) ++ rdo y (slP f k ys), [], [(m, (id, blkX k e ps))], [(m', ((N, kk), blkX k e (ps ++ ys.flatMap f)))], [kk], mvP (N, kk) k 0 (len + ys.length) (len + ys.length)⟩ where
  loc := by
    intro σ W R a K hm h2 h3 h4 h5 h6 h7 h8 h9 Q
    have hid := h8 kk (by simp)
    have hRm := h6 _ (List.mem_cons_self ..)
    have hRm' : m' = m ∨ R m' = none := by
      rcases h7 (m', ((N, kk), blkX k e (ps ++ ys.flatMap f))) (by simp) with h | h
      · exact .inr h
      · left; simp at h; exact h.symm
    obtain ⟨a1, hv, x1, x2, x3, x4⟩ := holds_of hx fun w hw => h4 w (List.mem_append_left _ hw)
    obtain ⟨ad, cap, hyv, hy1, hy2, hy3⟩ := holds_of hy fun w hw => h4 w (List.mem_append_right _ hw)
    simp only [Nat.sub_zero, Nat.zero_add, Nat.zero_mul] at hv x1 x4
    have ht' := elem_of ht
    obtain ⟨i, hi, hiz, his, hib⟩ := info_of hz hs hby
    have hexec : ∀ {v' : Value} {W' : World}, (Builtin.append_ #[t, t] T #[.slice a1 len (σ.z id), .slice ad ys.length cap]).run P W = .ok v' W' →
        (execOp a.eval ⟨d, .call { callee := .builtin .append, args := #[x, y], argTypes := #[t, t] }, T, pos, after, none⟩).run P W = .ok (.value v') W' := by
      intro v' W' hr
      simp only [execOp, resolve, invoke, builtin, Sem.run_bind, Sem.run_pure, Result.andThen_ok, List.map_toArray, List.map_cons, List.map_nil, hv, hyv, hr]
    obtain ⟨ob, hob⟩ : ∃ ob, σ.ρ id = some ob := Option.ne_none_iff_exists'.1 x3
    by_cases hy0 : ys.length = 0
    · have hys : ys = [] := List.eq_nil_of_length_eq_zero hy0
      subst hys
      have hmod := hm.retok (W' := W) (z := σ.z id) (r' := blkX k e (ps ++ ([] : List α).flatMap f)) hRm hid hRm' hob (Below.refl _ _) (fun _ _ => rfl) (fun b hb => by
        subst hb
        obtain ⟨cs, rest, hcs, hvs, hz', _⟩ := blk_read hm hRm hob
        exact ⟨_, hcs, cs, rest, rfl, by simpa using hvs.mono (le_bind hid), fun h => by rw [bind_z]; exact hz' h, fun i => hm.noC hRm hob i⟩) (fun b i hb => by subst hb; exact hm.noC hRm hob i)
      refine wp_value (hexec (run_append_zero ht' hi a1 ad len _ cap (by omega) T W)) (h9 _ W _ (le_bind hid) keep_bind (hmod.congr ?_) ?_)
      · rw [updR_row]
      · refine ⟨a1, by rw [bind_z]; rfl, by rw [bind_z]; simp; omega, by rw [bind_z]; exact x2, by rw [bind_at]; simp, fun h => ?_⟩
        rw [bind_z] at h
        obtain ⟨b, hb, ha⟩ := x4 h
        rw [bind_at]
        rw [hob] at hb
        exact ⟨b, hb, by simpa using ha⟩
    · obtain ⟨yb, yo, rfl, hyc⟩ := hy3 (by omega)
      obtain ⟨news, hnv, hncell⟩ := slP_cells hm hk hyc
      have hnl : news.length = ys.length * k := by rw [hnv.1, flatMap_len hk]
      have hnews : ∀ (j : Nat) (v : Value), news[j]? = some v → W.cell? ((⟨yb, yo, none⟩ : Addr).add j) = some v := fun j v hv => by rw [addr_add]; exact hncell j v hv
      have hmdrop : Models σ (fun q => if q = m then none else R q) W := hm.sub fun q y hq => by
        split at hq
        · cases hq
        · exact hq
      have hfree : (fun q => if q = m then none else R q) m' = none := by
        rcases hRm' with rfl | h
        · simp
        · simp only [h]; split <;> rfl
      by_cases hroom : len + ys.length ≤ σ.z id
      · obtain ⟨b, hb, rfl⟩ := x4 (by omega)
        rw [hb] at hob
        simp only [Option.some.injEq] at hob
        subst hob
        obtain ⟨cs, rest, hcs, hvs, hz', _⟩ := blk_read hm hRm hb
        have hz'' := hz' hk0
        have hcl : cs.length = len * k := by rw [hvs.1, hps]
        have hroom2 : (len + ys.length) * k ≤ (cs ++ rest).length := by rw [hz'']; exact Nat.mul_le_mul_right _ hroom
        rw [Nat.add_mul] at hroom2
        have hr := run_append_room (P := P) W t T e i ht' hi b len (σ.z id) (cs ++ rest).toArray hcs ⟨yb, yo, none⟩ ys.length cap news (by rw [his]; exact hnl) hnews hnv.ones hroom (by rw [his, hnl]; simpa using hroom2)
        rw [his] at hr
        have hrow : (cs ++ rest).take (len * k) ++ news ++ (cs ++ rest).drop (len * k + news.length) = (cs ++ news) ++ (cs ++ rest).drop (len * k + news.length) := by
          rw [List.take_append_of_le_length (by omega), List.take_of_length_le (by omega)]
        simp only at hr
        rw [hrow] at hr
        have hmod := hm.retok (W' := W.setRow b (cs ++ news ++ (cs ++ rest).drop (len * k + news.length)).toArray) (z := σ.z id) (r' := blkX k e (ps ++ ys.flatMap f)) hRm hid hRm' hb
          ⟨rfl, rfl, rfl, by simp, fun q hq => setRow_other W b q _ (by
            intro e'
            subst e'
            have := (hm.res m id _ hRm q hb).1
            omega)⟩ (fun b' hb' => setRow_other W b b' _ (fun e' => hb' (by rw [e']))) (fun b' hb' => by
              simp only [Option.some.injEq] at hb'
              subst hb'
              refine ⟨_, setRow_heap W b _ _ e (0, 0) hcs, cs ++ news, (cs ++ rest).drop (len * k + news.length), rfl, (hvs.append hnv).mono (le_bind hid), fun h => ?_, fun i => hm.noC hRm hb i⟩
              rw [bind_z, ← hz'']
              simp only [List.length_append, List.length_drop] at hroom2 ⊢
              omega) (fun b' i hb' => by
                simp only [Option.some.injEq] at hb'
                subst hb'
                exact hm.noC hRm hb i)
        refine wp_value (hexec hr) (h9 _ _ _ (le_bind hid) keep_bind (hmod.congr (by rw [updR_row])) ?_)
        exact ⟨_, by rw [bind_z]; rfl, by rw [bind_z]; omega, by rw [bind_z]; exact x2, by rw [bind_at]; simp, fun _ => ⟨b, bind_at .., by simp⟩⟩
      · -- a new block
        have g1 := grownCap_ge W (len + ys.length) (σ.z id) e
        have g2 := grownCap_le_maxLen W (len + ys.length) (σ.z id) e (by unfold maxLen; omega)
        obtain ⟨olds, hov, hol, hrun⟩ : ∃ olds : List Value, Vs σ ps olds ∧ olds.length = len * k ∧
            (Builtin.append_ #[t, t] T #[.slice a1 len (σ.z id), .slice (some ⟨yb, yo, none⟩) ys.length cap]).run P W =
              .ok (.slice (some ⟨W.heap.size, 0, none⟩) (len + ys.length) (grownCap W (len + ys.length) (σ.z id) e)) (W.drew.alloc (.cells (olds.toArray ++ news.toArray ++ Builtin.zeroCells z.cells (grownCap W (len + ys.length) (σ.z id) e - (len + ys.length))) e)) := by
          by_cases hz0 : σ.z id = 0
          · have hl0 : len = 0 := by omega
            subst hl0
            have hp0 : ps = [] := List.eq_nil_of_length_eq_zero (by rw [hps]; simp)
            subst hp0
            refine ⟨[], ⟨rfl, by simp⟩, by simp, ?_⟩
            cases a1 with
            | none =>
              have hr := run_append_nil (P := P) W t T e i z ht' hi hiz ⟨yb, yo, none⟩ ys.length cap news (by rw [his]; exact hnl) hnews (by omega) (by omega) (by rw [hib]; simp at hbytes; omega)
              rw [hz0]
              simp only [Nat.zero_add]
              rw [hr]
              simp
            | some a0 =>
              exact run_append_grow (P := P) W t T e i z ht' hi hiz a0 0 (σ.z id) [] (by simp) (fun j v hjv => by simp at hjv) ⟨yb, yo, none⟩ ys.length cap news (by rw [his]; exact hnl) hnews
                (by omega) (by omega) (by rw [hib]; exact growslice_fits (by omega) hbytes)
          · obtain ⟨b, hb, rfl⟩ := x4 (by omega)
            obtain ⟨cs, rest, hcs, hvs, hz', _⟩ := blk_read hm hRm hb
            refine ⟨cs, hvs, by rw [hvs.1, hps], ?_⟩
            exact run_append_grow (P := P) W t T e i z ht' hi hiz ⟨b, 0, none⟩ len (σ.z id) cs (by rw [his, hvs.1, hps]) (fun j v hjv => by rw [addr_add, Nat.zero_add]; exact cell_blk hcs hjv) ⟨yb, yo, none⟩ ys.length cap news (by rw [his]; exact hnl) hnews
              (by omega) (by omega) (by rw [hib]; exact growslice_fits (by omega) hbytes)
        have hmod := hmdrop.drew.alloc (id := (N, kk)) (z := grownCap W (len + ys.length) (σ.z id) e) (n := m') (r := blkX k e (ps ++ ys.flatMap f))
          (o := .cells (olds.toArray ++ news.toArray ++ Builtin.zeroCells z.cells (grownCap W (len + ys.length) (σ.z id) e - (len + ys.length))) e) hid hfree
          ⟨olds ++ news, (Builtin.zeroCells z.cells (grownCap W (len + ys.length) (σ.z id) e - (len + ys.length))).toList, by congr 1; apply Array.ext'; simp, (hov.append hnv).mono (le_bind hid), fun _ => by
            rw [bind_z, List.length_append, List.length_append, hol, hnl, zc_len, hzs, ← Nat.add_mul, ← Nat.add_mul]; congr 1; omega, fun i => no_imm_new hmdrop.drew i⟩
        refine wp_value (hexec hrun) (h9 _ _ _ (le_bind hid) keep_bind (hmod.congr ?_) ?_)
        · rw [updR_row]
        · refine ⟨some ⟨W.heap.size, 0, none⟩, ?_, ?_, ?_, by rw [bind_at]; simp, fun _ => ⟨_, bind_at .., by simp⟩⟩
          · rw [bind_z]; rfl
          · rw [bind_z]; omega
          · rw [bind_z]; exact g2
  rd := rd_app (rd_of hx) (rd_of hy)
  use := by simp
  del := by simpa using hR
  add := by
    intro y hy
    simp at hy
    subst hy
    rcases hm' with rfl | h
    · right; simp
    · left; exact h
end
end Go.AL


namespace Go.AL
open Go.RowKit
/-- where c holds: p; else nothing was computed -/
def wP (c : Bool) (p : Pred) : Pred := ⟨fun σ v => (c = true → p.h σ v) ∧ (c = false → v = undef), fun _ _ _ hle h => ⟨fun hc => p.m _ _ _ hle (h.1 hc), h.2⟩⟩
theorem entW {c : Bool} {p : Pred} (h : c = true) : Ent (wP c p) p := fun _ _ x => x.1 h
theorem entS {c d : Bool} {p : Pred} (h : c = true) : Ent (wP (c && d) p) (wP d p) := fun _ _ x => by subst h; simpa using x
/-- a guard: where c holds it lets by, else not -/
def GuardIs (p : Pred) (w c : Bool) : Prop := ∀ σ v, p.h σ v → if c then v = .bool w else v ≠ .bool w
theorem guard_eq {b w : Bool} : GuardIs (eqP (.bool b)) w (b == w) := fun σ v h => by
  have h : v = .bool b := h
  subst h
  cases b <;> cases w <;> simp
theorem guard_w {c b w : Bool} : GuardIs (wP c (eqP (.bool b))) w (c && (b == w)) := fun σ v h => by
  cases c
  · have := h.2 rfl
    subst this
    simp [undef]
  · have h : v = .bool b := h.1 rfl
    subst h
    cases b <;> cases w <;> simp
inductive SubC (c : Bool) (F : Fr) : Fr → Prop
  | nil : SubC c F []
  | cons {t : Nat} {q p : Pred} {l : Fr} (h : lk F t = some q) (he : c = true → Ent q p) (hl : SubC c F l) : SubC c F ((t, p) :: l)
theorem SubC.at_ {c : Bool} {F F' : Fr} (h : SubC c F F') : ∀ t p, lk F' t = some p → ∃ q, lk F t = some q ∧ (c = true → Ent q p) := by
  induction h with
  | nil => intro t q hq; simp [lk] at hq
  | @cons k q p l hk he _ ih =>
    intro t p' hp
    rw [lk_cons] at hp
    split at hp
    · rename_i e; subst e; simp at hp; subst hp; exact ⟨q, hk, he⟩
    · exact ih t p' hp
section
variable {P : Program} {n N : Nat} {ops : Array Oper} {Q : Exit → Act → World → Prop} {Rf : Toks} {F : Fr} {L : Tk} {K : List Rec → Fr → Tk → Prop} {l : List Oper} {t : Nat} {op : Op} {T : TypeId} {pos : String} {after : Array Edge}
  {rd : List (Nat × Pred)} {use : List (Nat × Id × Res)}
def rdF (F : Fr) (rd : List (Nat × Pred)) : List (Nat × Pred) := rd.map fun x => (x.1, (lk F x.1).getD anyP)
/-- a guarded operation, whether it runs or not -/
theorem lxs {F' : Fr} {g s : Nat} {w c : Bool} {pg φ : Pred} (hs : gslot ops g = some s) (hsn : Nat.blt s n = true) (hg : lk F s = some pg) (hc : GuardIs pg w c) (hF : SubC c F F')
    (h : OpJ P n N F' (tkf L Rf) ⟨some t, op, T, pos, after, none⟩ ⟨rd, use, [], [], [], φ⟩) (hd : Nat.blt t n = true)
    (hk : LexK P n N ops Q Rf l ((t, wP c φ) :: F) L (fun rs => K (⟨(s, pg) :: rdF F rd, use, [], [], [], wP c φ⟩ :: rs))) : LexK P n N ops Q Rf (⟨some t, op, T, pos, after, some (g, w)⟩ :: l) F L K := by
  obtain ⟨rs, F2, L2, hl, hK⟩ := hk
  have hrd : ∀ x ∈ rdF F rd, lk F x.1 = some x.2 := by
    intro x hx
    obtain ⟨y, hy, rfl⟩ := List.mem_map.1 hx
    obtain ⟨q, hq, _⟩ := hF.at_ y.1 y.2 (h.rd y hy)
    simp [hq]
  refine ⟨_, F2, L2, .cons (r := ⟨(s, pg) :: rdF F rd, use, [], [], [], wP c φ⟩) ?_ (dOK_spec (d := some t) hd) ?_ h.use (by simp) (by simp) hl, hK⟩
  · intro σ W R a K' h1 h2 h3 h4 h5 h6 h7 h8 h9
    have hv := hc _ _ (h4 (s, pg) (List.mem_cons_self ..))
    have hlt : s < a.tmps.size := by have := Nat.le_of_ble_eq_true hsn; omega
    cases hcc : c with
    | true =>
      subst hcc
      simp only [if_true] at hv
      have hloc := exec_of_guard (P := P) (Q := Q) (N := N) hs (by have := Nat.le_of_ble_eq_true hsn; omega) (w := w) h.loc
      refine hloc σ W R a K' h1 h2 h3 ?_ h5 h6 h7 h8 ?_
      · intro x hx
        rcases List.mem_cons.1 hx with rfl | hx
        · exact hv
        · obtain ⟨q, hq, he⟩ := hF.at_ x.1 x.2 (h.rd x hx)
          refine he rfl _ _ ?_
          have := h4 (x.1, (lk F x.1).getD anyP) (List.mem_cons_of_mem _ (List.mem_map.2 ⟨x, hx, rfl⟩))
          simpa [hq] using this
      · intro σ' W' v hle hkeep hmod hφ
        exact h9 σ' W' v hle hkeep (hmod.congr (by funext m; simp [updR])) (show (wP true φ).h σ' v from ⟨fun _ => hφ, fun e => Bool.noConfusion e⟩)
    | false =>
      subst hcc
      simp only [Bool.false_eq_true, if_false] at hv
      have hy : yielded ops a.tmps g ≠ some w := by
        unfold yielded
        unfold gslot at hs
        rw [hs]
        simp only [Option.bind_some, Array.getElem?_eq_getElem hlt]
        simp [Array.getD, hlt] at hv
        split
        · rename_i b hb'
          simp at hb'
          intro e
          simp at e
          subst e
          exact hv hb'
        · simp
      unfold Exec
      rw [if_neg (by simp [Region.wanted, hy])]
      exact h9 σ W undef (Le.refl σ) (fun _ _ _ => rfl) (h1.congr (by funext m; simp [updR])) (show (wP false φ).h σ undef from ⟨fun e => Bool.noConfusion e, fun _ => rfl⟩)
  · intro x hx
    rcases List.mem_cons.1 hx with rfl | hx
    · exact hg
    · exact hrd x hx
end
section
variable {P : Program} {n N : Nat} {F : Fr} {R : Toks} {d : Option Nat} {T : TypeId} {pos : String} {after : Array Edge} {b v : Bool} {c x y : Operand}
theorem op_pick_and (hc : opd F c = some (eqP (.bool b))) (hx : opd F x = some (wP (b == true) (eqP (.bool v)))) : OpJ P n N F R ⟨d, .pick c x (.const (.bool false)), T, pos, after, none⟩ ⟨rdo c (eqP (.bool b)) ++ rdo x (wP (b == true) (eqP (.bool v))), [], [], [], [], eqP (.bool (b && v))⟩ :=
  opj2 hc hx fun σ W a h1 h2 => ⟨.bool (b && v), by
    have h1 : a.eval c = .bool b := h1
    have hf : a.eval (.const (.bool false)) = .bool false := rfl
    cases b
    · simp only [execOp, h1, asBool, hf]; rfl
    · have h2 : a.eval x = .bool v := h2.1 rfl
      simp [execOp, h1, h2, asBool], rfl⟩
theorem op_pick_or (hc : opd F c = some (eqP (.bool b))) (hy : opd F y = some (wP (b == false) (eqP (.bool v)))) : OpJ P n N F R ⟨d, .pick c (.const (.bool true)) y, T, pos, after, none⟩ ⟨rdo c (eqP (.bool b)) ++ rdo y (wP (b == false) (eqP (.bool v))), [], [], [], [], eqP (.bool (b || v))⟩ :=
  opj2 hc hy fun σ W a h1 h2 => ⟨.bool (b || v), by
    have h1 : a.eval c = .bool b := h1
    cases b
    · have h2 : a.eval y = .bool v := h2.1 rfl
      simp [execOp, h1, h2, asBool]
    · have hf : a.eval (.const (.bool true)) = .bool true := rfl
      simp only [execOp, h1, asBool, hf]; rfl, rfl⟩
end
end Go.AL
namespace Go.AL
open Go.RowKit
section
variable {P : Program} {C : Cx} {F : Fr} {L : Tk} {Q : Exit → Act → World → Prop} {c : Code} {id' : Nat}
/-- a nil slice of the call's own gets a name, so that it may be written and appended to -/
theorem tr_nilmv (k : Nat) (e : TypeId) (t m : Nat) (ht : lk F t = some (eqP (.slice none 0 0))) (hm : tkf L C.Rf m = none)
    (h : ∀ id, Tr P C c ((t, mvP id k 0 0 0) :: F) ((m, some (id, blkX k e [])) :: L) Q) : Tr P C c F L Q := by
  rintro a W ⟨σ, h1, h2, h3⟩
  obtain ⟨N, hN, hfr⟩ := fresh_N h3.mod C.M
  have hmod : Models (bind σ (N, 0) none 0) (fun n => if n = m then some ((N, 0), blkX k e []) else tkf L C.Rf n) W := by
    refine h3.mod.move (le_bind (hfr 0)) m (N, 0) _ (fun i hi => bind_ne _ _ _ _ _ hi) (by rw [bind_at]; simp) (.inl hm) ?_ (Below.refl _ _) (fun n x b _ hn hb => ⟨rfl, fun _ => rfl⟩) (fun b i v hv => h3.mod.imm b i v hv) ?_ ?_
    · intro n x _ hn e
      exact h3.mod.used n x hn (by rw [e]; exact hfr 0)
    · intro b hb; rw [bind_at] at hb; cases hb
    · intro n x b _ _ hb; rw [bind_at] at hb; cases hb
  refine h (N, 0) a W ⟨bind σ (N, 0) none 0, h1.trans (le_bind (hfr 0)), keepB_of hN h2 keep_bind, h3.size, h3.defers, hmod.congr ?_, ?_⟩
  · rw [tkf_cons]
  · intro t' p hp
    rw [lk_cons] at hp
    split at hp
    · rename_i e'
      subst e'
      simp at hp
      subst hp
      have hv : a.tmps.getD t undef = .slice none 0 0 := h3.fr t _ ht
      exact ⟨none, by rw [bind_z]; exact hv, by rw [bind_z]; omega, by rw [bind_z]; simp [maxLen], by rw [bind_at]; simp, by rw [bind_z]; intro h; omega⟩
    · exact p.m _ _ _ (le_bind (hfr 0)) (h3.fr t' p hp)
end
end Go.AL
namespace Go.AL
section
variable {P : Program} {n N : Nat} {ops : Array Oper} {Q : Exit → Act → World → Prop} {Rf : Toks} {F : Fr} {L : Tk} {K : List Rec → Fr → Tk → Prop} {l : List Oper}
end
end Go.AL
namespace Go.AL
open Go.RowKit
section
variable {P : Program} {n N : Nat} {ops : Array Oper} {Q : Exit → Act → World → Prop} {Rf : Toks} {F : Fr} {L : Tk} {K : List Rec → Fr → Tk → Prop} {l : List Oper} {t : Nat} {op : Op} {T : TypeId} {pos : String} {after : Array Edge}
  {rd : List (Nat × Pred)}
end
end Go.AL
namespace Go.AL
end Go.AL


namespace Go.AL
open Go.RowKit
section
variable {P : Program} {n N : Nat} {F : Fr} {R : Toks} {d : Option Nat} {T t t' : TypeId} {pos : String} {after : Array Edge} {x y : Operand} {k : IntKind} {u v : Int}
/-- a value said otherwise -/
theorem OpJ.val {o : Oper} {rd : List (Nat × Pred)} {use : List (Nat × Id × Res)} {φ ψ : Pred} (h : OpJ P n N F R o ⟨rd, use, [], [], [], φ⟩) (e : φ = ψ) : OpJ P n N F R o ⟨rd, use, [], [], [], ψ⟩ := e ▸ h
end
end Go.AL


namespace Go.AL
open Go.RowKit Go.ChangeShapes Go.WideShapes Go.Deep
/-- all that lay in the world when the call began stays -/
def σW (W : World) : Sg := { w0 := W, n0 := W.heap.size, ρ := fun _ => none, z := fun _ => 0, c := fun b i => W.cell? ⟨b, i, none⟩ }
theorem models_W (W : World) : Models (σW W) (fun _ => none) W where
  base := Below.refl _ _
  n0 := Nat.le_refl _
  imm b i v h := h
  res n id r h := by cases h
  sep n m x y b _ h := by cases h
  used n x h := by cases h
  fin := ⟨0, fun _ _ _ => rfl⟩
/-- **a function that answers true at what it is handed** -/
theorem law_calls {P : Program} {f : FuncId} {pre : List Pred} (h : FnP P f pre (eqP (.bool true))) {W : World} {args : Array Value} (hs : args.size = pre.length) (ha : ∀ (i : Nat) (p : Pred), pre[i]? = some p → p.h (σW W) (args.getD i undef)) :
    Calls P f args W fun e W' => e = .returned (.bool true) ∧ Below W.heap.size W W' := by
  have := h (σW W) W (fun _ => none) args (fun _ => (0, 0)) 0 (models_W W) (by simp) (fun _ _ _ => rfl) (by intro j hj; omega) (by intro i j hi; omega) hs ha
  refine this.mono ?_
  rintro e W' ⟨v, σ', rfl, hle, _, hmod, hpost⟩
  have hb := hmod.base
  rw [hle.w0, hle.n0] at hb
  exact ⟨by rw [show v = .bool true from hpost], hb⟩
section
variable {H : Type} (enc : TypeId × Value → H) (P : Program) (W : World) (base : Nat) (spare : Nat → Bool) (held : Bool)
/-- whatever reads at the type is a thing of α -/
def Rd (t : TypeId) {α : Type} (f : α → List Pred) (ok : α → Prop) : Prop :=
  ∀ fuel cs x, DataW.trod enc P W base spare held fuel t cs = some x → ∃ a, ok a ∧ Vs (σW W) (f a) cs
variable {enc P W base spare held}
theorem Rd.map {t : TypeId} {α β : Type} {f : α → List Pred} {ok : α → Prop} {f' : β → List Pred} {ok' : β → Prop} (h : Rd enc P W base spare held t f ok) (g : α → β) (hf : ∀ a, f a = f' (g a)) (hok : ∀ a, ok a → ok' (g a)) : Rd enc P W base spare held t f' ok' := by
  intro fuel cs x hx
  obtain ⟨a, ha, hv⟩ := h fuel cs x hx
  exact ⟨g a, hok a ha, hf a ▸ hv⟩
theorem rd_int {t : TypeId} {k : IntKind} (ht : P.underlying t = some (.int k)) : Rd enc P W base spare held t (fun x : Int => [eqP (.int k x)]) (fun x => k.min ≤ x ∧ x ≤ k.max) := by
  intro fuel cs x hx
  obtain ⟨n, rfl, _, hw⟩ := DataW.trod_int ht hx
  refine ⟨n, by simpa [Lit.wf] using hw, rfl, fun j p u hp hu => ?_⟩
  cases j with
  | zero => simp at hp hu; subst hp; subst hu; exact ⟨rfl, rfl⟩
  | succ j => simp at hp
theorem choose_list {α : Type} {Q : Nat → α → Prop} : ∀ (n : Nat), (∀ i, i < n → ∃ a, Q i a) → ∃ xs : List α, xs.length = n ∧ ∀ (i : Nat) (x : α), xs[i]? = some x → Q i x
  | 0, _ => ⟨[], rfl, fun i x h => by simp at h⟩
  | n + 1, h => by
    obtain ⟨xs, hl, hx⟩ := choose_list n fun i hi => h i (by omega)
    obtain ⟨a, ha⟩ := h n (by omega)
    refine ⟨xs ++ [a], by simp [hl], fun i x hi => ?_⟩
    rcases Nat.lt_or_ge i n with h1 | h1
    · rw [List.getElem?_append_left (by omega)] at hi
      exact hx i x hi
    · rw [List.getElem?_append_right (by omega), hl] at hi
      rcases Nat.eq_or_lt_of_le h1 with h2 | h2
      · subst h2; simp at hi; subst hi; exact ha
      · rw [List.getElem?_eq_none (by simp; omega)] at hi; cases hi
def structB (P : Program) (t : TypeId) : Option (List (Nat × TypeId × Nat)) := match P.underlying t with | some (.struct fs) => some (fs.toList.map fun f => (f.offset, f.type, P.cellsOf f.type)) | _ => none
def RdFs (enc : TypeId × Value → H) (P : Program) (W : World) (base : Nat) (spare : Nat → Bool) (held : Bool) (m n0 : Nat) (fs : List (Nat × TypeId × Nat)) {α : Type} (f : α → List Pred) (ok : α → Prop) : Prop :=
  ∀ n (cs : List Value), cs.length = m → (∀ x ∈ fs, ∃ y, DataW.trod enc P W base spare held n x.2.1 ((cs.drop x.1).take x.2.2) = some y) → ∃ a, ok a ∧ Vs (σW W) (f a) (cs.drop n0)
theorem rd_one {t : TypeId} {α : Type} {p : α → Pred} {ok : α → Prop} {v : Value} {d : DataW H} {ps : List MemPlace} (h : Rd enc P W base spare held t (fun a => [p a]) ok) (h1 : v.cells = #[v]) (hd : DataW.Trod enc P W base spare held t v d ps) : ∃ a, ok a ∧ (p a).h (σW W) v := by
  obtain ⟨fuel, hf⟩ := hd
  rw [h1] at hf
  obtain ⟨a, ha, hv⟩ := h _ _ _ hf
  exact ⟨a, ha, (hv.2 0 _ v rfl rfl).1⟩
theorem cells_int {k : IntKind} {t : TypeId} {v : Value} {r : Reach} {b0 : Nat} (ht : P.underlying t = some (.int k)) (hv : Value.okWide P W r b0 t v) : v.cells = #[v] := by
  obtain ⟨n, rfl⟩ := okWide_int ht hv; rfl
theorem cells_slice {t e : TypeId} {v : Value} {r : Reach} {b0 : Nat} (ht : P.underlying t = some (.slice e)) (hv : Value.okWide P W r b0 t v) : v.cells = #[v] := by
  obtain ⟨a, l, c, rfl⟩ := okWide_slice ht hv; rfl
end
end Go.AL
namespace Go.AL
open Go.RowKit Go.ChangeShapes Go.WideShapes Go.Deep
def ArgsH (σ : Sg) : List Pred → List Value → Prop
  | [], [] => True
  | p :: ps, v :: vs => p.h σ v ∧ ArgsH σ ps vs
  | _, _ => False
theorem ArgsH.at_ {σ : Sg} : ∀ {ps : List Pred} {vs : List Value}, ArgsH σ ps vs → vs.length = ps.length ∧ ∀ (i : Nat) (p : Pred), ps[i]? = some p → p.h σ (vs.getD i undef)
  | [], [], _ => ⟨rfl, fun i p h => by simp at h⟩
  | p :: ps, v :: vs, h => by
    obtain ⟨h1, h2⟩ := h
    obtain ⟨g1, g2⟩ := ArgsH.at_ h2
    refine ⟨by simp [g1], fun i q hq => ?_⟩
    cases i with
    | zero => simp at hq; subst hq; simpa using h1
    | succ i => simpa using g2 i q (by simpa using hq)
  | [], _ :: _, h => h.elim
  | _ :: _, [], h => h.elim
theorem law_at {P : Program} {f : FuncId} {pre : List Pred} (h : FnP P f pre (eqP (.bool true))) {W : World} {vs : List Value} (ha : ArgsH (σW W) pre vs) :
    Calls P f vs.toArray W fun e W' => e = .returned (.bool true) ∧ Below W.heap.size W W' :=
  law_calls h (by simpa using ha.at_.1) fun i p hp => by
    have := ha.at_.2 i p hp
    simpa [Array.getD_eq_getD_getElem?, List.getD_eq_getElem?_getD] using this
end Go.AL


namespace Go.AL
open Go.RowKit Go.ChangeShapes Go.WideShapes Go.Deep
structure BulkOK {H : Type} (bk : DataW H → Nat) : Prop where
  lit : ∀ l, 1 ≤ bk (.lit l)
  nil : 1 ≤ bk .nil
  slice : ∀ e s, (e.map bk).sum + 1 ≤ bk (.slice e s)
  agg : ∀ l, (l.map bk).sum + 1 ≤ bk (.agg l)
section
variable {H : Type} (enc : TypeId × Value → H) (P : Program) (W : World) (base : Nat) (spare : Nat → Bool) (held : Bool) (bk : DataW H → Nat)
/-- whatever reads at the type is a thing of α, no larger than its reading -/
def RdS (t : TypeId) {α : Type} (f : α → List Pred) (sz : α → Nat) (ok : α → Prop) : Prop :=
  ∀ fuel cs x, DataW.trod enc P W base spare held fuel t cs = some x → ∃ a, (ok a ∧ sz a ≤ bk x.1) ∧ Vs (σW W) (f a) cs
variable {enc P W base spare held bk}
theorem RdS.map {t : TypeId} {α β : Type} {f : α → List Pred} {sz : α → Nat} {ok : α → Prop} {f' : β → List Pred} {sz' : β → Nat} {ok' : β → Prop} (h : RdS enc P W base spare held bk t f sz ok) (g : α → β) (hf : ∀ a, f a = f' (g a)) (hs : ∀ a, sz' (g a) ≤ sz a) (hok : ∀ a, ok a → ok' (g a)) :
    RdS enc P W base spare held bk t f' sz' ok' := by
  intro fuel cs x hx
  obtain ⟨a, ⟨ha, hz⟩, hv⟩ := h fuel cs x hx
  exact ⟨g a, ⟨hok a ha, Nat.le_trans (hs a) hz⟩, hf a ▸ hv⟩
theorem rdS_int (hB : BulkOK bk) {t : TypeId} {k : IntKind} (ht : P.underlying t = some (.int k)) : RdS enc P W base spare held bk t (fun x : Int => [eqP (.int k x)]) (fun _ => 1) (fun x => k.min ≤ x ∧ x ≤ k.max) := by
  intro fuel cs x hx
  obtain ⟨n, rfl, rfl, hw⟩ := DataW.trod_int ht hx
  refine ⟨n, ⟨by simpa [Lit.wf] using hw, hB.lit _⟩, rfl, fun j p u hp hu => ?_⟩
  cases j with
  | zero => simp at hp hu; subst hp; subst hu; exact ⟨rfl, rfl⟩
  | succ j => simp at hp
theorem rdS_bool (hB : BulkOK bk) {t : TypeId} (ht : P.underlying t = some .bool) : RdS enc P W base spare held bk t (fun b : Bool => [eqP (.bool b)]) (fun _ => 1) (fun _ => True) := by
  intro fuel cs x hx
  obtain ⟨n, rfl, rfl⟩ := DataW.trod_bool ht hx
  refine ⟨n, ⟨trivial, hB.lit _⟩, rfl, fun j p u hp hu => ?_⟩
  cases j with
  | zero => simp at hp hu; subst hp; subst hu; exact ⟨rfl, rfl⟩
  | succ j => simp at hp
theorem sum_le {α : Type} {sz : α → Nat} {b : Nat → Nat} : ∀ (xs : List α), (∀ i x, xs[i]? = some x → sz x ≤ b i) → (xs.map sz).sum ≤ ((List.range xs.length).map b).sum := by
  intro xs
  induction xs generalizing b with
  | nil => simp
  | cons x xs ih =>
    intro h
    have h0 := h 0 x rfl
    have := ih (b := fun i => b (i + 1)) fun i y hy => h (i + 1) y (by simpa using hy)
    rw [List.length_cons, List.range_succ_eq_map]
    simp only [List.map_cons, List.sum_cons, List.map_map]
    exact Nat.add_le_add h0 this
theorem rdS_slice (hB : BulkOK bk) {t e : TypeId} {k : Nat} {α : Type} {f : α → List Pred} {sz : α → Nat} {ok : α → Prop} (ht : P.underlying t = some (.slice e)) (he : RdS enc P W base spare held bk e f sz ok) (hk : P.cellsOf e = k) (hk0 : 0 < k) :
    RdS enc P W base spare held bk t (fun xs : List α => [slP f k xs]) (fun xs => (xs.map sz).sum + 1) (fun xs => ∀ x ∈ xs, ok x) := by
  intro fuel cs x hx
  have one : ∀ {xs : List α} {v : Value}, (slP f k xs).h (σW W) v → Vs (σW W) [slP f k xs] [v] := fun {xs v} hv => ⟨rfl, fun j p u hp hu => by
    cases j with
    | zero => simp at hp hu; subst hp; subst hu; exact ⟨hv, One.sl f k xs _ _ hv⟩
    | succ j => simp at hp⟩
  rcases open_slice ht hx with ⟨rfl, rfl⟩ | ⟨a, len, cap, m, n, D, Pl, rfl, hb, hl, hm, hmm, rfl, hi⟩
  · exact ⟨[], ⟨by simp, hB.nil⟩, one ⟨none, 0, rfl, Nat.le_refl _, by simp [maxLen], fun h => by simp at h⟩⟩
  · have hlm : len ≤ m := by rw [hmm]; split <;> omega
    obtain ⟨xs, hxl, hxs⟩ := choose_list (Q := fun i (x : α) => (ok x ∧ sz x ≤ bk (D i)) ∧ ∃ cs', W.cells? base (a.add (i * k)) k = some cs' ∧ Vs (σW W) (f x) cs') len fun i hil => by
      obtain ⟨cs', hc, ht'⟩ := hi i (by omega)
      obtain ⟨x, hok, hv⟩ := he _ _ _ ht'
      rw [hk] at hc
      exact ⟨x, hok, cs', hc, hv⟩
    subst hxl
    refine ⟨xs, ⟨fun x hx => ?_, ?_⟩, one ⟨some a, cap, rfl, hl, hm, fun hp => ?_⟩⟩
    · obtain ⟨i, hi'⟩ := List.mem_iff_getElem?.1 hx
      exact (hxs i x hi').1.1
    · have := sum_le (b := fun i => bk (D i)) xs fun i x hx => (hxs i x hx).1.2
      have h2 := hB.slice ((List.range xs.length).map D) ((List.range (m - xs.length)).map fun j => D (xs.length + j))
      rw [List.map_map] at h2
      exact Nat.le_trans (Nat.succ_le_succ this) h2
    · obtain ⟨b, off, spot⟩ := a
      have hspot : spot = none := by
        obtain ⟨_, cs', hc, hv⟩ := hxs 0 xs[0] (List.getElem?_eq_getElem hp)
        obtain ⟨_, hcl, hat⟩ := World.cells?_some hc
        have h0 := hat 0 hk0
        rw [List.getElem?_eq_getElem (show 0 < cs'.length by omega)] at h0
        simpa [Addr.add] using World.cell?_spot h0
      subst hspot
      refine ⟨b, off, rfl, fun i x hx j p hpj => ?_⟩
      obtain ⟨_, cs', hc, hv⟩ := hxs i x hx
      obtain ⟨_, hcl, hat⟩ := World.cells?_some hc
      have hj : j < cs'.length := by rw [hv.1]; exact (List.getElem?_eq_some_iff.1 hpj).1
      have h0 := hat j (by omega)
      rw [List.getElem?_eq_getElem hj] at h0
      refine ⟨cs'[j], ?_, hv.2 j p _ hpj (List.getElem?_eq_getElem hj)⟩
      simp only [addr_add] at h0
      show W.cell? ⟨b, off + i * k + j, none⟩ = some cs'[j]
      exact h0
def RdFsS (enc : TypeId × Value → H) (P : Program) (W : World) (base : Nat) (spare : Nat → Bool) (held : Bool) (bk : DataW H → Nat) (m n0 : Nat) (fs : List (Nat × TypeId × Nat)) {α : Type} (f : α → List Pred) (sz : α → Nat) (ok : α → Prop) : Prop :=
  ∀ n (cs : List Value) (ds : List (DataW H)), cs.length = m → ds.length = fs.length → (∀ (i : Nat) (x : Nat × TypeId × Nat) (d : DataW H), fs[i]? = some x → ds[i]? = some d → ∃ y, DataW.trod enc P W base spare held n x.2.1 ((cs.drop x.1).take x.2.2) = some y ∧ y.1 = d) → ∃ a, (ok a ∧ sz a ≤ (ds.map bk).sum) ∧ Vs (σW W) (f a) (cs.drop n0)
theorem rdfS_nil {m : Nat} : RdFsS enc P W base spare held bk m m [] (fun _ : Unit => []) (fun _ => 0) (fun _ => True) := fun n cs ds hl _ _ => ⟨(), ⟨trivial, Nat.zero_le _⟩, by rw [List.drop_eq_nil_of_le (by omega)]; exact ⟨rfl, by simp⟩⟩
theorem rdfS_cons {m n0 k : Nat} {t : TypeId} {fs : List (Nat × TypeId × Nat)} {α β : Type} {f : α → List Pred} {sz : α → Nat} {ok : α → Prop} {f' : β → List Pred} {sz' : β → Nat} {ok' : β → Prop} (h : RdS enc P W base spare held bk t f sz ok) (hl : RdFsS enc P W base spare held bk m (n0 + k) fs f' sz' ok') :
    RdFsS enc P W base spare held bk m n0 ((n0, t, k) :: fs) (fun x : α × β => f x.1 ++ f' x.2) (fun x => sz x.1 + sz' x.2) (fun x => ok x.1 ∧ ok' x.2) := by
  intro n cs ds hcs hds hx
  match ds, hds with
  | d :: ds, hds =>
    obtain ⟨y, hy, rfl⟩ := hx 0 _ d rfl rfl
    obtain ⟨a, ⟨ha, hz⟩, hv⟩ := h _ _ _ hy
    obtain ⟨b, ⟨hb, hz'⟩, hw⟩ := hl n cs ds hcs (by simpa using hds) fun i x d' h1 h2 => hx (i + 1) x d' (by simpa using h1) (by simpa using h2)
    refine ⟨(a, b), ⟨⟨ha, hb⟩, ?_⟩, ?_⟩
    · rw [List.map_cons, List.sum_cons]; exact Nat.add_le_add hz hz'
    · have := hv.append hw
      rwa [← List.drop_drop, List.take_append_drop] at this
theorem rdS_struct (hB : BulkOK bk) {t : TypeId} {fs : List (Nat × TypeId × Nat)} {m : Nat} {α : Type} {f : α → List Pred} {sz : α → Nat} {ok : α → Prop} (ht : structB P t = some fs) (hm : P.cellsOf t = m) (h : RdFsS enc P W base spare held bk m 0 fs f sz ok) :
    RdS enc P W base spare held bk t f (fun a => sz a + 1) ok := by
  intro fuel cs x hx
  unfold structB at ht
  split at ht
  · rename_i fs' hu
    simp only [Option.some.injEq] at ht
    subst ht
    obtain ⟨xs, n, _, rfl, hl, hlen, hg⟩ := DataW.trod_struct hu hx
    obtain ⟨a, ⟨ha, hz⟩, hv⟩ := h n cs (xs.map (·.1)) (hl.trans hm) (by simp [hlen]) fun i x d h1 h2 => by
      rw [List.getElem?_map] at h1 h2
      obtain ⟨fd, hfd, rfl⟩ := Option.map_eq_some_iff.1 h1
      obtain ⟨y, hy, rfl⟩ := Option.map_eq_some_iff.1 h2
      have hi' : fs'[i]? = some fd := by simpa using hfd
      exact ⟨y, by rw [hg i fd hi', hy], rfl⟩
    exact ⟨a, ⟨ha, Nat.le_trans (Nat.succ_le_succ hz) (hB.agg _)⟩, by simpa using hv⟩
  · cases ht
theorem rdS_one {t : TypeId} {α : Type} {p : α → Pred} {sz : α → Nat} {ok : α → Prop} {v : Value} {d : DataW H} {ps : List MemPlace} (h : RdS enc P W base spare held bk t (fun a => [p a]) sz ok) (h1 : v.cells = #[v]) (hd : DataW.Trod enc P W base spare held t v d ps) : ∃ a, (ok a ∧ sz a ≤ bk d) ∧ (p a).h (σW W) v := by
  obtain ⟨fuel, hf⟩ := hd
  rw [h1] at hf
  obtain ⟨a, ha, hv⟩ := h _ _ _ hf
  exact ⟨a, ha, (hv.2 0 _ v rfl rfl).1⟩
theorem rdS_agg {t : TypeId} {α : Type} {f : α → List Pred} {sz : α → Nat} {ok : α → Prop} {v : Value} {d : DataW H} {ps : List MemPlace} {r : Reach} {b0 : Nat} (h : RdS enc P W base spare held bk t f sz ok) (hs : (structB P t).isSome = true) (hv : Value.okWide P W r b0 t v) (hd : DataW.Trod enc P W base spare held t v d ps) :
    ∃ a, (ok a ∧ sz a ≤ bk d) ∧ (aggP (f a)).h (σW W) v := by
  unfold structB at hs
  split at hs
  · rename_i fs hu
    obtain ⟨cs, rfl, _⟩ := okWide_struct hu hv
    obtain ⟨fuel, hf⟩ := hd
    obtain ⟨a, ha, hw⟩ := h _ _ _ hf
    exact ⟨a, ha, cs.toList, by simp, hw⟩
  · cases hs
end
end Go.AL


namespace Go.AL
open Go.RowKit
section
variable {α β : Type} {P : Program} {t : TypeId} {ls : List Leaf} {f : α → List Value} {g : β → Value}
def ents (f : α → List Value) (g : β → Value) (m : List (α × β)) : List (Value × Value) := m.map fun x => (.agg (f x.1).toArray, g x.2)
structure KeyOK (P : Program) (t : TypeId) (ls : List Leaf) (f : α → List Value) : Prop where
  agg : aggB P t = some true
  leaf : leafK P 8 t = some ls
  typed : ∀ a, typedB ls (f a) = true
  inj : ∀ a b, f a = f b → a = b
theorem KeyOK.struct (h : KeyOK P t ls f) : ∃ fs, P.underlying t = some (.struct fs) := by
  have h1 := h.leaf
  have h2 := h.agg
  unfold leafK at h1
  unfold aggB at h2
  split at h1
  · rename_i hu; rw [hu] at h2; simp [isAggD] at h2
  · rename_i hu; rw [hu] at h2; simp [isAggD] at h2
  · rename_i hu; rw [hu] at h2; simp [isAggD] at h2
  · rename_i fs hu; exact ⟨fs, hu⟩
  · simp at h1
end
section
variable {α β : Type} [DecidableEq α] {P : Program} {t : TypeId} {ls : List Leaf} {f : α → List Value} {g : β → Value}
theorem KeyOK.eq (h : KeyOK P t ls f) (a b : α) (W : World) : (Op.equal t (.agg (f a).toArray) (.agg (f b).toArray)).run P W = .ok (decide (b = a)) W := by
  have := run_equal_flat 8 t ls h.leaf 9992 (f a) (f b) W (h.typed a) (h.typed b)
  simp only [pack, h.agg, if_true] at this
  refine this.trans ?_
  congr 1
  exact decide_eq_decide.mpr ⟨fun e => (h.inj _ _ e).symm, fun e => by rw [e]⟩
end
end Go.AL
namespace Go.AL
open Go.RowKit
def mapP (id : Id) : Pred := ⟨fun σ v => ∃ b, σ.ρ id = some (some b) ∧ v = .map (some b), fun _ _ _ hle ⟨b, hb, hv⟩ => ⟨b, hle.ρ _ _ hb, hv⟩⟩
theorem One.map (id : Id) : One (mapP id) := fun _ _ ⟨_, _, h⟩ => by subst h; rfl
def mapR {α β : Type} (f : α → List Value) (g : β → Value) (m : List (α × β)) : Res :=
  ⟨fun _ _ _ o => ∃ es clock, o = .map es clock ∧ es.toList.map (fun e => (e.key, e.val)) = ents f g m, fun _ _ _ _ _ _ _ _ h => h⟩
theorem Ren.map {α β : Type} (f : α → List Value) (g : β → Value) (m : List (α × β)) : Ren mapP (mapR f g m) where
  p := by
    rintro σ id id' v h1 h2 ⟨b, hb, hv⟩
    exact ⟨b, by rw [h1]; exact hb, hv⟩
  r := fun _ _ _ _ _ _ _ h => h
def mapB (P : Program) (t : TypeId) : Option (TypeId × TypeId) := match P.underlying t with | some (.map k e) => some (k, e) | _ => none
section
variable {P : Program} {n N : Nat} {F : Fr} {R : Toks} {d : Option Nat} {T t K E : TypeId} {pos : String} {after : Array Edge} {α β : Type}
end
section
variable {P : Program} {n N : Nat} {F : Fr} {R : Toks} {d : Option Nat} {T t K E : TypeId} {pos : String} {after : Array Edge} {α β : Type} [DecidableEq α] {f : α → List Value} {g : β → Value} {mm : List (α × β)} {ls : List Leaf} {id : Id} {m : Nat}
def found (mm : List (α × β)) (a : α) : Option (α × β) := mm.find? fun x => decide (x.1 = a)
end
end Go.AL


namespace Go.AL
open Go.RowKit
def RenR (r : Res) : Prop := ∀ (σ : Sg) (id id' : Id) (b : Nat) (o : Obj), σ.ρ id' = σ.ρ id → σ.z id' = σ.z id → r.h σ id b o → r.h σ id' b o
theorem RenR.blk (κ : Nat) (T : TypeId) (ps : List Pred) : RenR (blkX κ T ps) := (Ren.mv 0 0 0 0 κ T ps).r
theorem RenR.tail (T : TypeId) (n m : Nat) : RenR (tail T n m) := by
  rintro σ id id' b o h1 h2 ⟨cs, ho, hl, hn⟩
  exact ⟨cs, ho, by rw [h2]; exact hl, hn⟩
theorem RenR.map {α β : Type} (f : α → List Value) (g : β → Value) (m : List (α × β)) : RenR (mapR f g m) := (Ren.map f g m).r
theorem bind_zne (σ : Sg) (id i : Id) (b : Option Nat) (z : Nat) (h : i ≠ id) : (bind σ id b z).z i = σ.z i := by simp [bind, h]
theorem Models.rename1 {σ : Sg} {R : Toks} {W : World} {n0 : Nat} {old new : Id} {r : Res} {ob : Option Nat} (h : Models σ R W) (hR : R n0 = some (old, r)) (hnew : σ.ρ new = none) (hren : RenR r) (hob : σ.ρ old = some ob) :
    Models (bind σ new ob (σ.z old)) (fun n => if n = n0 then some (new, r) else R n) W := by
  have hne : old ≠ new := fun e => by rw [e, hnew] at hob; cases hob
  have hle : Le σ (bind σ new ob (σ.z old)) := le_bind hnew
  have e1 : (bind σ new ob (σ.z old)).ρ new = (bind σ new ob (σ.z old)).ρ old := by rw [bind_at, bind_ne _ _ _ _ _ hne, hob]
  have e2 : (bind σ new ob (σ.z old)).z new = (bind σ new ob (σ.z old)).z old := by rw [bind_z, bind_zne _ _ _ _ _ hne]
  have hm1 : Models σ (fun n => if n = n0 then none else R n) W := h.sub fun m x hx => by
    split at hx
    · cases hx
    · exact hx
  have hm2 := hm1.move (W' := W) hle n0 new r (fun i hi => bind_ne _ _ _ _ _ hi) (by rw [bind_at]; simp) (.inl (by simp)) ?_ (Below.refl _ _) (fun m x b _ _ _ => ⟨rfl, fun _ => rfl⟩) (fun b i v hv => hm1.imm b i v hv) ?_ ?_
  · refine hm2.congr ?_
    funext n
    by_cases hn : n = n0 <;> simp [hn]
  · intro m x _ hm e
    exact hm1.used m x hm (by rw [e]; exact hnew)
  · intro b hb
    rw [bind_at] at hb
    simp only [Option.some.injEq] at hb
    rw [hb] at hob
    obtain ⟨g1, o, g2, g3⟩ := h.res n0 old r hR b hob
    exact ⟨g1, o, g2, hren _ old new b o e1 e2 (r.m σ _ old b o hle hob (fun _ => rfl) g3)⟩
  · intro m x b hm0 hm hb hxb
    rw [bind_at] at hb
    simp only [Option.some.injEq] at hb
    rw [hb] at hob
    exact h.sep m n0 x (old, r) b hm0 (by simpa [hm0] using hm) hR hxb hob
def updT (t : Nat → Nat) (ι : Nat → Id) (r : Nat → Res) (R : Toks) : Nat → Toks
  | 0 => R
  | k + 1 => fun n => if n = t k then some (ι k, r k) else updT t ι r R k n
theorem updT_miss {t : Nat → Nat} {ι : Nat → Id} {r : Nat → Res} {R : Toks} {n : Nat} : ∀ k, (∀ j, j < k → n ≠ t j) → updT t ι r R k n = R n
  | 0, _ => rfl
  | k + 1, h => by
    simp only [updT, if_neg (h k (by omega))]
    exact updT_miss k fun j hj => h j (by omega)
theorem updT_hit {t : Nat → Nat} {ι : Nat → Id} {r : Nat → Res} {R : Toks} : ∀ k j, j < k → (∀ i j, i < k → j < k → t i = t j → i = j) → updT t ι r R k (t j) = some (ι j, r j)
  | 0, _, h, _ => by omega
  | k + 1, j, hj, hinj => by
    simp only [updT]
    by_cases h : t j = t k
    · have := hinj j k (by omega) (by omega) h
      subst this
      simp
    · rw [if_neg h]
      exact updT_hit k j (by
        rcases Nat.lt_or_eq_of_le (Nat.le_of_lt_succ hj) with h1 | h1
        · exact h1
        · subst h1; exact absurd rfl h) fun a b ha hb => hinj a b (by omega) (by omega)
theorem renAll {σ : Sg} {R : Toks} {W : World} (h : Models σ R W) (t : Nat → Nat) (olds ι : Nat → Id) (r : Nat → Res) : ∀ k, (∀ j, j < k → R (t j) = some (olds j, r j)) → (∀ i j, i < k → j < k → t i = t j → i = j) →
    (∀ j, j < k → σ.ρ (ι j) = none) → (∀ i j, i < k → j < k → ι i = ι j → i = j) → (∀ j, j < k → RenR (r j)) →
    ∃ τ, Le σ τ ∧ (∀ j, j < k → τ.ρ (ι j) = τ.ρ (olds j) ∧ τ.z (ι j) = τ.z (olds j)) ∧ (∀ id, (∀ j, j < k → id ≠ ι j) → τ.ρ id = σ.ρ id) ∧ Models τ (updT t ι r R k) W
  | 0, _, _, _, _, _ => ⟨σ, Le.refl σ, fun j hj => by omega, fun _ _ => rfl, h⟩
  | k + 1, h1, h2, h3, h4, h5 => by
    obtain ⟨τ, hle, hs, hk, hm⟩ := renAll h t olds ι r k (fun j hj => h1 j (by omega)) (fun i j hi hj => h2 i j (by omega) (by omega)) (fun j hj => h3 j (by omega)) (fun i j hi hj => h4 i j (by omega) (by omega)) (fun j hj => h5 j (by omega))
    obtain ⟨ob, hob⟩ := Option.ne_none_iff_exists'.1 (h.used (t k) _ (h1 k (by omega)))
    have hobt := hle.ρ _ _ hob
    have hnew : τ.ρ (ι k) = none := by rw [hk (ι k) (fun j hj e => by have := h4 k j (by omega) (by omega) e; omega)]; exact h3 k (by omega)
    have hne : olds k ≠ ι k := fun e => by rw [e, hnew] at hobt; cases hobt
    have hrt : updT t ι r R k (t k) = some (olds k, r k) := by rw [updT_miss k (fun j hj e => by have := h2 k j (by omega) (by omega) e; omega)]; exact h1 k (by omega)
    have hm2 := hm.rename1 hrt hnew (h5 k (by omega)) hobt
    refine ⟨bind τ (ι k) ob (τ.z (olds k)), hle.trans (le_bind hnew), ?_, ?_, hm2⟩
    · intro j hj
      by_cases hjk : j = k
      · subst hjk
        rw [bind_at, bind_ne _ _ _ _ _ hne, bind_z, bind_zne _ _ _ _ _ hne]
        exact ⟨hobt.symm, rfl⟩
      · have hj' : j < k := by omega
        obtain ⟨ob2, hob2⟩ := Option.ne_none_iff_exists'.1 (h.used (t j) _ (h1 j (by omega)))
        have hne2 : olds j ≠ ι k := fun e => by have := hle.ρ _ _ hob2; rw [e, hnew] at this; cases this
        have hne3 : ι j ≠ ι k := fun e => hjk (h4 j k (by omega) (by omega) e)
        rw [bind_ne _ _ _ _ _ hne2, bind_ne _ _ _ _ _ hne3, bind_zne _ _ _ _ _ hne2, bind_zne _ _ _ _ _ hne3]
        exact hs j hj'
    · intro id hid
      rw [bind_ne _ _ _ _ _ (hid k (by omega))]
      exact hk id fun j hj => hid j (by omega)
theorem Models.resMono {τ : Sg} {Ra Rb : Toks} {W : World} (h : Models τ Ra W) (g : Nat → Nat) (hg : ∀ n m, n ≠ m → Rb n ≠ none → Rb m ≠ none → g n ≠ g m)
    (hr : ∀ n x, Rb n = some x → ∃ r0, Ra (g n) = some (x.1, r0) ∧ ∀ b o, r0.h τ x.1 b o → x.2.h τ x.1 b o) : Models τ Rb W where
  base := h.base
  n0 := h.n0
  imm := h.imm
  res n id r hn b hb := by
    obtain ⟨r0, h1, h2⟩ := hr n (id, r) hn
    obtain ⟨g1, o, g2, g3⟩ := h.res (g n) id r0 h1 b hb
    exact ⟨g1, o, g2, h2 b o g3⟩
  sep n m x y b hnm hx hy := by
    obtain ⟨r0, h1, _⟩ := hr n x hx
    obtain ⟨r1, h2, _⟩ := hr m y hy
    exact h.sep (g n) (g m) (x.1, r0) (y.1, r1) b (hg n m hnm (by simp [hx]) (by simp [hy])) h1 h2
  used n x hx := by
    obtain ⟨r0, h1, _⟩ := hr n x hx
    exact h.used (g n) (x.1, r0) h1
  fin := h.fin
def OwesN (C : Cx) (R : Ending → World → Prop) (k : Nat) (post : (Nat → Id) → Pred) (prod : (Nat → Id) → List (Id × Res)) : Prop :=
  ∀ (v : Value) (W : World) (σ : Sg) (R' : Toks) (t : Nat → Nat) (olds : Nat → Id) (r : Nat → Res) (s : Nat → Nat), Le C.σ0 σ → KeepB C σ → Models σ R' W → (∀ n, 1000000 ≤ n → R' n = C.Rf n) →
    (∀ j, j < k → R' (t j) = some (olds j, r j) ∧ t j < 1000000) → (∀ i j, i < k → j < k → t i = t j → i = j) → (∀ j, j < k → RenR (r j)) →
    (∀ τ ι, Le σ τ → (∀ j, j < k → τ.ρ (ι j) = τ.ρ (olds j) ∧ τ.z (ι j) = τ.z (olds j)) → (post ι).h τ v ∧
      (∀ n x, (prod ι)[n]? = some x → s n < 1000000 ∧ ∃ r0, updT t ι r R' k (s n) = some (x.1, r0) ∧ ∀ b o, r0.h τ x.1 b o → x.2.h τ x.1 b o) ∧
      (∀ n m, n < (prod ι).length → m < (prod ι).length → s n = s m → n = m)) → R (.returned v) W
theorem fn_ownN {P : Program} {f : FuncId} {fn : Func} {c : Code} {pre : List Pred} {need : List (Id × Res)} {k : Nat} {post : (Nat → Id) → Pred} {prod : (Nat → Id) → List (Id × Res)} {n : Nat} (hf : P.funcs[f]? = some fn) (hb : fn.body = some c) (hn : fn.ntmps = n) (hl : (Nat.ble pre.length n && Nat.ble need.length 1000000) = true)
    (h : ∀ (σ0 : Sg) (M : Nat) (Rf : Toks) (R : Ending → World → Prop), CxOK ⟨σ0, M, [], Rf, n⟩ → OwesN ⟨σ0, M, [], Rf, n⟩ R k post prod → Tr P ⟨σ0, M, [], Rf, n⟩ c (frameOf 0 pre) (tokOf 0 need) (bodyPost P fn R)) : FnOK P f pre need k post prod := by
  intro σ W R args ι M hmod hR hM hι hinj hsz hargs
  simp only [Bool.and_eq_true] at hl
  have hl' := Nat.le_of_ble_eq_true hl.1
  have hl2 := Nat.le_of_ble_eq_true hl.2
  refine calls_of_wp hf hb ?_
  refine h σ M (fun m => if m < 1000000 then none else R m) _ ⟨fun m hm => by simp [hm]⟩ ?_ _ W ⟨σ, Le.refl σ, fun _ _ _ => rfl, ?_⟩
  · intro v W' σ' R' t olds r s hle hkeep hmod' hhigh ht htinj hren hconv
    obtain ⟨τ, hleτ, hs, hk, hm⟩ := renAll hmod' t olds ι r k (fun j hj => (ht j hj).1) htinj (fun j hj => by rw [hkeep (ι j) (hι j hj).1 (by simp)]; exact (hι j hj).2) hinj hren
    obtain ⟨hp, hprod, hsinj⟩ := hconv τ ι hleτ hs
    refine ⟨v, τ, rfl, hle.trans hleτ, ?_, ?_, hp⟩
    · intro i hi hne
      rw [hk i hne]
      exact hkeep i hi (by simp)
    · refine hm.resMono (fun m => if m < 1000000 then s m else m) ?_ ?_
      · intro a b hab ha hb' e
        by_cases h1 : a < 1000000
        · simp only [h1, if_true] at ha e
          obtain ⟨x, hx⟩ := Option.ne_none_iff_exists'.1 ha
          have hax := hprod a x hx
          by_cases h2 : b < 1000000
          · simp only [h2, if_true] at hb' e
            obtain ⟨y, hy⟩ := Option.ne_none_iff_exists'.1 hb'
            exact hab (hsinj a b (List.getElem?_eq_some_iff.1 hx).1 (List.getElem?_eq_some_iff.1 hy).1 e)
          · simp only [h2, if_false] at e
            omega
        · simp only [h1, if_false] at ha e
          by_cases h2 : b < 1000000
          · simp only [h2, if_true] at hb' e
            obtain ⟨y, hy⟩ := Option.ne_none_iff_exists'.1 hb'
            have hby := hprod b y hy
            omega
          · simp only [h2, if_false] at e
            exact hab e
      · intro m x hx
        by_cases h1 : m < 1000000
        · simp only [h1, if_true] at hx ⊢
          exact (hprod m x hx).2
        · simp only [h1, if_false] at hx ⊢
          refine ⟨x.2, ?_, fun _ _ h => h⟩
          rw [updT_miss k (fun j hj e => by have := (ht j hj).2; omega), hhigh m (by omega)]
          simp only [h1, if_false]
          exact hx
  · refine ⟨by simp; omega, rfl, hmod.sub ?_, ?_⟩
    · intro m x hx
      simp only [tkf, lk_tokOf, Nat.zero_le, if_true, Nat.sub_zero] at hx
      by_cases hm : m < 1000000
      · rw [hR m hm]
        cases hnd : need[m]? with
        | none => rw [hnd] at hx; simp [hm] at hx
        | some y => rw [hnd] at hx; simpa using hx
      · have : need[m]? = none := by rw [List.getElem?_eq_none_iff]; omega
        rw [this] at hx
        simpa [hm] using hx
    · intro t p hp
      rw [lk_frameOf] at hp
      simp only [Nat.zero_le, if_true, Nat.sub_zero] at hp
      have ht : t < args.size := by rw [hsz]; exact (List.getElem?_eq_some_iff.1 hp).1
      have := hargs t p hp
      have e : (args ++ Array.replicate (fn.ntmps - args.size) undef).getD t undef = args.getD t undef := by
        simp [Array.getD, ht, show t < args.size + (fn.ntmps - args.size) by omega]
      show p.h σ ((args ++ Array.replicate (fn.ntmps - args.size) undef).getD t undef)
      rw [e]
      exact this
end Go.AL
namespace Go.AL
open Go.RowKit
/-- what is handed over: blocks that get a new name, blocks that keep theirs -/
inductive Prods (τ : Sg) (ι : Nat → Id) (L : Tk) (moves : List (Nat × Id × Res)) : List (Id × Res) → List Nat → Prop
  | nil : Prods τ ι L moves [] []
  | moved {j m : Nat} {old : Id} {r0 r : Res} {l : List (Id × Res)} {s : List Nat} (hj : moves[j]? = some (m, old, r0)) (he : ∀ b o, r0.h τ (ι j) b o → r.h τ (ι j) b o) (hl : Prods τ ι L moves l s) : Prods τ ι L moves ((ι j, r) :: l) (m :: s)
  | kept {m : Nat} {id : Id} {r0 r : Res} {l : List (Id × Res)} {s : List Nat} (hm : lk L m = some (some (id, r0))) (hn : moves.all (fun x => !Nat.beq x.1 m) = true) (he : ∀ b o, r0.h τ id b o → r.h τ id b o) (hl : Prods τ ι L moves l s) :
      Prods τ ι L moves ((id, r) :: l) (m :: s)
def Sames (τ : Sg) (ι : Nat → Id) (moves : List (Nat × Id × Res)) : Prop := ∀ (j : Nat) (x : Nat × Id × Res), moves[j]? = some x → τ.ρ (ι j) = τ.ρ x.2.1 ∧ τ.z (ι j) = τ.z x.2.1
theorem Prods.at_ {τ : Sg} {ι : Nat → Id} {L : Tk} {moves : List (Nat × Id × Res)} {Rf : Toks} {l : List (Id × Res)} {s : List Nat} (h : Prods τ ι L moves l s) (hlow : lowL L = true) (hmoves : ∀ x ∈ moves, lk L x.1 = some (some x.2)) (hnd : nodupN moves = true) :
    l.length = s.length ∧ ∀ (n : Nat) (x : Id × Res), l[n]? = some x → (s[n]?).getD 0 < 1000000 ∧ ∃ r0, updT (fun j => ((moves[j]?).map (·.1)).getD 0) ι (fun j => ((moves[j]?).map (·.2.2)).getD (tail 0 0 0)) (tkf L Rf) moves.length ((s[n]?).getD 0) = some (x.1, r0) ∧ ∀ b o, r0.h τ x.1 b o → x.2.h τ x.1 b o := by
  have hlt : ∀ m y, lk L m = some (some y) → m < 1000000 := fun m y hm => by
    rcases Nat.lt_or_ge m 1000000 with h | h
    · exact h
    · rw [lk_low hlow h] at hm; cases hm
  have hinj : ∀ i j, i < moves.length → j < moves.length → ((moves[i]?).map (·.1)).getD 0 = ((moves[j]?).map (·.1)).getD 0 → i = j := by
    intro i j hi hj e
    simp only [List.getElem?_eq_getElem hi, List.getElem?_eq_getElem hj, Option.map_some, Option.getD_some] at e
    exact nodup_inj (nodup_of hnd) (by simpa using hi) (by simpa using hj) (by simpa using e)
  induction h with
  | nil => exact ⟨rfl, fun n x hx => by simp at hx⟩
  | @moved j m old r0 r l s hj he _ ih =>
    refine ⟨by simp [ih.1], fun n x hx => ?_⟩
    cases n with
    | zero =>
      simp at hx
      subst hx
      have hjl := (List.getElem?_eq_some_iff.1 hj).1
      refine ⟨by simpa using hlt m _ (hmoves _ (List.mem_of_getElem? hj)), r0, ?_, he⟩
      have := updT_hit (t := fun j => ((moves[j]?).map (·.1)).getD 0) (ι := ι) (r := fun j => ((moves[j]?).map (·.2.2)).getD (tail 0 0 0)) (R := tkf L Rf) moves.length j hjl hinj
      simpa [hj] using this
    | succ n => simpa using ih.2 n x (by simpa using hx)
  | @kept m id r0 r l s hm hn he _ ih =>
    refine ⟨by simp [ih.1], fun n x hx => ?_⟩
    cases n with
    | zero =>
      simp at hx
      subst hx
      refine ⟨by simpa using hlt m _ hm, r0, ?_, he⟩
      simp only [List.getElem?_cons_zero, Option.getD_some]
      rw [updT_miss]
      · simp [tkf, hm]
      · intro j hj e
        rw [List.all_eq_true] at hn
        have := hn _ (List.getElem_mem hj)
        simp only [List.getElem?_eq_getElem hj, Option.map_some, Option.getD_some] at e
        rw [← e] at this
        simp at this
    | succ n => simpa using ih.2 n x (by simpa using hx)
section
variable {P : Program} {C : Cx} {F : Fr} {L : Tk} {fn : Func} {R : Ending → World → Prop} {post : (Nat → Id) → Pred} {prod : (Nat → Id) → List (Id × Res)} {moves : List (Nat × Id × Res)} {s : List Nat}
theorem owesN_use {k : Nat} {W : World} {σ : Sg} {v : Value} {p : Pred} (ho : OwesN C R k post prod) (hk : moves.length = k) (h1 : Le C.σ0 σ) (h2 : KeepB C σ) (hm : Models σ (tkf L C.Rf) W) (hv : p.h σ v) (hlow : lowL L = true)
    (hmoves : ∀ x ∈ moves, lk L x.1 = some (some x.2)) (hnd : nodupN moves = true) (hren : ∀ x ∈ moves, RenR x.2.2) (hs : nodupB s = true)
    (hconv : ∀ (τ : Sg) (ι : Nat → Id), Sames τ ι moves → (∀ v, p.h τ v → (post ι).h τ v) ∧ Prods τ ι L moves (prod ι) s) : R (.returned v) W := by
  subst hk
  refine ho v W σ (tkf L C.Rf) (fun j => ((moves[j]?).map (·.1)).getD 0) (fun j => ((moves[j]?).map (·.2.1)).getD (0, 0)) (fun j => ((moves[j]?).map (·.2.2)).getD (tail 0 0 0)) (fun n => (s[n]?).getD 0) h1 h2 hm ?_ ?_ ?_ ?_ ?_
  · intro n hn
    simp only [tkf, lk_low hlow hn]
  · intro j hj
    have hx := hmoves _ (List.getElem_mem hj)
    simp only [List.getElem?_eq_getElem hj, Option.map_some, Option.getD_some]
    refine ⟨by simp [tkf, hx], ?_⟩
    rcases Nat.lt_or_ge moves[j].1 1000000 with h | h
    · exact h
    · rw [lk_low hlow h] at hx; cases hx
  · intro i j hi hj e
    simp only [List.getElem?_eq_getElem hi, List.getElem?_eq_getElem hj, Option.map_some, Option.getD_some] at e
    exact nodup_inj (nodup_of hnd) (by simpa using hi) (by simpa using hj) (by simpa using e)
  · intro j hj
    simp only [List.getElem?_eq_getElem hj, Option.map_some, Option.getD_some]
    exact hren _ (List.getElem_mem hj)
  · intro τ ι hle hsm
    obtain ⟨g1, g2⟩ := hconv τ ι (fun j x hx => by
      have hj := (List.getElem?_eq_some_iff.1 hx).1
      have := hsm j hj
      simpa [hx] using this)
    obtain ⟨g3, g4⟩ := g2.at_ (Rf := C.Rf) hlow hmoves hnd
    refine ⟨g1 v (p.m _ _ _ hle hv), g4, fun n m hn hm e => ?_⟩
    rw [g3] at hn hm
    simp only [List.getElem?_eq_getElem hn, List.getElem?_eq_getElem hm, Option.getD_some] at e
    exact nodup_inj (nodup_of hs) hn hm e
theorem pe_ownT {k : Nat} {rs : List ResultVar} {ps : List Pred} (moves : List (Nat × Id × Res)) (s : List Nat) (hres : fn.results = rs.toArray) (hlen : Nat.beq ps.length 1 = false) (ho : OwesN C R k post prod) (hk : moves.length = k) (hlow : lowL L = true) (hr : RV P F L rs ps)
    (hmoves : ∀ x ∈ moves, lk L x.1 = some (some x.2)) (hnd : nodupN moves = true) (hren : ∀ x ∈ moves, RenR x.2.2) (hs : nodupB s = true)
    (hconv : ∀ (τ : Sg) (ι : Nat → Id), Sames τ ι moves → (∀ v, (tupP ps).h τ v → (post ι).h τ v) ∧ Prods τ ι L moves (prod ι) s) : Post C F L (bodyPost P fn R .ret) := by
  rintro a W ⟨σ, h1, h2, h3⟩
  obtain ⟨vs, hrun, hl, hv⟩ := hr.run h3
  have hne : ¬ vs.length = 1 := fun e => by rw [hl] at e; rw [e] at hlen; simp at hlen
  refine ⟨h3.defers, .tuple vs.toArray, ?_, ?_⟩
  · have := run_results' (P := P) hres a W hrun
    rwa [dif_neg hne] at this
  · exact owesN_use (v := .tuple vs.toArray) (p := tupP ps) ho hk h1 h2 h3.mod ⟨vs, rfl, hl, hv⟩ hlow hmoves hnd hren hs hconv
theorem pe_ownS {k : Nat} {r : ResultVar} {p : Pred} (moves : List (Nat × Id × Res)) (s : List Nat) (hres : fn.results = #[r]) (ho : OwesN C R k post prod) (hk : moves.length = k) (hlow : lowL L = true) (hr : RV P F L [r] [p])
    (hmoves : ∀ x ∈ moves, lk L x.1 = some (some x.2)) (hnd : nodupN moves = true) (hren : ∀ x ∈ moves, RenR x.2.2) (hs : nodupB s = true)
    (hconv : ∀ (τ : Sg) (ι : Nat → Id), Sames τ ι moves → (∀ v, p.h τ v → (post ι).h τ v) ∧ Prods τ ι L moves (prod ι) s) : Post C F L (bodyPost P fn R .ret) := by
  rintro a W ⟨σ, h1, h2, h3⟩
  obtain ⟨vs, hrun, hl, hv⟩ := hr.run h3
  obtain ⟨v, rfl⟩ : ∃ v, vs = [v] := by
    match vs, hl with
    | [v], _ => exact ⟨v, rfl⟩
  refine ⟨h3.defers, v, run_results' (rs := [r]) hres a W hrun, ?_⟩
  exact owesN_use (v := v) (p := p) ho hk h1 h2 h3.mod (hv 0 p v rfl rfl) hlow hmoves hnd hren hs hconv
end
inductive EntsAt (τ : Sg) : List Pred → List Pred → Prop
  | nil : EntsAt τ [] []
  | cons {p q : Pred} {ps qs : List Pred} (h : ∀ v, p.h τ v → q.h τ v) (t : EntsAt τ ps qs) : EntsAt τ (p :: ps) (q :: qs)
theorem EntsAt.vs {τ : Sg} {ps qs : List Pred} (h : EntsAt τ ps qs) : ∀ vs, Vs τ ps vs → Vs τ qs vs := by
  induction h with
  | nil => exact fun vs h => h
  | @cons p q ps qs h _ ih =>
    intro vs hv
    match vs, hv with
    | [], hv => exact absurd hv.1 (by simp)
    | v :: vs, hv =>
      have h2 := ih vs ⟨by have := hv.1; simpa using this, fun j p u hp hu => hv.2 (j + 1) p u (by simpa using hp) (by simpa using hu)⟩
      refine ⟨by simp [h2.1], fun j p' u hp hu => ?_⟩
      cases j with
      | zero =>
        simp at hp hu
        subst hp
        subst hu
        have := hv.2 0 p v rfl rfl
        exact ⟨h v this.1, this.2⟩
      | succ j => exact h2.2 j p' u (by simpa using hp) (by simpa using hu)
theorem blk_ents {τ : Sg} {κ : Nat} {T : TypeId} {ps qs : List Pred} (h : EntsAt τ ps qs) {id : Id} : ∀ b o, (blkX κ T ps).h τ id b o → (blkX κ T qs).h τ id b o := by
  rintro b o ⟨cs, rest, ho, hv, hz, hn⟩
  exact ⟨cs, rest, ho, h.vs cs hv, hz, hn⟩
end Go.AL


namespace Go.AL
open Go.RowKit
section
variable {P : Program} {n N : Nat} {F : Fr} {R : Toks} {d : Option Nat} {T t t' e K E : TypeId} {pos : String} {after : Array Edge} {x y : Operand} {id : Id} {k bytes : Nat}
end
end Go.AL


namespace Go.AL
open Go.RowKit
theorem SubF.append {F A B : Fr} (h : SubF F A) (k : SubF F B) : SubF F (A ++ B) := by
  induction h with
  | nil => exact k
  | cons h _ ih => exact .cons h ih
  | ent h he _ ih => exact .ent h he ih
theorem SubL.append {L A B : Tk} (h : SubL L A) (k : SubL L B) : SubL L (A ++ B) := by
  induction h with
  | nil => exact k
  | cons h _ ih => exact .cons h ih
section
variable {P : Program} {C : Cx} {F : Fr} {L : Tk} {Q : Exit → Act → World → Prop}
/-- a loop of which what changes is said; the rest stays -/
theorem tr_loopK {α : Type} {c : Code} {Fk : Fr} {Lk : Tk} (x0 : α) (Fx : α → Fr) (Lx : α → Tk) (μ : α → Nat) (hC : CxOK C) (hF : SubF F Fk) (hL : SubL L Lk) (hlow : lowL L = true)
    (h0 : SubF F (Fx x0)) (l0 : SubL L (Lx x0))
    (round : ∀ x, Tr P C c (Fx x ++ Fk) (Lx x ++ Lk) (Exit.then (fun a W => ∃ y, μ y < μ x ∧ St C (Fx y ++ Fk) (Lx y ++ Lk) a W) Q)) : Tr P C (.loop c) F L Q :=
  tr_loop x0 (fun x => Fx x ++ Fk) (fun x => Lx x ++ Lk) μ (pe_st hC (h0.append hF) (l0.append hL) hlow) round
end
/-- the blocks that get a new name -/
inductive Moves (L : Tk) : List (Nat × Id × Res) → Prop
  | nil : Moves L []
  | cons {m : Nat} {id : Id} {r : Res} {l : List (Nat × Id × Res)} (h : lk L m = some (some (id, r))) (hr : RenR r) (hl : Moves L l) : Moves L ((m, id, r) :: l)
theorem Moves.at_ {L : Tk} {l : List (Nat × Id × Res)} (h : Moves L l) : (∀ x ∈ l, lk L x.1 = some (some x.2)) ∧ ∀ x ∈ l, RenR x.2.2 := by
  induction h with
  | nil => exact ⟨by simp, by simp⟩
  | cons h hr _ ih =>
    refine ⟨fun x hx => ?_, fun x hx => ?_⟩
    · rcases List.mem_cons.1 hx with rfl | hx
      · exact h
      · exact ih.1 x hx
    · rcases List.mem_cons.1 hx with rfl | hx
      · exact hr
      · exact ih.2 x hx
section
variable {P : Program} {C : Cx} {F : Fr} {L : Tk} {fn : Func} {R : Ending → World → Prop} {post : (Nat → Id) → Pred} {prod : (Nat → Id) → List (Id × Res)} {moves : List (Nat × Id × Res)}
theorem pe_ownT' {k : Nat} {rs : List ResultVar} {ps : List Pred} (s : List Nat) (hres : fn.results = rs.toArray) (hlen : Nat.beq ps.length 1 = false) (ho : OwesN C R k post prod) (hlow : lowL L = true) (hr : RV P F L rs ps)
    (hm : Moves L moves) (hk : moves.length = k) (hnd : nodupN moves = true) (hs : nodupB s = true)
    (hconv : ∀ (τ : Sg) (ι : Nat → Id), Sames τ ι moves → (∀ v, (tupP ps).h τ v → (post ι).h τ v) ∧ Prods τ ι L moves (prod ι) s) : Post C F L (bodyPost P fn R .ret) :=
  pe_ownT moves s hres hlen ho hk hlow hr hm.at_.1 hnd hm.at_.2 hs hconv
theorem pe_ownS' {k : Nat} {r : ResultVar} {p : Pred} (s : List Nat) (hres : fn.results = #[r]) (ho : OwesN C R k post prod) (hlow : lowL L = true) (hr : RV P F L [r] [p])
    (hm : Moves L moves) (hk : moves.length = k) (hnd : nodupN moves = true) (hs : nodupB s = true)
    (hconv : ∀ (τ : Sg) (ι : Nat → Id), Sames τ ι moves → (∀ v, p.h τ v → (post ι).h τ v) ∧ Prods τ ι L moves (prod ι) s) : Post C F L (bodyPost P fn R .ret) :=
  pe_ownS moves s hres ho hk hlow hr hm.at_.1 hnd hm.at_.2 hs hconv
end
theorem aggP_at {τ : Sg} {ps qs : List Pred} (h : EntsAt τ ps qs) : ∀ v, (aggP ps).h τ v → (aggP qs).h τ v := by
  rintro v ⟨cs, hv, hc⟩
  exact ⟨cs, hv, h.vs cs hc⟩
theorem tupP_at {τ : Sg} {ps qs : List Pred} (h : EntsAt τ ps qs) : ∀ v, (tupP ps).h τ v → (tupP qs).h τ v := by
  intro v hv
  obtain ⟨cs, rfl, hl, hc⟩ := hv
  refine ⟨cs, rfl, ?_, ?_⟩
  · clear hc
    induction h generalizing cs with
    | nil => exact hl
    | cons h t ih =>
      cases cs with
      | nil => simp at hl
      | cons c cs => simpa using ih cs (by simpa using hl)
  · clear hl
    intro j p u hp hu
    induction h generalizing cs j with
    | nil => simp at hp
    | @cons p' q' ps qs h t ih =>
      cases cs with
      | nil => simp at hu
      | cons c cs =>
        cases j with
        | zero =>
          simp at hp hu
          subst hp
          subst hu
          exact h c (hc 0 p' c rfl rfl)
        | succ j => exact ih cs (fun j p u hp hu => hc (j + 1) p u (by simpa using hp) (by simpa using hu)) j (by simpa using hp) (by simpa using hu)
theorem ent_at {p q : Pred} (h : Ent p q) {τ : Sg} : ∀ v, p.h τ v → q.h τ v := fun v hv => h τ v hv
theorem mv_ren {τ : Sg} {old new : Id} {k off n c : Nat} (h1 : τ.ρ new = τ.ρ old) (h2 : τ.z new = τ.z old) : ∀ v, (mvP old k off n c).h τ v → (mvP new k off n c).h τ v := fun v h => (Ren.mv k off n c 0 0 []).p τ old new v h1 h2 h
end Go.AL


namespace Go.AL
open Go.RowKit
def Fact (p : Pred) (φ : Prop) : Prop := ∀ σ v, p.h σ v → φ
theorem Fact.sl {α : Type} (f : α → List Pred) (n : Nat) (xs : List α) : Fact (slP f n xs) (xs.length ≤ 9223372036854775807) := fun _ _ ⟨_, _, _, h1, h2, _⟩ => by unfold maxLen at h2; omega
theorem Fact.row {α : Type} (id : Id) (f : α → List Pred) (n : Nat) (xs : List α) : Fact (rowP id f n xs) (xs.length ≤ 9223372036854775807) := fun σ v h => Fact.sl f n xs σ v (Ent.row id f n xs σ v h)
theorem Fact.mv (id : Id) (k off n c : Nat) : Fact (mvP id k off n c) (n ≤ 9223372036854775807) := fun _ _ ⟨_, _, h1, h2, _⟩ => by unfold maxLen at h2; omega
theorem Fact.agg {ps : List Pred} {p : Pred} {φ : Prop} (j : Nat) (h : ps[j]? = some p) (hf : Fact p φ) : Fact (aggP ps) φ := fun σ v ⟨cs, _, hc⟩ => by
  have hlt : j < cs.length := by rw [hc.1]; exact (List.getElem?_eq_some_iff.1 h).1
  exact hf σ _ (hc.2 j p _ h (List.getElem?_eq_getElem hlt)).1
theorem Fact.cells {ps : List Pred} {p : Pred} {φ : Prop} (j : Nat) (h : ps[j]? = some p) (hf : Fact p φ) : Fact (cellsP ps) φ := fun σ v ⟨b, off, _, hc⟩ => by
  obtain ⟨u, _, hu⟩ := hc j p h
  exact hf σ u hu.1
/-- the cells of the elements of a slice bear facts, too -/
theorem Fact.each {α : Type} {f : α → List Pred} {n : Nat} {xs : List α} {φ : α → Prop} (h : ∀ x, ∃ (j : Nat) (p : Pred), (f x)[j]? = some p ∧ Fact p (φ x)) : Fact (slP f n xs) (∀ x ∈ xs, φ x) := fun σ v ⟨a, cap, _, _, _, h3⟩ x hx => by
  obtain ⟨i, hi⟩ := List.mem_iff_getElem?.1 hx
  obtain ⟨b, off, _, hc⟩ := h3 (by have := (List.getElem?_eq_some_iff.1 hi).1; omega)
  obtain ⟨j, p, hp, hf⟩ := h x
  obtain ⟨u, _, hu⟩ := hc i x hi j p hp
  exact hf σ u hu.1
theorem Fact.and {p : Pred} {φ ψ : Prop} (h : Fact p φ) (k : Fact p ψ) : Fact p (φ ∧ ψ) := fun σ v x => ⟨h σ v x, k σ v x⟩
theorem tr_fact {P : Program} {C : Cx} {F : Fr} {L : Tk} {Q : Exit → Act → World → Prop} {c : Code} {t : Nat} {p : Pred} {φ : Prop} (ht : lk F t = some p) (hf : Fact p φ) (h : φ → Tr P C c F L Q) : Tr P C c F L Q := by
  rintro a W ⟨σ, h1, h2, h3⟩
  exact h (hf σ _ (h3.fr t p ht)) a W ⟨σ, h1, h2, h3⟩
section
variable {α : Type} {f : α → List Pred} {k : Nat}
theorem flatMap_cut (hk : ∀ z, (f z).length = k) : ∀ (xs : List α) (j : Nat) (z : α), xs[j]? = some z → (xs.flatMap f) = (xs.take j).flatMap f ++ (f z ++ (xs.drop (j + 1)).flatMap f)
  | [], j, z, h => by simp at h
  | x :: xs, 0, z, h => by simp at h; subst h; simp [List.flatMap_cons]
  | x :: xs, j + 1, z, h => by
    have := flatMap_cut hk xs j z (by simpa using h)
    simp only [List.flatMap_cons, List.take_succ_cons, List.drop_succ_cons, List.append_assoc]
    rw [this]
theorem flatMap_take_len (hk : ∀ z, (f z).length = k) {xs : List α} {j : Nat} (hj : j ≤ xs.length) : ((xs.take j).flatMap f).length = j * k := by
  rw [flatMap_len hk, List.length_take, Nat.min_eq_left hj]
theorem flatMap_part (hk : ∀ z, (f z).length = k) {xs : List α} {j fo n : Nat} {z : α} (hz : xs[j]? = some z) (hn : fo + n ≤ k) : ((xs.flatMap f).drop (j * k + fo)).take n = ((f z).drop fo).take n := by
  have hj : j < xs.length := (List.getElem?_eq_some_iff.1 hz).1
  rw [flatMap_cut hk xs j z hz, ← List.drop_drop]
  have hl := flatMap_take_len hk (xs := xs) (j := j) (by omega)
  rw [List.drop_left' hl, List.drop_append_of_le_length (by rw [hk]; omega), List.take_append_of_le_length (by rw [List.length_drop, hk]; omega)]
theorem flatMap_splice (hk : ∀ z, (f z).length = k) {xs : List α} {j fo : Nat} {z z' : α} {qs : List Pred} (hz : xs[j]? = some z) (hn : fo + qs.length ≤ k) (hs : splice (f z) fo qs = f z') : splice (xs.flatMap f) (j * k + fo) qs = (xs.set j z').flatMap f := by
  have hj : j < xs.length := (List.getElem?_eq_some_iff.1 hz).1
  have hl := flatMap_take_len hk (xs := xs) (j := j) (by omega)
  have hz2 : (xs.set j z')[j]? = some z' := by simp [hj]
  rw [flatMap_cut hk xs j z hz, flatMap_cut hk (xs.set j z') j z' hz2, ← hs]
  unfold splice
  have e1 : (xs.set j z').take j = xs.take j := by rw [List.take_set_of_le (Nat.le_refl _)]
  have e2 : (xs.set j z').drop (j + 1) = xs.drop (j + 1) := by rw [List.drop_set_of_lt (by omega)]
  rw [e1, e2, ← hl, List.take_length_add_append, Nat.add_assoc, List.drop_length_add_append, List.take_append_of_le_length (by rw [hk]; omega), List.drop_append_of_le_length (by rw [hk]; omega)]
  simp [List.append_assoc]
end
section
variable {P : Program} {n N : Nat} {F : Fr} {R : Toks} {d : Option Nat} {T Ty : TypeId} {pos : String} {after : Array Edge} {α : Type} {f : α → List Pred} {k : Nat} {xs : List α} {id : Id} {m κ : Nat} {B : TypeId}
/-- a load of a whole element, of a part of one, of one cell of one -/
theorem op_tload {x : Operand} {off j fo w : Nat} {z : α} {qs : List Pred} (hx : opd F x = some (ptrP id off)) (hR : R m = some (id, blkX κ B (xs.flatMap f))) (ha : aggB P Ty = some true) (hs : sizeB P Ty = some w)
    (hk : ∀ z, (f z).length = k) (hoff : off = j * k + fo) (hz : xs[j]? = some z) (hw : Nat.ble (fo + w) k = true) (hq : ((f z).drop fo).take w = qs) :
    OpJ P n N F R ⟨d, .load Ty x, T, pos, after, none⟩ ⟨rdo x (ptrP id off), [(m, id, blkX κ B (xs.flatMap f))], [], [], [], aggP qs⟩ := by
  have hw' := Nat.le_of_ble_eq_true hw
  have hj : j < xs.length := (List.getElem?_eq_some_iff.1 hz).1
  refine op_bload_part hx hR ha hs ?_ (by rw [hoff, flatMap_part hk hz hw', hq])
  have : (j + 1) * k ≤ xs.length * k := Nat.mul_le_mul_right _ hj
  rw [Nat.succ_mul] at this
  rw [flatMap_len hk, Nat.ble_eq]
  omega
theorem op_tload_one {x : Operand} {off j fo : Nat} {z : α} {p : Pred} (hx : opd F x = some (ptrP id off)) (hR : R m = some (id, blkX κ B (xs.flatMap f))) (ha : aggB P Ty = some false)
    (hk : ∀ z, (f z).length = k) (hoff : off = j * k + fo) (hz : xs[j]? = some z) (hp : (f z)[fo]? = some p) :
    OpJ P n N F R ⟨d, .load Ty x, T, pos, after, none⟩ ⟨rdo x (ptrP id off), [(m, id, blkX κ B (xs.flatMap f))], [], [], [], p⟩ :=
  op_bload_one hx hR ha (by rw [hoff]; exact flatMap_at hk xs j z hz fo p hp)
/-- a store into an element -/
theorem op_tstore {x y : Operand} {off j fo w : Nat} {z z' : α} {p : Pred} {qs : List Pred} (hx : opd F x = some (ptrP id off)) (hy : opd F y = some p) (hR : R m = some (id, blkX κ B (xs.flatMap f))) (hv : Val p qs) (hs : sizeB P Ty = some w) (hl : Nat.beq qs.length w = true)
    (hk : ∀ z, (f z).length = k) (hoff : off = j * k + fo) (hz : xs[j]? = some z) (hw : Nat.ble (fo + w) k = true) (hq : splice (f z) fo qs = f z') :
    OpJ P n N F R ⟨none, .store Ty x y, T, pos, after, none⟩ ⟨rdo x (ptrP id off) ++ rdo y p, [], [(m, id, blkX κ B (xs.flatMap f))], [(m, id, blkX κ B ((xs.set j z').flatMap f))], [], eqP undef⟩ := by
  have hw' := Nat.le_of_ble_eq_true hw
  have hl' := Nat.eq_of_beq_eq_true hl
  have hj : j < xs.length := (List.getElem?_eq_some_iff.1 hz).1
  refine op_store hx hy hR hv hs hl ?_ (by rw [hoff]; exact flatMap_splice hk hz (by omega) hq)
  have : (j + 1) * k ≤ xs.length * k := Nat.mul_le_mul_right _ hj
  rw [Nat.succ_mul] at this
  rw [flatMap_len hk, Nat.ble_eq]
  omega
end
section
variable {P : Program} {C : Cx} {F : Fr} {L : Tk} {Q : Exit → Act → World → Prop} {c : Code}
inductive SubX (L : Tk) : Tk → Prop
  | nil : SubX L []
  | cons {t : Nat} {id : Id} {r r' : Res} {l : Tk} (h : lk L t = some (some (id, r))) (he : ∀ σ b o, r.h σ id b o → r'.h σ id b o) (hl : SubX L l) : SubX L ((t, some (id, r')) :: l)
theorem SubX.sub {Rf : Toks} (hlowRf : ∀ m, m < 1000000 → Rf m = none) {L L' : Tk} (h : SubX L L') (hlow : lowL L = true) : ∀ m x, tkf L' Rf m = some x → ∃ r0, tkf L Rf m = some (x.1, r0) ∧ ∀ σ b o, r0.h σ x.1 b o → x.2.h σ x.1 b o := by
  induction h with
  | nil =>
    intro m x hx
    simp only [tkf, lk] at hx
    by_cases hm : m < 1000000
    · rw [hlowRf m hm] at hx; cases hx
    · exact ⟨x.2, by simp only [tkf, lk_low hlow (Nat.le_of_not_lt hm)]; exact hx, fun _ _ _ h => h⟩
  | @cons t id r r' l ht he _ ih =>
    intro m x hx
    simp only [tkf, lk_cons] at hx
    by_cases e : t = m
    · subst e
      simp at hx
      subst hx
      exact ⟨r, by simp [tkf, ht], he⟩
    · simp only [e, if_false] at hx
      exact ih m x hx
end
theorem blk_ents' {κ : Nat} {T : TypeId} {ps qs : List Pred} (h : Ents ps qs) : ∀ (σ : Sg) (id : Id) (b : Nat) (o : Obj), (blkX κ T ps).h σ id b o → (blkX κ T qs).h σ id b o := by
  rintro σ id b o ⟨cs, rest, ho, hv, hz, hn⟩
  exact ⟨cs, rest, ho, hv.ents h, hz, hn⟩
section
variable {P : Program} {n N : Nat} {F : Fr} {R : Toks} {d : Option Nat} {T : TypeId} {pos : String} {after : Array Edge} {α : Type} {f : α → List Pred} {k bytes : Nat} {xs ys : List α} {t e : TypeId} {id : Id}
/-- **append to a list of the call's own whose cells may be written** -/
theorem op_append_t {x y : Operand} {m m' kk : Nat} {z : Value} (hx : opd F x = some (mvP id k 0 xs.length xs.length)) (hy : opd F y = some (slP f k ys)) (hR : R m = some (id, blkX k e (xs.flatMap f))) (hm' : m' = m ∨ R m' = none)
    (ht : elemB P t = some e) (hz : zeroB P e = some (some z)) (hs : sizeB P e = some k) (hby : bytesB P e = some bytes) (hzs : z.cells.size = k) (hk0 : k ≠ 0) (hk : ∀ z, (f z).length = k)
    (h63 : xs.length + ys.length ≤ 1152921504606846976) (hbytes : (xs.length + ys.length) * bytes ≤ 140737488355328) :
    OpJ P n N F R ⟨d, .call { callee := .builtin .append, args := #[x, y], argTypes := #[t, t] }, T, pos, after, none⟩
      ⟨rdo x (mvP id k 0 xs.length xs.length) ++ rdo y (slP f k ys), [], [(m, (id, blkX k e (xs.flatMap f)))], [(m', ((N, kk), blkX k e ((xs ++ ys).flatMap f)))], [kk], mvP (N, kk) k 0 (xs ++ ys).length (xs ++ ys).length⟩ := by
  have := op_append_mut (P := P) (n := n) (N := N) (F := F) (R := R) (d := d) (T := T) (pos := pos) (after := after) (m := m) (m' := m') (kk := kk) (f := f) hx hy hR hm' ht hz hs hby hzs hk0 (flatMap_len hk xs) hk h63 hbytes
  rw [List.flatMap_append, List.length_append]
  exact this
theorem flatten_rep (c : Nat) (z : α) : (List.replicate c (f z)).flatten = (List.replicate c z).flatMap f := by
  induction c with
  | zero => rfl
  | succ c ih => simp [List.replicate_succ, ih]
end
section
variable {P : Program} {C : Cx} {F : Fr} {L : Tk} {fn : Func} {R : Ending → World → Prop} {post : (Nat → Id) → Pred} {prod : (Nat → Id) → List (Id × Res)} {moves : List (Nat × Id × Res)}
end
end Go.AL
namespace Go.AL
open Go.RowKit
inductive TokIn (R : Toks) : List (Nat × Id × Res) → Prop
  | nil : TokIn R []
  | cons {m : Nat} {id : Id} {r : Res} {l : List (Nat × Id × Res)} (h : R m = some (id, r)) (t : TokIn R l) : TokIn R ((m, id, r) :: l)
theorem TokIn.at_ {R : Toks} {l : List (Nat × Id × Res)} (h : TokIn R l) : ∀ x ∈ l, R x.1 = some x.2 := by
  induction h with
  | nil => intro x hx; cases hx
  | cons h _ ih =>
    intro x hx
    rcases List.mem_cons.1 hx with rfl | hx
    · exact h
    · exact ih x hx
inductive AddOK (R : Toks) (del : List (Nat × Id × Res)) : List (Nat × Id × Res) → Prop
  | nil : AddOK R del []
  | new {m : Nat} {x : Id × Res} {l : List (Nat × Id × Res)} (h : R m = none) (t : AddOK R del l) : AddOK R del ((m, x) :: l)
  | old {m : Nat} {x : Id × Res} {l : List (Nat × Id × Res)} (h : del.any (fun y => y.1 == m) = true) (t : AddOK R del l) : AddOK R del ((m, x) :: l)
theorem AddOK.at_ {R : Toks} {del l : List (Nat × Id × Res)} (h : AddOK R del l) : ∀ x ∈ l, R x.1 = none ∨ del.any (fun y => y.1 == x.1) = true := by
  induction h with
  | nil => intro x hx; cases hx
  | new h _ ih =>
    intro x hx
    rcases List.mem_cons.1 hx with rfl | hx
    · exact .inl h
    · exact ih x hx
  | old h _ ih =>
    intro x hx
    rcases List.mem_cons.1 hx with rfl | hx
    · exact .inr h
    · exact ih x hx
section
variable {P : Program} {n N : Nat} {F : Fr} {R : Toks} {d : Option Nat} {T : TypeId} {pos : String} {after : Array Edge}
/-- **a call, blocks handed over and taken back** -/
theorem op_callG2 {f : FuncId} {l : List Operand} {ts : Array TypeId} {pre : List Pred} {k : Nat} {post : (Nat → Id) → Pred} {prod : (Nat → Id) → List (Id × Res)} {rd : List (Nat × Pred)} {del add : List (Nat × Id × Res)} {ks : List Nat} {φ : Pred}
    (hdel : TokIn R del) (hc : FnOK P f pre (del.map (·.2)) k post prod) (hargs : Args F l pre rd) (hf : fnB P f = true) (hk : ks.length = k) (hφ : post (fun j => (N, ks.getD j 0)) = φ) (hprod : prod (fun j => (N, ks.getD j 0)) = add.map (·.2))
    (hadd : AddOK R del add) (hnd : (nodupN del && nodupN add && nodupB ks && Nat.ble add.length 1000000) = true) :
    OpJ P n N F R ⟨d, .call { callee := .value (.func f), args := l.toArray, argTypes := ts }, T, pos, after, none⟩ ⟨rd, [], del, add, ks, φ⟩ :=
  hφ ▸ op_callG hc hargs hf hk hprod hnd hdel.at_ hadd.at_
end
end Go.AL
namespace Go.AL
open Go.RowKit
section
variable {P : Program} {n N : Nat} {F : Fr} {R : Toks} {d : Option Nat} {T : TypeId} {pos : String} {after : Array Edge} {α : Type} {f : α → List Pred} {k : Nat} {xs : List α} {t e : TypeId}
/-- '[]T{..}': a row of the call's own -/
theorem op_buildRow {len m' kk : Nat} {l : List (Nat × Operand)} {rd : List (Nat × Pred)} {z : Value} (hz : zeroB P e = some (some z)) (h1 : z.cells.toList.all Value.oneCell' = true) (hzs : z.cells.size = k) (hk0 : 0 < k) (ht : elemB P t = some e) (hs : sizeB P e = some k)
    (hk : ∀ z, (f z).length = k) (hl : Elems F f 0 l xs rd) (hlen : xs.length = len) (hbig : len * k ≤ 16777216) (hm' : R m' = none) :
    OpJ P n N F R ⟨d, .buildSlice t len l.toArray, T, pos, after, none⟩ ⟨rd, [], [], [(m', ((N, kk), tail e k (xs.length * k)))], [kk], rowP (N, kk) f k xs⟩ where
  loc := by
    intro σ W R a K hm h2 h3 h4 h5 h6 h7 h8 h9 Q
    have hid := h8 kk (by simp)
    have hRm' : R m' = none := by have h := h7 (m', ((N, kk), tail e k (xs.length * k))) (by simp); simpa using h
    subst hlen
    have hzc : Vs σ ((List.replicate xs.length (z.cells.toList.map eqP)).flatten) ((Array.range (xs.length * k)).map (z.cells[· % z.cells.size]!)).toList := by
      have e1 : ((Array.range (xs.length * k)).map (z.cells[· % z.cells.size]!)).toList = (List.replicate xs.length z.cells.toList).flatten := by
        have := @flatten_replicate_range z.cells k hzs hk0 xs.length
        simpa using this
      rw [e1]
      have e2 : (List.replicate xs.length (z.cells.toList.map eqP)).flatten = ((List.replicate xs.length z.cells.toList).flatten).map eqP := by simp [List.map_flatten]
      rw [e2]
      exact Vs.eqs (by
        rw [List.all_eq_true]
        intro v hv
        obtain ⟨y, hy, hv⟩ := List.mem_flatten.1 hv
        rw [List.mem_replicate] at hy
        rw [hy.2] at hv
        exact List.all_eq_true.1 h1 v hv)
    obtain ⟨cells', hc', hv'⟩ := run_elems hl hk h4 _ _ hzc (by simp [hzs])
    simp only [Nat.zero_mul, List.take_zero, List.nil_append] at hv'
    have hcl : cells'.toList.length = xs.length * k := by rw [hv'.1]; exact flatMap_len hk xs
    have hmax : xs.length ≤ maxLen := by
      unfold maxLen
      rcases Nat.eq_zero_or_pos xs.length with h | h
      · omega
      · have : xs.length * 1 ≤ xs.length * k := Nat.mul_le_mul_left _ hk0
        omega
    obtain ⟨hmod, hrow⟩ := hm.rowNew (e := e) (xs := xs) (rest := []) hid hRm' hk hv' (cap := xs.length) (by rw [List.append_nil]; exact hcl) (Nat.le_refl _) hmax _ rfl
    refine wp_value (v := .slice (some ⟨W.heap.size, 0, none⟩) xs.length xs.length) (W' := W.alloc (.cells (cells'.toList ++ []).toArray e)) ?_ (h9 _ _ _ (le_bindC hid) (fun q _ hq => bind_ne _ _ _ _ _ (hq kk (by simp))) (hmod.congr (updR_new ..)) hrow)
    have hla : (l.toArray.map fun (i, x) => (i, a.eval x)).toList = l.map fun (i, x) => (i, a.eval x) := by simp
    simp only [execOp, Instr.buildSlice, Sem.run_bind, run_underlying (elem_of ht), Result.andThen_ok, run_sizeOf' hs]
    rw [show (2 : Nat) ^ 24 = 16777216 from rfl, if_neg (by omega)]
    by_cases h0 : xs.length * k = 0
    · have hr0 : (Array.range (xs.length * k)).map ((#[] : Array Value)[· % (#[] : Array Value).size]!) = (Array.range (xs.length * k)).map (z.cells[· % z.cells.size]!) := by simp [h0]
      simp only [if_pos h0, Sem.run_bind, Sem.run_pure, Result.andThen_ok, hr0, hla, hc', newRow]
      simp
    · simp only [if_neg h0, Sem.run_bind, run_zero hz, Sem.run_pure, Result.andThen_ok, hla, hc', newRow]
      simp
  rd := hl.rd
  use := by simp
  del := by simp
  add := by simpa using hm'
end
end Go.AL


namespace Go.AL
theorem entB {b c : Bool} (e : b = c) : Ent (eqP (.bool b)) (eqP (.bool c)) := Ent.of_eq (by rw [e])
theorem entI {k : IntKind} {b c : Int} (e : b = c) : Ent (eqP (.int k b)) (eqP (.int k c)) := Ent.of_eq (by rw [e])
def idxF {α : Type} (φ : α → Bool) (l : List α) : Int := match l.findIdx? φ with | some i => (i : Int) | none => -1
section
variable {α : Type} {φ : α → Bool} {l : List α} {k : Nat}
theorem idxF_any (φ : α → Bool) (l : List α) : decide (idxF φ l ≥ 0) = l.any φ := by
  unfold idxF
  cases h : l.findIdx? φ with
  | some i =>
    obtain ⟨hi, hp, _⟩ := List.findIdx?_eq_some_iff_getElem.1 h
    have : l.any φ = true := List.any_eq_true.2 ⟨l[i], List.getElem_mem hi, hp⟩
    rw [this]
    simp
  | none =>
    have := List.findIdx?_eq_none_iff.1 h
    have h2 : l.any φ = false := by rw [List.any_eq_false]; intro x hx; simpa using this x hx
    rw [h2]
    simp
theorem findIdx_at (hk : k < l.length) (h : ∀ x ∈ l.take k, φ x = false) (hp : φ l[k] = true) : l.findIdx? φ = some k := by
  rw [List.findIdx?_eq_some_iff_getElem]
  refine ⟨hk, hp, fun j hj => ?_⟩
  have : l[j] ∈ l.take k := by
    rw [List.mem_iff_getElem]
    exact ⟨j, by simp; omega, by simp⟩
  simpa using h _ this
theorem idxF_at (hk : k < l.length) (h : ∀ x ∈ l.take k, φ x = false) (hp : φ l[k] = true) : idxF φ l = k := by
  simp [idxF, findIdx_at hk h hp]
theorem idxF_none (h : ∀ x ∈ l, φ x = false) : idxF φ l = -1 := by
  have : l.findIdx? φ = none := by rw [List.findIdx?_eq_none_iff]; intro x hx; simpa using h x hx
  simp [idxF, this]
theorem take_all (h : ∀ x ∈ l.take k, φ x = false) (hk : k < l.length) (hp : φ l[k] = false) : ∀ x ∈ l.take (k + 1), φ x = false := by
  intro x hx
  rw [List.take_succ_eq_append_getElem hk] at hx
  rcases List.mem_append.1 hx with h1 | h1
  · exact h x h1
  · simp at h1; rw [h1]; exact hp
theorem all_step (h : (l.take k).all φ = true) (hk : k < l.length) (hp : φ l[k] = true) : (l.take (k + 1)).all φ = true := by
  rw [List.take_succ_eq_append_getElem hk, List.all_append, h]
  simp [hp]
theorem all_end (h : (l.take k).all φ = true) (hk : l.length ≤ k) : l.all φ = true := by rwa [List.take_of_length_le hk] at h
theorem all_bad (hk : k < l.length) (hp : φ l[k] = false) : l.all φ = false := by
  rw [List.all_eq_false]
  exact ⟨_, List.getElem_mem hk, by simp [hp]⟩
theorem take_step {xs ys : List α} (h : xs.take k = ys.take k) (hx : k < xs.length) (hy : k < ys.length) (he : xs[k] = ys[k]) : xs.take (k + 1) = ys.take (k + 1) := by
  rw [List.take_succ_eq_append_getElem hx, List.take_succ_eq_append_getElem hy, h, he]
theorem take_end {xs ys : List α} (h : xs.take k = ys.take k) (hx : xs.length ≤ k) (hy : ys.length ≤ k) : xs = ys := by
  rwa [List.take_of_length_le hx, List.take_of_length_le hy] at h
theorem ne_at [DecidableEq α] {xs ys : List α} (hx : k < xs.length) (hy : k < ys.length) (he : xs[k] ≠ ys[k]) : decide (xs = ys) = false := by
  refine decide_eq_false fun e => ?_
  subst e
  exact he rfl
theorem drop_at (hk : k < l.length) : l.drop k = l[k] :: l.drop (k + 1) := List.drop_eq_getElem_cons hk
theorem take_at (hk : k < l.length) : l.take (k + 1) = l.take k ++ [l[k]] := List.take_succ_eq_append_getElem hk
end
end Go.AL


namespace Go.AL
open Go.RowKit
/-- a slice over a new block of the call's own, all its cells zero: n of them -/
def growP (id : Id) (n : Nat) : Pred := ⟨fun σ v => ∃ b, σ.ρ id = some (some b) ∧ v = .slice (some ⟨b, 0, none⟩) n (σ.z id) ∧ n ≤ σ.z id ∧ σ.z id ≤ maxLen, fun _ _ _ hle ⟨b, hb, hv, h1, h2⟩ =>
  ⟨b, hle.ρ _ _ hb, by rw [hle.z _ _ hb]; exact hv, by rw [hle.z _ _ hb]; exact h1, by rw [hle.z _ _ hb]; exact h2⟩⟩
section
variable {P : Program} {n N : Nat} {F : Fr} {R : Toks} {d : Option Nat} {T t tn e : TypeId} {pos : String} {after : Array Edge} {x y : Operand} {k bytes : Nat} {ik kn : IntKind}
theorem op_len_nil (hx : opd F x = some (eqP (.slice none 0 0))) (ht : elemB P t = some e) :
    OpJ P n N F R ⟨d, .call { callee := .builtin .len, args := #[x], argTypes := #[t] }, T, pos, after, none⟩ ⟨rdo x (eqP (.slice none 0 0)), [], [], [], [], eqP (.int .i64 0)⟩ :=
  opj1 hx fun σ W a h => ⟨.int .i64 0, by
    have hv : a.eval x = .slice none 0 0 := h
    simp [execOp, resolve, invoke, builtin, Builtin.len_, hv, run_underlying (elem_of ht), goInt], rfl⟩
end
end Go.AL
namespace Go.AL
open Go.RowKit
section
variable {P : Program} {n N : Nat} {F : Fr} {R : Toks} {d : Option Nat} {T : TypeId} {pos : String} {after : Array Edge} {x y : Operand} {u v : Int} {t t' : TypeId}
theorem wrap_in {z : Int} (h : -9223372036854775808 ≤ z ∧ z ≤ 9223372036854775807) : IntKind.i64.wrap z = z := IntWalk.i64_in _ h
end
end Go.AL
namespace Go.AL
section
variable {P : Program} {C : Cx} {F : Fr} {L : Tk} {Q : Exit → Act → World → Prop}
end
end Go.AL


namespace Go.Ch
open Go.AL
structure V where
  kind : Int
  n : Int
  off : Int
  deriving DecidableEq, Inhabited
structure Wt where
  g : Int
  c : Int
  v : V
  deriving DecidableEq, Inhabited
structure Ob where
  id : Int
  cells : List V
  chan : Bool
  cap : Int
  queue : List V
  closed : Bool
  sent : Int
  received : Int
  senders : List Wt
  receivers : List Wt
  deriving DecidableEq, Inhabited
structure Trf where
  status : Int
  value : V
  ok : Bool
  number : Int
  paired : Bool
  partner : Wt
  pnumber : Int
  woken : List Wt
  failed : List Wt
  deriving DecidableEq, Inhabited
def v0 : V := ⟨0, 0, 0⟩
def w0 : Wt := ⟨0, 0, v0⟩
def ob0 : Ob := ⟨0, [], false, 0, [], false, 0, 0, [], []⟩
def tr0 : Trf := ⟨0, v0, false, 0, false, w0, 0, [], []⟩
def vp (v : V) : List Pred := [eqP (.int .i64 v.kind), eqP (.int .i64 v.n), eqP (.int .i64 v.off)]
theorem vp_len (v : V) : (vp v).length = 3 := rfl
def wp (w : Wt) : List Pred := [eqP (.int .i64 w.g), eqP (.int .i64 w.c), eqP (.int .i64 w.v.kind), eqP (.int .i64 w.v.n), eqP (.int .i64 w.v.off)]
theorem wp_len (w : Wt) : (wp w).length = 5 := rfl
def vv (v : V) : List Value := [.int .i64 v.kind, .int .i64 v.n, .int .i64 v.off]
def wv (w : Wt) : List Value := [.int .i64 w.g, .int .i64 w.c, .int .i64 w.v.kind, .int .i64 w.v.n, .int .i64 w.v.off]
def Ob.ps (o : Ob) : List Pred := [eqP (.int .i64 o.id), slP vp 3 o.cells, eqP (.bool o.chan), eqP (.int .i64 o.cap), slP vp 3 o.queue, eqP (.bool o.closed), eqP (.int .i64 o.sent), eqP (.int .i64 o.received), slP wp 5 o.senders, slP wp 5 o.receivers]
def Trf.ps (t : Trf) : List Pred := [eqP (.int .i64 t.status), eqP (.int .i64 t.value.kind), eqP (.int .i64 t.value.n), eqP (.int .i64 t.value.off), eqP (.bool t.ok), eqP (.int .i64 t.number), eqP (.bool t.paired), eqP (.int .i64 t.partner.g), eqP (.int .i64 t.partner.c),
  eqP (.int .i64 t.partner.v.kind), eqP (.int .i64 t.partner.v.n), eqP (.int .i64 t.partner.v.off), eqP (.int .i64 t.pnumber), slP wp 5 t.woken, slP wp 5 t.failed]
/-- an operation: a channel with a waiter -/
structure Opn where
  o : Ob
  w : Wt
def Opn.ps (p : Opn) : List Pred := [eqP (.int .i64 p.o.id), slP vp 3 p.o.cells, eqP (.bool p.o.chan), eqP (.int .i64 p.o.cap), slP vp 3 p.o.queue, eqP (.bool p.o.closed), eqP (.int .i64 p.o.sent), eqP (.int .i64 p.o.received), slP wp 5 p.o.senders, slP wp 5 p.o.receivers,
  eqP (.int .i64 p.w.g), eqP (.int .i64 p.w.c), eqP (.int .i64 p.w.v.kind), eqP (.int .i64 p.w.v.n), eqP (.int .i64 p.w.v.off)]
def ip (x : Int) : List Pred := [eqP (.int .i64 x)]
theorem ip_len (x : Int) : (ip x).length = 1 := rfl
def bp (b : Bool) : List Pred := [eqP (.bool b)]
def lp (l : List Wt) : List Pred := [slP wp 5 l]
/-- small enough for every function here -/
structure Lens (o : Ob) : Prop where
  cells : o.cells.length ≤ 1000
  queue : o.queue.length ≤ 1000
  senders : o.senders.length ≤ 1000
  receivers : o.receivers.length ≤ 1000
structure Small (o : Ob) : Prop extends Lens o where
  sent : -4611686018427387904 ≤ o.sent ∧ o.sent ≤ 4611686018427387904
  received : -4611686018427387904 ≤ o.received ∧ o.received ≤ 4611686018427387904
def goro (g : Int) : Bool := decide (g ≥ 0) && decide (g < 8)
def newF (cap : Int) : Ob × Int := if cap < 0 ∨ 64 < cap then (ob0, 1) else ({ ob0 with chan := true, cap := cap }, 0)
def sendReady (o : Ob) : Bool := (o.closed || decide ((o.receivers.length : Int) > 0)) || decide ((o.queue.length : Int) < o.cap)
def recvReady (o : Ob) : Bool := (o.closed || decide ((o.senders.length : Int) > 0)) || decide ((o.queue.length : Int) > 0)
def leaveF (o : Ob) (g : Int) : Ob := { o with senders := o.senders.filter fun w => decide (w.g ≠ g), receivers := o.receivers.filter fun w => decide (w.g ≠ g) }
def otherF (l : List Wt) (g : Int) : Wt × Bool := match l.find? fun w => decide (w.g ≠ g) with | some w => (w, true) | none => (w0, false)
def closedS (p : Opn) : Ob × Trf × Bool := (p.o, { tr0 with status := 2 }, p.o.closed)
def handS (p : Opn) : Ob × Trf × Bool :=
  if (otherF p.o.receivers p.w.g).2 = false then (p.o, tr0, false)
  else ({ leaveF p.o (otherF p.o.receivers p.w.g).1.g with sent := p.o.sent + 1, received := p.o.received + 1 },
    { tr0 with value := p.w.v, ok := true, number := p.o.sent, paired := true, partner := (otherF p.o.receivers p.w.g).1, pnumber := p.o.sent }, true)
def enqS (p : Opn) : Ob × Trf × Bool :=
  if (p.o.queue.length : Int) ≥ p.o.cap then (p.o, tr0, false) else ({ p.o with queue := p.o.queue ++ [p.w.v], sent := p.o.sent + 1 }, { tr0 with value := p.w.v, ok := true, number := p.o.sent }, true)
def parkS (p : Opn) : Ob × Trf × Bool := ({ p.o with senders := p.o.senders ++ [p.w] }, { tr0 with status := 1 }, true)
def relS (p : Opn) : Ob × Trf × Bool :=
  if (otherF p.o.senders p.w.g).2 = false ∨ (p.o.cap > 0 ∧ p.o.queue.length = 0) then (p.o, tr0, false)
  else ({ leaveF p.o (otherF p.o.senders p.w.g).1.g with sent := p.o.sent + 1, received := p.o.received + 1, queue := if p.o.cap > 0 then p.o.queue.drop 1 ++ [(otherF p.o.senders p.w.g).1.v] else p.o.queue },
    { tr0 with value := if p.o.cap > 0 then p.o.queue.headD v0 else (otherF p.o.senders p.w.g).1.v, ok := true, number := p.o.received, paired := true, partner := (otherF p.o.senders p.w.g).1, pnumber := p.o.sent }, true)
def deqS (p : Opn) : Ob × Trf × Bool :=
  if p.o.queue.length = 0 then (p.o, tr0, false) else ({ p.o with queue := p.o.queue.drop 1, received := p.o.received + 1 }, { tr0 with value := p.o.queue.headD v0, ok := true, number := p.o.received }, true)
def exhS (p : Opn) : Ob × Trf × Bool := (p.o, { tr0 with number := p.o.received }, p.o.closed)
def parkR (p : Opn) : Ob × Trf × Bool := ({ p.o with receivers := p.o.receivers ++ [⟨p.w.g, p.w.c, v0⟩] }, { tr0 with status := 1 }, true)
def resS (p : Opn) (q : Nat) : Ob × Trf × Bool :=
  match q with
  | 34 => closedS p | 35 => handS p | 36 => enqS p | 37 => parkS p | 38 => relS p | 39 => deqS p | 40 => exhS p | _ => parkR p
def firstS (p : Opn) : List Nat → Ob × Trf
  | [] => (ob0, tr0)
  | q :: l => if (resS p q).2.2 = true then ((resS p q).1, (resS p q).2.1) else firstS p l
def sendP (o : Ob) (w : Wt) : Ob × Trf := firstS ⟨o, w⟩ [34, 35, 36, 37]
def recvP (o : Ob) (w : Wt) : Ob × Trf := firstS ⟨o, w⟩ [38, 39, 40, 41]
def sendF (o : Ob) (w : Wt) : Ob × Trf :=
  if o.closed = true then (o, { tr0 with status := 2 })
  else if (otherF o.receivers w.g).2 = true then ({ leaveF o (otherF o.receivers w.g).1.g with sent := o.sent + 1, received := o.received + 1 },
    { tr0 with value := w.v, ok := true, number := o.sent, paired := true, partner := (otherF o.receivers w.g).1, pnumber := o.sent })
  else if (o.queue.length : Int) < o.cap then ({ o with queue := o.queue ++ [w.v], sent := o.sent + 1 }, { tr0 with value := w.v, ok := true, number := o.sent })
  else ({ o with senders := o.senders ++ [w] }, { tr0 with status := 1 })
def recvF (o : Ob) (w : Wt) : Ob × Trf :=
  if (otherF o.senders w.g).2 = true ∧ o.cap = 0 then ({ leaveF o (otherF o.senders w.g).1.g with sent := o.sent + 1, received := o.received + 1 },
    { tr0 with value := (otherF o.senders w.g).1.v, ok := true, number := o.received, paired := true, partner := (otherF o.senders w.g).1, pnumber := o.sent })
  else if (otherF o.senders w.g).2 = true ∧ 0 < o.queue.length then ({ leaveF o (otherF o.senders w.g).1.g with sent := o.sent + 1, received := o.received + 1, queue := o.queue.drop 1 ++ [(otherF o.senders w.g).1.v] },
    { tr0 with value := o.queue.headD v0, ok := true, number := o.received, paired := true, partner := (otherF o.senders w.g).1, pnumber := o.sent })
  else if 0 < o.queue.length then ({ o with queue := o.queue.drop 1, received := o.received + 1 }, { tr0 with value := o.queue.headD v0, ok := true, number := o.received })
  else if o.closed = true then (o, { tr0 with number := o.received })
  else ({ o with receivers := o.receivers ++ [⟨w.g, w.c, v0⟩] }, { tr0 with status := 1 })
/-- the first waiter of every goroutine that is not in another list -/
def firstsF (but : List Wt) (out : List Wt) : List Wt → List Wt
  | [] => out
  | w :: l => if (out.any fun x => decide (x.g = w.g)) || (but.any fun x => decide (x.g = w.g)) then firstsF but out l else firstsF but (out ++ [w]) l
def closeF (o : Ob) : Ob × Trf :=
  if o.closed = true then (o, { tr0 with status := 2 })
  else ({ o with closed := true, senders := [], receivers := [] }, { tr0 with number := o.received, woken := firstsF [] [] o.receivers, failed := firstsF (firstsF [] [] o.receivers) [] o.senders })
/-- the filter of the program's Close: with the flags of the goroutines seen -/
def seenF : List Bool → Wt → Bool × List Bool := fun s w => if goro w.g = false ∨ s[w.g.toNat]?.getD false = true then (false, s) else (true, s.set w.g.toNat true)
def filterS {S : Type} (φ : S → Wt → Bool × S) : S → List Wt → List Wt → List Wt × S
  | s, out, [] => (out, s)
  | s, out, w :: l => if (φ s w).1 = true then filterS φ (φ s w).2 (out ++ [w]) l else filterS φ (φ s w).2 out l
def closeP (o : Ob) : Ob × Trf :=
  if o.closed = true then (o, { tr0 with status := 2 })
  else ({ o with closed := true, senders := [], receivers := [] },
    { tr0 with number := o.received, woken := (filterS seenF (List.replicate 8 false) [] o.receivers).1, failed := (filterS seenF (filterS seenF (List.replicate 8 false) [] o.receivers).2 [] o.senders).1 })
def clash (x w : Wt) : Bool := decide (x.g = w.g) && ((decide (x.c = w.c) || decide (x.c = -1)) || decide (w.c = -1))
def inR (w : Wt) : Bool := !((decide (w.g < 0) || decide (w.g ≥ 8)) || decide (w.c < -1))
/-- the reference's check of a waiter against those before it -/
def okR (both : Bool) (seen : List Wt) (w : Wt) : Bool := inR w && seen.all fun x => !(clash x w) && !(both && decide (x.g ≠ w.g))
/-- the program's -/
def okP (both : Bool) (first : Wt) (seen : List Wt) (w : Wt) : Bool := (inR w && !(both && decide (w.g ≠ first.g))) && seen.all fun x => !(clash x w)
def allR (both : Bool) (seen : List Wt) : List Wt → Bool
  | [] => true
  | w :: l => okR both seen w && allR both (seen ++ [w]) l
def allP (both : Bool) (first : Wt) (seen : List Wt) : List Wt → Bool
  | [] => true
  | w :: l => okP both first seen w && allP both first (seen ++ [w]) l
def waitersF (a b : List Wt) : Bool := allR (decide (a ≠ []) && decide (b ≠ [])) [] (a ++ b)
def head1 (o : Ob) : Prop := o.chan = true ∧ o.cells.length = 0 ∧ 0 ≤ o.cap ∧ o.cap ≤ 64 ∧ (o.queue.length : Int) ≤ o.cap ∧ 0 ≤ o.received ∧ o.received ≤ 1099511627776 ∧ o.sent = o.received + o.queue.length
def head2 (o : Ob) : Prop := (o.closed = true → o.senders = [] ∧ o.receivers = []) ∧ (o.senders ≠ [] → (o.queue.length : Int) = o.cap) ∧ (o.receivers ≠ [] → o.queue = [])
instance (o : Ob) : Decidable (head1 o) := by unfold head1; infer_instance
instance (o : Ob) : Decidable (head2 o) := by unfold head2; infer_instance
def validF (o : Ob) : Bool := (decide (head1 o) && decide (head2 o)) && ((o.receivers.all fun w => decide (w.v = v0)) && waitersF o.senders o.receivers)
/-- whether a waiter may be added -/
def fitsF (o : Ob) (w : Wt) (other : List Wt) : Bool :=
  !(((decide (w.g < 0) || decide (w.g ≥ 8)) || decide (w.c < -1)) || decide (o.received ≥ 1099511627776)) &&
  ((o.senders ++ o.receivers).all fun x => !(clash x w)) && (other.all fun x => !(((o.senders ++ o.receivers).any fun y => decide (y.g = w.g)) && (decide (x.g ≠ w.g) || decide (o.cap > 0))))
def fewF (o : Ob) : Bool := ((decide ((o.queue.length : Int) ≤ 20) && decide ((o.senders.length : Int) ≤ 20)) && decide ((o.receivers.length : Int) ≤ 20)) && decide ((o.cells.length : Int) ≤ 20)
/-- a channel whose lists are rows of the call's own -/
def Ob.rs (o : Ob) (i0 i1 i2 i3 : AL.Id) : List Pred := [eqP (.int .i64 o.id), rowP i0 vp 3 o.cells, eqP (.bool o.chan), eqP (.int .i64 o.cap), rowP i1 vp 3 o.queue, eqP (.bool o.closed), eqP (.int .i64 o.sent), eqP (.int .i64 o.received), rowP i2 wp 5 o.senders, rowP i3 wp 5 o.receivers]
def stp (p : Opn) (q : Nat) : List Pred := [clP q [aggP p.ps] []]
section
variable {p : Opn}
end
end Go.Ch


set_option linter.unusedVariables false
namespace Go.AL
open Go.RowKit
/-- what is known of a block that was frozen -/
def frzP (id : Id) (ps : List Pred) : Pred := ⟨fun σ _ => ∃ x, σ.ρ id = some x ∧ ∀ b, x = some b → Cs σ b 0 ps, fun σ τ _ hle ⟨x, hx, h⟩ => ⟨x, hle.ρ _ _ hx, fun b hb => (h b hb).mono hle⟩⟩
def boundP (id : Id) : Pred := ⟨fun σ _ => ∃ x, σ.ρ id = some x, fun σ τ _ hle ⟨x, hx⟩ => ⟨x, hle.ρ _ _ hx⟩⟩
theorem FEnt.frz_bound {id : Id} {ps : List Pred} : FEnt id ps (boundP id) (frzP id ps) := fun σ v hf ⟨x, hx⟩ => ⟨x, hx, fun b hb => hf b (by rw [hx, hb])⟩
inductive FEnts (id : Id) (ps : List Pred) : List Pred → List Pred → Prop
  | nil : FEnts id ps [] []
  | cons {p q : Pred} {l m : List Pred} (h : FEnt id ps p q) (t : FEnts id ps l m) : FEnts id ps (p :: l) (q :: m)
theorem FEnts.refl (id : Id) (ps : List Pred) : ∀ l, FEnts id ps l l
  | [] => .nil
  | p :: l => .cons (.of (Ent.refl p)) (FEnts.refl id ps l)
theorem FEnts.length {id : Id} {ps l m : List Pred} (h : FEnts id ps l m) : m.length = l.length := by
  induction h with
  | nil => rfl
  | cons _ _ ih => simp [ih]
theorem FEnts.at_ {id : Id} {ps l m : List Pred} (h : FEnts id ps l m) : ∀ (j : Nat) (q : Pred), m[j]? = some q → ∃ p, l[j]? = some p ∧ FEnt id ps p q := by
  induction h with
  | nil => intro j q hq; simp at hq
  | @cons p q l m h _ ih =>
    intro j r hr
    cases j with
    | zero => simp at hr; subst hr; exact ⟨p, rfl, h⟩
    | succ j => simpa using ih j r (by simpa using hr)
theorem FEnts.vs {id : Id} {ps l m : List Pred} (h : FEnts id ps l m) {σ : Sg} {cs : List Value} (hf : ∀ b, σ.ρ id = some (some b) → Cs σ b 0 ps) (hv : Vs σ l cs) : Vs σ m cs :=
  ⟨hv.1.trans h.length.symm, fun j q u hq hu => by
    obtain ⟨p, hp, he⟩ := h.at_ j q hq
    obtain ⟨h1, h2⟩ := hv.2 j p u hp hu
    exact ⟨he σ u hf h1, h2⟩⟩
theorem FEnts.cs {id : Id} {ps l m : List Pred} (h : FEnts id ps l m) {σ : Sg} {b off : Nat} (hf : ∀ b, σ.ρ id = some (some b) → Cs σ b 0 ps) (hv : Cs σ b off l) : Cs σ b off m := fun j q hq => by
  obtain ⟨p, hp, he⟩ := h.at_ j q hq
  obtain ⟨u, hu, h1, h2⟩ := hv j p hp
  exact ⟨u, hu, he σ u hf h1, h2⟩
theorem FEnt.agg {id : Id} {ps l m : List Pred} (h : FEnts id ps l m) : FEnt id ps (aggP l) (aggP m) := fun σ v hf ⟨cs, hv, hc⟩ => ⟨cs, hv, h.vs hf hc⟩
theorem FEnt.cells {id : Id} {ps l m : List Pred} (h : FEnts id ps l m) : FEnt id ps (cellsP l) (cellsP m) := fun σ v hf ⟨b, off, hv, hc⟩ => ⟨b, off, hv, h.cs hf hc⟩
/-- a list of which every element is said anew -/
theorem FEnt.sl {α β : Type} {id : Id} {ps : List Pred} {f : α → List Pred} {g : β → List Pred} {k : Nat} {xs : List α} {ys : List β} (hl : xs.length = ys.length) (h : ∀ (i : Nat) (x : α) (y : β), xs[i]? = some x → ys[i]? = some y → FEnts id ps (f x) (g y)) : FEnt id ps (slP f k xs) (slP g k ys) :=
  fun σ v hf ⟨a, cap, hv, h1, h2, h3⟩ => ⟨a, cap, by rw [hv, hl], by omega, h2, fun hp => by
    obtain ⟨b, off, ha, hc⟩ := h3 (by omega)
    refine ⟨b, off, ha, fun i y hy => ?_⟩
    have hi : i < xs.length := by rw [hl]; exact (List.getElem?_eq_some_iff.1 hy).1
    exact (h i xs[i] y (List.getElem?_eq_getElem hi) hy).cs hf (hc i _ (List.getElem?_eq_getElem hi))⟩
theorem FEnts.flat {α β : Type} {id : Id} {ps : List Pred} {f : α → List Pred} {g : β → List Pred} : ∀ {xs : List α} {ys : List β}, xs.length = ys.length → (∀ (i : Nat) (x : α) (y : β), xs[i]? = some x → ys[i]? = some y → FEnts id ps (f x) (g y)) → FEnts id ps (xs.flatMap f) (ys.flatMap g)
  | [], [], _, _ => .nil
  | x :: xs, y :: ys, hl, h => by
    have ih := FEnts.flat (f := f) (g := g) (xs := xs) (ys := ys) (by simpa using hl) fun i a b ha hb => h (i + 1) a b (by simpa using ha) (by simpa using hb)
    have h0 := h 0 x y rfl rfl
    rw [List.flatMap_cons, List.flatMap_cons]
    generalize f x = l at h0 ⊢
    generalize g y = m at h0 ⊢
    induction h0 with
    | nil => exact ih
    | cons hh _ ih2 => exact .cons hh ih2
section
variable {P : Program} {C : Cx} {F : Fr} {L : Tk} {Q : Exit → Act → World → Prop} {c : Code}
/-- a block of the call's own has a name -/
theorem tr_bound (t : Nat) {id : Id} {r : Res} {m : Nat} (hm : lk L m = some (some (id, r))) (h : Tr P C c ((t, boundP id) :: F) L Q) : Tr P C c F L Q := by
  rintro a W ⟨σ, h1, h2, h3⟩
  refine h a W ⟨σ, h1, h2, h3.size, h3.defers, h3.mod, fun t' p hp => ?_⟩
  rw [lk_cons] at hp
  split at hp
  · simp at hp
    subst hp
    exact Option.ne_none_iff_exists'.1 (h3.mod.used m (id, r) (by simp [tkf, hm]))
  · exact h3.fr t' p hp
/-- what was said of a frozen block is said anew: in the slots, and in one block of the call's own -/
theorem tr_thaw {F' : Fr} {id id' : Id} {ps qs qs' : List Pred} {t n κ : Nat} {B : TypeId} (ht : lk F t = some (frzP id ps)) (hF : SubZ id ps F F') (hn : lk L n = some (some (id', blkX κ B qs))) (hq : FEnts id ps qs qs')
    (h : Tr P C c F' ((n, some (id', blkX κ B qs')) :: L) Q) : Tr P C c F L Q := by
  rintro a W ⟨σ, h1, h2, h3⟩
  obtain ⟨x, hx, hfx⟩ := h3.fr t _ ht
  have hf : ∀ b, σ.ρ id = some (some b) → Cs σ b 0 ps := fun b hb => hfx b (by rw [hx] at hb; simpa using hb)
  refine h a W ⟨σ, h1, h2, h3.size, h3.defers, h3.mod.resMono (fun n => n) (fun n m h _ _ => h) ?_, fun t q hq => ?_⟩
  · intro m y hy
    rw [tkf_cons] at hy
    simp only at hy
    split at hy
    · rename_i e
      subst e
      cases hy
      refine ⟨blkX κ B qs, by simp [tkf, hn], ?_⟩
      rintro b o ⟨cs, rest, ho, hv, hz, hnn⟩
      exact ⟨cs, rest, ho, hq.vs hf hv, hz, hnn⟩
    · exact ⟨y.2, hy, fun b o h => h⟩
  · obtain ⟨p, hp, hpq⟩ := hF.at_ t q hq
    exact hpq σ _ hf (h3.fr t p hp)
theorem tr_weakTok {id : Id} {m κ : Nat} {B : TypeId} {ps qs : List Pred} (hm : lk L m = some (some (id, blkX κ B ps))) (he : Ents ps qs) (h : Tr P C c F ((m, some (id, blkX κ B qs)) :: L) Q) : Tr P C c F L Q := by
  rintro a W ⟨σ, h1, h2, h3⟩
  refine h a W ⟨σ, h1, h2, h3.size, h3.defers, h3.mod.resMono (fun n => n) (fun n m h _ _ => h) ?_, h3.fr⟩
  intro n y hy
  rw [tkf_cons] at hy
  simp only at hy
  split at hy
  · rename_i e
    subst e
    cases hy
    exact ⟨blkX κ B ps, by simp [tkf, hm], fun b o h => blk_ents' he σ id b o h⟩
  · exact ⟨y.2, hy, fun b o h => h⟩
/-- a nil slice in a box of the call's own gets a name, so that it may be appended to -/
theorem tr_nilbox {α : Type} (f : α → List Pred) (k : Nat) (e : TypeId) (n j m : Nat) {id' : Id} {κ : Nat} {B : TypeId} {ps : List Pred} (hn : lk L n = some (some (id', blkX κ B ps))) (hj : ps[j]? = some (eqP (.slice none 0 0))) (hm : tkf L C.Rf m = none)
    (h : ∀ id, Tr P C c F ((n, some (id', blkX κ B (ps.set j (rowP id f k [])))) :: (m, some (id, tail e k 0)) :: L) Q) : Tr P C c F L Q := by
  rintro a W ⟨σ, h1, h2, h3⟩
  obtain ⟨N, hN, hfr⟩ := fresh_N h3.mod C.M
  have hnm : n ≠ m := fun e => by
    subst e
    simp [tkf, hn] at hm
  have hmod := (h3.mod.rowNil (e := e) (k := k) (hfr 0) hm)
  have hle : Le σ (bind σ (N, 0) none 0) := le_bind (hfr 0)
  refine h (N, 0) a W ⟨bind σ (N, 0) none 0, h1.trans hle, keepB_of hN h2 keep_bind, h3.size, h3.defers, hmod.resMono (fun n => n) (fun n m h _ _ => h) ?_, ?_⟩
  · intro q y hy
    rw [tkf_cons] at hy
    simp only at hy
    split at hy
    · rename_i e
      subst e
      cases hy
      refine ⟨blkX κ B ps, by rw [if_neg hnm]; simp [tkf, hn], ?_⟩
      rintro b o ⟨cs, rest, ho, hv, hz, hnn⟩
      refine ⟨cs, rest, ho, ⟨hv.1.trans (by simp), fun i p u hp hu => ?_⟩, hz, hnn⟩
      rw [List.getElem?_set] at hp
      by_cases e : j = i
      · subst e
        have := hv.2 j _ u hj hu
        simp at hp
        obtain ⟨_, rfl⟩ := hp
        exact ⟨.inl ⟨this.1, rfl⟩, this.2⟩
      · rw [if_neg e] at hp
        exact hv.2 i p u hp hu
    · refine ⟨y.2, ?_, fun b o h => h⟩
      rw [tkf_cons] at hy
      exact hy
  · intro t' p hp
    exact p.m _ _ _ hle (h3.fr t' p hp)
/-- .. so that it may be written and appended to -/
theorem tr_nilboxM (k : Nat) (e : TypeId) (n j m : Nat) {id' : Id} {κ : Nat} {B : TypeId} {ps : List Pred} (hn : lk L n = some (some (id', blkX κ B ps))) (hj : ps[j]? = some (eqP (.slice none 0 0))) (hm : tkf L C.Rf m = none)
    (h : ∀ id, Tr P C c F ((n, some (id', blkX κ B (ps.set j (mvP id k 0 0 0)))) :: (m, some (id, blkX k e [])) :: L) Q) : Tr P C c F L Q := by
  rintro a W ⟨σ, h1, h2, h3⟩
  obtain ⟨N, hN, hfr⟩ := fresh_N h3.mod C.M
  have hnm : n ≠ m := fun e => by
    subst e
    simp [tkf, hn] at hm
  have hle : Le σ (bind σ (N, 0) none 0) := le_bind (hfr 0)
  have hmod : Models (bind σ (N, 0) none 0) (fun n => if n = m then some ((N, 0), blkX k e []) else tkf L C.Rf n) W := by
    refine h3.mod.move (le_bind (hfr 0)) m (N, 0) _ (fun i hi => bind_ne _ _ _ _ _ hi) (by rw [bind_at]; simp) (.inl hm) ?_ (Below.refl _ _) (fun n x b _ hn hb => ⟨rfl, fun _ => rfl⟩) (fun b i v hv => h3.mod.imm b i v hv) ?_ ?_
    · intro n x _ hn e
      exact h3.mod.used n x hn (by rw [e]; exact hfr 0)
    · intro b hb; rw [bind_at] at hb; cases hb
    · intro n x b _ _ hb; rw [bind_at] at hb; cases hb
  refine h (N, 0) a W ⟨bind σ (N, 0) none 0, h1.trans hle, keepB_of hN h2 keep_bind, h3.size, h3.defers, hmod.resMono (fun n => n) (fun n m h _ _ => h) ?_, ?_⟩
  · intro q y hy
    rw [tkf_cons] at hy
    simp only at hy
    split at hy
    · rename_i e
      subst e
      cases hy
      refine ⟨blkX κ B ps, by rw [if_neg hnm]; simp [tkf, hn], ?_⟩
      rintro b o ⟨cs, rest, ho, hv, hz, hnn⟩
      refine ⟨cs, rest, ho, ⟨hv.1.trans (by simp), fun i p u hp hu => ?_⟩, hz, hnn⟩
      rw [List.getElem?_set] at hp
      by_cases e : j = i
      · subst e
        have := hv.2 j _ u hj hu
        simp at hp
        obtain ⟨_, rfl⟩ := hp
        have hv : u = .slice none 0 0 := this.1
        exact ⟨⟨none, by rw [bind_z]; exact hv, by rw [bind_z]; omega, by rw [bind_z]; simp [maxLen], by rw [bind_at]; simp, by rw [bind_z]; intro h; omega⟩, this.2⟩
      · rw [if_neg e] at hp
        exact hv.2 i p u hp hu
    · refine ⟨y.2, ?_, fun b o h => h⟩
      rw [tkf_cons] at hy
      exact hy
  · intro t' p hp
    exact p.m _ _ _ hle (h3.fr t' p hp)
end
theorem OpJ.ent {P : Program} {n N : Nat} {F : Fr} {R : Toks} {o : Oper} {rd : List (Nat × Pred)} {use del add : List (Nat × Id × Res)} {new : List Nat} {φ ψ : Pred} (h : OpJ P n N F R o ⟨rd, use, del, add, new, φ⟩) (he : Ent φ ψ) : OpJ P n N F R o ⟨rd, use, del, add, new, ψ⟩ where
  loc := fun σ W R a K h1 h2 h3 h4 h5 h6 h7 h8 h9 => h.loc σ W R a K h1 h2 h3 h4 h5 h6 h7 h8 fun σ' W' v g1 g2 g3 g4 => h9 σ' W' v g1 g2 g3 (he σ' v g4)
  rd := h.rd
  use := h.use
  del := h.del
  add := h.add
end Go.AL


namespace Go.Hp
open Go.AL Go.Ch
structure Sy where
  obj : Int
  off : Int
  kind : Int
  owner : Int
  readers : List Int
  count : Int
  deriving DecidableEq, Inhabited
structure Df where
  fn : Int
  args : List V
  deriving DecidableEq, Inhabited
structure Fm where
  fn : Int
  pc : Int
  regs : List V
  dest : Int
  defers : List Df
  leaving : Bool
  result : V
  deriving DecidableEq, Inhabited
structure Gr where
  state : Int
  fault : Int
  allocs : Int
  frames : List Fm
  deriving DecidableEq, Inhabited
structure Mc where
  objects : List Ob
  syncs : List Sy
  gors : List Gr
  output : List Int
  deriving DecidableEq, Inhabited
def Sy.ps (s : Sy) : List Pred := [eqP (.int .i64 s.obj), eqP (.int .i64 s.off), eqP (.int .i64 s.kind), eqP (.int .i64 s.owner), slP ip 1 s.readers, eqP (.int .i64 s.count)]
theorem Sy.len (s : Sy) : s.ps.length = 6 := rfl
def Df.ps (d : Df) : List Pred := [eqP (.int .i64 d.fn), slP vp 3 d.args]
theorem Df.len (d : Df) : d.ps.length = 2 := rfl
def Fm.ps (f : Fm) : List Pred := [eqP (.int .i64 f.fn), eqP (.int .i64 f.pc), slP vp 3 f.regs, eqP (.int .i64 f.dest), slP Df.ps 2 f.defers, eqP (.bool f.leaving), eqP (.int .i64 f.result.kind), eqP (.int .i64 f.result.n), eqP (.int .i64 f.result.off)]
theorem Fm.len (f : Fm) : f.ps.length = 9 := rfl
def Gr.ps (g : Gr) : List Pred := [eqP (.int .i64 g.state), eqP (.int .i64 g.fault), eqP (.int .i64 g.allocs), slP Fm.ps 9 g.frames]
theorem Gr.len (g : Gr) : g.ps.length = 4 := rfl
theorem Ob.len (o : Ob) : o.ps.length = 10 := rfl
/-- an object whose cells lie in a block of the call's own -/
def obCs (o : Ob) (id : AL.Id) : List Pred := [eqP (.int .i64 o.id), mvP id 3 0 o.cells.length o.cells.length, eqP (.bool o.chan), eqP (.int .i64 o.cap), slP vp 3 o.queue, eqP (.bool o.closed), eqP (.int .i64 o.sent), eqP (.int .i64 o.received), slP wp 5 o.senders, slP wp 5 o.receivers]
def Mc.ps (m : Mc) : List Pred := [slP Ob.ps 10 m.objects, slP Sy.ps 6 m.syncs, slP Gr.ps 4 m.gors, slP ip 1 m.output]
/-- a machine whose goroutines lie in a block of the call's own -/
def mcG (m : Mc) (id : AL.Id) : List Pred := [slP Ob.ps 10 m.objects, slP Sy.ps 6 m.syncs, mvP id 4 0 m.gors.length m.gors.length, slP ip 1 m.output]
theorem Mc.len (m : Mc) : m.ps.length = 4 := rfl
/-- lists that are not too long -/
structure BdO (n : Nat) (o : Ob) : Prop where
  cells : o.cells.length ≤ n
  queue : o.queue.length ≤ n
  senders : o.senders.length ≤ n
  receivers : o.receivers.length ≤ n
structure BdF (n : Nat) (f : Fm) : Prop where
  regs : f.regs.length ≤ n
  defers : f.defers.length ≤ n
  args : ∀ d ∈ f.defers, d.args.length ≤ n
structure BdG (n : Nat) (g : Gr) : Prop where
  frames : g.frames.length ≤ n
  each : ∀ f ∈ g.frames, BdF n f
structure Bd (n : Nat) (m : Mc) : Prop where
  objects : m.objects.length ≤ n
  object : ∀ o ∈ m.objects, BdO n o
  syncs : m.syncs.length ≤ n
  readers : ∀ s ∈ m.syncs, s.readers.length ≤ n
  gors : m.gors.length ≤ n
  gor : ∀ g ∈ m.gors, BdG n g
  output : m.output.length ≤ n
theorem BdO.mono {n n' : Nat} {o : Ob} (h : BdO n o) (hn : n ≤ n') : BdO n' o := ⟨Nat.le_trans h.cells hn, Nat.le_trans h.queue hn, Nat.le_trans h.senders hn, Nat.le_trans h.receivers hn⟩
theorem BdF.mono {n n' : Nat} {f : Fm} (h : BdF n f) (hn : n ≤ n') : BdF n' f := ⟨Nat.le_trans h.regs hn, Nat.le_trans h.defers hn, fun d hd => Nat.le_trans (h.args d hd) hn⟩
theorem BdG.mono {n n' : Nat} {g : Gr} (h : BdG n g) (hn : n ≤ n') : BdG n' g := ⟨Nat.le_trans h.frames hn, fun f hf => (h.each f hf).mono hn⟩
theorem Bd.mono {n n' : Nat} {m : Mc} (h : Bd n m) (hn : n ≤ n') : Bd n' m :=
  ⟨Nat.le_trans h.objects hn, fun o ho => (h.object o ho).mono hn, Nat.le_trans h.syncs hn, fun s hs => Nat.le_trans (h.readers s hs) hn, Nat.le_trans h.gors hn, fun g hg => (h.gor g hg).mono hn, Nat.le_trans h.output hn⟩
end Go.Hp


namespace Go.Hp
open Go.AL Go.Ch
def szL {α : Type} (sz : α → Nat) (l : List α) : Nat := (l.map sz).sum + 1
theorem mem_le {α : Type} {sz : α → Nat} : ∀ {l : List α} {x : α}, x ∈ l → sz x ≤ (l.map sz).sum
  | y :: l, x, h => by
    rw [List.map_cons, List.sum_cons]
    rcases List.mem_cons.1 h with rfl | h
    · omega
    · have := mem_le (sz := sz) h; omega
theorem len_le {α : Type} {sz : α → Nat} (h : ∀ x, 1 ≤ sz x) : ∀ (l : List α), l.length ≤ (l.map sz).sum
  | [] => Nat.le_refl _
  | y :: l => by
    rw [List.map_cons, List.sum_cons, List.length_cons]
    have := h y
    have := len_le h l
    omega
def szV (_ : V) : Nat := 4
def szW (_ : Wt) : Nat := 7
def szO (o : Ob) : Nat := szL szV o.cells + szL szV o.queue + szL szW o.senders + szL szW o.receivers
def szI (_ : Int) : Nat := 1
def szS (s : Sy) : Nat := szL szI s.readers
def szD (d : Df) : Nat := szL szV d.args
def szF (f : Fm) : Nat := szL szV f.regs + szL szD f.defers
def szG (g : Gr) : Nat := szL szF g.frames
def szM (m : Mc) : Nat := szL szO m.objects + szL szS m.syncs + szL szG m.gors + szL szI m.output
theorem bdO_of {n : Nat} {o : Ob} (h : szO o ≤ n) : BdO n o := by
  have h1 := len_le (sz := szV) (fun _ => by unfold szV; omega) o.cells
  have h2 := len_le (sz := szV) (fun _ => by unfold szV; omega) o.queue
  have h3 := len_le (sz := szW) (fun _ => by unfold szW; omega) o.senders
  have h4 := len_le (sz := szW) (fun _ => by unfold szW; omega) o.receivers
  unfold szO szL at h
  exact ⟨by omega, by omega, by omega, by omega⟩
theorem bdF_of {n : Nat} {f : Fm} (h : szF f ≤ n) : BdF n f := by
  have h1 := len_le (sz := szV) (fun _ => by unfold szV; omega) f.regs
  have h2 := len_le (sz := szD) (fun _ => by unfold szD szL; omega) f.defers
  unfold szF szL at h
  refine ⟨by omega, by omega, fun d hd => ?_⟩
  have h3 := mem_le (sz := szD) hd
  have h4 := len_le (sz := szV) (fun _ => by unfold szV; omega) d.args
  have h5 : d.args.length ≤ szD d := by unfold szD szL; omega
  omega
theorem bdG_of {n : Nat} {g : Gr} (h : szG g ≤ n) : BdG n g := by
  have h2 := len_le (sz := szF) (fun _ => by unfold szF szL; omega) g.frames
  unfold szG szL at h
  refine ⟨by omega, fun f hf => bdF_of ?_⟩
  have h3 := mem_le (sz := szF) hf
  omega
theorem bd_of {n : Nat} {m : Mc} (h : szM m ≤ n) : Bd n m := by
  have h1 := len_le (sz := szO) (fun _ => by unfold szO szL; omega) m.objects
  have h2 := len_le (sz := szS) (fun _ => by unfold szS szL; omega) m.syncs
  have h3 := len_le (sz := szG) (fun _ => by unfold szG szL; omega) m.gors
  have h4 := len_le (sz := szI) (fun _ => by unfold szI; omega) m.output
  unfold szM szL at h
  refine ⟨by omega, fun o ho => bdO_of ?_, by omega, fun s hs => ?_, by omega, fun g hg => bdG_of ?_, by omega⟩
  · have := mem_le (sz := szO) ho; omega
  · have h5 := mem_le (sz := szS) hs
    have h6 := len_le (sz := szI) (fun _ => by unfold szI; omega) s.readers
    have h7 : s.readers.length ≤ szS s := by unfold szS szL; omega
    omega
  · have := mem_le (sz := szG) hg; omega
end Go.Hp


namespace Go.Hp
open Go.AL Go.Ch
theorem sameO_eq (a b : Ob) : (((((((((decide (a.id = b.id) && decide (a.cells = b.cells)) && (a.chan == b.chan)) && decide (a.cap = b.cap)) && decide (a.queue = b.queue)) && (a.closed == b.closed)) && decide (a.sent = b.sent)) && decide (a.received = b.received)) && decide (a.senders = b.senders)) && decide (a.receivers = b.receivers)) = decide (a = b) := by
  cases a; cases b
  rw [Bool.eq_iff_iff]
  simp only [Bool.and_eq_true, decide_eq_true_eq, beq_iff_eq, Ob.mk.injEq, and_assoc]
theorem sy_ne (a b : Sy) : (((((decide (a.obj ≠ b.obj) || decide (a.off ≠ b.off)) || decide (a.kind ≠ b.kind)) || decide (a.owner ≠ b.owner)) || decide (a.count ≠ b.count)) || !(decide (a.readers = b.readers))) = decide (a ≠ b) := by
  cases a; cases b
  simp only [ne_eq, decide_not, ← Bool.not_and]
  congr 1
  rw [Bool.eq_iff_iff]
  simp only [Bool.and_eq_true, decide_eq_true_eq, Sy.mk.injEq, and_assoc]
  constructor
  · rintro ⟨h1, h2, h3, h4, h5, h6⟩; exact ⟨h1, h2, h3, h4, h6, h5⟩
  · rintro ⟨h1, h2, h3, h4, h5, h6⟩; exact ⟨h1, h2, h3, h4, h6, h5⟩
theorem df_ne (a b : Df) : (decide (a.fn ≠ b.fn) || !(decide (a.args = b.args))) = decide (a ≠ b) := by
  cases a; cases b
  simp only [ne_eq, decide_not, ← Bool.not_and]
  congr 1
  rw [Bool.eq_iff_iff]
  simp only [Bool.and_eq_true, decide_eq_true_eq, Df.mk.injEq]
theorem gr_eq (a b : Gr) : (((decide (a.state = b.state) && decide (a.fault = b.fault)) && decide (a.allocs = b.allocs)) && decide (a.frames = b.frames)) = decide (a = b) := by
  cases a; cases b
  rw [Bool.eq_iff_iff]
  simp only [Bool.and_eq_true, decide_eq_true_eq, Gr.mk.injEq, and_assoc]
def fmHead (a b : Fm) : Prop := a.fn = b.fn ∧ a.pc = b.pc ∧ a.dest = b.dest ∧ a.leaving = b.leaving ∧ a.result = b.result ∧ a.regs = b.regs
theorem fm_of {a b : Fm} (h : fmHead a b) (hd : a.defers = b.defers) : a = b := by
  obtain ⟨h1, h2, h3, h4, h5, h6⟩ := h
  cases a; cases b
  simp_all
section
variable {a b : Fm}
theorem fm_ne2 (h : ((((((decide (a.fn ≠ b.fn) || decide (a.pc ≠ b.pc)) || decide (a.dest ≠ b.dest)) || (a.leaving != b.leaving)) || !(decide (a.result = b.result))) || !(decide (a.regs = b.regs))) || decide ((a.defers.length : Int) ≠ (b.defers.length : Int))) = false) : fmHead a b ∧ a.defers.length = b.defers.length := by
  simp only [Bool.or_eq_false_iff, decide_eq_false_iff_not, ne_eq, Decidable.not_not, Bool.not_eq_false', decide_eq_true_eq, bne_eq_false_iff_eq] at h
  exact ⟨⟨h.1.1.1.1.1.1, h.1.1.1.1.1.2, h.1.1.1.1.2, h.1.1.1.2, h.1.1.2, h.1.2⟩, by omega⟩
theorem fm_ne1 (h : ((((((decide (a.fn ≠ b.fn) || decide (a.pc ≠ b.pc)) || decide (a.dest ≠ b.dest)) || (a.leaving != b.leaving)) || !(decide (a.result = b.result))) || !(decide (a.regs = b.regs))) || decide ((a.defers.length : Int) ≠ (b.defers.length : Int))) = true) : ¬ a = b := fun e => by
  subst e
  simp at h
end
section
variable {a b : Mc}
theorem mc_ne2 (h : (((!(decide (a.objects = b.objects)) || !(decide (a.syncs = b.syncs))) || !(decide (a.output = b.output))) || decide ((a.gors.length : Int) ≠ (b.gors.length : Int))) = false) : (a.objects = b.objects ∧ a.syncs = b.syncs ∧ a.output = b.output) ∧ a.gors.length = b.gors.length := by
  simp only [Bool.or_eq_false_iff, decide_eq_false_iff_not, ne_eq, Decidable.not_not, Bool.not_eq_false', decide_eq_true_eq] at h
  exact ⟨⟨h.1.1.1, h.1.1.2, h.1.2⟩, by omega⟩
theorem mc_ne1 (h : (((!(decide (a.objects = b.objects)) || !(decide (a.syncs = b.syncs))) || !(decide (a.output = b.output))) || decide ((a.gors.length : Int) ≠ (b.gors.length : Int))) = true) : a ≠ b := fun e => by
  subst e
  simp at h
theorem mc_of (h : a.objects = b.objects ∧ a.syncs = b.syncs ∧ a.output = b.output) (hg : a.gors = b.gors) : a = b := by
  obtain ⟨h1, h2, h3⟩ := h
  cases a; cases b
  simp_all
end
end Go.Hp


namespace Go.Hp
open Go.AL Go.Ch
def cmpI (a b : Int) : Int := if a < b then -1 else if b < a then 1 else 0
def Srt (l : List Ob) : Prop := l.Pairwise fun a b => a.id < b.id
def pos (l : List Ob) (x : Int) : Nat := l.countP fun o => decide (o.id < x)
def fnd (l : List Ob) (x : Int) : Bool := l.any fun o => decide (o.id = x)
section
variable {l : List Ob} {x : Int} {i j h : Nat}
theorem srt_lt (hs : Srt l) (hij : i < j) (hj : j < l.length) : (l[i]'(by omega)).id < l[j].id := List.pairwise_iff_getElem.1 hs i j (by omega) hj hij
theorem lo_step (hs : Srt l) (hh : h < l.length) (hx : l[h].id < x) : ∀ o ∈ l.take (h + 1), o.id < x := fun o ho => by
  obtain ⟨p, hp, rfl⟩ := List.mem_iff_getElem.1 ho
  rw [List.length_take] at hp
  rw [List.getElem_take]
  by_cases e : p = h
  · subst e; exact hx
  · exact Int.lt_trans (srt_lt hs (by omega) hh) hx
theorem hi_step (hs : Srt l) (hh : h < l.length) (hx : x ≤ l[h].id) : ∀ o ∈ l.drop h, x ≤ o.id := fun o ho => by
  obtain ⟨p, hp, rfl⟩ := List.mem_iff_getElem.1 ho
  rw [List.length_drop] at hp
  rw [List.getElem_drop]
  by_cases e : p = 0
  · subst e; exact hx
  · exact Int.le_trans hx (Int.le_of_lt (srt_lt hs (by omega) (by omega)))
theorem pos_at (hi : i ≤ l.length) (h1 : ∀ o ∈ l.take i, o.id < x) (h2 : ∀ o ∈ l.drop i, x ≤ o.id) : pos l x = i := by
  unfold pos
  rw [← List.take_append_drop i l, List.countP_append]
  rw [List.countP_eq_length.2 (fun o ho => decide_eq_true (h1 o ho)), List.countP_eq_zero.2 (fun o ho => by have := h2 o ho; simp; omega), List.length_take]
  omega
theorem fnd_at (hs : Srt l) (hi : i < l.length) (h1 : ∀ o ∈ l.take i, o.id < x) (h2 : ∀ o ∈ l.drop i, x ≤ o.id) : fnd l x = decide (cmpI l[i].id x = 0) := by
  have hge : x ≤ l[i].id := h2 _ (by rw [drop_at hi]; exact List.mem_cons_self ..)
  have hc : cmpI l[i].id x = 0 ↔ l[i].id = x := by unfold cmpI; split <;> (try split) <;> omega
  unfold fnd
  rw [Bool.eq_iff_iff, decide_eq_true_eq, hc, List.any_eq_true]
  simp only [decide_eq_true_eq]
  constructor
  · rintro ⟨o, ho, e⟩
    obtain ⟨p, hp, rfl⟩ := List.mem_iff_getElem.1 ho
    rcases Nat.lt_trichotomy p i with h | h | h
    · have := h1 l[p] (by rw [List.mem_iff_getElem]; exact ⟨p, by rw [List.length_take]; omega, by simp⟩); omega
    · subst h; exact e
    · have := srt_lt hs h hp; omega
  · intro e; exact ⟨_, List.getElem_mem hi, e⟩
theorem fnd_no (hi : l.length ≤ i) (h1 : ∀ o ∈ l.take i, o.id < x) : fnd l x = false := by
  rw [List.take_of_length_le hi] at h1
  unfold fnd
  rw [List.any_eq_false]
  intro o ho
  have := h1 o ho
  simp
  omega
theorem cmp_lt {a b : Int} (h : cmpI a b < 0) : a < b := by unfold cmpI at h; split at h <;> (try split at h) <;> omega
theorem cmp_ge {a b : Int} (h : 0 ≤ cmpI a b) : b ≤ a := by unfold cmpI at h; split at h <;> (try split at h) <;> omega
theorem fnd_pos (h : fnd l x = true) (hs : Srt l) : pos l x < l.length ∧ ∃ o, l[pos l x]? = some o ∧ o.id = x := by
  unfold fnd at h
  rw [List.any_eq_true] at h
  obtain ⟨o, ho, e⟩ := h
  obtain ⟨p, hp, rfl⟩ := List.mem_iff_getElem.1 ho
  have e : l[p].id = x := by simpa using e
  have hpos : pos l x = p := pos_at (by omega) (fun o ho => by
    obtain ⟨q, hq, rfl⟩ := List.mem_iff_getElem.1 ho
    rw [List.length_take] at hq
    rw [List.getElem_take, ← e]
    exact srt_lt hs (by omega) hp) (hi_step hs hp (by omega))
  rw [hpos]
  exact ⟨hp, _, List.getElem?_eq_getElem hp, e⟩
end
end Go.Hp


namespace Go.Hp
open Go.AL Go.Ch
def findF (l : List Ob) (x : Int) : Ob × Bool := if fnd l x = true then (l[pos l x]?.getD ob0, true) else (ob0, false)
def rfindF (l : List Ob) (x : Int) : Ob × Bool := match l.find? fun o => decide (o.id = x) with | some o => (o, true) | none => (ob0, false)
section
variable {l : List Ob} {x : Int} {o : Ob} {k : Nat}
theorem findF_no (h : fnd l x = false) : findF l x = (ob0, false) := by unfold findF; rw [if_neg (by rw [h]; simp)]
theorem findF_yes (h : fnd l x = true) (ho : l[pos l x]? = some o) : findF l x = (o, true) := by unfold findF; rw [if_pos h, ho]; rfl
theorem rfindF_no (hk : l.length ≤ k) (h : ∀ o ∈ l.take k, decide (o.id = x) = false) : rfindF l x = (ob0, false) := by
  rw [List.take_of_length_le hk] at h
  have : l.find? (fun o => decide (o.id = x)) = none := by rw [List.find?_eq_none]; intro o ho; rw [h o ho]; simp
  unfold rfindF
  rw [this]
theorem rfindF_at (hk : k < l.length) (h : ∀ o ∈ l.take k, decide (o.id = x) = false) (hp : l[k].id = x) : rfindF l x = (l[k], true) := by
  have : l.find? (fun o => decide (o.id = x)) = some l[k] := by
    rw [List.find?_eq_some_iff_getElem]
    refine ⟨decide_eq_true hp, k, hk, rfl, fun j hj => ?_⟩
    have hm : l[j] ∈ l.take k := by rw [List.mem_iff_getElem]; exact ⟨j, by rw [List.length_take]; omega, by simp⟩
    rw [h _ hm]
    rfl
  unfold rfindF
  rw [this]
/-- the two ways to find agree on a heap -/
theorem find_same (hs : Srt l) : rfindF l x = findF l x := by
  cases h : fnd l x with
  | false =>
    rw [findF_no h]
    unfold fnd at h
    rw [List.any_eq_false] at h
    exact rfindF_no (Nat.le_refl _) fun o ho => by have := h o (List.mem_of_mem_take ho); simpa using this
  | true =>
    obtain ⟨hl, o, ho, hid⟩ := fnd_pos h hs
    rw [findF_yes h ho]
    obtain ⟨_, he⟩ := List.getElem?_eq_some_iff.1 ho
    subst he
    refine rfindF_at hl (fun o ho => decide_eq_false ?_) hid
    obtain ⟨p, hp, rfl⟩ := List.mem_iff_getElem.1 ho
    rw [List.length_take] at hp
    rw [List.getElem_take]
    have := srt_lt hs (by omega : p < pos l x) hl
    omega
end
/-- the place of the object of a reference, or a fault -/
def cellF (l : List Ob) (r : V) : Int × Int :=
  if r.kind ≠ 2 ∨ fnd l r.n = false then (0, 1)
  else if (l[pos l r.n]?.getD ob0).chan = true then (0, 1)
  else if r.off < 0 ∨ ((l[pos l r.n]?.getD ob0).cells.length : Int) ≤ r.off then (0, 2) else ((pos l r.n : Int), 0)
def loadF (l : List Ob) (r : V) : V × Int :=
  if (cellF l r).2 = 0 then (((l[pos l r.n]?.getD ob0).cells[r.off.toNat]?).getD v0, 0) else (v0, (cellF l r).2)
section
variable {l : List Ob} {r : V} {o : Ob}
theorem cellF_1 (h : ¬ r.kind = 2 ∨ fnd l r.n = false) : cellF l r = (0, 1) := by unfold cellF; rw [if_pos h]
theorem not12 (h1 : r.kind = 2) (h2 : fnd l r.n = true) : ¬ (r.kind ≠ 2 ∨ fnd l r.n = false) := by rintro (h | h); exact h h1; rw [h2] at h; cases h
theorem cellF_2 (h1 : r.kind = 2) (h2 : fnd l r.n = true) (ho : l[pos l r.n]? = some o) (h3 : o.chan = true) : cellF l r = (0, 1) := by unfold cellF; rw [if_neg (not12 h1 h2), if_pos (by rw [ho]; exact h3)]
theorem cellF_3 (h1 : r.kind = 2) (h2 : fnd l r.n = true) (ho : l[pos l r.n]? = some o) (h3 : o.chan = false) (h4 : r.off < 0 ∨ r.off ≥ (o.cells.length : Int)) : cellF l r = (0, 2) := by
  unfold cellF; rw [if_neg (not12 h1 h2), if_neg (by rw [ho]; simp [h3]), if_pos (by rw [ho]; exact h4)]
theorem cellF_4 (h1 : r.kind = 2) (h2 : fnd l r.n = true) (ho : l[pos l r.n]? = some o) (h3 : o.chan = false) (h4 : 0 ≤ r.off ∧ r.off < (o.cells.length : Int)) : cellF l r = ((pos l r.n : Int), 0) := by
  unfold cellF; rw [if_neg (not12 h1 h2), if_neg (by rw [ho]; simp [h3]), if_neg (by rw [ho]; simp; omega)]
theorem loadF_no (h : ¬ (cellF l r).2 = 0) : loadF l r = (v0, (cellF l r).2) := by unfold loadF; rw [if_neg h]
theorem cell_inv (h : (cellF l r).2 = 0) : r.kind = 2 ∧ fnd l r.n = true ∧ (cellF l r).1 = (pos l r.n : Int) ∧ (l[pos l r.n]?.getD ob0).chan = false ∧ 0 ≤ r.off ∧ r.off < ((l[pos l r.n]?.getD ob0).cells.length : Int) := by
  unfold cellF at h ⊢
  split at h
  · simp at h
  · rename_i h1
    rw [if_neg h1]
    split at h
    · simp at h
    · rename_i h2
      rw [if_neg h2]
      split at h
      · simp at h
      · rename_i h3
        rw [if_neg h3]
        have hk : r.kind = 2 := Decidable.byContradiction fun e => h1 (.inl e)
        have hf : fnd l r.n = true := by cases e : fnd l r.n with | true => rfl | false => exact absurd (.inr e) h1
        exact ⟨hk, hf, rfl, by simpa using h2, by omega, by omega⟩
theorem loadF_yes (hs : Srt l) (h : (cellF l r).2 = 0) : ∃ o v, (cellF l r).1 = (pos l r.n : Int) ∧ l[pos l r.n]? = some o ∧ r.off = ((r.off.toNat : Nat) : Int) ∧ o.cells[r.off.toNat]? = some v ∧ loadF l r = (v, 0) := by
  obtain ⟨h1, h2, h3, h4, h5, h6⟩ := cell_inv h
  obtain ⟨hp, o, ho, _⟩ := fnd_pos h2 hs
  rw [ho] at h6
  have h6 : r.off < (o.cells.length : Int) := h6
  have hv := List.getElem?_eq_getElem (by omega : r.off.toNat < o.cells.length)
  refine ⟨o, _, h3, ho, by omega, hv, ?_⟩
  unfold loadF
  rw [if_pos h, ho]
  simp only [Option.getD_some, hv]
end
end Go.Hp


namespace Go.Hp
open Go.AL Go.Ch
def vval (v : V) : Bool := if v.kind = 0 then decide (v.off = 0) else if v.kind = 1 then decide (v.n = 0) && decide (v.off = 0) else if v.kind = 2 then (decide (v.n ≥ 0) && decide (v.off ≥ 0)) && decide (v.off ≤ 64) else false
theorem vval_0 {v : V} (h : v.kind = 0) : vval v = decide (v.off = 0) := by unfold vval; rw [if_pos h]
theorem vval_1 {v : V} (h0 : ¬ v.kind = 0) (h : v.kind = 1) : vval v = (decide (v.n = 0) && decide (v.off = 0)) := by unfold vval; rw [if_neg h0, if_pos h]
theorem vval_2 {v : V} (h0 : ¬ v.kind = 0) (h1 : ¬ v.kind = 1) (h : v.kind = 2) : vval v = ((decide (v.n ≥ 0) && decide (v.off ≥ 0)) && decide (v.off ≤ 64)) := by unfold vval; rw [if_neg h0, if_neg h1, if_pos h]
theorem vval_3 {v : V} (h0 : ¬ v.kind = 0) (h1 : ¬ v.kind = 1) (h : ¬ v.kind = 2) : vval v = false := by unfold vval; rw [if_neg h0, if_neg h1, if_neg h]
def wval (w : Wt) : Bool := (((decide (w.g ≥ 0) && decide (w.g < 8)) && decide (w.c ≥ -1)) && decide (w.c ≤ 7)) && vval w.v
theorem wval_no (w : Wt) : ((((decide (w.g < 0) || decide (w.g ≥ 8)) || decide (w.c < -1)) || decide (w.c > 7)) || !(vval w.v)) = !(wval w) := by
  unfold wval
  rw [Bool.eq_iff_iff]
  simp only [Bool.or_eq_true, decide_eq_true_eq, Bool.not_eq_true', Bool.and_eq_false_iff, decide_eq_false_iff_not]
  cases vval w.v <;> simp <;> omega
def objF (o : Ob) : Bool :=
  if o.chan = true then (((((((decide ((o.cells.length : Int) = 0) && decide (o.cap ≥ 0)) && decide (o.cap ≤ 64)) && decide ((o.queue.length : Int) ≤ o.cap)) && o.queue.all vval) && decide (o.sent ≥ 0)) && decide (o.received ≥ 0)) && o.senders.all wval) && o.receivers.all wval
  else (((((((decide ((o.cells.length : Int) ≤ 64) && o.cells.all vval) && decide (o.cap = 0)) && decide ((o.queue.length : Int) = 0)) && !(o.closed)) && decide (o.sent = 0)) && decide (o.received = 0)) && decide ((o.senders.length : Int) = 0)) && decide ((o.receivers.length : Int) = 0)
theorem objF_c {o : Ob} (h : o.chan = true) : objF o = ((((((((decide ((o.cells.length : Int) = 0) && decide (o.cap ≥ 0)) && decide (o.cap ≤ 64)) && decide ((o.queue.length : Int) ≤ o.cap)) && o.queue.all vval) && decide (o.sent ≥ 0)) && decide (o.received ≥ 0)) && o.senders.all wval) && o.receivers.all wval) := by unfold objF; rw [if_pos h]
theorem objF_d {o : Ob} (h : o.chan = false) : objF o = ((((((((decide ((o.cells.length : Int) ≤ 64) && o.cells.all vval) && decide (o.cap = 0)) && decide ((o.queue.length : Int) = 0)) && !(o.closed)) && decide (o.sent = 0)) && decide (o.received = 0)) && decide ((o.senders.length : Int) = 0)) && decide ((o.receivers.length : Int) = 0)) := by unfold objF; rw [if_neg (by rw [h]; simp)]
def vfrom (last : Int) : List Ob → Bool
  | [] => true
  | o :: l => !(decide (o.id ≤ last) || !(objF o)) && vfrom o.id l
def validF (l : List Ob) : Bool := vfrom (-1) l
section
variable {l : List Ob} {last : Int} {k : Nat} {r : Bool}
theorem vfrom_bad (hk : k < l.length) (h : vfrom last (l.drop k) = r) (hc : (decide (l[k].id ≤ last) || !(objF l[k])) = true) : r = false := by
  rw [← h, drop_at hk, vfrom, hc]
  rfl
theorem vfrom_next (hk : k < l.length) (h : vfrom last (l.drop k) = r) (hc : (decide (l[k].id ≤ last) || !(objF l[k])) = false) : vfrom l[k].id (l.drop (k + 1)) = r := by
  rw [← h, drop_at hk, vfrom, hc]
  rfl
theorem vfrom_end (hk : l.length ≤ k) (h : vfrom last (l.drop k) = r) : r = true := by
  rw [← h, List.drop_eq_nil_of_le hk]
  rfl
end
theorem vfrom_srt : ∀ (l : List Ob) (last : Int), vfrom last l = true → Srt l ∧ ∀ o ∈ l, last < o.id ∧ objF o = true
  | [], _, _ => ⟨List.Pairwise.nil, fun o ho => by cases ho⟩
  | o :: l, last, h => by
    simp only [vfrom, Bool.and_eq_true, Bool.not_eq_true', Bool.or_eq_false_iff, decide_eq_false_iff_not, Bool.not_eq_false'] at h
    obtain ⟨⟨h1, h2⟩, h3⟩ := h
    obtain ⟨h4, h5⟩ := vfrom_srt l o.id h3
    refine ⟨List.pairwise_cons.2 ⟨fun a ha => (h5 a ha).1, h4⟩, fun a ha => ?_⟩
    rcases List.mem_cons.1 ha with rfl | ha
    · exact ⟨by omega, h2⟩
    · have := h5 a ha; exact ⟨by omega, this.2⟩
theorem valid_srt {l : List Ob} (h : validF l = true) : Srt l := (vfrom_srt l _ h).1
end Go.Hp


namespace Go.Hp
open Go.AL Go.Ch
def prv (xs : List Ob) (k : Nat) : Int := if k = 0 then -1 else (xs[k - 1]?.getD ob0).id
theorem prv_at {xs : List Ob} {k : Nat} (h0 : 0 < k) (hk : k - 1 < xs.length) : prv xs k = (xs[k - 1]'hk).id := by
  unfold prv
  rw [if_neg (by omega), List.getElem?_eq_getElem hk]
  rfl
theorem prv_0 {xs : List Ob} {k : Nat} (h0 : k ≤ 0) : prv xs k = -1 := by unfold prv; rw [if_pos (by omega)]
theorem prv_succ {xs : List Ob} {k : Nat} (hk : k < xs.length) : prv xs (k + 1) = xs[k].id := by
  unfold prv
  rw [if_neg (by omega), Nat.add_sub_cancel, List.getElem?_eq_getElem hk]
  rfl
section
variable {o : Ob} {last : Int}
theorem ref_bad1 (h : o.id ≤ last ∨ (64 : Int) < (o.cells.length : Int) ∨ o.cells.all vval = false) : (decide (o.id ≤ last) || !(objF o)) = true := by
  rcases h with h | h | h
  · rw [decide_eq_true h]; rfl
  · have : objF o = false := by
      cases hc : o.chan with
      | true => rw [objF_c hc, decide_eq_false (by omega : ¬ (o.cells.length : Int) = 0)]; simp
      | false => rw [objF_d hc, decide_eq_false (by omega : ¬ (o.cells.length : Int) ≤ 64)]; simp
    rw [this]; simp
  · have : objF o = false := by
      cases hc : o.chan with
      | true =>
        have hn : ¬ (o.cells.length : Int) = 0 := fun e => by
          have : o.cells = [] := List.eq_nil_of_length_eq_zero (by omega)
          rw [this] at h; simp at h
        rw [objF_c hc, decide_eq_false hn]; simp
      | false => rw [objF_d hc, h]; simp
    rw [this]; simp
abbrev c2 (o : Ob) : Bool := !(o.chan) && ((((((decide (o.cap ≠ 0) || decide ((o.queue.length : Int) > 0)) || o.closed) || decide (o.sent ≠ 0)) || decide (o.received ≠ 0)) || decide ((o.senders.length : Int) > 0)) || decide ((o.receivers.length : Int) > 0))
abbrev c3 (o : Ob) : Bool := o.chan && ((((((((decide ((o.cells.length : Int) > 0) || decide (o.cap < 0)) || decide (o.cap > 64)) || decide ((o.queue.length : Int) > o.cap)) || !(o.queue.all vval)) || decide (o.sent < 0)) || decide (o.received < 0)) || !(o.senders.all wval)) || !(o.receivers.all wval))
theorem ref_bad2 (h : c2 o = true) : (decide (o.id ≤ last) || !(objF o)) = true := by
  unfold c2 at h
  cases hc : o.chan with
  | true => rw [hc] at h; simp at h
  | false =>
    rw [hc] at h
    have : objF o = false := by
      rw [objF_d hc]
      simp only [Bool.not_false, Bool.true_and, Bool.or_eq_true, decide_eq_true_eq] at h
      simp only [Bool.and_eq_false_iff, decide_eq_false_iff_not, Bool.not_eq_false']
      rcases h with (((((h | h) | h) | h) | h) | h) | h
      · exact .inl (.inl (.inl (.inl (.inl (.inl (.inr h))))))
      · exact .inl (.inl (.inl (.inl (.inl (.inr (by omega))))))
      · exact .inl (.inl (.inl (.inl (.inr h))))
      · exact .inl (.inl (.inl (.inr h)))
      · exact .inl (.inl (.inr h))
      · exact .inl (.inr (by omega))
      · exact .inr (by omega)
    rw [this]; simp
theorem ref_bad3 (h : c3 o = true) : (decide (o.id ≤ last) || !(objF o)) = true := by
  unfold c3 at h
  cases hc : o.chan with
  | false => rw [hc] at h; simp at h
  | true =>
    rw [hc] at h
    have : objF o = false := by
      rw [objF_c hc]
      simp only [Bool.true_and, Bool.or_eq_true, decide_eq_true_eq, Bool.not_eq_true'] at h
      simp only [Bool.and_eq_false_iff, decide_eq_false_iff_not]
      rcases h with (((((((h | h) | h) | h) | h) | h) | h) | h) | h
      · exact .inl (.inl (.inl (.inl (.inl (.inl (.inl (.inl (by omega))))))))
      · exact .inl (.inl (.inl (.inl (.inl (.inl (.inl (.inr (by omega))))))))
      · exact .inl (.inl (.inl (.inl (.inl (.inl (.inr (by omega)))))))
      · exact .inl (.inl (.inl (.inl (.inl (.inr (by omega))))))
      · exact .inl (.inl (.inl (.inl (.inr h))))
      · exact .inl (.inl (.inl (.inr (by omega))))
      · exact .inl (.inl (.inr (by omega)))
      · exact .inl (.inr h)
      · exact .inr h
    rw [this]; simp
theorem ref_ok (h1 : last < o.id) (h2 : (o.cells.length : Int) ≤ 64) (h3 : o.cells.all vval = true) (h4 : c2 o = false) (h5 : c3 o = false) : (decide (o.id ≤ last) || !(objF o)) = false := by
  have : objF o = true := by
    unfold c2 at h4
    unfold c3 at h5
    cases hc : o.chan with
    | true =>
      rw [hc] at h5
      rw [objF_c hc]
      simp only [Bool.true_and, Bool.or_eq_false_iff, decide_eq_false_iff_not, Bool.not_eq_false'] at h5
      obtain ⟨⟨⟨⟨⟨⟨⟨⟨g1, g2⟩, g3⟩, g4⟩, g5⟩, g6⟩, g7⟩, g8⟩, g9⟩ := h5
      simp only [Bool.and_eq_true, decide_eq_true_eq]
      exact ⟨⟨⟨⟨⟨⟨⟨⟨by omega, by omega⟩, by omega⟩, by omega⟩, g5⟩, by omega⟩, by omega⟩, g8⟩, g9⟩
    | false =>
      rw [hc] at h4
      rw [objF_d hc]
      simp only [Bool.not_false, Bool.true_and, Bool.or_eq_false_iff, decide_eq_false_iff_not, ne_eq, Decidable.not_not] at h4
      obtain ⟨⟨⟨⟨⟨⟨g1, g2⟩, g3⟩, g4⟩, g5⟩, g6⟩, g7⟩ := h4
      simp only [Bool.and_eq_true, decide_eq_true_eq, Bool.not_eq_true']
      exact ⟨⟨⟨⟨⟨⟨⟨⟨h2, h3⟩, g1⟩, by omega⟩, g3⟩, g4⟩, g5⟩, by omega⟩, by omega⟩
  rw [this, decide_eq_false (by omega)]
  rfl
end
/-- the reference's Check and Load -/
def checkF (l : List Ob) (r : V) : Ob × Int :=
  if ¬ r.kind = 2 then (ob0, 1)
  else if (rfindF l r.n).2 = false ∨ (rfindF l r.n).1.chan = true then (ob0, 1)
  else if r.off < 0 ∨ r.off ≥ ((rfindF l r.n).1.cells.length : Int) then (ob0, 2) else ((rfindF l r.n).1, 0)
def rloadF (l : List Ob) (r : V) : V × Int := if (checkF l r).2 = 0 then (((checkF l r).1.cells[r.off.toNat]?).getD v0, 0) else (v0, (checkF l r).2)
section
variable {l : List Ob} {r : V}
theorem checkF_1 (h : ¬ r.kind = 2) : checkF l r = (ob0, 1) := by unfold checkF; rw [if_pos h]
theorem checkF_2 (h : r.kind = 2) (h2 : (rfindF l r.n).2 = false ∨ (rfindF l r.n).1.chan = true) : checkF l r = (ob0, 1) := by unfold checkF; rw [if_neg (by simpa using h), if_pos h2]
theorem no2 (h2 : (rfindF l r.n).2 = true ∧ (rfindF l r.n).1.chan = false) : ¬ ((rfindF l r.n).2 = false ∨ (rfindF l r.n).1.chan = true) := by rw [h2.1, h2.2]; simp
theorem checkF_3 (h : r.kind = 2) (h2 : (rfindF l r.n).2 = true ∧ (rfindF l r.n).1.chan = false) (h3 : r.off < 0 ∨ r.off ≥ ((rfindF l r.n).1.cells.length : Int)) : checkF l r = (ob0, 2) := by unfold checkF; rw [if_neg (by simpa using h), if_neg (no2 h2), if_pos h3]
theorem checkF_4 (h : r.kind = 2) (h2 : (rfindF l r.n).2 = true ∧ (rfindF l r.n).1.chan = false) (h3 : 0 ≤ r.off ∧ r.off < ((rfindF l r.n).1.cells.length : Int)) : checkF l r = ((rfindF l r.n).1, 0) := by unfold checkF; rw [if_neg (by simpa using h), if_neg (no2 h2), if_neg (by omega)]
theorem rloadF_no (h : ¬ (checkF l r).2 = 0) : rloadF l r = (v0, (checkF l r).2) := by unfold rloadF; rw [if_neg h]
theorem check_inv (h : (checkF l r).2 = 0) : r.kind = 2 ∧ ((rfindF l r.n).2 = true ∧ (rfindF l r.n).1.chan = false) ∧ (0 ≤ r.off ∧ r.off < ((rfindF l r.n).1.cells.length : Int)) ∧ checkF l r = ((rfindF l r.n).1, 0) := by
  by_cases h1 : r.kind = 2
  · by_cases h2 : (rfindF l r.n).2 = false ∨ (rfindF l r.n).1.chan = true
    · rw [checkF_2 h1 h2] at h; simp at h
    · have h2' : (rfindF l r.n).2 = true ∧ (rfindF l r.n).1.chan = false := by
        cases e1 : (rfindF l r.n).2 <;> cases e2 : (rfindF l r.n).1.chan <;> simp_all
      by_cases h3 : r.off < 0 ∨ r.off ≥ ((rfindF l r.n).1.cells.length : Int)
      · rw [checkF_3 h1 h2' h3] at h; simp at h
      · exact ⟨h1, h2', by omega, checkF_4 h1 h2' (by omega)⟩
  · rw [checkF_1 h1] at h; simp at h
theorem rloadF_yes (h : (checkF l r).2 = 0) : ∃ v, r.off = ((r.off.toNat : Nat) : Int) ∧ (checkF l r).1.cells[r.off.toNat]? = some v ∧ rloadF l r = (v, 0) := by
  obtain ⟨h1, h2, h3, h4⟩ := check_inv h
  have hv := List.getElem?_eq_getElem (by omega : r.off.toNat < (rfindF l r.n).1.cells.length)
  refine ⟨_, by omega, by rw [h4]; exact hv, ?_⟩
  unfold rloadF
  rw [if_pos h, h4]
  simp only [hv, Option.getD_some]
end
end Go.Hp


namespace Go.Hp
open Go.AL Go.Ch
/-- the reference's Put of an object into a list -/
def rputF (o : Ob) : Bool → List Ob → List Ob
  | dn, [] => if dn = true then [] else [o]
  | dn, x :: l => ((if (!dn && decide (x.id ≥ o.id)) = true then [o] else []) ++ (if x.id ≠ o.id then [x] else [])) ++ rputF o (dn || decide (x.id ≥ o.id)) l
section
variable {o : Ob} {dn : Bool} {l out r : List Ob} {k : Nat}
theorem rput_A (hk : k < l.length) (h : out ++ rputF o dn (l.drop k) = r) (h1 : (!dn && decide (l[k].id ≥ o.id)) = true) (h2 : ¬ l[k].id = o.id) : (out ++ [o] ++ [l[k]]) ++ rputF o true (l.drop (k + 1)) = r := by
  rw [drop_at hk] at h
  simp only [rputF] at h
  rw [if_pos h1, if_pos h2] at h
  simp only [Bool.and_eq_true, decide_eq_true_eq] at h1
  rw [decide_eq_true h1.2, Bool.or_true] at h
  simpa using h
theorem rput_B (hk : k < l.length) (h : out ++ rputF o dn (l.drop k) = r) (h1 : (!dn && decide (l[k].id ≥ o.id)) = true) (h2 : l[k].id = o.id) : (out ++ [o]) ++ rputF o true (l.drop (k + 1)) = r := by
  rw [drop_at hk] at h
  simp only [rputF] at h
  rw [if_pos h1, if_neg (by simpa using h2)] at h
  simp only [Bool.and_eq_true, decide_eq_true_eq] at h1
  rw [decide_eq_true h1.2, Bool.or_true] at h
  simpa using h
theorem rput_C (hk : k < l.length) (h : out ++ rputF o dn (l.drop k) = r) (h1 : (!dn && decide (l[k].id ≥ o.id)) = false) (h2 : ¬ l[k].id = o.id) : (out ++ [l[k]]) ++ rputF o dn (l.drop (k + 1)) = r := by
  rw [drop_at hk] at h
  simp only [rputF] at h
  rw [if_neg (by rw [h1]; simp), if_pos h2] at h
  have : (dn || decide (l[k].id ≥ o.id)) = dn := by cases dn <;> simp_all
  rw [this] at h
  simpa using h
theorem rput_D (hk : k < l.length) (h : out ++ rputF o dn (l.drop k) = r) (h1 : (!dn && decide (l[k].id ≥ o.id)) = false) (h2 : l[k].id = o.id) : out ++ rputF o dn (l.drop (k + 1)) = r := by
  rw [drop_at hk] at h
  simp only [rputF] at h
  rw [if_neg (by rw [h1]; simp), if_neg (by simpa using h2)] at h
  have : (dn || decide (l[k].id ≥ o.id)) = dn := by cases dn <;> simp_all
  rw [this] at h
  simpa using h
theorem rput_end (hk : l.length ≤ k) (h : out ++ rputF o dn (l.drop k) = r) : out ++ (if dn = true then [] else [o]) = r := by
  rw [List.drop_eq_nil_of_le hk] at h
  exact h
end
/-- the program's Put into a list -/
def putF (o : Ob) (l : List Ob) : List Ob := if fnd l o.id = true then l.set (pos l o.id) o else l.take (pos l o.id) ++ o :: l.drop (pos l o.id)
theorem rput_done (o : Ob) : ∀ (l : List Ob), (∀ x ∈ l, o.id < x.id) → rputF o true l = l
  | [], _ => rfl
  | x :: l, h => by
    have hx := h x (List.mem_cons_self ..)
    simp only [rputF]
    rw [if_pos (by omega : x.id ≠ o.id), Bool.true_or, rput_done o l fun y hy => h y (List.mem_cons_of_mem _ hy)]
    simp
/-- on a heap the two agree -/
theorem put_same (o : Ob) : ∀ (l : List Ob), Srt l → rputF o false l = putF o l
  | [], _ => rfl
  | x :: l, hs => by
    obtain ⟨h1, h2⟩ := List.pairwise_cons.1 hs
    have ih := put_same o l h2
    simp only [rputF]
    by_cases hx : x.id < o.id
    · rw [if_neg (by simp; omega), if_pos (by omega : x.id ≠ o.id), decide_eq_false (by omega : ¬ x.id ≥ o.id), Bool.or_false, ih]
      have hp : pos (x :: l) o.id = pos l o.id + 1 := by unfold pos; rw [List.countP_cons, if_pos (decide_eq_true hx)]
      have hf : fnd (x :: l) o.id = fnd l o.id := by unfold fnd; rw [List.any_cons, decide_eq_false (by omega : ¬ x.id = o.id), Bool.false_or]
      unfold putF
      rw [hp, hf]
      split <;> simp
    · have hp : pos (x :: l) o.id = 0 := by
        unfold pos
        rw [List.countP_eq_zero]
        intro y hy
        rcases List.mem_cons.1 hy with rfl | hy
        · simpa using hx
        · have := h1 y hy; simp; omega
      rw [if_pos (by simp; omega), decide_eq_true (by omega : x.id ≥ o.id), Bool.or_true, rput_done o l fun y hy => by have := h1 y hy; omega]
      unfold putF
      rw [hp]
      by_cases he : x.id = o.id
      · have hf : fnd (x :: l) o.id = true := by unfold fnd; rw [List.any_cons, decide_eq_true he, Bool.true_or]
        rw [if_neg (by simpa using he), if_pos hf]
        simp
      · have hf : fnd (x :: l) o.id = false := by
          unfold fnd
          rw [List.any_eq_false]
          intro y hy
          rcases List.mem_cons.1 hy with rfl | hy
          · simpa using he
          · have := h1 y hy; simp; omega
        rw [if_pos he, if_neg (by rw [hf]; simp)]
        simp
end Go.Hp


namespace Go.Hp
open Go.AL Go.Ch
def mc0 : Mc := ⟨[], [], [], []⟩
def nid (g n : Int) : Int := 1 + g + 8 * n
/-- Alloc, over a way to put an object into a list -/
def allocF (put : Ob → List Ob → List Ob) (m : Mc) (g : Int) (o : Ob) : Mc × Int × Int :=
  if g < 0 ∨ (m.gors.length : Int) ≤ g ∨ 8 ≤ g then (mc0, 0, 1)
  else if (m.gors[g.toNat]?.getD default).allocs < 0 ∨ 200 ≤ (m.gors[g.toNat]?.getD default).allocs then (mc0, 0, 3)
  else ({ m with objects := put { o with id := nid g (m.gors[g.toNat]?.getD default).allocs } m.objects, gors := m.gors.set g.toNat { (m.gors[g.toNat]?.getD default) with allocs := (m.gors[g.toNat]?.getD default).allocs + 1 } }, nid g (m.gors[g.toNat]?.getD default).allocs, 0)
section
variable {put : Ob → List Ob → List Ob} {m : Mc} {g : Int} {o : Ob}
theorem alloc_1 (h : g < 0 ∨ (m.gors.length : Int) ≤ g ∨ 8 ≤ g) : allocF put m g o = (mc0, 0, 1) := by unfold allocF; rw [if_pos h]
theorem alloc_2 (h : ¬ (g < 0 ∨ (m.gors.length : Int) ≤ g ∨ 8 ≤ g)) {gr : Gr} (hg : m.gors[g.toNat]? = some gr) (h2 : gr.allocs < 0 ∨ 200 ≤ gr.allocs) : allocF put m g o = (mc0, 0, 3) := by
  unfold allocF; rw [if_neg h, hg]; simp only [Option.getD_some]; rw [if_pos h2]
theorem alloc_3 (h : ¬ (g < 0 ∨ (m.gors.length : Int) ≤ g ∨ 8 ≤ g)) {gr : Gr} (hg : m.gors[g.toNat]? = some gr) (h2 : ¬ (gr.allocs < 0 ∨ 200 ≤ gr.allocs)) :
    allocF put m g o = ({ m with objects := put { o with id := nid g gr.allocs } m.objects, gors := m.gors.set g.toNat { gr with allocs := gr.allocs + 1 } }, nid g gr.allocs, 0) := by
  unfold allocF; rw [if_neg h, hg]; simp only [Option.getD_some]; rw [if_neg h2]
end
end Go.Hp


namespace Go.Hp
open Go.AL Go.Ch
def setC (o : Ob) (r v : V) : Ob := { o with cells := o.cells.set r.off.toNat v }
def rstoreF (m : Mc) (r v : V) : Mc × Int := if (checkF m.objects r).2 = 0 then ({ m with objects := rputF (setC (rfindF m.objects r.n).1 r v) false m.objects }, 0) else (mc0, (checkF m.objects r).2)
theorem rstore_n {m : Mc} {r v : V} (h : ¬ (checkF m.objects r).2 = 0) : rstoreF m r v = (mc0, (checkF m.objects r).2) := by unfold rstoreF; rw [if_neg h]
theorem rstore_y {m : Mc} {r v : V} (h : (checkF m.objects r).2 = 0) : rstoreF m r v = ({ m with objects := rputF (setC (rfindF m.objects r.n).1 r v) false m.objects }, 0) := by unfold rstoreF; rw [if_pos h]
theorem rfind_bd {m : Mc} {n : Nat} {x : Int} (hb : Bd n m) (h : (rfindF m.objects x).2 = true) : BdO n (rfindF m.objects x).1 := by
  unfold rfindF at h ⊢
  cases hf : m.objects.find? fun o => decide (o.id = x) with
  | none => rw [hf] at h; simp at h
  | some o => exact hb.object o (List.mem_of_find?_eq_some hf)
theorem setC_bd {n : Nat} {o : Ob} {r v : V} (h : BdO n o) : BdO n (setC o r v) := ⟨by unfold setC; simpa using h.cells, h.queue, h.senders, h.receivers⟩
end Go.Hp


namespace Go.AL
open Go.RowKit
theorem run_copy_rowk {P : Program} (w : World) (dT sT ty elem : TypeId) (g o dLen dCap : Nat) (a : Addr) (sLen sCap k : Nat) (cur : Array Value) (t : TypeId) (cs : List Value)
    (hu : P.underlying dT = some (.slice elem)) (hs : (P.info? elem).map (·.size) = some k)
    (hg : w.heap[g]? = some (.cells cur t (0, 0))) (hn : cs.length = Nat.min sLen dLen * k)
    (hsrc : ∀ j v, cs[j]? = some v → w.cell? (a.add j) = some v) (hfit : o + cs.length ≤ cur.size) (h1 : ∀ v ∈ cs, v.oneCell' = true) :
    (Builtin.copy_ #[dT, sT] ty #[.slice (some ⟨g, o, none⟩) dLen dCap, .slice (some a) sLen sCap]).run P w =
      .ok (goInt (Nat.min sLen dLen)) (w.setRow g (cur.toList.take o ++ cs ++ cur.toList.drop (o + cs.length)).toArray) := by
  have hl := run_loadCells_list (P := P) w a cs hsrc
  have hst := run_storeCells_at P g o t cs 0 cur w hg (by simpa using hfit) h1
  cases hq : P.info? elem with
  | none => simp [hq] at hs
  | some i =>
    have hi : i.size = k := by simpa [hq] using hs
    simp [Builtin.copy_, run_underlying hu, Builtin.lenOf, Builtin.firstCells, sizeOf, typeInfo, hq, hi, ← hn, hl, hst]
/-- the block has room for z elements (said of whatever value) -/
def zP (id : Id) (z : Nat) : Pred :=
  ⟨fun σ _ => σ.z id = z ∧ σ.ρ id ≠ none, fun σ τ v hle ⟨h1, h2⟩ => by
     obtain ⟨ob, hob⟩ := Option.ne_none_iff_exists'.1 h2
     exact ⟨by rw [hle.z _ _ hob]; exact h1, by rw [hle.ρ _ _ hob]; simp⟩⟩
/-- a slice's room -/
def capP (id : Id) (off : Nat) : Pred :=
  ⟨fun σ v => v = .int .i64 ((σ.z id - off : Nat) : Int) ∧ σ.ρ id ≠ none, fun σ τ v hle ⟨h1, h2⟩ => by
     obtain ⟨ob, hob⟩ := Option.ne_none_iff_exists'.1 h2
     exact ⟨by rw [hle.z _ _ hob]; exact h1, by rw [hle.ρ _ _ hob]; simp⟩⟩
section
variable {P : Program} {C : Cx} {F : Fr} {L : Tk} {Q : Exit → Act → World → Prop} {cd : Code}
end
section
variable {P : Program} {n N : Nat} {F : Fr} {R : Toks} {d : Option Nat} {T : TypeId} {pos : String} {after : Array Edge} {k : Nat} {t e : TypeId} {ik : IntKind} {id : Id} {off len c : Nat}
/-- s[:hi] beyond its length, within the block -/
theorem op_mslice_xh {x y : Operand} {i : Int} {hi : Nat} (hx : opd F x = some (mvP id k off len c)) (hy : opd F y = some (eqP (.int ik i))) (ht : elemB P t = some e) (hs : sizeB P e = some k) (hii : i = (hi : Int)) (hhi : off + hi ≤ c) :
    OpJ P n N F R ⟨d, .slice t x none (some y) none, T, pos, after, none⟩ ⟨rdo x (mvP id k off len c) ++ rdo y (eqP (.int ik i)), [], [], [], [], mvP id k off hi c⟩ :=
  opj2 hx hy fun σ W a ⟨ad, hv, h1, h2, h3, h5⟩ h4 => by
    have e2 : a.eval y = .int ik i := h4
    have hc := mv_cut (c := c) (lo := 0) (hi := hi) (len := hi) (by omega) h2 h3 h5 (Nat.zero_le _) (Nat.le_refl _)
    simp only [Nat.add_zero, Nat.sub_zero, Nat.zero_mul] at hc
    have hcap : hi ≤ σ.z id - off := by omega
    refine ⟨_, ?_, hc⟩
    subst hii
    simp only [execOp, Instr.sliceAt, Sem.run_bind, run_underlying (elem_of ht), Result.andThen_ok, hv, Option.map_some, Option.map_none, e2]
    simp only [Instr.slice, Sem.run_bind, run_underlying (elem_of ht), Result.andThen_ok, Instr.sliceBounds, Sem.run_pure, Option.isSome_none, Instr.sliceBound, asIntOf]
    simp [hcap, run_sizeOf' hs]
end
theorem drop_rest {α : Type} {cs rest us : List α} {o : Nat} (h : o ≤ cs.length) :
    (cs ++ rest).take o ++ us ++ (cs ++ rest).drop (o + us.length) = (cs.take o ++ us ++ cs.drop (o + us.length)) ++ rest.drop (o + us.length - cs.length) := by
  rw [List.take_append_of_le_length h, List.drop_append]
  simp
/-- a stretch of a block written, past what is known of it -/
theorem Models.wrX {σ : Sg} {R : Toks} {W : World} (h : Models σ R W) {m b κ : Nat} {id : Id} {B : TypeId} {ps qs : List Pred} {us : List Value} (hRm : R m = some (id, blkX κ B ps)) (hb : σ.ρ id = some (some b)) (hκ : κ ≠ 0) {o : Nat} (hu : Vs σ qs us) (ho : o ≤ ps.length) (hl : o + qs.length ≤ σ.z id * κ) :
    ∃ cur : List Value, W.heap[b]? = some (.cells cur.toArray B (0, 0)) ∧ cur.length = σ.z id * κ ∧
      Models σ (fun q => if q = m then some (id, blkX κ B (splice ps o qs)) else R q) (W.setRow b (cur.take o ++ us ++ cur.drop (o + us.length)).toArray) := by
  obtain ⟨cs, rest, hcs, hvs, hz, _⟩ := blk_read h hRm hb
  have l1 := hvs.1
  have l2 := hu.1
  have l3 := hz hκ
  refine ⟨cs ++ rest, hcs, l3, ?_⟩
  have hdr := drop_rest (us := us) (rest := rest) (show o ≤ cs.length by omega)
  have hlen : ((cs ++ rest).take o ++ us ++ (cs ++ rest).drop (o + us.length)).length = σ.z id * κ := by
    simp only [List.length_append, List.length_take, List.length_drop] at l3 ⊢
    omega
  rw [hdr] at hlen ⊢
  exact h.write hRm hb (setRow_heap W b _ _ B (0, 0) hcs) (fun _ => hlen) (fun k hk => setRow_other W b k _ hk) (by simp) rfl rfl rfl (hvs.splice hu o)
section
variable {P : Program} {n N : Nat} {F : Fr} {R : Toks} {d : Option Nat} {T : TypeId} {pos : String} {after : Array Edge} {k : Nat} {t ts e : TypeId} {id : Id}
theorem op_copy_src {x y : Operand} {p : Pred} {m o1 n1 cnt c : Nat} {ps qs : List Pred} {us : List (Nat × Id × Res)} (hx : opd F x = some (mvP id k o1 n1 c)) (hy : opd F y = some p) (hR : R m = some (id, blkX k e ps)) (hus : ∀ z ∈ us, R z.1 = some z.2)
    (ht : elemB P t = some e) (hs : sizeB P e = some k) (hk0 : k ≠ 0) (hpos : 0 < cnt) (hcnt : cnt ≤ n1) (ho : o1 * k ≤ ps.length) (hql : qs.length = cnt * k)
    (hsrc : ∀ (σ : Sg) (W : World) (R : Toks) (v : Value), Models σ R W → R m = some (id, blkX k e ps) → (∀ z ∈ us, R z.1 = some z.2) → p.h σ v → ∃ ad sl sc vs, v = .slice (some ad) sl sc ∧ Nat.min sl n1 = cnt ∧ Vs σ qs vs ∧ ∀ (j : Nat) (u : Value), vs[j]? = some u → W.cell? (ad.add j) = some u) :
    OpJ P n N F R ⟨d, .call { callee := .builtin .copy, args := #[x, y], argTypes := #[t, ts] }, T, pos, after, none⟩
      ⟨rdo x (mvP id k o1 n1 c) ++ rdo y p, us, [(m, (id, blkX k e ps))], [(m, (id, blkX k e (splice ps (o1 * k) qs)))], [], eqP (.int .i64 cnt)⟩ where
  loc := by
    intro σ W R a K hm h2' h3 h4 h5 h6 h7 h8 h9 Q
    have hRm := h6 _ (List.mem_cons_self ..)
    obtain ⟨a1, hv1, x1, x2, x3, x4⟩ := holds_of hx fun w hw => h4 w (List.mem_append_left _ hw)
    have hyp := holds_of hy fun w hw => h4 w (List.mem_append_right _ hw)
    obtain ⟨ad, sl, sc, vs, hv2, hmin, hvs, hcell⟩ := hsrc σ W R _ hm hRm h5 hyp
    obtain ⟨b, hb, rfl⟩ := x4 (by omega)
    have hfit : o1 * k + qs.length ≤ σ.z id * k := by
      rw [hql, ← Nat.add_mul]
      exact Nat.mul_le_mul_right _ (by omega)
    obtain ⟨cur, hcur, hcl, hmod⟩ := hm.wrX hRm hb hk0 hvs ho hfit
    obtain ⟨i, hi, his⟩ : ∃ i, P.info? e = some i ∧ i.size = k := by
      unfold sizeB at hs
      cases hi : P.info? e with
      | none => rw [hi] at hs; cases hs
      | some i => rw [hi] at hs; simp at hs; exact ⟨i, rfl, hs⟩
    have hr := run_copy_rowk (P := P) W t ts T e b (o1 * k) n1 (σ.z id - o1) ad sl sc k cur.toArray e vs (elem_of ht) (by rw [hi]; simp [his]) hcur (by rw [hmin, hvs.1, hql]) hcell (by rw [hvs.1, List.size_toArray, hcl]; exact hfit) hvs.ones
    rw [hmin] at hr
    refine wp_value (v := .int .i64 cnt) ?_ (h9 σ _ _ (Le.refl σ) (fun _ _ _ => rfl) (hmod.congr (updR_turn ..)) rfl)
    simp only [execOp, resolve, invoke, builtin, Sem.run_bind, Sem.run_pure, Result.andThen_ok, List.map_toArray, List.map_cons, List.map_nil, hv1, hv2, hr]
    rfl
  rd := rd_app (rd_of hx) (rd_of hy)
  use := hus
  del := by simpa using hR
  add := by simp
def spl {α : Type} (xs : List α) (o : Nat) (ys : List α) : List α := xs.take o ++ ys ++ xs.drop (o + ys.length)
theorem fm_take {α : Type} {f : α → List Pred} {k : Nat} (hk : ∀ z, (f z).length = k) : ∀ (xs : List α) (o : Nat), (xs.flatMap f).take (o * k) = (xs.take o).flatMap f
  | [], o => by simp
  | x :: xs, 0 => by simp
  | x :: xs, o + 1 => by
    rw [List.flatMap_cons, List.take_succ_cons, List.flatMap_cons, List.take_append, hk, ← fm_take hk xs o, List.take_of_length_le (by rw [hk, Nat.succ_mul]; omega), Nat.succ_mul, Nat.add_sub_cancel]
theorem fm_drop {α : Type} {f : α → List Pred} {k : Nat} (hk : ∀ z, (f z).length = k) : ∀ (xs : List α) (o : Nat), (xs.flatMap f).drop (o * k) = (xs.drop o).flatMap f
  | [], o => by simp
  | x :: xs, 0 => by simp
  | x :: xs, o + 1 => by
    rw [List.flatMap_cons, List.drop_succ_cons, List.drop_append, hk, ← fm_drop hk xs o, List.drop_eq_nil_of_le (by rw [hk, Nat.succ_mul]; omega), Nat.succ_mul, Nat.add_sub_cancel, List.nil_append]
theorem fm_spl {α : Type} {f : α → List Pred} {k : Nat} (hk : ∀ z, (f z).length = k) (xs ys : List α) (o : Nat) : splice (xs.flatMap f) (o * k) (ys.flatMap f) = (spl xs o ys).flatMap f := by
  unfold splice spl
  rw [flatMap_len hk, ← Nat.add_mul, fm_take hk, fm_drop hk, List.flatMap_append, List.flatMap_append]
variable {α : Type} {f : α → List Pred}
/-- copy within one block of the call's own -/
theorem op_copy_in {x y : Operand} {m o1 n1 o2 n2 cnt c c2 : Nat} {xs : List α} (hx : opd F x = some (mvP id k o1 n1 c)) (hy : opd F y = some (mvP id k o2 n2 c2)) (hR : R m = some (id, blkX k e (xs.flatMap f)))
    (ht : elemB P t = some e) (hs : sizeB P e = some k) (hk0 : k ≠ 0) (hk : ∀ z, (f z).length = k) (hpos : 0 < cnt) (hmin : Nat.min n2 n1 = cnt) (ho : o1 ≤ xs.length) (hsx : o2 + cnt ≤ xs.length) :
    OpJ P n N F R ⟨d, .call { callee := .builtin .copy, args := #[x, y], argTypes := #[t, ts] }, T, pos, after, none⟩
      ⟨rdo x (mvP id k o1 n1 c) ++ rdo y (mvP id k o2 n2 c2), [], [(m, (id, blkX k e (xs.flatMap f)))], [(m, (id, blkX k e ((spl xs o1 ((xs.drop o2).take cnt)).flatMap f)))], [], eqP (.int .i64 cnt)⟩ := by
  have hcl : ((xs.drop o2).take cnt).length = cnt := by rw [List.length_take, List.length_drop]; omega
  have hm2 : cnt ≤ n1 ∧ cnt ≤ n2 := by rw [← hmin]; exact ⟨Nat.min_le_right .., Nat.min_le_left ..⟩
  have h := op_copy_src (P := P) (n := n) (N := N) (F := F) (R := R) (d := d) (T := T) (pos := pos) (after := after) (ts := ts) (m := m) (cnt := cnt) (us := []) (qs := ((xs.drop o2).take cnt).flatMap f) hx hy hR (by simp) ht hs hk0 hpos hm2.1
    (by rw [flatMap_len hk]; exact Nat.mul_le_mul_right _ ho) (by rw [flatMap_len hk, hcl]) (by
      intro σ W R v hm hRm _ ⟨a2, hv, y1, y2, y3, y4⟩
      obtain ⟨b, hb, rfl⟩ := y4 (by omega)
      obtain ⟨cs, rest, hcs, hvs, _, _⟩ := blk_read hm hRm hb
      refine ⟨_, _, _, (cs.drop (o2 * k)).take (cnt * k), hv, hmin, ?_, fun j u hu => ?_⟩
      · rw [← fm_take hk, ← fm_drop hk]; exact hvs.drop _ _
      · rw [addr_add]
        rw [List.getElem?_take] at hu
        split at hu
        · rw [List.getElem?_drop] at hu
          exact cell_blk hcs hu
        · cases hu)
  rwa [fm_spl hk] at h
/-- copy from one block of the call's own into another -/
theorem op_copy_two {x y : Operand} {m m2 o1 n1 o2 n2 cnt c c2 κ2 : Nat} {id2 : Id} {B2 : TypeId} {xs ys : List α} (hx : opd F x = some (mvP id k o1 n1 c)) (hy : opd F y = some (mvP id2 k o2 n2 c2)) (hR : R m = some (id, blkX k e (xs.flatMap f))) (hR2 : R m2 = some (id2, blkX κ2 B2 (ys.flatMap f)))
    (ht : elemB P t = some e) (hs : sizeB P e = some k) (hk0 : k ≠ 0) (hk : ∀ z, (f z).length = k) (hpos : 0 < cnt) (hmin : Nat.min n2 n1 = cnt) (ho : o1 ≤ xs.length) (hsx : o2 + cnt ≤ ys.length) :
    OpJ P n N F R ⟨d, .call { callee := .builtin .copy, args := #[x, y], argTypes := #[t, ts] }, T, pos, after, none⟩
      ⟨rdo x (mvP id k o1 n1 c) ++ rdo y (mvP id2 k o2 n2 c2), [(m2, (id2, blkX κ2 B2 (ys.flatMap f)))], [(m, (id, blkX k e (xs.flatMap f)))], [(m, (id, blkX k e ((spl xs o1 ((ys.drop o2).take cnt)).flatMap f)))], [], eqP (.int .i64 cnt)⟩ := by
  have hcl : ((ys.drop o2).take cnt).length = cnt := by rw [List.length_take, List.length_drop]; omega
  have hm2 : cnt ≤ n1 ∧ cnt ≤ n2 := by rw [← hmin]; exact ⟨Nat.min_le_right .., Nat.min_le_left ..⟩
  have h := op_copy_src (P := P) (n := n) (N := N) (F := F) (R := R) (d := d) (T := T) (pos := pos) (after := after) (ts := ts) (m := m) (cnt := cnt) (us := [(m2, (id2, blkX κ2 B2 (ys.flatMap f)))]) (qs := ((ys.drop o2).take cnt).flatMap f) hx hy hR (by simpa using hR2) ht hs hk0 hpos hm2.1
    (by rw [flatMap_len hk]; exact Nat.mul_le_mul_right _ ho) (by rw [flatMap_len hk, hcl]) (by
      intro σ W R v hm _ hus ⟨a2, hv, y1, y2, y3, y4⟩
      obtain ⟨b, hb, rfl⟩ := y4 (by omega)
      obtain ⟨cs, rest, hcs, hvs, _, _⟩ := blk_read hm (hus _ (List.mem_cons_self ..)) hb
      refine ⟨_, _, _, (cs.drop (o2 * k)).take (cnt * k), hv, hmin, ?_, fun j u hu => ?_⟩
      · rw [← fm_take hk, ← fm_drop hk]; exact hvs.drop _ _
      · rw [addr_add]
        rw [List.getElem?_take] at hu
        split at hu
        · rw [List.getElem?_drop] at hu
          exact cell_blk hcs hu
        · cases hu)
  rwa [fm_spl hk] at h
/-- copy from a list into a block of the call's own -/
theorem op_copy_sl {x y : Operand} {m o1 n1 c : Nat} {xs ys : List α} (hx : opd F x = some (mvP id k o1 n1 c)) (hy : opd F y = some (slP f k ys)) (hR : R m = some (id, blkX k e (xs.flatMap f)))
    (ht : elemB P t = some e) (hs : sizeB P e = some k) (hk0 : k ≠ 0) (hk : ∀ z, (f z).length = k) (hpos : 0 < ys.length) (hn : ys.length ≤ n1) (ho : o1 ≤ xs.length) :
    OpJ P n N F R ⟨d, .call { callee := .builtin .copy, args := #[x, y], argTypes := #[t, ts] }, T, pos, after, none⟩
      ⟨rdo x (mvP id k o1 n1 c) ++ rdo y (slP f k ys), [], [(m, (id, blkX k e (xs.flatMap f)))], [(m, (id, blkX k e ((spl xs o1 ys).flatMap f)))], [], eqP (.int .i64 ys.length)⟩ := by
  have h := op_copy_src (P := P) (n := n) (N := N) (F := F) (R := R) (d := d) (T := T) (pos := pos) (after := after) (ts := ts) (m := m) (cnt := ys.length) (us := []) (qs := ys.flatMap f) hx hy hR (by simp) ht hs hk0 hpos hn
    (by rw [flatMap_len hk]; exact Nat.mul_le_mul_right _ ho) (by rw [flatMap_len hk]) (by
      intro σ W R v hm _ _ ⟨ad, cap, hv, h1, h2, h3⟩
      obtain ⟨yb, yo, rfl, hyc⟩ := h3 (by omega)
      obtain ⟨news, hnv, hncell⟩ := slP_cells hm hk hyc
      exact ⟨_, _, _, news, hv, Nat.min_eq_left hn, hnv, fun j u hu => by rw [addr_add]; exact hncell j u hu⟩)
  rwa [fm_spl hk] at h
end
end Go.AL


namespace Go.AL
open Go.RowKit
section
variable {P : Program} {n N : Nat} {F : Fr} {R : Toks} {d : Option Nat} {T : TypeId} {pos : String} {after : Array Edge} {k bytes : Nat} {t tn e : TypeId} {id : Id} {ik kn : IntKind}
theorem firstCells_of {w : World} {k len cap : Nat} {a : Option Addr} {olds : List Value} (hl : olds.length = len * k) (h : ∀ ad, a = some ad → ∀ (j : Nat) (v : Value), olds[j]? = some v → w.cell? (ad.add j) = some v) (h0 : a = none → len = 0) :
    (Builtin.firstCells k len (.slice a len cap)).run P w = .ok olds.toArray w := by
  cases a with
  | none =>
    have := h0 rfl
    subst this
    have : olds = [] := List.eq_nil_of_length_eq_zero (by simpa using hl)
    subst this
    simp [Builtin.firstCells]
  | some ad =>
    have hr := run_loadCells_list (P := P) w ad olds (h ad rfl)
    simp [Builtin.firstCells, ← hl, hr]
/-- 'append(s[:i], make([]T, c)...)' where there is no room: a new block -/
theorem op_append_zeros {x y : Operand} {m m' kk u o1 c z0 : Nat} {z : Value} {i : Int} {c1 : Nat} {ps : List Pred} (hx : opd F x = some (mvP id k 0 o1 c1)) (hy : opd F y = some (eqP (.int ik i))) (hi : i = (c : Int)) (hc : 0 < c) (hu : lk F u = some (zP id z0)) (hgrow : z0 < o1 + c)
    (hR : R m = some (id, blkX k e ps)) (hm' : R m' = none) (hop : o1 * k ≤ ps.length)
    (ht : elemB P t = some e) (htn : P.underlying tn = some (.int kn)) (hz : zeroB P e = some (some z)) (hs : sizeB P e = some k) (hby : bytesB P e = some bytes) (hzs : z.cells.size = k) (hk0 : 0 < k) (h1 : z.cells.toList.all Value.oneCell' = true) (hb1 : (o1 + c) * bytes ≤ 140737488355328) (hb2 : o1 + c ≤ 1152921504606846976) :
    OpJ P n N F R ⟨d, .call { callee := .builtin .append, args := #[x, y], argTypes := #[t, tn] }, T, pos, after, none⟩
      ⟨rdo x (mvP id k 0 o1 c1) ++ (rdo y (eqP (.int ik i)) ++ [(u, zP id z0)]), [(m, (id, blkX k e ps))], [], [(m', ((N, kk), blkX k e (ps.take (o1 * k) ++ (List.replicate c (z.cells.toList.map eqP)).flatten)))], [kk], mvP (N, kk) k 0 (o1 + c) (o1 + c)⟩ where
  loc := by
    intro σ W R a K hm h2 h3 h4 h5 h6 h7 h8 h9 Q
    have hid := h8 kk (by simp)
    have hRm := h5 _ (List.mem_cons_self ..)
    have hRm' : R m' = none := by have h := h7 (m', ((N, kk), blkX k e (ps.take (o1 * k) ++ (List.replicate c (z.cells.toList.map eqP)).flatten))) (by simp); simpa using h
    obtain ⟨a1, hv, x1, x2, x3, x4⟩ := holds_of hx fun w hw => h4 w (List.mem_append_left _ hw)
    have hyv : a.eval y = .int ik i := holds_of hy fun w hw => h4 w (List.mem_append_right _ (List.mem_append_left _ hw))
    have hzz : σ.z id = z0 := (h4 (u, zP id z0) (List.mem_append_right _ (List.mem_append_right _ (by simp)))).1
    simp only [Nat.sub_zero, Nat.zero_add, Nat.zero_mul] at hv x1 x4
    rw [hzz] at hv x1 x2 x4
    obtain ⟨ti, hti, htz, hts, htb⟩ := info_of hz hs hby
    obtain ⟨olds, hov, hol, hfc⟩ : ∃ olds : List Value, Vs σ (ps.take (o1 * k)) olds ∧ olds.length = o1 * k ∧ (Builtin.firstCells ti.size o1 (.slice a1 o1 z0)).run P W.drew = .ok olds.toArray W.drew := by
      by_cases hz0 : z0 = 0
      · have : o1 = 0 := by omega
        subst this
        refine ⟨[], by simp [Vs], by simp, firstCells_of (by simp) (by simp) (fun _ => rfl)⟩
      · obtain ⟨b, hb, rfl⟩ := x4 (by omega)
        obtain ⟨cs, rest, hcs, hvs, hz', _⟩ := blk_read hm hRm hb
        refine ⟨cs.take (o1 * k), by simpa using hvs.drop 0 (o1 * k), by rw [List.length_take, hvs.1]; omega, firstCells_of (by rw [List.length_take, hvs.1, hts]; omega) (fun ad had j v hj => ?_) (by simp)⟩
        simp only [Option.some.injEq] at had
        subst had
        rw [addr_add, Nat.zero_add]
        rw [List.getElem?_take] at hj
        split at hj
        · have := cell_blk hcs hj
          exact this
        · cases hj
    have hr := Lib.run_append_grow_zeros (P := P) W t tn T e ti z ik kn (elem_of ht) htn hti htz a1 o1 z0 olds hfc c hc (by omega) (by omega) (by omega) (by rw [htb]; have : c * bytes ≤ (o1 + c) * bytes := Nat.mul_le_mul_right _ (by omega); omega) (by rw [htb]; exact growslice_fits (by omega) hb1)
    have g1 := grownCap_ge W (o1 + c) z0 e
    have g2 := grownCap_le_maxLen W (o1 + c) z0 e (by unfold maxLen; omega)
    have hzc : Vs σ ((List.replicate c (z.cells.toList.map eqP)).flatten) (Builtin.zeroCells z.cells c).toList := by
      have e1 : (Builtin.zeroCells z.cells c).toList = (List.replicate c z.cells.toList).flatten := by
        simp only [Builtin.zeroCells, Array.toList_map, Array.toList_range]
        rw [hzs, ← flatten_replicate_range hzs hk0, hzs]
      rw [e1]
      have : (List.replicate c (z.cells.toList.map eqP)).flatten = ((List.replicate c z.cells.toList).flatten).map eqP := by simp [List.map_flatten]
      rw [this]
      refine Vs.eqs ?_
      rw [List.all_eq_true]
      intro u hu
      obtain ⟨l, hl, hul⟩ := List.mem_flatten.1 hu
      rw [List.mem_replicate] at hl
      rw [List.all_eq_true] at h1
      exact h1 u (by rw [← hl.2]; exact hul)
    have hmod := hm.drew.alloc (id := (N, kk)) (z := grownCap W (o1 + c) z0 e) (n := m') (r := blkX k e (ps.take (o1 * k) ++ (List.replicate c (z.cells.toList.map eqP)).flatten))
      (o := .cells (olds.toArray ++ Builtin.zeroCells z.cells c ++ Builtin.zeroCells z.cells (grownCap W (o1 + c) z0 e - (o1 + c))) e) hid hRm'
      ⟨olds ++ (Builtin.zeroCells z.cells c).toList, (Builtin.zeroCells z.cells (grownCap W (o1 + c) z0 e - (o1 + c))).toList, by congr 1; apply Array.ext'; simp, (hov.append hzc).mono (le_bind hid), fun _ => by
        rw [bind_z, List.length_append, List.length_append, hol, zc_len, zc_len, hzs, ← Nat.add_mul, ← Nat.add_mul]; congr 1; omega, fun i => no_imm_new hm.drew i⟩
    refine wp_value (v := .slice (some ⟨W.heap.size, 0, none⟩) (o1 + c) (grownCap W (o1 + c) z0 e)) ?_ (h9 _ _ _ (le_bind hid) keep_bind (hmod.congr (updR_new ..)) ?_)
    · subst hi
      simp only [execOp, resolve, invoke, builtin, Sem.run_bind, Sem.run_pure, Result.andThen_ok, List.map_toArray, List.map_cons, List.map_nil, hv, hyv, hr]
    · exact ⟨_, by rw [bind_z]; rfl, by rw [bind_z]; omega, by rw [bind_z]; exact g2, by rw [bind_at]; simp, fun _ => ⟨_, bind_at .., by simp⟩⟩
  rd := rd_app (rd_of hx) (rd_app (rd_of hy) (by intro y hy; simp at hy; subst hy; exact hu))
  use := by simpa using hR
  del := by simp
  add := by simpa using hm'
/-- slices.overlaps of a row of the call's own and a view of another block of its own -/
theorem op_overlaps {f : FuncId} {fn : Func} {tS tR : TypeId} {ts : Array TypeId} {x y : Operand} {α : Type} {g : α → List Pred} {ys : List α} {ida : Id} {ma mb na κ off len c : Nat} {ea eb : TypeId} {ps : List Pred}
    (hf : P.funcs[f]? = some fn) (hb : ((fn.name == "runtime.NumGoroutine") = false ∧ fn.body.isNone = true) ∧ Extern.findNext fn = none) (he : Extern.find fn = some (Extern.SlicesOverlaps.overlaps #[tS, tS] #[tR]))
    (hx : opd F x = some (rowP ida g k ys)) (hy : opd F y = some (mvP id k off len c)) (hRa : R ma = some (ida, tail ea k na)) (hRb : R mb = some (id, blkX κ eb ps)) (hne : Nat.beq ma mb = false) (hys : Nat.blt 0 ys.length = true) (hn : 0 < len) (hk : κ ≠ 0)
    (ht : elemB P tS = some e) (hs : sizeB P e = some k) :
    OpJ P n N F R ⟨d, .call { callee := .value (.func f), args := #[x, y], argTypes := ts }, T, pos, after, none⟩
      ⟨rdo x (rowP ida g k ys) ++ rdo y (mvP id k off len c), [(ma, (ida, tail ea k na)), (mb, (id, blkX κ eb ps))], [], [], [], eqP (.bool false)⟩ where
  loc := by
    intro σ W R a K hm h2 h3 h4 h5 h6 h7 h8 h9 Q
    have hA := h5 _ (List.mem_cons_self ..)
    have hB := h5 _ (List.mem_cons_of_mem _ (List.mem_cons_self ..))
    have hxv := holds_of hx fun w hw => h4 w (List.mem_append_left _ hw)
    obtain ⟨a2, hyv, y1, y2, y3, y4⟩ := holds_of hy fun w hw => h4 w (List.mem_append_right _ hw)
    obtain ⟨b, hb', rfl⟩ := y4 (by omega)
    have hrun : ∀ (v : Value), a.eval x = v → (Extern.SlicesOverlaps.overlaps #[tS, tS] #[tR] #[v, .slice (some ⟨b, off * k, none⟩) len (σ.z id - off)]).run P W = .ok (.bool false) W → (execOp a.eval ⟨d, .call { callee := .value (.func f), args := #[x, y], argTypes := ts }, T, pos, after, none⟩).run P W = .ok (.value (.bool false)) W := by
      intro v hv hr
      have hcf := run_callFunc_extern (P := P) hf hb.1.1 hb.1.2 hb.2 he #[v, .slice (some ⟨b, off * k, none⟩) len (σ.z id - off)] W
      rw [hr] at hcf
      have e0 : (a.eval (.func f)) = .func (.func f) #[] #[] := rfl
      simp only [execOp, resolve, e0, Deferred.ofValue, Sem.run_bind, Sem.run_pure, Result.andThen_ok, invoke, List.map_toArray, List.map_cons, List.map_nil, hv, hyv]
      rw [show ∀ x : Array Value, (#[] ++ x) ++ #[] = x by intro x; simp]
      rw [hcf]
      rfl
    refine wp_value (hrun _ rfl ?_) (h9 σ W _ (Le.refl σ) (fun _ _ _ => rfl) (by rw [updR_same]; exact hm) rfl)
    obtain ⟨hge, o, ho, cs, rest, rfl, hvs, hz', _⟩ := hm.res mb id _ hB b hb'
    rcases hxv with ⟨_, hnil⟩ | ⟨b1, hxs, hb1, z1, z2, z3⟩
    · have hpos : 0 < ys.length := Nat.le_of_ble_eq_true hys
      rw [hnil] at hpos
      exact absurd hpos (by simp)
    · rw [hxs]
      obtain ⟨_, o1, ho1, cs1, rfl, hl1, hn1⟩ := hm.res ma ida _ hA b1 hb1
      have hmab : ma ≠ mb := fun e => by subst e; simp at hne
      have hbb : b1 ≠ b := fun e => by
        subst e
        exact hm.sep ma mb _ _ b1 hmab hA hB hb1 hb'
      have hlen := hz' hk
      refine Lib.run_overlaps_apart W tS tR e (elem_of ht) k (fun w => run_sizeOf' hs w) ⟨b1, 0, none⟩ ⟨b, off * k, none⟩ _ _ _ _ hbb ea eb cs1.length ((cs ++ rest).length) ?_ ?_ ?_ ?_ ?_
      · simp [World.shape?, ho1]
      · simp [World.shape?, ho]
      · rw [hlen]
        exact Nat.mul_ne_zero (by omega) hk
      · simp [World.frozen?, ho1]
      · simp [World.frozen?, ho1]
  rd := rd_app (rd_of hx) (rd_of hy)
  use := by
    intro z hz
    simp at hz
    rcases hz with rfl | rfl
    · exact hRa
    · exact hRb
  del := by simp
  add := by simp
end
section
variable {P : Program} {C : Cx} {F : Fr} {L : Tk} {Q : Exit → Act → World → Prop} {cd : Code}
/-- the room of a block gets a number -/
theorem tr_room2 (s u : Nat) {id : Id} {k off n c : Nat} (hs : lk F s = some (mvP id k off n c)) (h : ∀ z, off + n ≤ z → c ≤ z → z ≤ maxLen → Tr P C cd ((s, mvP id k off n z) :: (u, zP id z) :: F) L Q) : Tr P C cd F L Q := by
  rintro a W ⟨σ, h1, h2, h3⟩
  obtain ⟨ad, hv, ⟨x1, x1'⟩, x2, x3, x4⟩ := h3.fr s _ hs
  refine h (σ.z id) x1 x1' x2 a W ⟨σ, h1, h2, h3.size, h3.defers, h3.mod, fun t' p hp => ?_⟩
  rw [lk_cons] at hp
  split at hp
  · rename_i e; subst e; simp at hp; subst hp; exact ⟨ad, hv, ⟨x1, Nat.le_refl _⟩, x2, x3, x4⟩
  · rw [lk_cons] at hp
    split at hp
    · simp at hp; subst hp; exact ⟨rfl, x3⟩
    · exact h3.fr t' p hp
end
theorem Ent.mvc {id : Id} {k off n c c' : Nat} (h : c' ≤ off + n) : Ent (mvP id k off n c) (mvP id k off n c') := fun σ v ⟨a, hv, ⟨h1, h2⟩, h3, h4, h5⟩ => ⟨a, hv, ⟨h1, by omega⟩, h3, h4, h5⟩
theorem mv_ren' {τ : Sg} {old new : Id} {k off n c c' n' : Nat} (h1 : τ.ρ new = τ.ρ old) (h2 : τ.z new = τ.z old) (hn : n' = n) (hc : c' ≤ off + n) : ∀ v, (mvP old k off n c).h τ v → (mvP new k off n' c').h τ v := fun v h => by
  subst hn
  exact Ent.mvc hc τ v ((Ren.mv k off n' c 0 0 []).p τ old new v h1 h2 h)
section
variable {P : Program} {n N : Nat} {F : Fr} {R : Toks} {d : Option Nat} {T : TypeId} {pos : String} {after : Array Edge} {k : Nat} {t e : TypeId} {id : Id} {off len c z : Nat}
theorem op_cap_z {x : Operand} (u : Nat) (hx : opd F x = some (mvP id k off len c)) (hu : lk F u = some (zP id z)) (ht : elemB P t = some e) :
    OpJ P n N F R ⟨d, .call { callee := .builtin .cap, args := #[x], argTypes := #[t] }, T, pos, after, none⟩ ⟨rdo x (mvP id k off len c) ++ [(u, zP id z)], [], [], [], [], eqP (.int .i64 ((z - off : Nat) : Int))⟩ :=
  opj_pure (rd_app (rd_of hx) (by intro y hy; simp at hy; subst hy; exact hu)) fun σ W a hr => by
    obtain ⟨b, hv, _, _, h3, _⟩ := holds_of hx fun w hw => hr w (List.mem_append_left _ hw)
    have hz : σ.z id = z := (hr (u, zP id z) (List.mem_append_right _ (by simp))).1
    subst hz
    refine ⟨.int .i64 ((σ.z id - off : Nat) : Int), ?_, rfl⟩
    simp [execOp, resolve, invoke, builtin, Builtin.cap_, hv, run_underlying (elem_of ht), goInt]
theorem OpJ.entTok {o : Oper} {rd : List (Nat × Pred)} {use del : List (Nat × Id × Res)} {m : Nat} {i : Id} {r r' : Res} {new : List Nat} {φ : Pred} (h : OpJ P n N F R o ⟨rd, use, del, [(m, (i, r))], new, φ⟩) (he : ∀ (σ : Sg) (b : Nat) (o : Obj), r.h σ i b o → r'.h σ i b o) :
    OpJ P n N F R o ⟨rd, use, del, [(m, (i, r'))], new, φ⟩ where
  loc := fun σ W R a K h1 h2 h3 h4 h5 h6 h7 h8 h9 => h.loc σ W R a K h1 h2 h3 h4 h5 h6 (fun x hx => by simp at hx; subst hx; exact h7 (m, (i, r')) (by simp)) h8 fun σ' W' v g1 g2 g3 g4 => h9 σ' W' v g1 g2 (g3.resMono (fun n => n) (fun n m h _ _ => h) (fun q y hy => by
      unfold updR at hy ⊢
      simp only [List.find?_cons, List.find?_nil] at hy ⊢
      by_cases hq : (m == q) = true
      · simp only [hq] at hy ⊢
        cases hy
        exact ⟨r, rfl, fun b o => he σ' b o⟩
      · simp only [hq] at hy ⊢
        exact ⟨y.2, hy, fun b o h => h⟩)) g4
  rd := h.rd
  use := h.use
  del := h.del
  add := by
    intro x hx
    simp at hx
    subst hx
    exact h.add (m, (i, r)) (by simp)
theorem Ents.app : ∀ {a b c d : List Pred}, Ents a b → Ents c d → Ents (a ++ c) (b ++ d)
  | _, _, _, _, .nil, h => h
  | _, _, _, _, .cons h t, k => .cons h (Ents.app t k)
theorem Ents.rep {zs qs : List Pred} (h : Ents zs qs) : ∀ c, Ents (List.replicate c zs).flatten (List.replicate c qs).flatten
  | 0 => .nil
  | c + 1 => by simpa [List.replicate_succ] using Ents.app h (Ents.rep h c)
/-- 'append(s[:i], make([]T, c)...)' where there is no room, typed -/
theorem op_append_zeros_t {α : Type} {f : α → List Pred} {bytes : Nat} {tn : TypeId} {ik kn : IntKind} {x y : Operand} {m m' kk u o1 cz z0 : Nat} {z : Value} {i : Int} {c1 : Nat} {xs : List α} (d0 : α) (hx : opd F x = some (mvP id k 0 o1 c1)) (hy : opd F y = some (eqP (.int ik i))) (hi : i = (cz : Int)) (hc : 0 < cz) (hu : lk F u = some (zP id z0)) (hgrow : z0 < o1 + cz)
    (hR : R m = some (id, blkX k e (xs.flatMap f))) (hm' : R m' = none) (hop : o1 ≤ xs.length) (hk : ∀ z, (f z).length = k) (hd0 : Ents (z.cells.toList.map eqP) (f d0))
    (ht : elemB P t = some e) (htn : P.underlying tn = some (.int kn)) (hz : zeroB P e = some (some z)) (hs : sizeB P e = some k) (hby : bytesB P e = some bytes) (hzs : z.cells.size = k) (hk0 : Nat.blt 0 k = true) (h1 : z.cells.toList.all Value.oneCell' = true) (hb1 : (o1 + cz) * bytes ≤ 140737488355328) (hb2 : o1 + cz ≤ 1152921504606846976) :
    OpJ P n N F R ⟨d, .call { callee := .builtin .append, args := #[x, y], argTypes := #[t, tn] }, T, pos, after, none⟩
      ⟨rdo x (mvP id k 0 o1 c1) ++ (rdo y (eqP (.int ik i)) ++ [(u, zP id z0)]), [(m, (id, blkX k e (xs.flatMap f)))], [], [(m', ((N, kk), blkX k e ((xs.take o1 ++ List.replicate cz d0).flatMap f)))], [kk], mvP (N, kk) k 0 (o1 + cz) (o1 + cz)⟩ := by
  have h := op_append_zeros (P := P) (n := n) (N := N) (F := F) (R := R) (d := d) (T := T) (pos := pos) (after := after) (m := m) (m' := m') (kk := kk) (u := u) hx hy hi hc hu hgrow hR hm' (by rw [flatMap_len hk]; exact Nat.mul_le_mul_right _ hop) ht htn hz hs hby hzs (Nat.le_of_ble_eq_true hk0) h1 hb1 hb2
  refine h.entTok fun σ b o hr => blk_ents' ?_ σ _ b o hr
  rw [List.flatMap_append, fm_take hk]
  refine Ents.app (Ents.refl _) ?_
  rw [← flatten_rep]
  exact Ents.rep hd0 cz
end
def insL {α : Type} (xs : List α) (i : Nat) (v : α) : List α := xs.take i ++ v :: xs.drop i
theorem insL_len {α : Type} {xs : List α} {i : Nat} {v : α} (h : i ≤ xs.length) : (insL xs i v).length = xs.length + 1 := by
  unfold insL; simp; omega
theorem insL_end {α : Type} {xs : List α} {v : α} : xs ++ [v] = insL xs xs.length v := by
  unfold insL; simp
theorem insL_grow {α : Type} {xs : List α} {i c : Nat} {v d : α} (h : i < xs.length) (hc : c = xs.length + 1 - i) : spl (spl (xs.take i ++ List.replicate c d) i [v]) (i + 1) (xs.drop i) = insL xs i v := by
  have hl : (xs.take i).length = i := by rw [List.length_take]; omega
  unfold spl insL
  rw [List.take_left' hl]
  have e1 : (xs.take i ++ [v] ++ (xs.take i ++ List.replicate c d).drop (i + [v].length)).take (i + 1) = xs.take i ++ [v] := by
    rw [List.take_left' (by simp [hl])]
  have e2 : (xs.take i ++ [v] ++ (xs.take i ++ List.replicate c d).drop (i + [v].length)).drop (i + 1 + (xs.drop i).length) = [] := List.drop_eq_nil_of_le (by simp; omega)
  rw [e1, e2]
  simp
theorem insL_in {α : Type} {xs : List α} {i : Nat} {v : α} (h : i < xs.length) : spl (spl xs (i + 1) ((xs.drop i).take (xs.length - i))) i [v] = insL xs i v := by
  have hl : (xs.take i).length = i := by rw [List.length_take]; omega
  rw [List.take_of_length_le (by rw [List.length_drop]; omega)]
  unfold spl insL
  have e1 : (xs.take (i + 1) ++ xs.drop i ++ xs.drop (i + 1 + (xs.drop i).length)).take i = xs.take i := by
    rw [List.append_assoc, List.take_append_of_le_length (by rw [List.length_take]; omega), List.take_take, Nat.min_eq_left (by omega)]
  have e2 : (xs.take (i + 1) ++ xs.drop i ++ xs.drop (i + 1 + (xs.drop i).length)).drop (i + [v].length) = xs.drop i := by
    have e3 : xs.drop (i + 1 + (xs.drop i).length) = [] := List.drop_eq_nil_of_le (by rw [List.length_drop]; omega)
    rw [e3, List.append_nil, List.length_singleton, List.drop_left' (by rw [List.length_take]; omega)]
  rw [e1, e2]
  simp
theorem insL_grow2 {α : Type} {xs : List α} {i c : Nat} {v d : α} (h : i < xs.length) (hc : c = xs.length + 1 - i) : spl (spl (xs.take i ++ List.replicate c d) (0 + i) [v]) (0 + (i + 1)) ((xs.drop (0 + i)).take (xs.length - i)) = insL xs i v := by
  have e : (xs.drop i).take (xs.length - i) = xs.drop i := List.take_of_length_le (by rw [List.length_drop]; omega)
  rw [Nat.zero_add, Nat.zero_add, e]
  exact insL_grow h hc
theorem insL_in2 {α : Type} {xs : List α} {i : Nat} {v : α} (h : i < xs.length) : spl (spl xs (0 + (i + 1)) ((xs.drop (0 + i)).take (xs.length - i))) (0 + i) [v] = insL xs i v := by
  rw [Nat.zero_add, Nat.zero_add]
  exact insL_in h
end Go.AL


namespace Go.Hp
open Go.AL Go.Ch
theorem pos_le {l : List Ob} {x : Int} : pos l x ≤ l.length := List.countP_le_length
theorem put_set {o : Ob} {l : List Ob} (h : fnd l o.id = true) : putF o l = l.set (pos l o.id) o := by unfold putF; rw [if_pos h]
theorem put_ins {o : Ob} {l : List Ob} (h : fnd l o.id = false) : putF o l = insL l (pos l o.id) o := by unfold putF; rw [if_neg (by rw [h]; simp)]; rfl
/-- the program's Store -/
def storeF (m : Mc) (r v : V) : Mc × Int :=
  if (cellF m.objects r).2 = 0 then ({ m with objects := m.objects.set (pos m.objects r.n) (setC (m.objects[pos m.objects r.n]?.getD ob0) r v) }, 0) else (mc0, (cellF m.objects r).2)
theorem store_n {m : Mc} {r v : V} (h : ¬ (cellF m.objects r).2 = 0) : storeF m r v = (mc0, (cellF m.objects r).2) := by unfold storeF; rw [if_neg h]
theorem store_y {m : Mc} {r v : V} (h : (cellF m.objects r).2 = 0) : storeF m r v = ({ m with objects := m.objects.set (pos m.objects r.n) (setC (m.objects[pos m.objects r.n]?.getD ob0) r v) }, 0) := by unfold storeF; rw [if_pos h]
end Go.Hp


namespace Go.Hp
open Go.AL Go.Ch Go.RowKit
def obE (z : Ob × Option AL.Id) : List Pred := match z.2 with | none => z.1.ps | some id => obCs z.1 id
theorem obE_len : ∀ z, (obE z).length = 10 := by
  rintro ⟨o, _ | id⟩ <;> rfl
def selL (l : List Ob) (i : Nat) (id : AL.Id) : List (Ob × Option AL.Id) := l.zipIdx.map fun p => (p.1, if p.2 = i then some id else none)
def selC (l : List Ob) (i k : Nat) : List V := if i < k then (l[i]?.getD ob0).cells else []
section
variable {l : List Ob} {i k : Nat} {id id' : AL.Id}
theorem selL_len : (selL l i id).length = l.length := by unfold selL; simp
theorem selL_get? (j : Nat) : (selL l i id)[j]? = l[j]?.map fun o => (o, if j = i then some id else none) := by
  unfold selL
  rw [List.getElem?_map, List.getElem?_zipIdx]
  cases l[j]? <;> simp
theorem selL_ne (hk : k < l.length) (h : ¬ k = i) : selL (l.take (k + 1)) i id = selL (l.take k) i id ++ [(l[k], none)] := by
  unfold selL
  rw [take_at hk, List.zipIdx_append, List.map_append]
  simp [List.length_take, Nat.min_eq_left (Nat.le_of_lt hk), h]
theorem selL_hit (hk : k < l.length) (h : k = i) : selL (l.take (k + 1)) i id' = selL (l.take k) i id ++ [(l[k], some id')] := by
  subst h
  unfold selL
  rw [take_at hk, List.zipIdx_append, List.map_append]
  simp only [List.zipIdx_cons, List.zipIdx_nil, List.map_cons, List.map_nil, List.length_take, Nat.min_eq_left (Nat.le_of_lt hk), Nat.zero_add, if_true]
  congr 1
  refine List.map_congr_left fun p hp => ?_
  have h2 := List.snd_lt_of_mem_zipIdx hp
  simp [List.length_take] at h2
  rw [if_neg (by omega), if_neg (by omega)]
theorem selC_ne (h : ¬ k = i) : selC l i (k + 1) = selC l i k := by
  unfold selC
  by_cases h1 : i < k
  · rw [if_pos h1, if_pos (by omega)]
  · rw [if_neg h1, if_neg (by omega)]
theorem selC_hit (hk : k < l.length) (h : k = i) : selC l i (k + 1) = l[k].cells := by
  subst h
  unfold selC
  rw [if_pos (by omega), List.getElem?_eq_getElem hk]
  rfl
theorem selC_end (hi : i < l.length) (hk : l.length ≤ k) : selC l i k = l[i].cells := by
  unfold selC
  rw [if_pos (by omega), List.getElem?_eq_getElem hi]
  rfl
theorem selL_at (hi : i < l.length) : (selL l i id)[i]? = some (l[i], some id) := by
  rw [selL_get?, List.getElem?_eq_getElem hi]
  simp
theorem entsAt_flat {α β : Type} {τ : Sg} {f : α → List Pred} {g : β → List Pred} : ∀ {xs : List α} {ys : List β}, xs.length = ys.length → (∀ (i : Nat) (x : α) (y : β), xs[i]? = some x → ys[i]? = some y → EntsAt τ (f x) (g y)) → EntsAt τ (xs.flatMap f) (ys.flatMap g)
  | [], [], _, _ => .nil
  | x :: xs, y :: ys, hl, h => by
    have ih := entsAt_flat (f := f) (g := g) (xs := xs) (ys := ys) (by simpa using hl) fun i a b ha hb => h (i + 1) a b (by simpa using ha) (by simpa using hb)
    have h0 := h 0 x y rfl rfl
    rw [List.flatMap_cons, List.flatMap_cons]
    generalize f x = p at h0 ⊢
    generalize g y = q at h0 ⊢
    induction h0 with
    | nil => exact ih
    | cons hh _ ih2 => exact .cons hh ih2
theorem entsAt_refl {τ : Sg} : ∀ l : List Pred, EntsAt τ l l
  | [] => .nil
  | _ :: l => .cons (fun _ h => h) (entsAt_refl l)
theorem selL_ren {τ : Sg} (h1 : τ.ρ id' = τ.ρ id) (h2 : τ.z id' = τ.z id) : EntsAt τ ((selL l i id).flatMap obE) ((selL l i id').flatMap obE) := by
  refine entsAt_flat (by rw [selL_len, selL_len]) fun j x y hx hy => ?_
  rw [selL_get?] at hx hy
  cases hl : l[j]? with
  | none => rw [hl] at hx; simp at hx
  | some o =>
    rw [hl] at hx hy
    simp only [Option.map_some, Option.some.injEq] at hx hy
    subst hx hy
    by_cases hj : j = i
    · simp only [hj, if_true]
      exact .cons (fun _ h => h) (.cons (mv_ren h1 h2) (entsAt_refl _))
    · simp only [hj, if_false]
      exact entsAt_refl _
/-- the cells are written no more -/
theorem selL_seal {o : Ob} {r v : V} {ps : List Pred} (hi : i < l.length) (ho : l[i]? = some o) (hp : ps = (setC o r v).cells.flatMap vp) : FEnts id ps ((selL l i id).flatMap obE) ((l.set i (setC o r v)).flatMap Ob.ps) := by
  subst hp
  refine FEnts.flat (by rw [selL_len, List.length_set]) fun j x y hx hy => ?_
  rw [selL_get?] at hx
  rw [List.getElem?_set] at hy
  by_cases hj : j = i
  · subst hj
    rw [ho] at hx
    simp only [Option.map_some, Option.some.injEq, if_true] at hx
    simp only [hi, if_true, Option.some.injEq] at hy
    subst hx hy
    exact .cons (.of (Ent.refl _)) (.cons (FEnt.mv (by simp [setC]) ⟨[], by simp [setC]⟩ vp_len) (FEnts.refl _ _ _))
  · rw [if_neg (fun e => hj e.symm)] at hy
    rw [hy] at hx
    simp only [Option.map_some, Option.some.injEq, hj, if_false] at hx
    subst hx
    exact FEnts.refl _ _ _
end
section
variable {P : Program} {C : Cx} {F : Fr} {L : Tk} {Q : Exit → Act → World → Prop} {c : Code}
/-- a block of the call's own that is not there -/
theorem tr_dummy (k : Nat) (e : TypeId) (m : Nat) (hm : tkf L C.Rf m = none) (h : ∀ id, Tr P C c F ((m, some (id, blkX k e [])) :: L) Q) : Tr P C c F L Q := by
  rintro a W ⟨σ, h1, h2, h3⟩
  obtain ⟨N, hN, hfr⟩ := fresh_N h3.mod C.M
  have hle : Le σ (bind σ (N, 0) none 0) := le_bind (hfr 0)
  have hmod : Models (bind σ (N, 0) none 0) (fun n => if n = m then some ((N, 0), blkX k e []) else tkf L C.Rf n) W := by
    refine h3.mod.move (le_bind (hfr 0)) m (N, 0) _ (fun i hi => bind_ne _ _ _ _ _ hi) (by rw [bind_at]; simp) (.inl hm) ?_ (Below.refl _ _) (fun n x b _ hn hb => ⟨rfl, fun _ => rfl⟩) (fun b i v hv => h3.mod.imm b i v hv) ?_ ?_
    · intro n x _ hn e
      exact h3.mod.used n x hn (by rw [e]; exact hfr 0)
    · intro b hb; rw [bind_at] at hb; cases hb
    · intro n x b _ _ hb; rw [bind_at] at hb; cases hb
  refine h (N, 0) a W ⟨bind σ (N, 0) none 0, h1.trans hle, keepB_of hN h2 keep_bind, h3.size, h3.defers, hmod.resMono (fun n => n) (fun n m h _ _ => h) ?_, ?_⟩
  · intro q y hy
    refine ⟨y.2, ?_, fun b o h => h⟩
    rw [tkf_cons] at hy
    exact hy
  · intro t' p hp
    exact p.m _ _ _ hle (h3.fr t' p hp)
end
end Go.Hp


namespace Go.Hp
open Go.AL Go.Ch
theorem vfrom_of : ∀ (l : List Ob) (last : Int), Srt l → (∀ o ∈ l, last < o.id ∧ objF o = true) → vfrom last l = true
  | [], _, _, _ => rfl
  | o :: l, last, hs, h => by
    obtain ⟨h1, h2⟩ := List.pairwise_cons.1 hs
    obtain ⟨h3, h4⟩ := h o (List.mem_cons_self ..)
    simp only [vfrom, h4, decide_eq_false (by omega : ¬ o.id ≤ last), Bool.not_true, Bool.or_false, Bool.not_false, Bool.true_and]
    exact vfrom_of l o.id h2 fun a ha => ⟨h1 a ha, (h a (List.mem_cons_of_mem _ ha)).2⟩
theorem valid_iff {l : List Ob} : validF l = true ↔ Srt l ∧ ∀ o ∈ l, 0 ≤ o.id ∧ objF o = true := by
  constructor
  · intro h
    obtain ⟨h1, h2⟩ := vfrom_srt l _ h
    exact ⟨h1, fun o ho => ⟨by have := (h2 o ho).1; omega, (h2 o ho).2⟩⟩
  · rintro ⟨h1, h2⟩
    exact vfrom_of l _ h1 fun o ho => ⟨by have := (h2 o ho).1; omega, (h2 o ho).2⟩
section
variable {o x y : Ob} {l : List Ob}
theorem put_nil : putF o [] = [o] := rfl
theorem put_lt (h : x.id < o.id) : putF o (x :: l) = x :: putF o l := by
  have hp : pos (x :: l) o.id = pos l o.id + 1 := by unfold pos; rw [List.countP_cons, if_pos (decide_eq_true h)]
  have hf : fnd (x :: l) o.id = fnd l o.id := by unfold fnd; rw [List.any_cons, decide_eq_false (by omega : ¬ x.id = o.id), Bool.false_or]
  unfold putF
  rw [hp, hf]
  split <;> simp
theorem pos_0 (hs : Srt (x :: l)) (h : ¬ x.id < o.id) : pos (x :: l) o.id = 0 := by
  obtain ⟨h1, _⟩ := List.pairwise_cons.1 hs
  unfold pos
  rw [List.countP_eq_zero]
  intro z hz
  rcases List.mem_cons.1 hz with rfl | hz
  · simpa using h
  · have := h1 z hz; simp; omega
theorem put_eq (hs : Srt (x :: l)) (h : x.id = o.id) : putF o (x :: l) = o :: l := by
  have hf : fnd (x :: l) o.id = true := by unfold fnd; rw [List.any_cons, decide_eq_true h, Bool.true_or]
  unfold putF
  rw [if_pos hf, pos_0 hs (by omega)]
  rfl
theorem put_gt (hs : Srt (x :: l)) (h : o.id < x.id) : putF o (x :: l) = o :: x :: l := by
  obtain ⟨h1, _⟩ := List.pairwise_cons.1 hs
  have hf : fnd (x :: l) o.id = false := by
    unfold fnd
    rw [List.any_eq_false]
    intro z hz
    rcases List.mem_cons.1 hz with rfl | hz
    · simp; omega
    · have := h1 z hz; simp; omega
  unfold putF
  rw [if_neg (by rw [hf]; simp), pos_0 hs (by omega)]
  rfl
theorem mem_put (h : y ∈ putF o l) : y = o ∨ y ∈ l := by
  unfold putF at h
  split at h
  · rcases List.mem_or_eq_of_mem_set h with h | h
    · exact .inr h
    · exact .inl h
  · rcases List.mem_append.1 h with h | h
    · exact .inr (List.mem_of_mem_take h)
    · rcases List.mem_cons.1 h with h | h
      · exact .inl h
      · exact .inr (List.mem_of_mem_drop h)
theorem srt_put : ∀ (l : List Ob), Srt l → Srt (putF o l) ∧ o ∈ putF o l
  | [], _ => ⟨List.pairwise_singleton .., by rw [put_nil]; simp⟩
  | x :: l, hs => by
    obtain ⟨h1, h2⟩ := List.pairwise_cons.1 hs
    rcases Int.lt_trichotomy x.id o.id with h | h | h
    · obtain ⟨i1, i2⟩ := srt_put l h2
      rw [put_lt h]
      refine ⟨List.pairwise_cons.2 ⟨fun y hy => ?_, i1⟩, List.mem_cons_of_mem _ i2⟩
      rcases mem_put hy with rfl | hy
      · exact h
      · exact h1 y hy
    · rw [put_eq hs h]
      exact ⟨List.pairwise_cons.2 ⟨fun y hy => by have := h1 y hy; omega, h2⟩, List.mem_cons_self ..⟩
    · rw [put_gt hs h]
      refine ⟨List.pairwise_cons.2 ⟨fun y hy => ?_, hs⟩, List.mem_cons_self ..⟩
      rcases List.mem_cons.1 hy with rfl | hy
      · exact h
      · have := h1 y hy; omega
theorem put_len : (putF o l).length ≤ l.length + 1 := by
  unfold putF
  split
  · rw [List.length_set]; omega
  · have := pos_le (l := l) (x := o.id); simp; omega
theorem srt_inj (hs : Srt l) (hx : x ∈ l) (hy : y ∈ l) (h : x.id = y.id) : x = y := by
  obtain ⟨i, hi, rfl⟩ := List.mem_iff_getElem.1 hx
  obtain ⟨j, hj, rfl⟩ := List.mem_iff_getElem.1 hy
  rcases Nat.lt_trichotomy i j with g | g | g
  · have := srt_lt hs g hj; omega
  · subst g; rfl
  · have := srt_lt hs g hi; omega
theorem find_mem (hs : Srt l) (ho : o ∈ l) : findF l o.id = (o, true) := by
  have hf : fnd l o.id = true := by unfold fnd; rw [List.any_eq_true]; exact ⟨o, ho, by simp⟩
  obtain ⟨_, z, hz, hid⟩ := fnd_pos hf hs
  rw [findF_yes hf hz, srt_inj hs (List.mem_of_getElem? hz) ho hid]
theorem put_find (hs : Srt l) : findF (putF o l) o.id = (o, true) := find_mem (srt_put l hs).1 (srt_put l hs).2
end
section
variable {n : Nat} {m : Mc} {o : Ob} {x : Int} {r v : V}
theorem ob0_bd : BdO n ob0 := ⟨Nat.zero_le _, Nat.zero_le _, Nat.zero_le _, Nat.zero_le _⟩
theorem mc0_bd : Bd n mc0 := ⟨Nat.zero_le _, (fun _ h => by cases h), Nat.zero_le _, (fun _ h => by cases h), Nat.zero_le _, (fun _ h => by cases h), Nat.zero_le _⟩
theorem find_bd (hb : Bd n m) : BdO n (findF m.objects x).1 := by
  unfold findF
  split
  · cases h : m.objects[pos m.objects x]? with
    | none => exact ob0_bd
    | some o => exact hb.object o (List.mem_of_getElem? h)
  · exact ob0_bd
theorem put_bd (hb : Bd n m) (ho : BdO n o) : Bd (n + 1) { m with objects := putF o m.objects } :=
  have hm := hb.mono (Nat.le_succ n)
  ⟨Nat.le_trans put_len (Nat.succ_le_succ hb.objects), fun y hy => by
    rcases mem_put hy with rfl | hy
    · exact ho.mono (Nat.le_succ n)
    · exact hm.object y hy, hm.syncs, hm.readers, hm.gors, hm.gor, hm.output⟩
theorem alloc_bd (hb : Bd n m) (ho : BdO n o) : Bd (n + 1) (allocF putF m x o).1 := by
  unfold allocF
  split
  · exact mc0_bd
  · split
    · exact mc0_bd
    · rename_i h1 h2
      obtain ⟨gr, hgr⟩ : ∃ gr, m.gors[x.toNat]? = some gr := ⟨_, List.getElem?_eq_getElem (by omega)⟩
      have hp := put_bd (o := { o with id := nid x (m.gors[x.toNat]?.getD default).allocs }) hb ⟨ho.cells, ho.queue, ho.senders, ho.receivers⟩
      refine ⟨hp.objects, hp.object, hp.syncs, hp.readers, by simpa using hp.gors, fun g hg => ?_, hp.output⟩
      rcases List.mem_or_eq_of_mem_set hg with hg | rfl
      · exact hp.gor g hg
      · rw [hgr]
        have := hp.gor gr (List.mem_of_getElem? hgr)
        exact ⟨this.frames, this.each⟩
theorem store_bd (hb : Bd n m) : Bd n (storeF m r v).1 := by
  unfold storeF
  split
  · rename_i h
    obtain ⟨_, h2, _⟩ := cell_inv h
    refine ⟨by simpa using hb.objects, fun y hy => ?_, hb.syncs, hb.readers, hb.gors, hb.gor, hb.output⟩
    rcases List.mem_or_eq_of_mem_set hy with hy | rfl
    · exact hb.object y hy
    · refine setC_bd ?_
      cases h : m.objects[pos m.objects r.n]? with
      | none => exact ob0_bd
      | some o => exact hb.object o (List.mem_of_getElem? h)
  · exact mc0_bd
end
section
variable {m : Mc} {l : List Ob} {o : Ob} {x : Int} {r v : V}
theorem alloc_same (hs : Srt m.objects) : allocF (fun o l => rputF o false l) m x o = allocF putF m x o := by
  unfold allocF
  simp only [put_same _ _ hs]
theorem cell_check (hs : Srt l) : (checkF l r).2 = (cellF l r).2 ∧ ((cellF l r).2 = 0 → (checkF l r).1 = l[pos l r.n]?.getD ob0) := by
  by_cases h1 : r.kind = 2
  · cases h2 : fnd l r.n with
    | false => rw [cellF_1 (.inr h2), checkF_2 h1 (.inl (by rw [find_same hs, findF_no h2]))]; simp
    | true =>
      obtain ⟨hp, z, hz, hid⟩ := fnd_pos h2 hs
      have hf : rfindF l r.n = (z, true) := by rw [find_same hs, findF_yes h2 hz]
      rw [hz]
      cases h3 : z.chan with
      | true => rw [cellF_2 h1 h2 hz h3, checkF_2 h1 (.inr (by rw [hf]; exact h3))]; simp
      | false =>
        have h3' : (rfindF l r.n).2 = true ∧ (rfindF l r.n).1.chan = false := by rw [hf]; exact ⟨rfl, h3⟩
        by_cases h4 : r.off < 0 ∨ r.off ≥ (z.cells.length : Int)
        · rw [cellF_3 h1 h2 hz h3 h4, checkF_3 h1 h3' (by rw [hf]; exact h4)]; simp
        · rw [cellF_4 h1 h2 hz h3 (by omega), checkF_4 h1 h3' (by rw [hf]; exact ⟨by omega, by show r.off < (z.cells.length : Int); omega⟩), hf]
          exact ⟨rfl, fun _ => rfl⟩
  · rw [cellF_1 (.inl h1), checkF_1 h1]; simp
theorem load_same (hs : Srt l) : rloadF l r = loadF l r := by
  obtain ⟨h1, h2⟩ := cell_check (r := r) hs
  unfold rloadF loadF
  rw [h1]
  split
  · rename_i h; rw [h2 h]
  · rfl
theorem store_same (hs : Srt m.objects) : rstoreF m r v = storeF m r v := by
  obtain ⟨h1, h2⟩ := cell_check (r := r) hs
  unfold rstoreF storeF
  rw [h1]
  split
  · rename_i h
    obtain ⟨_, hf, _⟩ := cell_inv h
    obtain ⟨hp, z, hz, hid⟩ := fnd_pos hf hs
    have hfz : rfindF m.objects r.n = (z, true) := by rw [find_same hs, findF_yes hf hz]
    rw [hfz, put_same _ _ hs, hz]
    have e : putF (setC z r v) m.objects = m.objects.set (pos m.objects r.n) (setC z r v) := by
      have h4 : (setC z r v).id = r.n := hid
      rw [put_set (by rw [h4]; exact hf), h4]
    simp only [e, Option.getD_some]
  · rfl
end
section
variable {l : List Ob} {p : Nat} {z z' : Ob} {x : Int}
theorem pos_ids {l' : List Ob} (h : l'.map (·.id) = l.map (·.id)) : pos l' x = pos l x := by
  have e : ∀ l : List Ob, pos l x = (l.map (·.id)).countP fun i => decide (i < x) := fun l => by unfold pos; rw [List.countP_map]; rfl
  rw [e, e, h]
theorem fnd_ids {l' : List Ob} (h : l'.map (·.id) = l.map (·.id)) : fnd l' x = fnd l x := by
  have e : ∀ l : List Ob, fnd l x = (l.map (·.id)).any fun i => decide (i = x) := fun l => by unfold fnd; rw [List.any_map]; rfl
  rw [e, e, h]
theorem srt_ids {l' : List Ob} (h : l'.map (·.id) = l.map (·.id)) (hs : Srt l) : Srt l' := by
  have e : ∀ l : List Ob, Srt l ↔ (l.map (·.id)).Pairwise (· < ·) := fun l => by unfold Srt; rw [List.pairwise_map]
  rw [e] at hs ⊢
  rwa [h]
theorem ids_set (hz : l[p]? = some z) (h : z'.id = z.id) : (l.set p z').map (·.id) = l.map (·.id) := by
  apply List.ext_getElem?
  intro i
  rw [List.getElem?_map, List.getElem?_map, List.getElem?_set]
  by_cases e : p = i
  · subst e
    obtain ⟨hp, rfl⟩ := List.getElem?_eq_some_iff.1 hz
    simp [hp, h]
  · simp [e]
end
section
variable {m : Mc} {l : List Ob} {o z : Ob} {x : Int} {r s v : V}
theorem store_data (hs : Srt m.objects) (h : (storeF m r v).2 = 0) : ∃ z, m.objects[pos m.objects r.n]? = some z ∧ z.id = r.n ∧ fnd m.objects r.n = true ∧ r.kind = 2 ∧ z.chan = false ∧ 0 ≤ r.off ∧ r.off < (z.cells.length : Int) ∧
    (storeF m r v).1.objects = m.objects.set (pos m.objects r.n) (setC z r v) ∧ (cellF m.objects r).2 = 0 := by
  have hc : (cellF m.objects r).2 = 0 := by
    by_cases hc : (cellF m.objects r).2 = 0
    · exact hc
    · rw [store_n hc] at h; exact absurd h hc
  obtain ⟨h1, h2, _, h4, h5, h6⟩ := cell_inv hc
  obtain ⟨hp, z, hz, hid⟩ := fnd_pos h2 hs
  rw [hz] at h4 h6
  exact ⟨z, hz, hid, h2, h1, h4, h5, h6, by rw [store_y hc, hz]; rfl, hc⟩
theorem store_ids (hs : Srt m.objects) (h : (storeF m r v).2 = 0) : (storeF m r v).1.objects.map (·.id) = m.objects.map (·.id) := by
  obtain ⟨z, hz, _, _, _, _, _, _, ho, _⟩ := store_data hs h
  rw [ho]
  exact ids_set hz rfl
/-- what a place holds after a store -/
theorem store_at (hs : Srt m.objects) (h : (storeF m r v).2 = 0) (q : Nat) :
    (storeF m r v).1.objects[q]?.getD ob0 = if q = pos m.objects r.n then setC (m.objects[q]?.getD ob0) r v else m.objects[q]?.getD ob0 := by
  obtain ⟨z, hz, _, _, _, _, _, _, ho, _⟩ := store_data hs h
  rw [ho, List.getElem?_set]
  by_cases e : q = pos m.objects r.n
  · subst e
    obtain ⟨hp, rfl⟩ := List.getElem?_eq_some_iff.1 hz
    simp [hp]
  · rw [if_neg (fun e' => e e'.symm), if_neg e]
theorem store_cell (hs : Srt m.objects) (h : (storeF m r v).2 = 0) : cellF (storeF m r v).1.objects s = cellF m.objects s := by
  have hi := store_ids hs h
  have ha := store_at hs h
  unfold cellF
  rw [fnd_ids hi, pos_ids hi, ha]
  by_cases e : pos m.objects s.n = pos m.objects r.n
  · rw [if_pos e]
    simp [setC]
  · rw [if_neg e]
theorem store_load (hs : Srt m.objects) (h : (storeF m r v).2 = 0) : loadF (storeF m r v).1.objects s = (if s = r then v else (loadF m.objects s).1, (loadF m.objects s).2) := by
  have hi := store_ids hs h
  have ha := store_at hs h
  have hcl := store_cell (s := s) hs h
  obtain ⟨z, hz, hid, hf, hk, hch, ho1, ho2, ho, hc⟩ := store_data hs h
  unfold loadF
  rw [hcl, pos_ids hi, ha]
  by_cases hcs : (cellF m.objects s).2 = 0
  · rw [if_pos hcs, if_pos hcs]
    obtain ⟨g1, g2, _, g4, g5, g6⟩ := cell_inv hcs
    obtain ⟨hp, y, hy, hyid⟩ := fnd_pos g2 hs
    by_cases e : pos m.objects s.n = pos m.objects r.n
    · rw [e] at hy g6
      rw [hz] at hy g6
      cases hy
      have hn : s.n = r.n := by omega
      rw [if_pos e, e, hz]
      simp only [Option.getD_some, setC] at g6 ⊢
      by_cases hsr : s = r
      · subst hsr
        rw [if_pos rfl, List.getElem?_set]
        simp [show s.off.toNat < z.cells.length by omega]
      · have hoff : ¬ r.off.toNat = s.off.toNat := fun e2 => hsr (by
          obtain ⟨a1, a2, a3⟩ := s
          obtain ⟨b1, b2, b3⟩ := r
          simp only at g1 hk hn e2 g5 ho1
          simp only [V.mk.injEq]
          omega)
        rw [if_neg hsr, List.getElem?_set, if_neg hoff]
    · have hsr : ¬ s = r := fun e2 => e (by rw [e2])
      rw [if_neg e, if_neg hsr]
  · rw [if_neg hcs, if_neg hcs]
    have hsr : ¬ s = r := fun e2 => hcs (by rw [e2]; exact hc)
    rw [if_neg hsr]
theorem store_fault (h : ¬ (storeF m r v).2 = 0) : (loadF m.objects r).2 = (storeF m r v).2 := by
  by_cases hc : (cellF m.objects r).2 = 0
  · rw [store_y hc] at h; exact absurd rfl h
  · rw [store_n hc, loadF_no hc]
theorem load_stored (hs : Srt m.objects) (h : (storeF m r v).2 = 0) : loadF (storeF m r v).1.objects r = (v, 0) := by
  rw [store_load hs h, if_pos rfl]
  obtain ⟨_, _, _, _, _, _, _, _, _, hc⟩ := store_data hs h
  obtain ⟨_, _, _, _, _, _, hl⟩ := loadF_yes hs hc
  rw [hl]
theorem put_valid (hv : validF l = true) (h0 : 0 ≤ o.id) (ho : objF o = true) : validF (putF o l) = true := by
  rw [valid_iff] at hv ⊢
  refine ⟨(srt_put l hv.1).1, fun y hy => ?_⟩
  rcases mem_put hy with rfl | hy
  · exact ⟨h0, ho⟩
  · exact hv.2 y hy
theorem setC_obj (h : objF z = true) (hc : z.chan = false) (hv : vval v = true) : objF (setC z r v) = true := by
  rw [objF_d hc] at h
  rw [objF_d (show (setC z r v).chan = false from hc)]
  simp only [Bool.and_eq_true, decide_eq_true_eq] at h ⊢
  obtain ⟨⟨⟨⟨⟨⟨⟨⟨h1, h2⟩, h3⟩, h4⟩, h5⟩, h6⟩, h7⟩, h8⟩, h9⟩ := h
  refine ⟨⟨⟨⟨⟨⟨⟨⟨by simpa [setC] using h1, ?_⟩, h3⟩, h4⟩, h5⟩, h6⟩, h7⟩, h8⟩, h9⟩
  rw [List.all_eq_true] at h2 ⊢
  intro u hu
  rcases List.mem_or_eq_of_mem_set hu with hu | rfl
  · exact h2 u hu
  · exact hv
theorem store_valid (hv : validF m.objects = true) (hvv : vval v = true) (h : (storeF m r v).2 = 0) : validF (storeF m r v).1.objects = true := by
  have hv' := valid_iff.1 hv
  obtain ⟨z, hz, _, _, _, hch, _, _, ho, _⟩ := store_data hv'.1 h
  rw [valid_iff]
  refine ⟨srt_ids (store_ids hv'.1 h) hv'.1, fun y hy => ?_⟩
  rw [ho] at hy
  rcases List.mem_or_eq_of_mem_set hy with hy | rfl
  · exact hv'.2 y hy
  · have := hv'.2 z (List.mem_of_getElem? hz)
    exact ⟨this.1, setC_obj this.2 hch hvv⟩
theorem alloc_valid {g : Int} (hv : validF m.objects = true) (ho : objF o = true) (h : (allocF putF m g o).2.2 = 0) : validF (allocF putF m g o).1.objects = true := by
  unfold allocF at h ⊢
  split at h
  · simp at h
  · rename_i h1
    rw [if_neg h1]
    split at h
    · simp at h
    · rename_i h2
      rw [if_neg h2]
      refine put_valid hv ?_ ho
      show 0 ≤ nid g _
      unfold nid
      omega
theorem one_valid (h : validF [o] = true) : 0 ≤ o.id ∧ objF o = true := (valid_iff.1 h).2 o (List.mem_singleton.2 rfl)
end
end Go.Hp


namespace Go.Hp
open Go.AL Go.Ch
abbrev gz : Gr := ⟨0, 0, 0, []⟩
def u8p (x : Int) : List Pred := [eqP (.int .u8 x)]
abbrev dI (x : Int) : Int := (IntKind.i64.wrap x).tmod 8
abbrev dO (k : Nat) : Ob := { ob0 with cells := [⟨0, (k : Int), 0⟩] }
abbrev dM0 : Mc := ⟨[ob0], [], List.replicate 8 gz, []⟩
structure Di (k : Nat) (cs : List Int) (m : Mc) : Prop where
  len8 : cs.length = 8
  cb : ∀ c ∈ cs, 0 ≤ c ∧ c ≤ (k : Int)
  gors : m.gors = cs.map fun c => { gz with allocs := c }
  objs : m.objects.length = k + 1
  srt : Srt m.objects
  ok : ∀ o ∈ m.objects, 0 ≤ o.id ∧ objF o = true
  ids : ∀ o ∈ m.objects, o.id = 0 ∨ ∃ (g : Nat) (j c : Int), cs[g]? = some c ∧ 0 ≤ j ∧ j < c ∧ o.id = 1 + (g : Int) + 8 * j
  bdo : ∀ o ∈ m.objects, BdO 100 o
  syncs : m.syncs = []
  output : m.output = []
abbrev dP (k : Nat) (i : Int) : Ob := ⟨i, [⟨0, (k : Int), 0⟩], false, 0, [], false, 0, 0, [], []⟩
section
variable {k : Nat} {cs : List Int} {m : Mc} {x c : Int}
end
end Go.Hp


namespace Go.Proofs.Ytibcbiamdjmckaa
open Go.AL Go.Ch Go.Hp Go.RowKit
section
variable {H : Type} {enc : TypeId × Value → H} {W : World} {base : Nat} {spare : Nat → Bool} {held : Bool} {bk : DataW H → Nat}
theorem rd_value (hB : BulkOK bk) : RdS enc Try.prog W base spare held bk 41 vp szV (fun _ => True) :=
  (rdS_struct hB (fs := [(0, 3, 1), (1, 3, 1), (2, 3, 1)]) (m := 3) (by kernel_rfl) (by kernel_rfl) (rdfS_cons (rdS_int hB Try.underlying3) (rdfS_cons (rdS_int hB Try.underlying3) (rdfS_cons (rdS_int hB Try.underlying3) rdfS_nil)))).map
    (fun x => ⟨x.1, x.2.1, x.2.2.1⟩) (fun _ => rfl) (fun _ => Nat.le_refl _) (fun _ _ => trivial)
theorem rd_waiter (hB : BulkOK bk) : RdS enc Try.prog W base spare held bk 88 wp szW (fun _ => True) :=
  (rdS_struct hB (fs := [(0, 3, 1), (1, 3, 1), (2, 41, 3)]) (m := 5) (by kernel_rfl) (by kernel_rfl) (rdfS_cons (rdS_int hB Try.underlying3) (rdfS_cons (rdS_int hB Try.underlying3) (rdfS_cons (rd_value hB) rdfS_nil)))).map
    (fun x => ⟨x.1, x.2.1, x.2.2.1⟩) (fun _ => rfl) (fun _ => Nat.le_refl _) (fun _ _ => trivial)
theorem rd_values (hB : BulkOK bk) : RdS enc Try.prog W base spare held bk 30 (fun l => [slP vp 3 l]) (szL szV) (fun _ => True) :=
  (rdS_slice hB Try.underlying30 (rd_value hB) (by kernel_rfl) (by decide)).map (fun x => x) (fun _ => rfl) (fun _ => Nat.le_refl _) (fun _ _ => trivial)
theorem rd_waiters (hB : BulkOK bk) : RdS enc Try.prog W base spare held bk 31 (fun l => [slP wp 5 l]) (szL szW) (fun _ => True) :=
  (rdS_slice hB Try.underlying31 (rd_waiter hB) (by kernel_rfl) (by decide)).map (fun x => x) (fun _ => rfl) (fun _ => Nat.le_refl _) (fun _ _ => trivial)
theorem rd_object (hB : BulkOK bk) : RdS enc Try.prog W base spare held bk 33 Ob.ps szO (fun _ => True) :=
  (rdS_struct hB (fs := [(0, 3, 1), (1, 30, 1), (2, 4, 1), (3, 3, 1), (4, 30, 1), (5, 4, 1), (6, 3, 1), (7, 3, 1), (8, 31, 1), (9, 31, 1)]) (m := 10) (by kernel_rfl) (by kernel_rfl)
    (rdfS_cons (rdS_int hB Try.underlying3) (rdfS_cons (rd_values hB) (rdfS_cons (rdS_bool hB Try.underlying4) (rdfS_cons (rdS_int hB Try.underlying3) (rdfS_cons (rd_values hB) (rdfS_cons (rdS_bool hB Try.underlying4) (rdfS_cons (rdS_int hB Try.underlying3)
      (rdfS_cons (rdS_int hB Try.underlying3) (rdfS_cons (rd_waiters hB) (rdfS_cons (rd_waiters hB) rdfS_nil))))))))))).map
    (fun x => ⟨x.1, x.2.1, x.2.2.1, x.2.2.2.1, x.2.2.2.2.1, x.2.2.2.2.2.1, x.2.2.2.2.2.2.1, x.2.2.2.2.2.2.2.1, x.2.2.2.2.2.2.2.2.1, x.2.2.2.2.2.2.2.2.2.1⟩) (fun _ => rfl) (fun _ => by simp only [szO]; omega) (fun _ _ => trivial)
theorem rd_ints (hB : BulkOK bk) : RdS enc Try.prog W base spare held bk 27 (fun l => [slP ip 1 l]) (szL szI) (fun _ => True) :=
  (rdS_slice hB Try.underlying27 (rdS_int hB Try.underlying3) (by kernel_rfl) (by decide)).map (fun x => x) (fun _ => rfl) (fun _ => Nat.le_refl _) (fun _ _ => trivial)
theorem rd_sync (hB : BulkOK bk) : RdS enc Try.prog W base spare held bk 67 Sy.ps szS (fun _ => True) :=
  (rdS_struct hB (fs := [(0, 3, 1), (1, 3, 1), (2, 3, 1), (3, 3, 1), (4, 27, 1), (5, 3, 1)]) (m := 6) (by kernel_rfl) (by kernel_rfl) (rdfS_cons (rdS_int hB Try.underlying3) (rdfS_cons (rdS_int hB Try.underlying3) (rdfS_cons (rdS_int hB Try.underlying3) (rdfS_cons (rdS_int hB Try.underlying3) (rdfS_cons (rd_ints hB) (rdfS_cons (rdS_int hB Try.underlying3) rdfS_nil))))))).map
    (fun x => ⟨x.1, x.2.1, x.2.2.1, x.2.2.2.1, x.2.2.2.2.1, x.2.2.2.2.2.1⟩) (fun _ => rfl) (fun _ => by simp only [szS]; omega) (fun _ _ => trivial)
theorem rd_syncs (hB : BulkOK bk) : RdS enc Try.prog W base spare held bk 25 (fun l => [slP Sy.ps 6 l]) (szL szS) (fun _ => True) :=
  (rdS_slice hB Try.underlying25 (rd_sync hB) (by kernel_rfl) (by decide)).map (fun x => x) (fun _ => rfl) (fun _ => Nat.le_refl _) (fun _ _ => trivial)
theorem rd_deferred (hB : BulkOK bk) : RdS enc Try.prog W base spare held bk 94 Df.ps szD (fun _ => True) :=
  (rdS_struct hB (fs := [(0, 3, 1), (1, 30, 1)]) (m := 2) (by kernel_rfl) (by kernel_rfl) (rdfS_cons (rdS_int hB Try.underlying3) (rdfS_cons (rd_values hB) rdfS_nil))).map
    (fun x => ⟨x.1, x.2.1⟩) (fun _ => rfl) (fun _ => by simp only [szD]; omega) (fun _ _ => trivial)
theorem rd_defers (hB : BulkOK bk) : RdS enc Try.prog W base spare held bk 90 (fun l => [slP Df.ps 2 l]) (szL szD) (fun _ => True) :=
  (rdS_slice hB Try.underlying90 (rd_deferred hB) (by kernel_rfl) (by decide)).map (fun x => x) (fun _ => rfl) (fun _ => Nat.le_refl _) (fun _ _ => trivial)
theorem rd_frame (hB : BulkOK bk) : RdS enc Try.prog W base spare held bk 92 Fm.ps szF (fun _ => True) :=
  (rdS_struct hB (fs := [(0, 3, 1), (1, 3, 1), (2, 30, 1), (3, 3, 1), (4, 90, 1), (5, 4, 1), (6, 41, 3)]) (m := 9) (by kernel_rfl) (by kernel_rfl) (rdfS_cons (rdS_int hB Try.underlying3) (rdfS_cons (rdS_int hB Try.underlying3) (rdfS_cons (rd_values hB) (rdfS_cons (rdS_int hB Try.underlying3) (rdfS_cons (rd_defers hB) (rdfS_cons (rdS_bool hB Try.underlying4) (rdfS_cons (rd_value hB) rdfS_nil)))))))).map
    (fun x => ⟨x.1, x.2.1, x.2.2.1, x.2.2.2.1, x.2.2.2.2.1, x.2.2.2.2.2.1, x.2.2.2.2.2.2.1⟩) (fun _ => rfl) (fun _ => by simp only [szF]; omega) (fun _ _ => trivial)
theorem rd_frames (hB : BulkOK bk) : RdS enc Try.prog W base spare held bk 68 (fun l => [slP Fm.ps 9 l]) (szL szF) (fun _ => True) :=
  (rdS_slice hB Try.underlying68 (rd_frame hB) (by kernel_rfl) (by decide)).map (fun x => x) (fun _ => rfl) (fun _ => Nat.le_refl _) (fun _ _ => trivial)
theorem rd_goroutine (hB : BulkOK bk) : RdS enc Try.prog W base spare held bk 70 Gr.ps szG (fun _ => True) :=
  (rdS_struct hB (fs := [(0, 3, 1), (1, 3, 1), (2, 3, 1), (3, 68, 1)]) (m := 4) (by kernel_rfl) (by kernel_rfl) (rdfS_cons (rdS_int hB Try.underlying3) (rdfS_cons (rdS_int hB Try.underlying3) (rdfS_cons (rdS_int hB Try.underlying3) (rdfS_cons (rd_frames hB) rdfS_nil))))).map
    (fun x => ⟨x.1, x.2.1, x.2.2.1, x.2.2.2.1⟩) (fun _ => rfl) (fun _ => by simp only [szG]; omega) (fun _ _ => trivial)
theorem rd_gors (hB : BulkOK bk) : RdS enc Try.prog W base spare held bk 26 (fun l => [slP Gr.ps 4 l]) (szL szG) (fun _ => True) :=
  (rdS_slice hB Try.underlying26 (rd_goroutine hB) (by kernel_rfl) (by decide)).map (fun x => x) (fun _ => rfl) (fun _ => Nat.le_refl _) (fun _ _ => trivial)
theorem rd_objects (hB : BulkOK bk) : RdS enc Try.prog W base spare held bk 22 (fun l => [slP Ob.ps 10 l]) (szL szO) (fun _ => True) :=
  (rdS_slice hB Try.underlying22 (rd_object hB) (by kernel_rfl) (by decide)).map (fun x => x) (fun _ => rfl) (fun _ => Nat.le_refl _) (fun _ _ => trivial)
theorem rd_machine (hB : BulkOK bk) : RdS enc Try.prog W base spare held bk 29 Mc.ps szM (fun _ => True) :=
  (rdS_struct hB (fs := [(0, 22, 1), (1, 25, 1), (2, 26, 1), (3, 27, 1)]) (m := 4) (by kernel_rfl) (by kernel_rfl) (rdfS_cons (rd_objects hB) (rdfS_cons (rd_syncs hB) (rdfS_cons (rd_gors hB) (rdfS_cons (rd_ints hB) rdfS_nil))))).map
    (fun x => ⟨x.1, x.2.1, x.2.2.1, x.2.2.2.1⟩) (fun _ => rfl) (fun _ => by simp only [szM]; omega) (fun _ _ => trivial)
def wrP (w : Mc × V × V × V) : List Pred := w.1.ps ++ (vp w.2.1 ++ (vp w.2.2.1 ++ vp w.2.2.2))
def szWr (w : Mc × V × V × V) : Nat := szM w.1
theorem rd_write (hB : BulkOK bk) : RdS enc Try.prog W base spare held bk 49 wrP szWr (fun _ => True) :=
  (rdS_struct hB (fs := [(0, 29, 4), (4, 41, 3), (7, 41, 3), (10, 41, 3)]) (m := 13) (by kernel_rfl) (by kernel_rfl) (rdfS_cons (rd_machine hB) (rdfS_cons (rd_value hB) (rdfS_cons (rd_value hB) (rdfS_cons (rd_value hB) rdfS_nil))))).map
    (fun x => (x.1, x.2.1, x.2.2.1, x.2.2.2.1)) (fun _ => rfl) (fun _ => by simp only [szWr]; omega) (fun _ _ => trivial)
end
end Go.Proofs.Ytibcbiamdjmckaa


namespace Go.Proofs.Ytibcbiamdjmckaa
open Go.AL
theorem bulkAll {H : Type} : ∀ l : List (DataW H), Rows.uptoBulkAll l = (l.map Rows.uptoBulk).sum
  | [] => rfl
  | d :: l => by
    rw [Rows.uptoBulkAll, bulkAll l, List.map_cons, List.sum_cons]
theorem bulkOK {H : Type} : BulkOK (H := H) Rows.uptoBulk where
  lit := fun l => by cases l <;> simp [Rows.uptoBulk]
  nil := by simp [Rows.uptoBulk]
  slice := fun e s => by rw [Rows.uptoBulk, bulkAll, bulkAll]; omega
  agg := fun l => by rw [Rows.uptoBulk, bulkAll]; omega
end Go.Proofs.Ytibcbiamdjmckaa
