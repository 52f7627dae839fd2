/- append to, make of, copy into slices of the call's own. -/
import Derived.Test.YtabfnclbehkcnaaAlMut
namespace Go.AL
open Go.RowKit

/-- a block gets another name and holds something else -/
theorem Models.retok {σ : Sg} {R : Toks} {W W' : World} {id id' : Id} {m m' z : Nat} {r r' : Res} {ob : Option Nat} (h : Models σ R W) (hRm : R m = some (id, r)) (hid : σ.ρ id' = none) (hm' : m' = m ∨ R m' = none) (hob : σ.ρ id = some ob)
    (hbase : Below σ.n0 W W') (hother : ∀ b', ob ≠ some b' → W'.heap[b']? = W.heap[b']?) (hr : ∀ b, ob = some b → ∃ o, W'.heap[b]? = some o ∧ r'.h (bind σ id' ob z) id' b o) (hno : ∀ b i, ob = some b → σ.c b i = none) :
    Models (bind σ id' ob z) (fun q => if q = m' then some (id', r') else if q = m then none else R q) W' := by
  have h' : Models σ (fun q => if q = m then none else R q) W := h.sub fun q x hx => by
    split at hx
    · cases hx
    · exact hx
  have hsep : ∀ q x b, (if q = m then none else R q) = some x → ob = some b → σ.ρ x.1 ≠ some (some b) := by
    intro q x b hq hb hxb
    by_cases hqm : q = m
    · simp [hqm] at hq
    · simp only [hqm, if_false] at hq
      exact h.sep q m x _ b hqm hq hRm hxb (by rw [hob, hb])
  refine h'.move (le_bind hid) m' id' _ (fun i hi => bind_ne _ _ _ _ _ hi) (by rw [bind_at]; simp) (.inl ?_) ?_ hbase ?_ ?_ ?_ ?_
  · rcases hm' with rfl | hm'
    · simp
    · simp only [hm']; split <;> rfl
  · intro q x _ hq e
    exact h'.used q x hq (by rw [e]; exact hid)
  · intro q x b _ hq hb
    exact ⟨hother b fun e => hsep q x b hq e hb, fun _ => rfl⟩
  · intro b i v hv
    have hne : ob ≠ some b := fun e => by
      have : σ.c b i = some v := hv
      rw [hno b i e] at this
      cases this
    rw [World.cell?_of_block (w := W) (a := ⟨b, i, none⟩) (hother b hne)]
    exact h.imm b i v hv
  · intro b hb
    rw [bind_at] at hb
    simp only [Option.some.injEq] at hb
    obtain ⟨h1, _⟩ := h.res m id _ hRm b (by rw [hob, hb])
    exact ⟨h1, hr b hb⟩
  · intro q x b _ hq hb hxb
    rw [bind_at] at hb
    simp only [Option.some.injEq] at hb
    exact hsep q x b hq hb hxb

theorem Models.noC {σ : Sg} {R : Toks} {W : World} {id : Id} {m b κ : Nat} {B : TypeId} {ps : List Pred} (h : Models σ R W) (hRm : R m = some (id, blkX κ B ps)) (hb : σ.ρ id = some (some b)) (i : Nat) : σ.c b i = none := by
  obtain ⟨_, o, _, cs, rest, _, _, _, hn⟩ := h.res m id _ hRm b hb
  exact hn i

section
variable {P : Program} {n N : Nat} {F : Fr} {R : Toks} {d : Option Nat} {T : TypeId} {pos : String} {after : Array Edge} {α : Type} {f : α → List Pred} {k bytes len c : Nat} {ys : List α} {t e : TypeId} {id : Id}

/-- '[]T{}', to be written into -/
theorem op_buildEmptyM {m' kk : Nat} (ht : elemB P t = some e) (hs : sizeB P e = some k) (hm' : R m' = none) :
    OpJ P n N F R ⟨d, .buildSlice t 0 #[], T, pos, after, none⟩ ⟨[], [], [], [(m', ((N, kk), blkX k e []))], [kk], mvP (N, kk) k 0 0 0⟩ where
  loc := by
    intro σ W R a K hm h2 h3 h4 h5 h6 h7 h8 h9 Q
    have hid := h8 kk (by simp)
    have hRm' : R m' = none := by have h := h7 (m', ((N, kk), blkX k e [])) (by simp); simpa using h
    have hmod := hm.alloc (id := (N, kk)) (z := 0) (n := m') (r := blkX k e []) (o := .cells ([] : List Value).toArray e) hid hRm' ⟨[], [], rfl, ⟨rfl, by simp⟩, fun _ => by rw [bind_z]; simp, fun i => no_imm_new hm i⟩
    refine wp_value (v := .slice (some ⟨W.heap.size, 0, none⟩) 0 0) (W' := W.alloc (.cells ([] : List Value).toArray e)) ?_ (h9 _ _ _ (le_bind hid) keep_bind (hmod.congr (updR_new ..)) ?_)
    · simp [execOp, Instr.buildSlice, run_underlying (elem_of ht), run_sizeOf' hs, Instr.fill, newRow, Array.range_zero']
    · exact ⟨_, by rw [bind_z], by rw [bind_z]; simp, by rw [bind_z]; simp [maxLen], by rw [bind_at]; simp, by rw [bind_z]; intro h; omega⟩
  rd := by simp
  use := by simp
  del := by simp
  add := by simpa using hm'

/-- **append to a slice of the call's own whose cells may be written** -/
theorem op_append_mut {x y : Operand} {m m' kk : Nat} {z : Value} {ps : List Pred} (hx : opd F x = some (mvP id k 0 len c)) (hy : opd F y = some (slP f k ys)) (hR : R m = some (id, blkX k e ps)) (hm' : m' = m ∨ R m' = none)
    (ht : elemB P t = some e) (hz : zeroB P e = some (some z)) (hs : sizeB P e = some k) (hby : bytesB P e = some bytes) (hzs : z.cells.size = k) (hk0 : k ≠ 0) (hps : ps.length = len * k) (hk : ∀ z, (f z).length = k)
    (h63 : len + ys.length ≤ 1152921504606846976) (hbytes : (len + ys.length) * bytes ≤ 140737488355328) :
    OpJ P n N F R ⟨d, .call { callee := .builtin .append, args := #[x, y], argTypes := #[t, t] }, T, pos, after, none⟩
      ⟨rdo x (mvP id k 0 len c) ++ rdo y (slP f k ys), [], [(m, (id, blkX k e ps))], [(m', ((N, kk), blkX k e (ps ++ ys.flatMap f)))], [kk], mvP (N, kk) k 0 (len + ys.length) (len + ys.length)⟩ where
  loc := by
    intro σ W R a K hm h2 h3 h4 h5 h6 h7 h8 h9 Q
    have hid := h8 kk (by simp)
    have hRm := h6 _ (List.mem_cons_self ..)
    have hRm' : m' = m ∨ R m' = none := by
      rcases h7 (m', ((N, kk), blkX k e (ps ++ ys.flatMap f))) (by simp) with h | h
      · exact .inr h
      · left; simp at h; exact h.symm
    obtain ⟨a1, hv, x1, x2, x3, x4⟩ := holds_of hx fun w hw => h4 w (List.mem_append_left _ hw)
    obtain ⟨ad, cap, hyv, hy1, hy2, hy3⟩ := holds_of hy fun w hw => h4 w (List.mem_append_right _ hw)
    simp only [Nat.sub_zero, Nat.zero_add, Nat.zero_mul] at hv x1 x4
    have ht' := elem_of ht
    obtain ⟨i, hi, hiz, his, hib⟩ := info_of hz hs hby
    have hexec : ∀ {v' : Value} {W' : World}, (Builtin.append_ #[t, t] T #[.slice a1 len (σ.z id), .slice ad ys.length cap]).run P W = .ok v' W' →
        (execOp a.eval ⟨d, .call { callee := .builtin .append, args := #[x, y], argTypes := #[t, t] }, T, pos, after, none⟩).run P W = .ok (.value v') W' := by
      intro v' W' hr
      simp only [execOp, resolve, invoke, builtin, Sem.run_bind, Sem.run_pure, Result.andThen_ok, List.map_toArray, List.map_cons, List.map_nil, hv, hyv, hr]
    obtain ⟨ob, hob⟩ : ∃ ob, σ.ρ id = some ob := Option.ne_none_iff_exists'.1 x3
    by_cases hy0 : ys.length = 0
    · have hys : ys = [] := List.eq_nil_of_length_eq_zero hy0
      subst hys
      have hmod := hm.retok (W' := W) (z := σ.z id) (r' := blkX k e (ps ++ ([] : List α).flatMap f)) hRm hid hRm' hob (Below.refl _ _) (fun _ _ => rfl) (fun b hb => by
        subst hb
        obtain ⟨cs, rest, hcs, hvs, hz', _⟩ := blk_read hm hRm hob
        exact ⟨_, hcs, cs, rest, rfl, by simpa using hvs.mono (le_bind hid), fun h => by rw [bind_z]; exact hz' h, fun i => hm.noC hRm hob i⟩) (fun b i hb => by subst hb; exact hm.noC hRm hob i)
      refine wp_value (hexec (run_append_zero ht' hi a1 ad len _ cap (by omega) T W)) (h9 _ W _ (le_bind hid) keep_bind (hmod.congr ?_) ?_)
      · rw [updR_row]
      · refine ⟨a1, by rw [bind_z]; rfl, by rw [bind_z]; simp; omega, by rw [bind_z]; exact x2, by rw [bind_at]; simp, fun h => ?_⟩
        rw [bind_z] at h
        obtain ⟨b, hb, ha⟩ := x4 h
        rw [bind_at]
        rw [hob] at hb
        exact ⟨b, hb, by simpa using ha⟩
    · obtain ⟨yb, yo, rfl, hyc⟩ := hy3 (by omega)
      obtain ⟨news, hnv, hncell⟩ := slP_cells hm hk hyc
      have hnl : news.length = ys.length * k := by rw [hnv.1, flatMap_len hk]
      have hnews : ∀ (j : Nat) (v : Value), news[j]? = some v → W.cell? ((⟨yb, yo, none⟩ : Addr).add j) = some v := fun j v hv => by rw [addr_add]; exact hncell j v hv
      have hmdrop : Models σ (fun q => if q = m then none else R q) W := hm.sub fun q y hq => by
        split at hq
        · cases hq
        · exact hq
      have hfree : (fun q => if q = m then none else R q) m' = none := by
        rcases hRm' with rfl | h
        · simp
        · simp only [h]; split <;> rfl
      by_cases hroom : len + ys.length ≤ σ.z id
      · obtain ⟨b, hb, rfl⟩ := x4 (by omega)
        rw [hb] at hob
        simp only [Option.some.injEq] at hob
        subst hob
        obtain ⟨cs, rest, hcs, hvs, hz', _⟩ := blk_read hm hRm hb
        have hz'' := hz' hk0
        have hcl : cs.length = len * k := by rw [hvs.1, hps]
        have hroom2 : (len + ys.length) * k ≤ (cs ++ rest).length := by rw [hz'']; exact Nat.mul_le_mul_right _ hroom
        rw [Nat.add_mul] at hroom2
        have hr := run_append_room (P := P) W t T e i ht' hi b len (σ.z id) (cs ++ rest).toArray hcs ⟨yb, yo, none⟩ ys.length cap news (by rw [his]; exact hnl) hnews hnv.ones hroom (by rw [his, hnl]; simpa using hroom2)
        rw [his] at hr
        have hrow : (cs ++ rest).take (len * k) ++ news ++ (cs ++ rest).drop (len * k + news.length) = (cs ++ news) ++ (cs ++ rest).drop (len * k + news.length) := by
          rw [List.take_append_of_le_length (by omega), List.take_of_length_le (by omega)]
        simp only at hr
        rw [hrow] at hr
        have hmod := hm.retok (W' := W.setRow b (cs ++ news ++ (cs ++ rest).drop (len * k + news.length)).toArray) (z := σ.z id) (r' := blkX k e (ps ++ ys.flatMap f)) hRm hid hRm' hb
          ⟨rfl, rfl, rfl, by simp, fun q hq => setRow_other W b q _ (by
            intro e'
            subst e'
            have := (hm.res m id _ hRm q hb).1
            omega)⟩ (fun b' hb' => setRow_other W b b' _ (fun e' => hb' (by rw [e']))) (fun b' hb' => by
              simp only [Option.some.injEq] at hb'
              subst hb'
              refine ⟨_, setRow_heap W b _ _ e (0, 0) hcs, cs ++ news, (cs ++ rest).drop (len * k + news.length), rfl, (hvs.append hnv).mono (le_bind hid), fun h => ?_, fun i => hm.noC hRm hb i⟩
              rw [bind_z, ← hz'']
              simp only [List.length_append, List.length_drop] at hroom2 ⊢
              omega) (fun b' i hb' => by
                simp only [Option.some.injEq] at hb'
                subst hb'
                exact hm.noC hRm hb i)
        refine wp_value (hexec hr) (h9 _ _ _ (le_bind hid) keep_bind (hmod.congr (by rw [updR_row])) ?_)
        exact ⟨_, by rw [bind_z]; rfl, by rw [bind_z]; omega, by rw [bind_z]; exact x2, by rw [bind_at]; simp, fun _ => ⟨b, bind_at .., by simp⟩⟩
      · -- a new block
        have g1 := grownCap_ge W (len + ys.length) (σ.z id) e
        have g2 := grownCap_le_maxLen W (len + ys.length) (σ.z id) e (by unfold maxLen; omega)
        obtain ⟨olds, hov, hol, hrun⟩ : ∃ olds : List Value, Vs σ ps olds ∧ olds.length = len * k ∧
            (Builtin.append_ #[t, t] T #[.slice a1 len (σ.z id), .slice (some ⟨yb, yo, none⟩) ys.length cap]).run P W =
              .ok (.slice (some ⟨W.heap.size, 0, none⟩) (len + ys.length) (grownCap W (len + ys.length) (σ.z id) e)) (W.drew.alloc (.cells (olds.toArray ++ news.toArray ++ Builtin.zeroCells z.cells (grownCap W (len + ys.length) (σ.z id) e - (len + ys.length))) e)) := by
          by_cases hz0 : σ.z id = 0
          · have hl0 : len = 0 := by omega
            subst hl0
            have hp0 : ps = [] := List.eq_nil_of_length_eq_zero (by rw [hps]; simp)
            subst hp0
            refine ⟨[], ⟨rfl, by simp⟩, by simp, ?_⟩
            cases a1 with
            | none =>
              have hr := run_append_nil (P := P) W t T e i z ht' hi hiz ⟨yb, yo, none⟩ ys.length cap news (by rw [his]; exact hnl) hnews (by omega) (by omega) (by rw [hib]; simp at hbytes; omega)
              rw [hz0]
              simp only [Nat.zero_add]
              rw [hr]
              simp
            | some a0 =>
              exact run_append_grow (P := P) W t T e i z ht' hi hiz a0 0 (σ.z id) [] (by simp) (fun j v hjv => by simp at hjv) ⟨yb, yo, none⟩ ys.length cap news (by rw [his]; exact hnl) hnews
                (by omega) (by omega) (by rw [hib]; exact growslice_fits (by omega) hbytes)
          · obtain ⟨b, hb, rfl⟩ := x4 (by omega)
            obtain ⟨cs, rest, hcs, hvs, hz', _⟩ := blk_read hm hRm hb
            refine ⟨cs, hvs, by rw [hvs.1, hps], ?_⟩
            exact run_append_grow (P := P) W t T e i z ht' hi hiz ⟨b, 0, none⟩ len (σ.z id) cs (by rw [his, hvs.1, hps]) (fun j v hjv => by rw [addr_add, Nat.zero_add]; exact cell_blk hcs hjv) ⟨yb, yo, none⟩ ys.length cap news (by rw [his]; exact hnl) hnews
              (by omega) (by omega) (by rw [hib]; exact growslice_fits (by omega) hbytes)
        have hmod := hmdrop.drew.alloc (id := (N, kk)) (z := grownCap W (len + ys.length) (σ.z id) e) (n := m') (r := blkX k e (ps ++ ys.flatMap f))
          (o := .cells (olds.toArray ++ news.toArray ++ Builtin.zeroCells z.cells (grownCap W (len + ys.length) (σ.z id) e - (len + ys.length))) e) hid hfree
          ⟨olds ++ news, (Builtin.zeroCells z.cells (grownCap W (len + ys.length) (σ.z id) e - (len + ys.length))).toList, by congr 1; apply Array.ext'; simp, (hov.append hnv).mono (le_bind hid), fun _ => by
            rw [bind_z, List.length_append, List.length_append, hol, hnl, zc_len, hzs, ← Nat.add_mul, ← Nat.add_mul]; congr 1; omega, fun i => no_imm_new hmdrop.drew i⟩
        refine wp_value (hexec hrun) (h9 _ _ _ (le_bind hid) keep_bind (hmod.congr ?_) ?_)
        · rw [updR_row]
        · refine ⟨some ⟨W.heap.size, 0, none⟩, ?_, ?_, ?_, by rw [bind_at]; simp, fun _ => ⟨_, bind_at .., by simp⟩⟩
          · rw [bind_z]; rfl
          · rw [bind_z]; omega
          · rw [bind_z]; exact g2
  rd := rd_app (rd_of hx) (rd_of hy)
  use := by simp
  del := by simpa using hR
  add := by
    intro y hy
    simp at hy
    subst hy
    rcases hm' with rfl | h
    · right; simp
    · left; exact h
end
end Go.AL
