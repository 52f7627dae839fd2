/- Slices of the call's own whose cells are written. -/
import Derived.Test.YtabfnclbehkcnaaAlRow
namespace Go.AL
open Go.RowKit

/-- a view of a slice of the call's own: from the off-th element on, n of them; the block has room for z elements, c or more -/
def mvP (id : Id) (k off n c : Nat) : Pred :=
  ⟨fun σ v => ∃ a, v = .slice a n (σ.z id - off) ∧ (off + n ≤ σ.z id ∧ c ≤ σ.z id) ∧ σ.z id ≤ maxLen ∧ σ.ρ id ≠ none ∧ (off < σ.z id → ∃ b, σ.ρ id = some (some b) ∧ a = some ⟨b, off * k, none⟩),
   fun σ τ v hle ⟨a, hv, h1, h2, h3, h4⟩ => by
     obtain ⟨ob, hob⟩ := Option.ne_none_iff_exists'.1 h3
     have hz := hle.z _ _ hob
     refine ⟨a, by rw [hz]; exact hv, by rw [hz]; exact h1, by rw [hz]; exact h2, by rw [hle.ρ _ _ hob]; simp, fun h => ?_⟩
     obtain ⟨b, hb, ha⟩ := h4 (by rw [hz] at h; exact h)
     exact ⟨b, hle.ρ _ _ hb, ha⟩⟩
theorem One.mv (id : Id) (k off n c : Nat) : One (mvP id k off n c) := fun _ _ ⟨_, h, _⟩ => by subst h; rfl
theorem Ren.mv (k off n c κ : Nat) (T : TypeId) (ps : List Pred) : Ren (fun id => mvP id k off n c) (blkX κ T ps) where
  p := by
    rintro σ id id' v h1 h2 ⟨a, hv, g1, g2, g3, g4⟩
    exact ⟨a, by rw [h2]; exact hv, by rw [h2]; exact g1, by rw [h2]; exact g2, by rw [h1]; exact g3, by rw [h1, h2]; exact g4⟩
  r := by
    rintro σ id id' b o h1 h2 ⟨cs, rest, ho, hv, hz, hn⟩
    exact ⟨cs, rest, ho, hv, by rw [h2]; exact hz, hn⟩
/-- what is written no more reads as a list -/
theorem FEnt.mv {α : Type} {f : α → List Pred} {k : Nat} {id : Id} {ps : List Pred} {off n c : Nat} {xs : List α} (hn : n = xs.length) (hp : ∃ qs, (ps.drop (off * k)) = xs.flatMap f ++ qs) (hk : ∀ z, (f z).length = k) : FEnt id ps (mvP id k off n c) (slP f k xs) := by
  rintro σ v hcs ⟨a, hv, h1, h2, h3, h4⟩
  subst hn
  refine ⟨a, σ.z id - off, hv, by omega, by omega, fun hpos => ?_⟩
  obtain ⟨b, hb, rfl⟩ := h4 (by omega)
  refine ⟨b, off * k, rfl, fun i x hx j p hpj => ?_⟩
  have hp' := flatMap_at hk xs i x hx j p hpj
  obtain ⟨qs, hq⟩ := hp
  have h5 : ps[off * k + (i * k + j)]? = some p := by
    have : (ps.drop (off * k))[i * k + j]? = some p := by
      rw [hq, List.getElem?_append_left (List.getElem?_eq_some_iff.1 hp').1]
      exact hp'
    rwa [List.getElem?_drop] at this
  have := hcs b hb _ p h5
  rwa [show 0 + (off * k + (i * k + j)) = off * k + i * k + j by omega] at this

section
variable {P : Program} {n N : Nat} {F : Fr} {R : Toks} {d : Option Nat} {T : TypeId} {pos : String} {after : Array Edge} {k : Nat} {t e : TypeId} {ik : IntKind} {id : Id} {off len c : Nat}
theorem op_len_mv {x : Operand} (hx : opd F x = some (mvP id k off len c)) (ht : elemB P t = some e) :
    OpJ P n N F R ⟨d, .call { callee := .builtin .len, args := #[x], argTypes := #[t] }, T, pos, after, none⟩ ⟨rdo x (mvP id k off len c), [], [], [], [], eqP (.int .i64 len)⟩ :=
  opj1 hx fun σ W a ⟨b, hv, _⟩ => by
    refine ⟨.int .i64 len, ?_, rfl⟩
    simp [execOp, resolve, invoke, builtin, Builtin.len_, hv, run_underlying (elem_of ht), goInt]
theorem op_index_mv {x y : Operand} {i : Int} {j : Nat} (hx : opd F x = some (mvP id k off len c)) (hy : opd F y = some (eqP (.int ik i))) (ht : elemB P t = some e) (hs : sizeB P e = some k) (hi : i = (j : Int)) (hz : j < len) :
    OpJ P n N F R ⟨d, .indexAddr t x y, T, pos, after, none⟩ ⟨rdo x (mvP id k off len c) ++ rdo y (eqP (.int ik i)), [], [], [], [], ptrP id (off * k + j * k)⟩ :=
  opj2 hx hy fun σ W a ⟨ad, hv, h1, h2, h3, h4⟩ h5 => by
    obtain ⟨b, hb, rfl⟩ := h4 (by omega)
    have e2 : a.eval y = .int ik i := h5
    refine ⟨.pointer (some ⟨b, off * k + j * k, none⟩), ?_, b, hb, rfl⟩
    subst hi
    simp [execOp, Instr.indexAt, e2, asIntOf, hv, run_underlying (elem_of ht), run_sizeOf' hs, hz, addr_add]
theorem op_eqnil_mv {x : Operand} {c' : Nat} (hx : opd F x = some (mvP id k off len c)) (ht : elemB P t = some e) {T' : TypeId} :
    OpJ P n N F R ⟨d, .binOp .eql t x (.const (.slice none 0 c')) T', T, pos, after, none⟩ ⟨rdo x (mvP id k off len c), [], [], [], [], bP (fun b => b = true → len = 0)⟩ :=
  opj1 hx fun σ W a ⟨ad, hv, h1, h2, h3, h4⟩ => by
    refine ⟨.bool ad.isNone, ?_, _, rfl, ?_⟩
    · have hc : a.eval (.const (.slice none 0 c')) = .slice none 0 c' := rfl
      have hr := Lib.run_eql_slice_nil (P := P) W t e ad len (σ.z id - off) 0 c' (elem_of ht)
      simp only [execOp, hv, hc, eqGuard_at_slice, Sem.run_bind, Sem.run_pure, Result.andThen_ok, hr]
    · intro hn
      rcases Nat.eq_zero_or_pos len with h | h
      · exact h
      · obtain ⟨b, _, rfl⟩ := h4 (by omega); cases hn

theorem mv_cut {σ : Sg} {a : Option Addr} {lo hi : Nat} (h1 : off + len ≤ σ.z id ∧ c ≤ σ.z id) (h2 : σ.z id ≤ maxLen) (h3 : σ.ρ id ≠ none) (h4 : off < σ.z id → ∃ b, σ.ρ id = some (some b) ∧ a = some ⟨b, off * k, none⟩) (hlo : lo ≤ hi) (hhi : hi ≤ len) :
    (mvP id k (off + lo) (hi - lo) c).h σ (.slice (if σ.z id - off = lo then a else a.map (·.add (lo * k))) (hi - lo) (σ.z id - off - lo)) := by
  refine ⟨_, by rw [Nat.sub_sub], by omega, h2, h3, fun h => ?_⟩
  obtain ⟨b, hb, rfl⟩ := h4 (by omega)
  exact ⟨b, hb, by rw [if_neg (by omega)]; simp [addr_add, Nat.add_mul]⟩
theorem op_mslice_l {x y : Operand} {i : Int} {lo : Nat} (hx : opd F x = some (mvP id k off len c)) (hy : opd F y = some (eqP (.int ik i))) (ht : elemB P t = some e) (hs : sizeB P e = some k) (hi : i = (lo : Int)) (hlo : lo ≤ len) :
    OpJ P n N F R ⟨d, .slice t x (some y) none none, T, pos, after, none⟩ ⟨rdo x (mvP id k off len c) ++ rdo y (eqP (.int ik i)), [], [], [], [], mvP id k (off + lo) (len - lo) c⟩ :=
  opj2 hx hy fun σ W a ⟨ad, hv, h1, h2, h3, h5⟩ h4 => by
    have e2 : a.eval y = .int ik i := h4
    refine ⟨_, ?_, mv_cut h1 h2 h3 h5 hlo (Nat.le_refl _)⟩
    subst hi
    simp only [execOp, Instr.sliceAt, Sem.run_bind, run_underlying (elem_of ht), Result.andThen_ok, hv, Option.map_some, Option.map_none, e2]
    simp only [Instr.slice, Sem.run_bind, run_underlying (elem_of ht), Result.andThen_ok, Instr.sliceBounds, Sem.run_pure, Option.isSome_none, Instr.sliceBound, asIntOf]
    simp [hlo, run_sizeOf' hs]
theorem op_mslice_h {x y : Operand} {i : Int} {hi : Nat} (hx : opd F x = some (mvP id k off len c)) (hy : opd F y = some (eqP (.int ik i))) (ht : elemB P t = some e) (hs : sizeB P e = some k) (hii : i = (hi : Int)) (hhi : hi ≤ len) :
    OpJ P n N F R ⟨d, .slice t x none (some y) none, T, pos, after, none⟩ ⟨rdo x (mvP id k off len c) ++ rdo y (eqP (.int ik i)), [], [], [], [], mvP id k off hi c⟩ :=
  opj2 hx hy fun σ W a ⟨ad, hv, h1, h2, h3, h5⟩ h4 => by
    have e2 : a.eval y = .int ik i := h4
    have hc := mv_cut (c := c) (lo := 0) h1 h2 h3 h5 (Nat.zero_le _) hhi
    simp only [Nat.add_zero, Nat.sub_zero, Nat.zero_mul] at hc
    have hcap : hi ≤ σ.z id - off := by omega
    refine ⟨_, ?_, hc⟩
    subst hii
    simp only [execOp, Instr.sliceAt, Sem.run_bind, run_underlying (elem_of ht), Result.andThen_ok, hv, Option.map_some, Option.map_none, e2]
    simp only [Instr.slice, Sem.run_bind, run_underlying (elem_of ht), Result.andThen_ok, Instr.sliceBounds, Sem.run_pure, Option.isSome_none, Instr.sliceBound, asIntOf]
    simp [hcap, run_sizeOf' hs]
theorem op_mslice_lh {x y z : Operand} {i j : Int} {lo hi : Nat} {jk : IntKind} (hx : opd F x = some (mvP id k off len c)) (hy : opd F y = some (eqP (.int ik i))) (hz : opd F z = some (eqP (.int jk j))) (ht : elemB P t = some e) (hs : sizeB P e = some k)
    (hii : i = (lo : Int)) (hjj : j = (hi : Int)) (hlo : lo ≤ hi) (hhi : hi ≤ len) :
    OpJ P n N F R ⟨d, .slice t x (some y) (some z) none, T, pos, after, none⟩ ⟨rdo x (mvP id k off len c) ++ (rdo y (eqP (.int ik i)) ++ rdo z (eqP (.int jk j))), [], [], [], [], mvP id k (off + lo) (hi - lo) c⟩ :=
  opj_pure (rd_app (rd_of hx) (rd_app (rd_of hy) (rd_of hz))) fun σ W a hr => by
    obtain ⟨ad, hv, h1, h2, h3, h5⟩ := holds_of hx fun w hw => hr w (List.mem_append_left _ hw)
    have e2 : a.eval y = .int ik i := holds_of hy fun w hw => hr w (List.mem_append_right _ (List.mem_append_left _ hw))
    have e3 : a.eval z = .int jk j := holds_of hz fun w hw => hr w (List.mem_append_right _ (List.mem_append_right _ hw))
    have hcap : hi ≤ σ.z id - off := by omega
    refine ⟨_, ?_, mv_cut h1 h2 h3 h5 hlo hhi⟩
    subst hii hjj
    simp only [execOp, Instr.sliceAt, Sem.run_bind, run_underlying (elem_of ht), Result.andThen_ok, hv, Option.map_some, Option.map_none, e2, e3]
    simp only [Instr.slice, Sem.run_bind, run_underlying (elem_of ht), Result.andThen_ok, Instr.sliceBounds, Sem.run_pure, Option.isSome_none, Instr.sliceBound, asIntOf]
    simp [hcap, hlo, run_sizeOf' hs]
/-- s[lo:hi] beyond its length, within the block -/
theorem op_mslice_x {x y z : Operand} {i j : Int} {lo hi : Nat} {jk : IntKind} (hx : opd F x = some (mvP id k off len c)) (hy : opd F y = some (eqP (.int ik i))) (hz : opd F z = some (eqP (.int jk j))) (ht : elemB P t = some e) (hs : sizeB P e = some k)
    (hii : i = (lo : Int)) (hjj : j = (hi : Int)) (hlo : lo ≤ hi) (hhi : off + hi ≤ c) :
    OpJ P n N F R ⟨d, .slice t x (some y) (some z) none, T, pos, after, none⟩ ⟨rdo x (mvP id k off len c) ++ (rdo y (eqP (.int ik i)) ++ rdo z (eqP (.int jk j))), [], [], [], [], mvP id k (off + lo) (hi - lo) c⟩ :=
  opj_pure (rd_app (rd_of hx) (rd_app (rd_of hy) (rd_of hz))) fun σ W a hr => by
    obtain ⟨ad, hv, h1, h2, h3, h5⟩ := holds_of hx fun w hw => hr w (List.mem_append_left _ hw)
    have e2 : a.eval y = .int ik i := holds_of hy fun w hw => hr w (List.mem_append_right _ (List.mem_append_left _ hw))
    have e3 : a.eval z = .int jk j := holds_of hz fun w hw => hr w (List.mem_append_right _ (List.mem_append_right _ hw))
    have hcap : hi ≤ σ.z id - off := by omega
    refine ⟨_, ?_, mv_cut (len := hi) (by omega) h2 h3 h5 hlo (Nat.le_refl _)⟩
    subst hii hjj
    simp only [execOp, Instr.sliceAt, Sem.run_bind, run_underlying (elem_of ht), Result.andThen_ok, hv, Option.map_some, Option.map_none, e2, e3]
    simp only [Instr.slice, Sem.run_bind, run_underlying (elem_of ht), Result.andThen_ok, Instr.sliceBounds, Sem.run_pure, Option.isSome_none, Instr.sliceBound, asIntOf]
    simp [hcap, hlo, run_sizeOf' hs]
/-- s[i:j:m], of which nobody asks anything -/
theorem op_mslice3 {x y z u : Operand} {i j m : Int} {lo hi mx : Nat} {jk mk : IntKind} (hx : opd F x = some (mvP id k off len c)) (hy : opd F y = some (eqP (.int ik i))) (hz : opd F z = some (eqP (.int jk j))) (hu : opd F u = some (eqP (.int mk m))) (ht : elemB P t = some e) (hs : sizeB P e = some k)
    (hii : i = (lo : Int)) (hjj : j = (hi : Int)) (hmm : m = (mx : Int)) (hlo : lo ≤ hi) (hhi : hi ≤ mx) (hmx : mx ≤ len) :
    OpJ P n N F R ⟨d, .slice t x (some y) (some z) (some u), T, pos, after, none⟩ ⟨rdo x (mvP id k off len c) ++ (rdo y (eqP (.int ik i)) ++ (rdo z (eqP (.int jk j)) ++ rdo u (eqP (.int mk m)))), [], [], [], [], anyP⟩ :=
  opj_pure (rd_app (rd_of hx) (rd_app (rd_of hy) (rd_app (rd_of hz) (rd_of hu)))) fun σ W a hr => by
    obtain ⟨ad, hv, h1, h2, h3, h5⟩ := holds_of hx fun w hw => hr w (List.mem_append_left _ hw)
    have e2 : a.eval y = .int ik i := holds_of hy fun w hw => hr w (List.mem_append_right _ (List.mem_append_left _ hw))
    have e3 : a.eval z = .int jk j := holds_of hz fun w hw => hr w (List.mem_append_right _ (List.mem_append_right _ (List.mem_append_left _ hw)))
    have e4 : a.eval u = .int mk m := holds_of hu fun w hw => hr w (List.mem_append_right _ (List.mem_append_right _ (List.mem_append_right _ hw)))
    have hcap : mx ≤ σ.z id - off := by omega
    refine ⟨.slice (if mx = lo then ad else ad.map (·.add (lo * k))) (hi - lo) (mx - lo), ?_, trivial⟩
    subst hii hjj hmm
    simp only [execOp, Instr.sliceAt, Sem.run_bind, run_underlying (elem_of ht), Result.andThen_ok, hv, Option.map_some, e2, e3, e4]
    simp only [Instr.slice, Sem.run_bind, run_underlying (elem_of ht), Result.andThen_ok, Instr.sliceBounds, Sem.run_pure, Option.isSome_some, Instr.sliceBound, asIntOf]
    simp [hcap, hlo, hhi, run_sizeOf' hs]

/-! ### a stretch of a block written -/
theorem splice_rest {α : Type} {cs us rest : List α} {o : Nat} (h : o + us.length ≤ cs.length) :
    (cs ++ rest).take o ++ us ++ (cs ++ rest).drop (o + us.length) = (cs.take o ++ us ++ cs.drop (o + us.length)) ++ rest := by
  rw [List.take_append_of_le_length (by omega), List.drop_append_of_le_length (by omega)]
  simp
theorem Models.wrAt {σ : Sg} {W : World} (h : Models σ R W) {m b κ : Nat} {B : TypeId} {ps qs : List Pred} {us : List Value} (hRm : R m = some (id, blkX κ B ps)) (hb : σ.ρ id = some (some b)) {o : Nat} (hu : Vs σ qs us) (hl : o + qs.length ≤ ps.length) :
    ∃ cur : List Value, W.heap[b]? = some (.cells cur.toArray B (0, 0)) ∧ ps.length ≤ cur.length ∧ (κ ≠ 0 → cur.length = σ.z id * κ) ∧ Vs σ ps (cur.take ps.length) ∧
      Models σ (fun q => if q = m then some (id, blkX κ B (splice ps o qs)) else R q) (W.setRow b (cur.take o ++ us ++ cur.drop (o + us.length)).toArray) := by
  obtain ⟨cs, rest, hcs, hvs, hz, _⟩ := blk_read h hRm hb
  have l1 := hvs.1
  have l2 := hu.1
  refine ⟨cs ++ rest, hcs, by simp; omega, hz, by rw [List.take_append_of_le_length (by omega), List.take_of_length_le (by omega)]; exact hvs, ?_⟩
  rw [splice_rest (by omega)]
  refine h.write (rest := rest) hRm hb (setRow_heap W b _ _ B (0, 0) hcs) (fun h => ?_) (fun k hk => setRow_other W b k _ hk) (by simp) rfl rfl rfl (hvs.splice hu o)
  rw [← hz h]
  simp only [List.length_append, List.length_take, List.length_drop]
  omega

theorem info_of {z : Value} {bytes : Nat} (hz : zeroB P e = some (some z)) (hs : sizeB P e = some k) (hby : bytesB P e = some bytes) : ∃ i, P.info? e = some i ∧ i.zero = some z ∧ i.size = k ∧ i.bytes = bytes := by
  unfold zeroB at hz; unfold sizeB at hs; unfold bytesB at hby
  cases hi : P.info? e with
  | none => rw [hi] at hz; cases hz
  | some i => rw [hi] at hz hs hby; simp at hz hs hby; exact ⟨i, rfl, hz, hs, hby⟩

/-- **append within one block**: the elements come from the block itself, and there is room -/
theorem op_append_in {x y : Operand} {m o2 n1 n2 bytes : Nat} {z : Value} {ps : List Pred} (hx : opd F x = some (mvP id k 0 n1 c)) (hy : opd F y = some (mvP id k o2 n2 c)) (hR : R m = some (id, blkX k e ps)) (_hk0 : k ≠ 0)
    (ht : elemB P t = some e) (hz : zeroB P e = some (some z)) (hs : sizeB P e = some k) (hby : bytesB P e = some bytes) (h1 : (o2 + n2) * k ≤ ps.length) (h2 : n1 ≤ o2) :
    OpJ P n N F R ⟨d, .call { callee := .builtin .append, args := #[x, y], argTypes := #[t, t] }, T, pos, after, none⟩
      ⟨rdo x (mvP id k 0 n1 c) ++ rdo y (mvP id k o2 n2 c), [], [(m, (id, blkX k e ps))], [(m, (id, blkX k e (splice ps (n1 * k) ((ps.drop (o2 * k)).take (n2 * k)))))], [], mvP id k 0 (n1 + n2) c⟩ where
  loc := by
    intro σ W R a K hm h2' h3 h4 h5 h6 h7 h8 h9 Q
    have hRm := h6 _ (List.mem_cons_self ..)
    obtain ⟨a1, hv1, x1, x2, x3, x4⟩ := holds_of hx fun w hw => h4 w (List.mem_append_left _ hw)
    obtain ⟨a2, hv2, y1, y2, y3, y4⟩ := holds_of hy fun w hw => h4 w (List.mem_append_right _ hw)
    obtain ⟨i, hi, hiz, his, hib⟩ := info_of hz hs hby
    have hexec : ∀ {v' : Value} {W' : World}, (Builtin.append_ #[t, t] T #[.slice a1 n1 (σ.z id - 0), .slice a2 n2 (σ.z id - o2)]).run P W = .ok v' W' →
        (execOp a.eval ⟨d, .call { callee := .builtin .append, args := #[x, y], argTypes := #[t, t] }, T, pos, after, none⟩).run P W = .ok (.value v') W' := by
      intro v' W' hr
      simp only [execOp, resolve, invoke, builtin, Sem.run_bind, Sem.run_pure, Result.andThen_ok, List.map_toArray, List.map_cons, List.map_nil, hv1, hv2, hr]
    by_cases hn : n2 = 0
    · subst hn
      refine wp_value (hexec (run_append_zero (elem_of ht) hi a1 a2 n1 _ _ (by omega) T W)) (h9 σ W _ (Le.refl σ) (fun _ _ _ => rfl) (hm.congr ?_) ⟨a1, rfl, x1, x2, x3, x4⟩)
      rw [updR_turn]
      funext q
      by_cases hq : q = m
      · subst hq
        simp [splice, hRm]
      · simp [hq]
    · obtain ⟨b, hb, rfl⟩ := x4 (by omega)
      obtain ⟨b', hb', rfl⟩ := y4 (by omega)
      rw [hb] at hb'
      simp only [Option.some.injEq] at hb'
      subst hb'
      obtain ⟨cs, rest, hcs, hvs, hz', _⟩ := blk_read hm hRm hb
      have hlen : ((ps.drop (o2 * k)).take (n2 * k)).length = n2 * k := by rw [List.length_take, List.length_drop]; rw [Nat.add_mul] at h1; omega
      have hle : n1 * k ≤ o2 * k := Nat.mul_le_mul_right _ h2
      rw [Nat.add_mul] at h1
      obtain ⟨cur, hcur, hpl, hcz, _, hmod⟩ := hm.wrAt (o := n1 * k) hRm hb (hvs.drop (o2 * k) (n2 * k)) (by rw [hlen]; omega)
      rw [hcs] at hcur
      have hcc : cs ++ rest = cur := by
        simp only [Option.some.injEq, Obj.cells.injEq] at hcur
        exact List.toArray_inj hcur.1
      have hnl : ((cs.drop (o2 * k)).take (n2 * k)).length = n2 * k := by rw [List.length_take, List.length_drop, hvs.1]; omega
      have hr := run_append_room (P := P) W t T e i (elem_of ht) hi b n1 (σ.z id - 0) cur.toArray (by rw [hcs, hcc]) ⟨b, o2 * k, none⟩ n2 (σ.z id - o2) ((cs.drop (o2 * k)).take (n2 * k)) (by rw [his]; exact hnl)
        (fun j u hu => by
          rw [addr_add]
          rw [List.getElem?_take] at hu
          split at hu
          · rw [List.getElem?_drop] at hu
            exact cell_blk hcs hu
          · cases hu) (hvs.drop (o2 * k) (n2 * k)).ones (by omega) (by
            rw [his, hnl, List.size_toArray]
            omega)
      rw [his] at hr
      simp only [Nat.zero_mul] at hexec
      refine wp_value (hexec hr) (h9 σ _ _ (Le.refl σ) (fun _ _ _ => rfl) (hmod.congr (updR_turn ..)) ?_)
      exact ⟨_, rfl, by omega, x2, x3, fun _ => ⟨b, hb, by rw [Nat.zero_mul]⟩⟩
  rd := rd_app (rd_of hx) (rd_of hy)
  use := by simp
  del := by simpa using hR
  add := by simp

theorem run_clear_cells {W : World} {z : Value} (ht : P.underlying t = some (.slice e)) (hz : zeroB P e = some (some z)) (b o n' c : Nat) (hn : 0 < n') (cur : Array Value) (hg : W.heap[b]? = some (.cells cur e (0, 0))) (hfit : o + n' * z.cells.size ≤ cur.size) (h1 : ∀ u ∈ z.cells.toList, u.oneCell' = true) :
    (Builtin.clear_ #[t] T #[.slice (some ⟨b, o, none⟩) n' c]).run P W = .ok (.tuple #[]) (W.setRow b (cur.toList.take o ++ (Builtin.zeroCells z.cells n').toList ++ cur.toList.drop (o + (Builtin.zeroCells z.cells n').toList.length)).toArray) := by
  have hl := zc_len z.cells n'
  have hones : ∀ u ∈ (Builtin.zeroCells z.cells n').toList, u.oneCell' = true := by
    intro u hu
    by_cases hzs : z.cells.size = 0
    · have : (Builtin.zeroCells z.cells n').toList.length = 0 := by rw [hl, hzs]; omega
      rw [List.eq_nil_of_length_eq_zero this] at hu
      cases hu
    · simp only [Builtin.zeroCells, Array.toList_map, Array.toList_range, List.mem_map, List.mem_range] at hu
      obtain ⟨i, _, rfl⟩ := hu
      have hlt := Nat.mod_lt i (Nat.pos_of_ne_zero hzs)
      rw [getElem!_pos z.cells _ hlt]
      exact h1 _ (by simp)
  have hst := run_storeCells_at P b o e (Builtin.zeroCells z.cells n').toList 0 cur W hg (by rw [hl]; omega) hones
  simp only [Nat.add_zero] at hst
  obtain ⟨q, rfl⟩ : ∃ q, n' = q + 1 := ⟨n' - 1, by omega⟩
  simp [Builtin.clear_, run_underlying ht, run_zero hz, hst]

/-- 'clear' over a view -/
theorem op_clear {x : Operand} {m : Nat} {z : Value} {ps zs : List Pred} (hx : opd F x = some (mvP id k off len c)) (hR : R m = some (id, blkX k e ps)) (hk0 : 0 < k)
    (ht : elemB P t = some e) (hz : zeroB P e = some (some z)) (hzs : z.cells.toList.map eqP = zs) (hzk : zs.length = k) (h1 : z.cells.toList.all Value.oneCell' = true) (hfit : (off + len) * k ≤ ps.length) :
    OpJ P n N F R ⟨none, .call { callee := .builtin .clear, args := #[x], argTypes := #[t] }, T, pos, after, none⟩
      ⟨rdo x (mvP id k off len c), [], [(m, (id, blkX k e ps))], [(m, (id, blkX k e (splice ps (off * k) (List.replicate len zs).flatten)))], [], anyP⟩ where
  loc := by
    intro σ W R a K hm h2' h3 h4 h5 h6 h7 h8 h9 Q
    have hRm := h6 _ (List.mem_cons_self ..)
    obtain ⟨a1, hv1, x1, x2, x3, x4⟩ := holds_of hx h4
    have hzsz : z.cells.size = k := by rw [← hzk, ← hzs]; simp
    by_cases hn : len = 0
    · subst hn
      refine wp_value (v := .tuple #[]) (W' := W) ?_ (h9 σ W _ (Le.refl σ) (fun _ _ _ => rfl) (hm.congr ?_) trivial)
      · cases a1 <;> simp [execOp, resolve, invoke, builtin, hv1, Builtin.clear_, run_underlying (elem_of ht)]
      · rw [updR_turn]
        funext q
        by_cases hq : q = m
        · subst hq
          simp [splice, hRm]
        · simp [hq]
    · obtain ⟨b, hb, rfl⟩ := x4 (by omega)
      rw [Nat.add_mul] at hfit
      have hfl : (List.replicate len zs).flatten.length = len * k := by simp [List.length_flatten, hzk]
      have hzc : Vs σ (List.replicate len zs).flatten (Builtin.zeroCells z.cells len).toList := by
        have e1 : (Builtin.zeroCells z.cells len).toList = (List.replicate len z.cells.toList).flatten := by
          simp only [Builtin.zeroCells, Array.toList_map, Array.toList_range]
          rw [hzsz, ← flatten_replicate_range hzsz hk0, hzsz]
        rw [e1, ← hzs]
        have : (List.replicate len (z.cells.toList.map eqP)).flatten = ((List.replicate len z.cells.toList).flatten).map eqP := by simp [List.map_flatten]
        rw [this]
        refine Vs.eqs ?_
        rw [List.all_eq_true]
        intro u hu
        obtain ⟨l, hl, hul⟩ := List.mem_flatten.1 hu
        rw [List.mem_replicate] at hl
        rw [List.all_eq_true] at h1
        exact h1 u (by rw [← hl.2]; exact hul)
      obtain ⟨cur, hcur, hpl, hcz, _, hmod⟩ := hm.wrAt (o := off * k) hRm hb hzc (by rw [hfl]; omega)
      have hr := run_clear_cells (P := P) (T := T) (W := W) (elem_of ht) hz b (off * k) len (σ.z id - off) (by omega) cur.toArray hcur (by rw [hzsz]; simp; omega) (by rw [List.all_eq_true] at h1; exact h1)
      refine wp_value (v := .tuple #[]) ?_ (h9 σ _ _ (Le.refl σ) (fun _ _ _ => rfl) (hmod.congr (updR_turn ..)) trivial)
      simp only [execOp, resolve, invoke, builtin, Sem.run_bind, Sem.run_pure, Result.andThen_ok, List.map_toArray, List.map_cons, List.map_nil, hv1, hr]
  rd := rd_of hx
  use := by simp
  del := by simpa using hR
  add := by simp
end
end Go.AL
