/- The rules of operations on memory. -/
import Derived.Test.YtabfnclbehkcnaaAlOps
import Derived.WalkSpells
namespace Go.AL
open Go.RowKit

/-! ### facts of the program's types, as closed equations -/
def isAggD : TypeDesc → Bool
  | .struct _ | .array _ _ => true
  | _ => false
def aggB (P : Program) (T : TypeId) : Option Bool := (P.underlying T).map isAggD
def sizeB (P : Program) (T : TypeId) : Option Nat := (P.info? T).map (·.size)
def bytesB (P : Program) (T : TypeId) : Option Nat := (P.info? T).map (·.bytes)
def zeroB (P : Program) (T : TypeId) : Option (Option Value) := (P.info? T).map (·.zero)
def fldB (P : Program) (s : TypeId) (i : Nat) : Option (Nat × TypeId) := match P.underlying s with | some (.struct fs) => (fs[i]?).map fun f => (f.offset, f.type) | _ => none
def elemB (P : Program) (t : TypeId) : Option TypeId := match P.underlying t with | some (.slice e) => some e | _ => none
def arrB (P : Program) (t : TypeId) : Option (Nat × TypeId) := match P.underlying t with | some (.array n e) => some (n, e) | _ => none

section
variable {P : Program} {T s t e : TypeId} {n i off : Nat}
theorem run_isAgg {b : Bool} (h : aggB P T = some b) (W : World) : (isAgg T).run P W = .ok b W := by
  unfold aggB at h
  cases hu : P.underlying T with
  | none => rw [hu] at h; cases h
  | some d =>
    rw [hu] at h
    simp only [Option.map_some, Option.some.injEq] at h
    subst h
    unfold isAgg
    simp only [Sem.run_bind, run_underlying hu, Result.andThen_ok]
    cases d <;> rfl
theorem run_sizeOf' (h : sizeB P T = some n) (W : World) : (sizeOf T).run P W = .ok n W := by
  unfold sizeB at h
  cases hi : P.info? T with
  | none => rw [hi] at h; cases h
  | some i => rw [hi] at h; simp at h; subst h; simp [sizeOf, typeInfo, hi]
theorem run_zero {z : Value} (h : zeroB P T = some (some z)) (W : World) : (zeroValue T).run P W = .ok z W := by
  unfold zeroB at h
  cases hi : P.info? T with
  | none => rw [hi] at h; cases h
  | some i => rw [hi] at h; simp at h; simp [zeroValue, typeInfo, hi, h]
theorem fld_of {s f : TypeId} (h : fldB P s i = some (off, f)) : ∃ fs fd, P.underlying s = some (.struct fs) ∧ fs[i]? = some fd ∧ fd.offset = off ∧ fd.type = f := by
  unfold fldB at h
  split at h
  · rename_i fs hu
    cases hf : fs[i]? with
    | none => rw [hf] at h; cases h
    | some fd => rw [hf] at h; simp at h; exact ⟨fs, fd, hu, hf, h.1, h.2⟩
  · cases h
theorem elem_of (h : elemB P t = some e) : P.underlying t = some (.slice e) := by
  unfold elemB at h
  split at h
  · rename_i hu; simp at h; subst h; exact hu
  · cases h
theorem arr_of {m : Nat} (h : arrB P t = some (m, e)) : P.underlying t = some (.array m e) := by
  unfold arrB at h
  split at h
  · rename_i hu; simp at h; obtain ⟨rfl, rfl⟩ := h; exact hu
  · cases h
end

theorem addr_add (b off j : Nat) : (⟨b, off, none⟩ : Addr).add j = ⟨b, off + j, none⟩ := by
  unfold Addr.add
  by_cases h : j = 0 <;> simp [h]

/-! ### reading cells -/
theorem run_cells {P : Program} {W : World} {b off : Nat} {cs : List Value} (h : ∀ (j : Nat) (v : Value), cs[j]? = some v → W.cell? ⟨b, off + j, none⟩ = some v) : (loadCells ⟨b, off, none⟩ cs.length).run P W = .ok cs.toArray W :=
  run_loadCells_list W ⟨b, off, none⟩ cs fun j v hv => by rw [addr_add]; exact h j v hv

theorem Cs.read {σ : Sg} {R : Toks} {W : World} (hm : Models σ R W) {b off : Nat} {ps : List Pred} (h : Cs σ b off ps) : ∃ cs : List Value, Vs σ ps cs ∧ ∀ (j : Nat) (v : Value), cs[j]? = some v → W.cell? ⟨b, off + j, none⟩ = some v := by
  have hex : ∀ j, j < ps.length → ∃ u, σ.c b (off + j) = some u := fun j hj => by
    obtain ⟨u, hu, _⟩ := h j ps[j] (List.getElem?_eq_getElem hj)
    exact ⟨u, hu⟩
  refine ⟨(List.range ps.length).map fun j => (σ.c b (off + j)).getD undef, ⟨by simp, ?_⟩, ?_⟩
  · intro j p u hp hu
    obtain ⟨u', hu', hc⟩ := h j p hp
    have hj : j < ps.length := (List.getElem?_eq_some_iff.1 hp).1
    simp [List.getElem?_map, List.getElem?_range hj, hu'] at hu
    subst hu
    exact hc
  · intro j v hv
    rcases Nat.lt_or_ge j ps.length with hj | hj
    · obtain ⟨u, hu⟩ := hex j hj
      simp [List.getElem?_map, List.getElem?_range hj, hu] at hv
      subst hv
      exact hm.imm _ _ _ hu
    · rw [List.getElem?_eq_none (by simpa using hj)] at hv
      cases hv

theorem blk_read {σ : Sg} {R : Toks} {W : World} (hm : Models σ R W) {m : Nat} {id : Id} {b κ : Nat} {T : TypeId} {ps : List Pred} (hn : R m = some (id, blkX κ T ps)) (hb : σ.ρ id = some (some b)) :
    ∃ cs rest : List Value, W.heap[b]? = some (.cells (cs ++ rest).toArray T (0, 0)) ∧ Vs σ ps cs ∧ (κ ≠ 0 → (cs ++ rest).length = σ.z id * κ) ∧ σ.n0 ≤ b := by
  obtain ⟨h1, o, ho, cs, rest, rfl, hv, hz, _⟩ := hm.res m id _ hn b hb
  exact ⟨cs, rest, ho, hv, hz, h1⟩
theorem cell_blk {W : World} {b : Nat} {cs rest : List Value} {T : TypeId} (h : W.heap[b]? = some (.cells (cs ++ rest).toArray T (0, 0))) {i : Nat} {v : Value} (hv : cs[i]? = some v) : W.cell? ⟨b, i, none⟩ = some v := by
  rw [cell_of_row W b i _ T (0, 0) h, List.getElem?_toArray, List.getElem?_append_left (List.getElem?_eq_some_iff.1 hv).1]
  exact hv

theorem Vs.drop {σ : Sg} {ps : List Pred} {cs : List Value} (h : Vs σ ps cs) (off n : Nat) : Vs σ ((ps.drop off).take n) ((cs.drop off).take n) := by
  refine ⟨by simp [h.1], fun j p u hp hu => ?_⟩
  rw [List.getElem?_take] at hp hu
  split at hp
  · rename_i hj
    rw [if_pos hj] at hu
    rw [List.getElem?_drop] at hp hu
    exact h.2 _ p u hp hu
  · cases hp

section
variable {P : Program} {n N : Nat} {F : Fr} {R : Toks} {d : Option Nat} {T Ty : TypeId} {pos : String} {after : Array Edge}

/-- an operation that reads memory, too -/
theorem opj_read {o : Oper} {rd : List (Nat × Pred)} {use : List (Nat × Id × Res)} {φ : Pred} (hrd : ∀ y ∈ rd, lk F y.1 = some y.2) (huse : ∀ y ∈ use, R y.1 = some y.2)
    (h : ∀ (σ : Sg) (W : World) (R : Toks) (a : Act), Models σ R W → (∀ y ∈ rd, y.2.h σ (a.tmps.getD y.1 undef)) → (∀ y ∈ use, R y.1 = some y.2) → ∃ v, (execOp a.eval o).run P W = .ok (.value v) W ∧ φ.h σ v) :
    OpJ P n N F R o ⟨rd, use, [], [], [], φ⟩ where
  loc := by
    intro σ W R a K h1 h2 h3 h4 h5 h6 h7 h8 h9 Q
    obtain ⟨v, hv, hφ⟩ := h σ W R a h1 h4 h5
    exact wp_value hv (h9 σ W v (Le.refl σ) (fun _ _ _ => rfl) (by rw [updR_same]; exact h1) hφ)
  rd := hrd
  use := huse
  del := by simp
  add := by simp

/-- a load of a whole aggregate out of immutable cells -/
theorem op_load_agg {x : Operand} {ps : List Pred} {k : Nat} (hx : opd F x = some (cellsP ps)) (ha : aggB P Ty = some true) (hs : sizeB P Ty = some k) (hk : Nat.ble k ps.length = true) :
    OpJ P n N F R ⟨d, .load Ty x, T, pos, after, none⟩ ⟨rdo x (cellsP ps), [], [], [], [], aggP (ps.take k)⟩ :=
  opj_read (rd_of hx) (by simp) fun σ W R a hm hr _ => by
    obtain ⟨b, off, hv, hc⟩ := holds_of hx hr
    obtain ⟨cs, hcs, hcell⟩ := hc.read hm
    have hlen : (cs.take k).length = k := by rw [List.length_take, hcs.1]; have := Nat.le_of_ble_eq_true hk; omega
    refine ⟨.agg (cs.take k).toArray, ?_, cs.take k, rfl, by simpa using hcs.drop 0 k⟩
    have := run_cells (P := P) (W := W) (b := b) (off := off) (cs := cs.take k) (fun j v hv => by
      rw [List.getElem?_take] at hv
      split at hv
      · exact hcell j v hv
      · cases hv)
    rw [hlen] at this
    simp [execOp, Instr.loadAt, Instr.sureAddr, hv, loadVar, run_isAgg ha, run_sizeOf' hs, this]
/-- a load of one cell -/
theorem op_load_one {x : Operand} {ps : List Pred} {p : Pred} (hx : opd F x = some (cellsP ps)) (ha : aggB P Ty = some false) (hp : ps[0]? = some p) :
    OpJ P n N F R ⟨d, .load Ty x, T, pos, after, none⟩ ⟨rdo x (cellsP ps), [], [], [], [], p⟩ :=
  opj_read (rd_of hx) (by simp) fun σ W R a hm hr _ => by
    obtain ⟨b, off, hv, hc⟩ := holds_of hx hr
    obtain ⟨u, hu, hcu⟩ := hc 0 p hp
    refine ⟨u, ?_, hcu.1⟩
    have := hm.imm _ _ _ hu
    simp only [Nat.add_zero] at this
    simp [execOp, Instr.loadAt, Instr.sureAddr, hv, loadVar, run_isAgg ha, run_load, this]

/-- a load out of a block of the call's own: the whole of it; a part; one cell -/
theorem op_bload_part {x : Operand} {id : Id} {off m k κ : Nat} {B : TypeId} {ps qs : List Pred} (hx : opd F x = some (ptrP id off)) (hR : R m = some (id, blkX κ B ps)) (ha : aggB P Ty = some true) (hs : sizeB P Ty = some k)
    (hk : Nat.ble (off + k) ps.length = true) (hq : (ps.drop off).take k = qs) :
    OpJ P n N F R ⟨d, .load Ty x, T, pos, after, none⟩ ⟨rdo x (ptrP id off), [(m, id, blkX κ B ps)], [], [], [], aggP qs⟩ :=
  opj_read (rd_of hx) (by simpa using hR) fun σ W R a hm hr hu => by
    obtain ⟨b, hb, hv⟩ := holds_of hx hr
    obtain ⟨cs, rest, hcs, hvs, _⟩ := blk_read hm (hu _ (List.mem_cons_self ..)) hb
    have hlen : ((cs.drop off).take k).length = k := by rw [List.length_take, List.length_drop, hvs.1]; have := Nat.le_of_ble_eq_true hk; omega
    refine ⟨.agg ((cs.drop off).take k).toArray, ?_, _, rfl, by rw [← hq]; exact hvs.drop off k⟩
    have := run_cells (P := P) (W := W) (b := b) (off := off) (cs := (cs.drop off).take k) (fun j v hv => by
      rw [List.getElem?_take] at hv
      split at hv
      · rw [List.getElem?_drop] at hv
        exact cell_blk hcs hv
      · cases hv)
    rw [hlen] at this
    simp [execOp, Instr.loadAt, Instr.sureAddr, hv, loadVar, run_isAgg ha, run_sizeOf' hs, this]
theorem op_bload {x : Operand} {id : Id} {m κ : Nat} {B : TypeId} {ps : List Pred} (hx : opd F x = some (ptrP id 0)) (hR : R m = some (id, blkX κ B ps)) (ha : aggB P Ty = some true) (hs : sizeB P Ty = some ps.length) :
    OpJ P n N F R ⟨d, .load Ty x, T, pos, after, none⟩ ⟨rdo x (ptrP id 0), [(m, id, blkX κ B ps)], [], [], [], aggP ps⟩ :=
  op_bload_part hx hR ha hs (by simp) (by simp)
theorem op_bload_one {x : Operand} {id : Id} {off m κ : Nat} {B : TypeId} {ps : List Pred} {p : Pred} (hx : opd F x = some (ptrP id off)) (hR : R m = some (id, blkX κ B ps)) (ha : aggB P Ty = some false) (hp : ps[off]? = some p) :
    OpJ P n N F R ⟨d, .load Ty x, T, pos, after, none⟩ ⟨rdo x (ptrP id off), [(m, id, blkX κ B ps)], [], [], [], p⟩ :=
  opj_read (rd_of hx) (by simpa using hR) fun σ W R a hm hr hu => by
    obtain ⟨b, hb, hv⟩ := holds_of hx hr
    obtain ⟨cs, rest, hcs, hvs, _⟩ := blk_read hm (hu _ (List.mem_cons_self ..)) hb
    have hlt : off < cs.length := by rw [hvs.1]; exact (List.getElem?_eq_some_iff.1 hp).1
    have hc := List.getElem?_eq_getElem hlt
    refine ⟨cs[off], ?_, (hvs.2 off p _ hp hc).1⟩
    have := cell_blk hcs hc
    simp [execOp, Instr.loadAt, Instr.sureAddr, hv, loadVar, run_isAgg ha, run_load, this]

/-! ### addresses -/
theorem op_fieldAddr {x : Operand} {id : Id} {off i fo fs : Nat} {s f : TypeId} (hx : opd F x = some (ptrP id off)) (hf : fldB P s i = some (fo, f)) (hs : sizeB P f = some (fs + 1)) :
    OpJ P n N F R ⟨d, .fieldAddr s x i, T, pos, after, none⟩ ⟨rdo x (ptrP id off), [], [], [], [], ptrP id (off + fo)⟩ :=
  opj1 hx fun σ W a ⟨b, hb, hv⟩ => by
    obtain ⟨fs', fd, hu, hfd, rfl, rfl⟩ := fld_of hf
    refine ⟨.pointer (some ⟨b, off + fd.offset, none⟩), ?_, b, hb, rfl⟩
    simp [execOp, Instr.fieldAt, run_underlying hu, hfd, Instr.sureAddr, hv, fieldPlace, run_sizeOf' hs, addr_add]
theorem op_fieldCells {x : Operand} {ps : List Pred} {i fo fs : Nat} {s f : TypeId} (hx : opd F x = some (cellsP ps)) (hf : fldB P s i = some (fo, f)) (hs : sizeB P f = some (fs + 1)) :
    OpJ P n N F R ⟨d, .fieldAddr s x i, T, pos, after, none⟩ ⟨rdo x (cellsP ps), [], [], [], [], cellsP (ps.drop fo)⟩ :=
  opj1 hx fun σ W a ⟨b, off, hv, hc⟩ => by
    obtain ⟨fs', fd, hu, hfd, rfl, rfl⟩ := fld_of hf
    refine ⟨.pointer (some ⟨b, off + fd.offset, none⟩), ?_, b, _, rfl, ?_⟩
    · simp [execOp, Instr.fieldAt, run_underlying hu, hfd, Instr.sureAddr, hv, fieldPlace, run_sizeOf' hs, addr_add]
    · intro j p hp
      rw [List.getElem?_drop] at hp
      have := hc _ p hp
      rwa [Nat.add_assoc]
theorem op_field {x : Operand} {ps qs : List Pred} {i fo k : Nat} {s f : TypeId} (hx : opd F x = some (aggP ps)) (hf : fldB P s i = some (fo, f)) (ha : aggB P f = some true) (hs : sizeB P f = some k) (hq : (ps.drop fo).take k = qs) :
    OpJ P n N F R ⟨d, .field s x i, T, pos, after, none⟩ ⟨rdo x (aggP ps), [], [], [], [], aggP qs⟩ :=
  opj1 hx fun σ W a ⟨cs, hv, hc⟩ => by
    obtain ⟨fs', fd, hu, hfd, rfl, rfl⟩ := fld_of hf
    refine ⟨.agg ((cs.drop fd.offset).take k).toArray, ?_, _, rfl, by rw [← hq]; exact hc.drop _ _⟩
    simp [execOp, Instr.field, run_underlying hu, hfd, hv, asAgg, part, run_isAgg ha, run_sizeOf' hs]
theorem op_field_one {x : Operand} {ps : List Pred} {p : Pred} {i fo : Nat} {s f : TypeId} (hx : opd F x = some (aggP ps)) (hf : fldB P s i = some (fo, f)) (ha : aggB P f = some false) (hp : ps[fo]? = some p) :
    OpJ P n N F R ⟨d, .field s x i, T, pos, after, none⟩ ⟨rdo x (aggP ps), [], [], [], [], p⟩ :=
  opj1 hx fun σ W a ⟨cs, hv, hc⟩ => by
    obtain ⟨fs', fd, hu, hfd, rfl, rfl⟩ := fld_of hf
    have hlt : fd.offset < cs.length := by rw [hc.1]; exact (List.getElem?_eq_some_iff.1 hp).1
    refine ⟨cs[fd.offset], ?_, (hc.2 _ p _ hp (List.getElem?_eq_getElem hlt)).1⟩
    simp [execOp, Instr.field, run_underlying hu, hfd, hv, asAgg, part, run_isAgg ha, hlt]

section
variable {α : Type} {f : α → List Pred} {k : Nat} {xs : List α} {t e : TypeId} {ik : IntKind}
/-- the address of an element -/
theorem op_index {x y : Operand} {i : Int} {j : Nat} {z : α} (hx : opd F x = some (slP f k xs)) (hy : opd F y = some (eqP (.int ik i))) (ht : elemB P t = some e) (hs : sizeB P e = some k) (hi : i = (j : Int)) (hz : xs[j]? = some z) :
    OpJ P n N F R ⟨d, .indexAddr t x y, T, pos, after, none⟩ ⟨rdo x (slP f k xs) ++ rdo y (eqP (.int ik i)), [], [], [], [], cellsP (f z)⟩ :=
  opj2 hx hy fun σ W a ⟨ad, cap, hv, h1, h2, h3⟩ h4 => by
    have hj : j < xs.length := (List.getElem?_eq_some_iff.1 hz).1
    obtain ⟨b, off, rfl, hc⟩ := h3 (by omega)
    have e2 : a.eval y = .int ik i := h4
    refine ⟨.pointer (some ⟨b, off + j * k, none⟩), ?_, b, _, rfl, hc j z hz⟩
    subst hi
    simp [execOp, Instr.indexAt, e2, asIntOf, hv, run_underlying (elem_of ht), run_sizeOf' hs, hj, addr_add]
theorem op_mindex {x y : Operand} {i : Int} {j off len cap : Nat} {id : Id} (hx : opd F x = some (mslP id off len cap)) (hy : opd F y = some (eqP (.int ik i))) (ht : elemB P t = some e) (hs : sizeB P e = some k) (hi : i = (j : Int)) (hz : j < len) :
    OpJ P n N F R ⟨d, .indexAddr t x y, T, pos, after, none⟩ ⟨rdo x (mslP id off len cap) ++ rdo y (eqP (.int ik i)), [], [], [], [], ptrP id (off + j * k)⟩ :=
  opj2 hx hy fun σ W a ⟨b, hb, hv⟩ h4 => by
    have e2 : a.eval y = .int ik i := h4
    refine ⟨.pointer (some ⟨b, off + j * k, none⟩), ?_, b, hb, rfl⟩
    subst hi
    simp [execOp, Instr.indexAt, e2, asIntOf, hv, run_underlying (elem_of ht), run_sizeOf' hs, hz, addr_add]
/-- the address of an array's element -/
theorem op_aindex {x y : Operand} {i : Int} {j off m : Nat} {id : Id} (hx : opd F x = some (ptrP id off)) (hy : opd F y = some (eqP (.int ik i))) (ht : arrB P t = some (m, e)) (hs : sizeB P e = some k) (hi : i = (j : Int)) (hz : j < m) :
    OpJ P n N F R ⟨d, .indexAddr t x y, T, pos, after, none⟩ ⟨rdo x (ptrP id off) ++ rdo y (eqP (.int ik i)), [], [], [], [], ptrP id (off + j * k)⟩ :=
  opj2 hx hy fun σ W a ⟨b, hb, hv⟩ h4 => by
    have e2 : a.eval y = .int ik i := h4
    refine ⟨.pointer (some ⟨b, off + j * k, none⟩), ?_, b, hb, rfl⟩
    subst hi
    simp [execOp, Instr.indexAt, e2, asIntOf, hv, run_underlying (arr_of ht), run_sizeOf' hs, hz, addr_add, Instr.sureAddr]
theorem op_len {x : Operand} (hx : opd F x = some (slP f k xs)) (ht : elemB P t = some e) :
    OpJ P n N F R ⟨d, .call { callee := .builtin .len, args := #[x], argTypes := #[t] }, T, pos, after, none⟩ ⟨rdo x (slP f k xs), [], [], [], [], eqP (.int .i64 xs.length)⟩ :=
  opj1 hx fun σ W a ⟨ad, cap, hv, h1, h2, h3⟩ => by
    refine ⟨.int .i64 xs.length, ?_, rfl⟩
    simp [execOp, resolve, invoke, builtin, Builtin.len_, hv, run_underlying (elem_of ht), goInt]
theorem op_len_row {x : Operand} {id : Id} (hx : opd F x = some (rowP id f k xs)) (ht : elemB P t = some e) :
    OpJ P n N F R ⟨d, .call { callee := .builtin .len, args := #[x], argTypes := #[t] }, T, pos, after, none⟩ ⟨rdo x (rowP id f k xs), [], [], [], [], eqP (.int .i64 xs.length)⟩ :=
  opj1 hx fun σ W a h => by
    obtain ⟨ad, cap, hv, h1, h2, h3⟩ := Ent.row id f k xs σ _ h
    refine ⟨.int .i64 xs.length, ?_, rfl⟩
    simp [execOp, resolve, invoke, builtin, Builtin.len_, hv, run_underlying (elem_of ht), goInt]
theorem op_len_msl {x : Operand} {id : Id} {off len cap : Nat} (hx : opd F x = some (mslP id off len cap)) (ht : elemB P t = some e) :
    OpJ P n N F R ⟨d, .call { callee := .builtin .len, args := #[x], argTypes := #[t] }, T, pos, after, none⟩ ⟨rdo x (mslP id off len cap), [], [], [], [], eqP (.int .i64 len)⟩ :=
  opj1 hx fun σ W a ⟨b, hb, hv⟩ => by
    refine ⟨.int .i64 len, ?_, rfl⟩
    simp [execOp, resolve, invoke, builtin, Builtin.len_, hv, run_underlying (elem_of ht), goInt]
/-- 's == nil' on a slice of which nothing is known but what it reads as: where it is so, it is empty -/
theorem op_eqnil {x : Operand} {c : Nat} (hx : opd F x = some (slP f k xs)) (ht : elemB P t = some e) {T' : TypeId} :
    OpJ P n N F R ⟨d, .binOp .eql t x (.const (.slice none 0 c)) T', T, pos, after, none⟩ ⟨rdo x (slP f k xs), [], [], [], [], bP (fun b => b = true → xs = [])⟩ :=
  opj1 hx fun σ W a ⟨ad, cap, hv, h1, h2, h3⟩ => by
    refine ⟨.bool ad.isNone, ?_, _, rfl, ?_⟩
    · have hc : a.eval (.const (.slice none 0 c)) = .slice none 0 c := rfl
      have hr := Lib.run_eql_slice_nil (P := P) W t e ad xs.length cap 0 c (elem_of ht)
      simp only [execOp, hv, hc, eqGuard_at_slice, Sem.run_bind, Sem.run_pure, Result.andThen_ok, hr]
    · intro hn
      cases xs with
      | nil => rfl
      | cons y ys => obtain ⟨b, off, rfl, _⟩ := h3 (by simp); cases hn
end
end
end Go.AL
