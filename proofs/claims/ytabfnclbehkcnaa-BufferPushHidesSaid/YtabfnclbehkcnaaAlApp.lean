/- The rules of operations: slices cut, composed, appended to. -/
import Derived.Test.YtabfnclbehkcnaaAlCall
namespace Go.AL
open Go.RowKit

theorem flatMap_len {α : Type} {f : α → List Pred} {k : Nat} (hk : ∀ z, (f z).length = k) : ∀ xs : List α, (xs.flatMap f).length = xs.length * k
  | [] => by simp
  | x :: xs => by rw [List.flatMap_cons, List.length_append, hk, flatMap_len hk xs, List.length_cons, Nat.succ_mul]; omega

theorem flatten_replicate_range {z : Array Value} {k : Nat} (hz : z.size = k) (hk : 0 < k) : ∀ m : Nat, (List.range (m * k)).map (z[· % z.size]!) = (List.replicate m z.toList).flatten
  | 0 => by simp
  | m + 1 => by
    rw [Nat.succ_mul, List.range_add, List.map_append, flatten_replicate_range hz hk m, List.replicate_succ', List.flatten_append]
    congr 1
    simp only [List.map_map, List.flatten_cons, List.flatten_nil, List.append_nil]
    apply List.ext_getElem
    · simp [hz]
    · intro i h1 h2
      simp at h1 h2
      have : (m * k + i) % k = i := by rw [Nat.mul_comm, Nat.mul_add_mod]; exact Nat.mod_eq_of_lt h1
      have h2' : i < z.size := by omega
      simp [hz, this, getElem!_pos z i h2']

section
variable {P : Program} {n N : Nat} {F : Fr} {R : Toks} {d : Option Nat} {T : TypeId} {pos : String} {after : Array Edge} {α : Type} {f : α → List Pred} {k : Nat} {xs ys : List α} {t e : TypeId}

theorem slP_cut {σ : Sg} {a : Option Addr} {cap lo : Nat} (h1 : xs.length ≤ cap) (h2 : cap ≤ maxLen) (h3 : 0 < xs.length → ∃ b off, a = some ⟨b, off, none⟩ ∧ ∀ (i : Nat) (x : α), xs[i]? = some x → Cs σ b (off + i * k) (f x)) (hi : Nat) (hlo : lo ≤ hi) (hhi : hi ≤ xs.length) :
    (slP f k ((xs.take hi).drop lo)).h σ (.slice (if cap = lo then a else a.map (·.add (lo * k))) (hi - lo) (cap - lo)) := by
  have hl : ((xs.take hi).drop lo).length = hi - lo := by rw [List.length_drop, List.length_take]; omega
  refine ⟨_, _, by rw [hl], by rw [hl]; omega, by omega, fun hp => ?_⟩
  rw [hl] at hp
  obtain ⟨b, off, rfl, hc⟩ := h3 (by omega)
  refine ⟨b, off + lo * k, by rw [if_neg (by omega)]; simp [addr_add], fun i x hx => ?_⟩
  rw [List.getElem?_drop] at hx
  have hx' : xs[lo + i]? = some x := by
    rw [List.getElem?_take] at hx
    split at hx
    · exact hx
    · cases hx
  have := hc (lo + i) x hx'
  rwa [show off + lo * k + i * k = off + (lo + i) * k by rw [Nat.add_mul]; omega]

/-- s[lo:], s[:hi], s[lo:hi] -/
theorem op_slice_l {x y : Operand} {i : Int} {lo : Nat} {ik : IntKind} (hx : opd F x = some (slP f k xs)) (hy : opd F y = some (eqP (.int ik i))) (ht : elemB P t = some e) (hs : sizeB P e = some k) (hi : i = (lo : Int)) (hlo : lo ≤ xs.length) :
    OpJ P n N F R ⟨d, .slice t x (some y) none none, T, pos, after, none⟩ ⟨rdo x (slP f k xs) ++ rdo y (eqP (.int ik i)), [], [], [], [], slP f k (xs.drop lo)⟩ :=
  opj2 hx hy fun σ W a ⟨ad, cap, hv, h1, h2, h3⟩ h4 => by
    have e2 : a.eval y = .int ik i := h4
    have hc := slP_cut (lo := lo) h1 h2 h3 xs.length hlo (Nat.le_refl _)
    rw [List.take_length] at hc
    refine ⟨_, ?_, hc⟩
    subst hi
    simp only [execOp, Instr.sliceAt, Sem.run_bind, run_underlying (elem_of ht), Result.andThen_ok, hv, Option.map_some, Option.map_none, e2]
    simp only [Instr.slice, Sem.run_bind, run_underlying (elem_of ht), Result.andThen_ok, Instr.sliceBounds, Sem.run_pure, Option.isSome_none, Instr.sliceBound, asIntOf]
    simp [hlo, run_sizeOf' hs]
theorem op_slice_h {x y : Operand} {i : Int} {hi : Nat} {ik : IntKind} (hx : opd F x = some (slP f k xs)) (hy : opd F y = some (eqP (.int ik i))) (ht : elemB P t = some e) (hs : sizeB P e = some k) (hii : i = (hi : Int)) (hhi : hi ≤ xs.length) :
    OpJ P n N F R ⟨d, .slice t x none (some y) none, T, pos, after, none⟩ ⟨rdo x (slP f k xs) ++ rdo y (eqP (.int ik i)), [], [], [], [], slP f k (xs.take hi)⟩ :=
  opj2 hx hy fun σ W a ⟨ad, cap, hv, h1, h2, h3⟩ h4 => by
    have e2 : a.eval y = .int ik i := h4
    have hc := slP_cut (lo := 0) h1 h2 h3 hi (Nat.zero_le _) hhi
    simp only [List.drop_zero, Nat.sub_zero, Nat.zero_mul] at hc
    have hcap : hi ≤ cap := by omega
    refine ⟨_, ?_, hc⟩
    subst hii
    simp only [execOp, Instr.sliceAt, Sem.run_bind, run_underlying (elem_of ht), Result.andThen_ok, hv, Option.map_some, Option.map_none, e2]
    simp only [Instr.slice, Sem.run_bind, run_underlying (elem_of ht), Result.andThen_ok, Instr.sliceBounds, Sem.run_pure, Option.isSome_none, Instr.sliceBound, asIntOf]
    simp [hcap, run_sizeOf' hs]
theorem op_slice_lh {x y z : Operand} {i j : Int} {lo hi : Nat} {ik jk : IntKind} (hx : opd F x = some (slP f k xs)) (hy : opd F y = some (eqP (.int ik i))) (hz : opd F z = some (eqP (.int jk j))) (ht : elemB P t = some e) (hs : sizeB P e = some k)
    (hii : i = (lo : Int)) (hjj : j = (hi : Int)) (hlo : lo ≤ hi) (hhi : hi ≤ xs.length) :
    OpJ P n N F R ⟨d, .slice t x (some y) (some z) none, T, pos, after, none⟩ ⟨rdo x (slP f k xs) ++ (rdo y (eqP (.int ik i)) ++ rdo z (eqP (.int jk j))), [], [], [], [], slP f k ((xs.take hi).drop lo)⟩ :=
  opj_pure (rd_app (rd_of hx) (rd_app (rd_of hy) (rd_of hz))) fun σ W a hr => by
    obtain ⟨ad, cap, hv, h1, h2, h3⟩ := holds_of hx fun w hw => hr w (List.mem_append_left _ hw)
    have e2 : a.eval y = .int ik i := holds_of hy fun w hw => hr w (List.mem_append_right _ (List.mem_append_left _ hw))
    have e3 : a.eval z = .int jk j := holds_of hz fun w hw => hr w (List.mem_append_right _ (List.mem_append_right _ hw))
    have hc := slP_cut (lo := lo) h1 h2 h3 hi hlo hhi
    have hcap : hi ≤ cap := by omega
    refine ⟨_, ?_, hc⟩
    subst hii hjj
    simp only [execOp, Instr.sliceAt, Sem.run_bind, run_underlying (elem_of ht), Result.andThen_ok, hv, Option.map_some, Option.map_none, e2, e3]
    simp only [Instr.slice, Sem.run_bind, run_underlying (elem_of ht), Result.andThen_ok, Instr.sliceBounds, Sem.run_pure, Option.isSome_none, Instr.sliceBound, asIntOf]
    simp [hcap, hlo, run_sizeOf' hs]

/-! ### a composite slice, which nobody writes any more -/
inductive Elems (F : Fr) (f : α → List Pred) : Nat → List (Nat × Operand) → List α → List (Nat × Pred) → Prop
  | nil {j : Nat} : Elems F f j [] [] []
  | cons {j : Nat} {x : Operand} {p : Pred} {z : α} {l : List (Nat × Operand)} {zs : List α} {rd : List (Nat × Pred)} (hx : opd F x = some p) (hv : Val p (f z)) (hl : Elems F f (j + 1) l zs rd) : Elems F f j ((j, x) :: l) (z :: zs) (rdo x p ++ rd)

theorem Elems.rd {j : Nat} {l : List (Nat × Operand)} {zs : List α} {rd : List (Nat × Pred)} (h : Elems F f j l zs rd) : ∀ y ∈ rd, lk F y.1 = some y.2 := by
  induction h with
  | nil => intro y hy; cases hy
  | cons hx _ _ ih => exact rd_app (rd_of hx) ih
theorem Elems.len {j : Nat} {l : List (Nat × Operand)} {zs : List α} {rd : List (Nat × Pred)} (h : Elems F f j l zs rd) : l.length = zs.length := by
  induction h with
  | nil => rfl
  | cons _ _ _ ih => simp [ih]

theorem run_elems {j : Nat} {l : List (Nat × Operand)} {zs : List α} {rd : List (Nat × Pred)} (h : Elems F f j l zs rd) (hk : ∀ z, (f z).length = k) {σ : Sg} {a : Act} (hr : ∀ y ∈ rd, y.2.h σ (a.tmps.getD y.1 undef)) :
    ∀ (ps : List Pred) (cells : Array Value), Vs σ ps cells.toList → ps.length = (j + zs.length) * k →
      ∃ cells', Instr.fill (fun i => some (i * k, k)) cells (l.map fun (i, x) => (i, a.eval x)) = some cells' ∧ Vs σ (ps.take (j * k) ++ zs.flatMap f) cells'.toList := by
  induction h with
  | @nil j =>
    intro ps cells hz hl
    refine ⟨cells, rfl, ?_⟩
    simp only [List.length_nil, Nat.add_zero] at hl
    rw [List.take_of_length_le (by omega)]
    simpa using hz
  | @cons j x p z l zs rd hx hv _ ih =>
    intro ps cells hz hl
    have hvc := hv.cells (holds_of hx fun z hz => hr z (List.mem_append_left _ hz))
    have hsz : (a.eval x).cells.size = k := by rw [← Array.length_toList, hvc.1, hk]
    have hcz : cells.size = ps.length := by rw [← Array.length_toList, hz.1]
    simp only [List.length_cons] at hl
    have hfit : j * k + (a.eval x).cells.size ≤ cells.size := by
      rw [hsz, hcz, hl, ← Nat.succ_mul]
      exact Nat.mul_le_mul_right _ (by omega)
    have hnew : Vs σ (splice ps (j * k) (f z)) ((a.eval x).cells.zipIdx.foldl (fun cs (c, i) => cs.setIfInBounds (j * k + i) c) cells).toList := by
      rw [← Array.foldl_toList, Array.toList_zipIdx]
      have e := fill_cells (j * k) (a.eval x).cells.toList 0 cells (by simpa using hfit)
      simp only [Nat.add_zero] at e
      rw [show (fun (cs : Array Value) (x : Value × Nat) => match x with | (c, i) => cs.setIfInBounds (j * k + i) c) = (fun cs x => cs.setIfInBounds (j * k + x.2) x.1) from rfl, e]
      exact hz.splice hvc _
    have hple : j * k + k ≤ ps.length := by rw [hl, ← Nat.succ_mul]; exact Nat.mul_le_mul_right _ (by omega)
    have hlen : (splice ps (j * k) (f z)).length = ps.length := by
      unfold splice
      simp [hk]
      omega
    obtain ⟨cells', hc', hv'⟩ := ih (fun y hy => hr y (List.mem_append_right _ hy)) _ _ hnew (by rw [hlen, hl]; congr 1; omega)
    refine ⟨cells', ?_, ?_⟩
    · simp only [List.map_cons, Instr.fill]
      rw [if_neg (by rw [hsz] at hfit ⊢; simp; exact hfit)]
      exact hc'
    · have : (splice ps (j * k) (f z)).take ((j + 1) * k) = ps.take (j * k) ++ f z := by
        unfold splice
        rw [List.take_append_of_le_length (by simp [hk]; rw [Nat.succ_mul]; omega), List.take_of_length_le]
        simp [hk]
        rw [Nat.succ_mul]
        omega
      rw [this] at hv'
      simpa using hv'

/-- new cells that nobody will write: they are laid into the immutable ones -/
theorem Models.lay {σ : Sg} {R : Toks} {W : World} (h : Models σ R W) {T : TypeId} (cs : List Value) :
    Models (addC σ (fun b i => if b = W.heap.size then cs[i]? else none)) R (W.alloc (.cells cs.toArray T)) where
  base := h.base.trans ((Below.refl _ _).alloc h.n0 _)
  n0 := by show σ.n0 ≤ _; rw [World.size_alloc]; have := h.n0; omega
  imm b i v hv := by
    by_cases hb : b = W.heap.size
    · subst hb
      rw [addC_new (no_imm_new h i)] at hv
      simp only [if_true] at hv
      rw [cell_of_row _ W.heap.size i cs.toArray T (0, 0) (heap_alloc_new W _)]
      simpa using hv
    · have hv' : σ.c b i = some v := by simpa [addC, hb] using hv
      rw [World.cell?_alloc_lt W _ ⟨b, i, none⟩ (h.imm_lt hv')]
      exact h.imm b i v hv'
  res m id r hm b hb := by
    obtain ⟨h1, o, ho, hro⟩ := h.res m id r hm b hb
    have hlt := (Array.getElem?_eq_some_iff.1 ho).1
    refine ⟨h1, o, (Below.heap_alloc W _ b hlt).trans ho, r.m _ _ _ _ _ (le_addC ..) hb (fun i => ?_) hro⟩
    have hne : b ≠ W.heap.size := by omega
    simp [addC, hne]
  sep := h.sep
  used := h.used
  fin := h.fin

theorem Cs_lay {σ : Sg} {R : Toks} {W : World} (h : Models σ R W) {ps : List Pred} {cs : List Value} (hv : Vs σ ps cs) (off : Nat) (qs : List Pred) (hq : ∀ (j : Nat) (p : Pred), qs[j]? = some p → ps[off + j]? = some p) :
    Cs (addC σ (fun b i => if b = W.heap.size then cs[i]? else none)) W.heap.size off qs := by
  intro j p hp
  have hp' := hq j p hp
  have hlt : off + j < cs.length := by rw [hv.1]; exact (List.getElem?_eq_some_iff.1 hp').1
  refine ⟨cs[off + j], ?_, (hv.2 _ p _ hp' (List.getElem?_eq_getElem hlt)).mono (le_addC ..)⟩
  rw [addC_new (no_imm_new h _)]
  simp [List.getElem?_eq_getElem hlt]

theorem flatMap_at {f : α → List Pred} (hk : ∀ z, (f z).length = k) : ∀ (zs : List α) (i : Nat) (z : α), zs[i]? = some z → ∀ (j : Nat) (p : Pred), (f z)[j]? = some p → (zs.flatMap f)[i * k + j]? = some p
  | [], i, z, h, _, _, _ => by simp at h
  | y :: zs, 0, z, h, j, p, hp => by
    simp at h
    subst h
    rw [List.flatMap_cons, Nat.zero_mul, Nat.zero_add, List.getElem?_append_left (List.getElem?_eq_some_iff.1 hp).1]
    exact hp
  | y :: zs, i + 1, z, h, j, p, hp => by
    rw [List.flatMap_cons, List.getElem?_append_right (by rw [hk, Nat.succ_mul]; omega), hk, show (i + 1) * k + j - k = i * k + j by rw [Nat.succ_mul]; omega]
    exact flatMap_at hk zs i z (by simpa using h) j p hp

theorem op_buildSlice {len : Nat} {l : List (Nat × Operand)} {rd : List (Nat × Pred)} {z : Value} (hz : zeroB P e = some (some z)) (h1 : z.cells.toList.all Value.oneCell' = true) (hzs : z.cells.size = k) (hk0 : 0 < k) (ht : elemB P t = some e) (hs : sizeB P e = some k)
    (hk : ∀ z, (f z).length = k) (hl : Elems F f 0 l xs rd) (hlen : xs.length = len) (hbig : len * k ≤ 16777216) :
    OpJ P n N F R ⟨d, .buildSlice t len l.toArray, T, pos, after, none⟩ ⟨rd, [], [], [], [], slP f k xs⟩ where
  loc := by
    intro σ W R a K hm h2 h3 h4 h5 h6 h7 h8 h9 Q
    subst hlen
    have hzc : Vs σ ((List.replicate xs.length (z.cells.toList.map eqP)).flatten) ((Array.range (xs.length * k)).map (z.cells[· % z.cells.size]!)).toList := by
      have e1 : ((Array.range (xs.length * k)).map (z.cells[· % z.cells.size]!)).toList = (List.replicate xs.length z.cells.toList).flatten := by
        have := @flatten_replicate_range z.cells k hzs hk0 xs.length
        simpa using this
      rw [e1]
      have e2 : (List.replicate xs.length (z.cells.toList.map eqP)).flatten = ((List.replicate xs.length z.cells.toList).flatten).map eqP := by simp [List.map_flatten]
      rw [e2]
      exact Vs.eqs (by
        rw [List.all_eq_true]
        intro v hv
        obtain ⟨y, hy, hv⟩ := List.mem_flatten.1 hv
        rw [List.mem_replicate] at hy
        rw [hy.2] at hv
        exact List.all_eq_true.1 h1 v hv)
    obtain ⟨cells', hc', hv'⟩ := run_elems hl hk h4 _ _ hzc (by simp [hzs])
    simp only [Nat.zero_mul, List.take_zero, List.nil_append] at hv'
    have hcl : cells'.toList.length = xs.length * k := by rw [hv'.1]; exact flatMap_len hk xs
    refine wp_value (v := .slice (some ⟨W.heap.size, 0, none⟩) xs.length xs.length) (W' := W.alloc (.cells cells'.toList.toArray e)) ?_ (h9 _ _ _ (le_addC ..) (fun _ _ _ => rfl) ((hm.lay cells'.toList).congr (updR_same ..)) ?_)
    · have hla : (l.toArray.map fun (i, x) => (i, a.eval x)).toList = l.map fun (i, x) => (i, a.eval x) := by simp
      simp only [execOp, Instr.buildSlice, Sem.run_bind, run_underlying (elem_of ht), Result.andThen_ok, run_sizeOf' hs]
      rw [show (2 : Nat) ^ 24 = 16777216 from rfl, if_neg (by omega)]
      by_cases h0 : xs.length * k = 0
      · have hr0 : (Array.range (xs.length * k)).map ((#[] : Array Value)[· % (#[] : Array Value).size]!) = (Array.range (xs.length * k)).map (z.cells[· % z.cells.size]!) := by simp [h0]
        simp only [if_pos h0, Sem.run_bind, Sem.run_pure, Result.andThen_ok, hr0, hla, hc', newRow]
        simp
      · simp only [if_neg h0, Sem.run_bind, run_zero hz, Sem.run_pure, Result.andThen_ok, hla, hc', newRow]
        simp
    · refine ⟨_, _, rfl, Nat.le_refl _, by unfold maxLen; rcases Nat.eq_zero_or_pos xs.length with h | h
                                           · omega
                                           · have : xs.length * 1 ≤ xs.length * k := Nat.mul_le_mul_left _ hk0
                                             omega, fun _ => ⟨W.heap.size, 0, rfl, fun i x hx => ?_⟩⟩
      rw [Nat.zero_add]
      exact Cs_lay hm hv' (i * k) (f x) (fun j p hp => flatMap_at hk xs i x hx j p hp)
  rd := hl.rd
  use := by simp
  del := by simp
  add := by simp
end
end Go.AL
