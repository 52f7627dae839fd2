/- The rules of operations: new memory, stores, composites, calls, results. -/
import Derived.Test.YtabfnclbehkcnaaAlMem
namespace Go.AL
open Go.RowKit

theorem Models.congr {σ : Sg} {R R' : Toks} {W : World} (h : Models σ R W) (e : R' = R) : Models σ R' W := e ▸ h

theorem updR_new (R : Toks) (rd : List (Nat × Pred)) (use : List (Nat × Id × Res)) (m : Nat) (x : Id × Res) (new : List Nat) (φ : Pred) :
    updR R ⟨rd, use, [], [(m, x)], new, φ⟩ = fun k => if k = m then some x else R k := by
  funext k
  by_cases h : k = m
  · subst h; simp [updR]
  · have : (m == k) = false := by simpa using fun e => h e.symm
    simp [updR, this, h]
theorem updR_turn (R : Toks) (rd : List (Nat × Pred)) (use : List (Nat × Id × Res)) (m : Nat) (x x' : Id × Res) (new : List Nat) (φ : Pred) :
    updR R ⟨rd, use, [(m, x)], [(m, x')], new, φ⟩ = fun k => if k = m then some x' else R k := by
  funext k
  by_cases h : k = m
  · subst h; simp [updR]
  · have : (m == k) = false := by simpa using fun e => h e.symm
    simp [updR, this, h]

/-- a store: what it leaves of a list of predicates -/
def splice (ps : List Pred) (off : Nat) (qs : List Pred) : List Pred := ps.take off ++ qs ++ ps.drop (off + qs.length)

theorem Vs.append {σ : Sg} {ps qs : List Pred} {cs ds : List Value} (h : Vs σ ps cs) (k : Vs σ qs ds) : Vs σ (ps ++ qs) (cs ++ ds) := by
  refine ⟨by simp [h.1, k.1], fun j p u hp hu => ?_⟩
  rcases Nat.lt_or_ge j ps.length with hj | hj
  · rw [List.getElem?_append_left hj] at hp
    rw [List.getElem?_append_left (by rw [h.1]; exact hj)] at hu
    exact h.2 j p u hp hu
  · rw [List.getElem?_append_right hj] at hp
    rw [List.getElem?_append_right (by rw [h.1]; exact hj), h.1] at hu
    exact k.2 _ p u hp hu
theorem Vs.take' {σ : Sg} {ps : List Pred} {cs : List Value} (h : Vs σ ps cs) (n : Nat) : Vs σ (ps.take n) (cs.take n) := by simpa using h.drop 0 n
theorem Vs.drop' {σ : Sg} {ps : List Pred} {cs : List Value} (h : Vs σ ps cs) (n : Nat) : Vs σ (ps.drop n) (cs.drop n) := by
  have := h.drop n ps.length
  rw [List.take_of_length_le (by simp), List.take_of_length_le (by rw [List.length_drop, h.1]; omega)] at this
  exact this
theorem Vs.splice {σ : Sg} {ps qs : List Pred} {cs ds : List Value} (h : Vs σ ps cs) (k : Vs σ qs ds) (off : Nat) : Vs σ (splice ps off qs) (cs.take off ++ ds ++ cs.drop (off + ds.length)) := by
  unfold AL.splice
  rw [k.1]
  exact ((h.take' off).append k).append (h.drop' _)
theorem Vs.one {σ : Sg} {p : Pred} {u : Value} (h : p.h σ u) (h1 : One p) : Vs σ [p] [u] := ⟨rfl, fun j q w hq hw => by
  cases j with
  | zero => simp at hq hw; subst hq; subst hw; exact ⟨h, h1 _ _ h⟩
  | succ j => simp at hq⟩
theorem Vs.eqs {σ : Sg} {zs : List Value} (h : zs.all Value.oneCell' = true) : Vs σ (zs.map eqP) zs := ⟨by simp, fun j p u hp hu => by
  rw [List.getElem?_map, hu] at hp
  simp at hp
  subst hp
  exact ⟨rfl, List.all_eq_true.1 h u (List.mem_of_getElem? hu)⟩⟩
theorem Vs.ones {σ : Sg} {ps : List Pred} {cs : List Value} (h : Vs σ ps cs) : ∀ v ∈ cs, v.oneCell' = true := fun v hv => by
  obtain ⟨j, hj, e⟩ := List.getElem_of_mem hv
  have hp : j < ps.length := by rw [← h.1]; exact hj
  exact (h.2 j ps[j] v (List.getElem?_eq_getElem hp) (by rw [← e]; exact List.getElem?_eq_getElem hj)).2

/-- what a value is, cell by cell -/
inductive Val (p : Pred) : List Pred → Prop
  | one (h : One p) : Val p [p]
  | agg {ps : List Pred} (h : p = aggP ps) : Val p ps
theorem Val.cells {p : Pred} {ps : List Pred} (h : Val p ps) {σ : Sg} {v : Value} (hv : p.h σ v) : Vs σ ps v.cells.toList := by
  cases h with
  | one h1 =>
    have h2 := h1 σ v hv
    have : v.cells = #[v] := by cases v <;> first | rfl | (simp [Value.oneCell'] at h2)
    rw [this]
    exact Vs.one hv h1
  | agg h =>
    subst h
    obtain ⟨cs, rfl, hc⟩ := hv
    exact hc

section
variable {P : Program} {n N : Nat} {F : Fr} {R : Toks} {d : Option Nat} {T Ty : TypeId} {pos : String} {after : Array Edge}

theorem op_alloc {m k : Nat} {z : Value} {ps : List Pred} (hz : zeroB P Ty = some (some z)) (hps : z.cells.toList.map eqP = ps) (h1 : z.cells.toList.all Value.oneCell' = true) (hm : R m = none) :
    OpJ P n N F R ⟨d, .alloc Ty, T, pos, after, none⟩ ⟨[], [], [], [(m, (N, k), blk Ty ps)], [k], ptrP (N, k) 0⟩ where
  loc := by
    intro σ W R a K hm1 h2 h3 h4 h5 h6 h7 h8 h9 Q
    have hnew := h8 k (by simp)
    have hR : R m = none := by have h := h7 (m, (N, k), blk Ty ps) (by simp); simpa using h
    have hbox := hm1.box (n := m) (T := Ty) (ps := ps) (cs := z.cells.toList) hnew hR (by rw [← hps]; exact Vs.eqs h1)
    refine wp_value (v := .pointer (some ⟨W.heap.size, 0, none⟩)) (W' := W.alloc (.cells z.cells Ty)) ?_ (h9 _ _ _ (le_bind hnew) keep_bind (hbox.congr (updR_new ..)) ⟨_, bind_at .., rfl⟩)
    simp [execOp, Instr.alloc, run_zero hz, newVar, newRow]
  rd := by simp
  use := by simp
  del := by simp
  add := by simpa using hm

theorem op_box {x : Operand} {p : Pred} {ps : List Pred} {m k : Nat} (hx : opd F x = some p) (hv : Val p ps) (hm : R m = none) :
    OpJ P n N F R ⟨d, .box Ty x, T, pos, after, none⟩ ⟨rdo x p, [], [], [(m, (N, k), blk Ty ps)], [k], ptrP (N, k) 0⟩ where
  loc := by
    intro σ W R a K hm1 h2 h3 h4 h5 h6 h7 h8 h9 Q
    have hnew := h8 k (by simp)
    have hR : R m = none := by have h := h7 (m, (N, k), blk Ty ps) (by simp); simpa using h
    have hbox := hm1.box (n := m) (T := Ty) hnew hR (hv.cells (holds_of hx h4))
    refine wp_value (v := .pointer (some ⟨W.heap.size, 0, none⟩)) (W' := W.alloc (.cells (a.eval x).cells Ty)) ?_ (h9 _ _ _ (le_bind hnew) keep_bind (hbox.congr (updR_new ..)) ⟨_, bind_at .., rfl⟩)
    simp [execOp, Instr.box, newVar, newRow]
  rd := rd_of hx
  use := by simp
  del := by simp
  add := by simpa using hm

/-- a store into a block of the call's own -/
theorem op_store {x y : Operand} {id : Id} {off m k κ : Nat} {B : TypeId} {ps qs rs : List Pred} {p : Pred} (hx : opd F x = some (ptrP id off)) (hy : opd F y = some p) (hR : R m = some (id, blkX κ B ps)) (hv : Val p qs)
    (hs : sizeB P Ty = some k) (hk : Nat.beq qs.length k = true) (hl : Nat.ble (off + k) ps.length = true) (hrs : splice ps off qs = rs) :
    OpJ P n N F R ⟨none, .store Ty x y, T, pos, after, none⟩ ⟨rdo x (ptrP id off) ++ rdo y p, [], [(m, id, blkX κ B ps)], [(m, id, blkX κ B rs)], [], eqP undef⟩ where
  loc := by
    intro σ W R a K hm1 h2 h3 h4 h5 h6 h7 h8 h9 Q
    obtain ⟨b, hb, hpv⟩ := holds_of hx fun z hz => h4 z (List.mem_append_left _ hz)
    have hyv := hv.cells (holds_of hy fun z hz => h4 z (List.mem_append_right _ hz))
    have hRm := h6 _ (List.mem_cons_self ..)
    obtain ⟨cs, rest, hcs, hvs, hz, _⟩ := blk_read hm1 hRm hb
    have hk' : qs.length = k := Nat.eq_of_beq_eq_true hk
    have hl' : off + k ≤ ps.length := Nat.le_of_ble_eq_true hl
    have hsz : (a.eval y).cells.size = k := by rw [← Array.length_toList, hyv.1, hk']
    have hst := run_storeCells_at P b off B (a.eval y).cells.toList 0 (cs ++ rest).toArray W hcs (by simp only [Array.length_toList, List.size_toArray, List.length_append, hvs.1, Nat.add_zero]; omega) hyv.ones
    simp only [Nat.add_zero] at hst
    have hspl : (cs ++ rest).take off ++ (a.eval y).cells.toList ++ (cs ++ rest).drop (off + (a.eval y).cells.toList.length) = (cs.take off ++ (a.eval y).cells.toList ++ cs.drop (off + (a.eval y).cells.toList.length)) ++ rest := by
      have l1 := hvs.1
      have l2 : (a.eval y).cells.toList.length = k := by simpa using hsz
      rw [List.take_append_of_le_length (by omega), List.drop_append_of_le_length (by omega)]
      simp
    have hst2 : ((cs ++ rest).take off ++ (a.eval y).cells.toList ++ (cs ++ rest).drop (off + (a.eval y).cells.toList.length)).toArray = ((cs.take off ++ (a.eval y).cells.toList ++ cs.drop (off + (a.eval y).cells.toList.length)) ++ rest).toArray := by rw [hspl]
    have hw := hm1.write (rest := rest) (W' := W.setRow b ((cs.take off ++ (a.eval y).cells.toList ++ cs.drop (off + (a.eval y).cells.toList.length)) ++ rest).toArray) hRm hb (setRow_heap W b _ _ B (0, 0) hcs) (fun h => by
        rw [← hz h]
        have l1 := hvs.1
        have l2 : (a.eval y).cells.toList.length = k := by simpa using hsz
        simp only [List.length_append, List.length_take, List.length_drop]
        omega) (fun k hk => setRow_other W b k _ hk) (by simp) rfl rfl rfl
      (hvs.splice hyv off)
    rw [hrs] at hw
    refine wp_done (W' := W.setRow b ((cs.take off ++ (a.eval y).cells.toList ++ cs.drop (off + (a.eval y).cells.toList.length)) ++ rest).toArray) ?_ (h9 σ _ undef (Le.refl σ) (fun _ _ _ => rfl) (hw.congr (updR_turn ..)) rfl)
    simp only [hspl] at hst
    simp only [execOp, Instr.storeAt, hpv, Instr.sureAddr, storeVar, Sem.run_bind, Sem.run_pure, Result.andThen_ok, run_sizeOf' hs, hsz]
    simp [hst]
  rd := rd_app (rd_of hx) (rd_of hy)
  use := by simp
  del := by simpa using hR
  add := by simp

/-! ### composites -/
inductive Parts (P : Program) (F : Fr) (s : TypeId) : List (Nat × Operand) → List (Nat × Pred) → List (Nat × List Pred) → Prop
  | nil : Parts P F s [] [] []
  | cons {i : Nat} {x : Operand} {p : Pred} {qs : List Pred} {off k : Nat} {f : TypeId} {l : List (Nat × Operand)} {rd : List (Nat × Pred)} {ps : List (Nat × List Pred)} (hx : opd F x = some p) (hv : Val p qs)
      (hf : fldB P s i = some (off, f)) (hs : sizeB P f = some k) (hk : Nat.beq qs.length k = true) (hl : Parts P F s l rd ps) : Parts P F s ((i, x) :: l) (rdo x p ++ rd) ((off, qs) :: ps)

def splices (zs : List Pred) : List (Nat × List Pred) → List Pred
  | [] => zs
  | (off, qs) :: l => splices (splice zs off qs) l

theorem fill_cells (off : Nat) : ∀ (vs : List Value) (j : Nat) (acc : Array Value), off + j + vs.length ≤ acc.size →
    ((vs.zipIdx j).foldl (fun cs (x : Value × Nat) => cs.setIfInBounds (off + x.2) x.1) acc).toList = acc.toList.take (off + j) ++ vs ++ acc.toList.drop (off + j + vs.length)
  | [], j, acc, _ => by simp
  | v :: vs, j, acc, h => by
    simp only [List.zipIdx_cons, List.foldl_cons, List.length_cons] at h ⊢
    rw [fill_cells off vs (j + 1) _ (by simp; omega)]
    have e := list_seg_step acc.toList (off + j) v vs (by simp; omega)
    simpa [Array.toList_setIfInBounds, Nat.add_assoc] using e

theorem run_fill {P : Program} {F : Fr} {s : TypeId} {l : List (Nat × Operand)} {rd : List (Nat × Pred)} {ps : List (Nat × List Pred)} (hp : Parts P F s l rd ps) {σ : Sg} {a : Act} (hr : ∀ y ∈ rd, y.2.h σ (a.tmps.getD y.1 undef)) {fs : Array Field}
    (hu : P.underlying s = some (.struct fs)) (place : Nat → Option (Nat × Nat)) (hplace : ∀ (i : Nat) (fd : Field) (k : Nat), fs[i]? = some fd → sizeB P fd.type = some k → place i = some (fd.offset, k)) :
    ∀ (zs : List Pred) (cells : Array Value), Vs σ zs cells.toList → (∀ x ∈ ps, x.1 + x.2.length ≤ zs.length) →
      ∃ cells', Instr.fill place cells (l.map fun (i, x) => (i, a.eval x)) = some cells' ∧ Vs σ (splices zs ps) cells'.toList := by
  induction hp with
  | nil => intro zs cells hz _; exact ⟨cells, rfl, hz⟩
  | @cons i x p qs off k f l rd ps hx hv hf hs hk _ ih =>
    intro zs cells hz hle
    obtain ⟨fs', fd, hu', hfd, rfl, rfl⟩ := fld_of hf
    rw [hu] at hu'
    cases hu'
    have hvc := hv.cells (holds_of hx fun z hz => hr z (List.mem_append_left _ hz))
    have hk' : qs.length = k := Nat.eq_of_beq_eq_true hk
    have hsz : (a.eval x).cells.size = k := by rw [← Array.length_toList, hvc.1, hk']
    have hcz : cells.size = zs.length := by rw [← Array.length_toList, hz.1]
    have h0 := hle _ (List.mem_cons_self ..)
    simp only at h0
    have hfit : fd.offset + (a.eval x).cells.size ≤ cells.size := by rw [hsz, hcz, ← hk']; exact h0
    have hnew : Vs σ (splice zs fd.offset qs) ((a.eval x).cells.zipIdx.foldl (fun cs (c, j) => cs.setIfInBounds (fd.offset + j) c) cells).toList := by
      rw [← Array.foldl_toList, Array.toList_zipIdx]
      have e := fill_cells fd.offset (a.eval x).cells.toList 0 cells (by simpa using hfit)
      simp only [Nat.add_zero] at e
      rw [show (fun (cs : Array Value) (x : Value × Nat) => match x with | (c, j) => cs.setIfInBounds (fd.offset + j) c) = (fun cs x => cs.setIfInBounds (fd.offset + x.2) x.1) from rfl, e]
      exact hz.splice hvc _
    have hlen : (splice zs fd.offset qs).length = zs.length := by
      unfold splice
      simp
      omega
    obtain ⟨cells', hc', hv'⟩ := ih (fun y hy => hr y (List.mem_append_right _ hy)) (splice zs fd.offset qs) _ hnew (fun y hy => by rw [hlen]; exact hle y (List.mem_cons_of_mem _ hy))
    refine ⟨cells', ?_, hv'⟩
    simp only [List.map_cons, Instr.fill, hplace i fd k hfd hs]
    rw [if_neg (by simp [hsz]; rw [← hsz]; exact hfit)]
    exact hc'

def fitB (n : Nat) : List (Nat × List Pred) → Bool
  | [] => true
  | (off, qs) :: l => Nat.ble (off + qs.length) n && fitB n l
theorem fitB_spec {n : Nat} : ∀ {l : List (Nat × List Pred)}, fitB n l = true → ∀ x ∈ l, x.1 + x.2.length ≤ n
  | [], _, x, hx => by cases hx
  | (off, qs) :: l, h, x, hx => by
    simp only [fitB, Bool.and_eq_true] at h
    rcases List.mem_cons.1 hx with rfl | hx
    · exact Nat.le_of_ble_eq_true h.1
    · exact fitB_spec h.2 x hx

/-- a field of known size, each of the struct's -/
def sizesB (P : Program) (s : TypeId) : Bool := match P.underlying s with | some (.struct fs) => fs.all fun f => (sizeB P f.type).isSome | _ => false

theorem run_places {P : Program} {fs : Array Field} (h : (fs.all fun f => (sizeB P f.type).isSome) = true) (W : World) :
    (fs.mapM fun f => (do pure (f.offset, ← sizeOf f.type) : Sem (Nat × Nat))).run P W = .ok (fs.map fun f => (f.offset, (sizeB P f.type).getD 0)) W := by
  rw [Array.mapM_eq_mapM_toList]
  have : ∀ l : List Field, (∀ f ∈ l, (sizeB P f.type).isSome = true) → (l.mapM fun f => (do pure (f.offset, ← sizeOf f.type) : Sem (Nat × Nat))).run P W = .ok (l.map fun f => (f.offset, (sizeB P f.type).getD 0)) W := by
    intro l hl
    induction l with
    | nil => simp
    | cons f l ih =>
      obtain ⟨k, hk⟩ := Option.isSome_iff_exists.1 (hl f (by simp))
      simp only [List.mapM_cons, Sem.run_bind, run_sizeOf' hk, Result.andThen_ok, Sem.run_pure, ih (fun g hg => hl g (List.mem_cons_of_mem _ hg)), List.map_cons, hk, Option.getD_some]
  simp only [Sem.run_map]
  rw [this fs.toList (fun f hf => by
    rw [Array.all_eq_true_iff_forall_mem] at h
    exact h f (by simpa using hf))]
  simp only [Result.andThen_ok]
  congr 1
  apply Array.ext'
  simp

theorem op_build {s : TypeId} {parts : List (Nat × Operand)} {rd : List (Nat × Pred)} {ps : List (Nat × List Pred)} {z : Value} {zs qs : List Pred} (hz : zeroB P s = some (some z)) (hzs : z.cells.toList.map eqP = zs) (h1 : z.cells.toList.all Value.oneCell' = true)
    (hsz : sizesB P s = true) (hp : Parts P F s parts rd ps) (hfit : fitB zs.length ps = true) (hqs : splices zs ps = qs) :
    OpJ P n N F R ⟨d, .build s parts.toArray, T, pos, after, none⟩ ⟨rd, [], [], [], [], aggP qs⟩ := by
  have hrd : ∀ y ∈ rd, lk F y.1 = some y.2 := by
    clear hfit hqs
    induction hp with
    | nil => intro y hy; cases hy
    | cons hx _ _ _ _ _ ih => exact rd_app (rd_of hx) ih
  refine opj_pure hrd fun σ W a hr => ?_
  unfold sizesB at hsz
  split at hsz
  · rename_i fs hu
    have hpl := run_places hsz W
    obtain ⟨cells', hc', hv'⟩ := run_fill hp hr hu (fun i => (fs.map fun f => (f.offset, (sizeB P f.type).getD 0))[i]?) (fun i fd k hfd hk => by simp [hfd, hk]) zs z.cells (by rw [← hzs]; exact Vs.eqs h1) (fitB_spec hfit)
    refine ⟨.agg cells', ?_, cells'.toList, rfl, by rw [← hqs]; exact hv'⟩
    have hl : (parts.toArray.map fun (i, x) => (i, a.eval x)).toList = parts.map fun (i, x) => (i, a.eval x) := by simp
    simp only [execOp, Instr.build, Sem.run_bind, run_zero hz, Result.andThen_ok, run_underlying hu, hpl, hl, hc', Sem.run_pure]
  · cases hsz
end
end Go.AL
