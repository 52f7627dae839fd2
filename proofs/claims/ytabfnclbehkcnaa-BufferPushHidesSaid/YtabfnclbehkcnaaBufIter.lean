/- The iterators of layer 27. -/
import Derived.RangeFuncBox
import Derived.RangeFuncLeaves
import Derived.RangeFuncCalls
import Derived.Shelf.Abstract
import Derived.WalkKit
import Derived.OwnWalkIn
import Derived.TacticsInMore
import Derived.LoopNIn
import Derived.LoopIn
import Derived.Test.YtabfnclbehkcnaaBufTypes
import Derived.Test.YtabfnclbehkcnaaChecked
set_option linter.unusedVariables false
set_option linter.unusedSimpArgs false
namespace Go.Proofs.Ytabfnclbehkcnaa
open Go.RowKit Go.Shelf Go.Buf
attribute [local go_sem] Oper.semAt_some
/-- all blocks but those of X lie as they lay -/
structure Kx (X : Nat → Prop) (W W' : World) : Prop where
  os : W'.os = W.os
  tape : W'.tape = W.tape
  output : W'.output = W.output
  size : W.heap.size ≤ W'.heap.size
  same : ∀ k, k < W.heap.size → ¬ X k → W'.heap[k]? = W.heap[k]?
theorem Kx.refl (X : Nat → Prop) (W : World) : Kx X W W := ⟨rfl, rfl, rfl, Nat.le_refl _, fun _ _ _ => rfl⟩
theorem Kx.trans {X : Nat → Prop} {A B C : World} (h : Kx X A B) (k : Kx X B C) : Kx X A C :=
  ⟨k.os.trans h.os, k.tape.trans h.tape, k.output.trans h.output, Nat.le_trans h.size k.size, fun i hi hx => (k.same i (Nat.lt_of_lt_of_le hi h.size) hx).trans (h.same i hi hx)⟩
theorem cell_lt {W : World} {b o : Nat} {v : Value} (h : W.cell? ⟨b, o, none⟩ = some v) : b < W.heap.size := by
  obtain ⟨ob, ho, _⟩ := cells_of_cell h
  exact (Array.getElem?_eq_some_iff.1 ho).1
theorem cell_eq {W W' : World} {b o : Nat} (h : W'.heap[b]? = W.heap[b]?) : W'.cell? ⟨b, o, none⟩ = W.cell? ⟨b, o, none⟩ := by unfold World.cell?; rw [h]
theorem Kx.cell {X : Nat → Prop} {W W' : World} (h : Kx X W W') {b o : Nat} {v : Value} (hx : ¬ X b) (hc : W.cell? ⟨b, o, none⟩ = some v) : W'.cell? ⟨b, o, none⟩ = some v :=
  (cell_eq (h.same b (cell_lt hc) hx)).trans hc
def upto {α : Type} (f : Nat → α) (k : Nat) : List α := (List.range k).map f
theorem upto_succ {α : Type} (f : Nat → α) (k : Nat) : upto f (k + 1) = upto f k ++ [f k] := by simp [upto, List.range_succ]
/-- the slice value v holds xs -/
def SlW (W : World) (b off : Nat) (xs : List Wr) : Prop := ∀ i x, xs[i]? = some x → ∀ j u, x.enc[j]? = some u → W.cell? ⟨b, off + i * 5 + j, none⟩ = some u
theorem SlW.kx {X : Nat → Prop} {W W' : World} {b off : Nat} {xs : List Wr} (h : SlW W b off xs) (k : Kx X W W') (hx : ¬ X b) : SlW W' b off xs := fun i x hi j u hu => k.cell hx (h i x hi j u hu)
def bk (xs : List Wr) (j : Nat) : Int × Wr := (((xs.length - 1 - j : Nat) : Int), xs.reverse[j]?.getD Wr.zero)
def encB (x : Int × Wr) : Array Value := #[.int .i64 x.1, .agg x.2.enc.toArray]
def Yk {α : Type} (m l : Nat) (X : Nat → Prop) (encs : α → Array Value) (J Jx : List α → World → Prop) : Prop := ∀ pre x W, J pre W → YieldAt Fence.wide m Try.prog l (encs x) W fun e W' =>
  (e = .returned (.bool true) ∧ J (pre ++ [x]) W' ∧ Kx X W W') ∨ (e = .returned (.bool false) ∧ Jx (pre ++ [x]) W' ∧ Kx X W W')
set_option maxRecDepth 100000 in
set_option maxHeartbeats 2000000 in
theorem back1 (n : Nat) (hn : 1 ≤ n) (l Bs b off cap : Nat) (xs : List Wr) (hlen : xs.length ≤ 1000000) (X : Nat → Prop) (hXs : ¬ X Bs) (hXb : ¬ X b) (J Jx : List (Int × Wr) → World → Prop) (hY : Yk (n - 1) l X encB J Jx)
    (W : World) (hBs : W.cell? ⟨Bs, 0, none⟩ = some (.slice (some ⟨b, off, none⟩) xs.length cap)) (hc : SlW W b off xs) (h0 : J [] W) :
    CallsIn Fence.wide n Try.prog 24 #[.func (.yield l) #[] #[], .pointer (some ⟨Bs, 0, none⟩)] W fun e W' => (∃ v, e = .returned v) ∧
      (J (upto (bk xs) xs.length) W' ∨ ∃ k, k ≤ xs.length ∧ Jx (upto (bk xs) k) W') := by
  refine callsIn_of_wp Try.func24 rfl trivial ?_ rfl
  simp only [Try.ntmps24, List.size_toArray, List.length_cons, List.length_nil, Nat.reduceAdd, Nat.reduceSub, Array.replicate_succ, Array.replicate_zero, List.push_toArray, List.append_toArray, List.nil_append, List.cons_append]
  gi_wp2
  gi_loopw [3] (fun i wr => ∃ k : Nat, k ≤ xs.length ∧ i = .int .i64 ((xs.length : Int) - 1 - k) ∧ J (upto (bk xs) k) wr ∧ Kx X W wr)
    (fun i _ => (intOf i + 1).toNat)
  case atStart =>
    refine ⟨0, Nat.zero_le _, ?_, h0, Kx.refl _ _⟩
    simp
  case round =>
    obtain ⟨k, hk, rfl, hJs, hnx⟩ := hrel
    have hBs' := hnx.cell hXs hBs
    by_cases hlt : k < xs.length
    · obtain ⟨fn, tmps, assign, body, hy, hR⟩ := hY _ (bk xs k) wr hJs
      have hpos : (xs.length : Int) - 1 - k = ((xs.length - 1 - k : Nat) : Int) := by omega
      have hx : xs[xs.length - 1 - k]? = some (xs.reverse[k]?.getD Wr.zero) := by
        rw [List.getElem?_reverse hlt, List.getElem?_eq_getElem (by omega)]
        rfl
      have hcs := hc.kx hnx hXb _ _ hx
      rw [hpos]
      dsimp only [encB, bk] at hy
      generalize xs.reverse[k]?.getD Wr.zero = x at *
      generalize hi : xs.length - 1 - k = i at *
      have c0 := hcs 0 _ rfl
      have c1 := hcs 1 _ rfl
      have c2 := hcs 2 _ rfl
      have c3 := hcs 3 _ rfl
      have c4 := hcs 4 _ rfl
      clear hcs
      rw [Nat.add_zero] at c0
      dsimp only [Wr.enc] at hy
      gi_wp2
      refine hR.mono ?_
      rintro e W3 (⟨rfl, hJ3, hk3⟩ | ⟨rfl, hJx3, hk3⟩)
      · gi_wp2
        go_roundw
        case rel => exact ⟨k + 1, by omega, by simp; omega, by rw [upto_succ]; exact hJ3, hnx.trans hk3⟩
        case measure => simp [intOf]
      · gi_wp2
        refine bodyPost_ret (results_none rfl _ _ _) rfl ?_
        exact ⟨⟨_, rfl⟩, .inr ⟨k + 1, by omega, by rw [upto_succ]; exact hJx3⟩⟩
    · obtain rfl : k = xs.length := by omega
      gi_wp2
      go_end0
      exact ⟨⟨_, rfl⟩, .inl hJs⟩
set_option maxRecDepth 100000 in
set_option maxHeartbeats 2000000 in
theorem back0 (n : Nat) (hn : 1 ≤ n) (l Bs cap : Nat) (ad : Option Addr) (J : List (Int × Wr) → World → Prop) (W : World) (hBs : W.cell? ⟨Bs, 0, none⟩ = some (.slice ad 0 cap)) (h0 : J [] W) :
    CallsIn Fence.wide n Try.prog 24 #[.func (.yield l) #[] #[], .pointer (some ⟨Bs, 0, none⟩)] W fun e W' => (∃ v, e = .returned v) ∧ J [] W' := by
  refine callsIn_of_wp Try.func24 rfl trivial ?_ rfl
  simp only [Try.ntmps24, List.size_toArray, List.length_cons, List.length_nil, Nat.reduceAdd, Nat.reduceSub, Array.replicate_succ, Array.replicate_zero, List.push_toArray, List.append_toArray, List.nil_append, List.cons_append]
  gi_wp2
  gi_loopw [3] (fun i wr => i = .int .i64 (-1) ∧ J [] wr) (fun _ _ => 0)
  case atStart => exact ⟨by simp, h0⟩
  case round =>
    obtain ⟨rfl, hJs⟩ := hrel
    gi_wp2
    go_end0
    exact ⟨⟨_, rfl⟩, hJs⟩
/-- how a round's body may be left -/
def rPost {α : Type} (X : Nat → Prop) (I Ix : List α → World → Prop) (xs : List α) (W : World) : Exit → Act → World → Prop
  | .normal, _, W' => Kx X W W' ∧ I xs W'
  | .ret, _, W' => Kx X W W' ∧ Ix xs W'
  | _, _, _ => False
def Stab {α : Type} (B : Nat) (J : List α → World → Prop) : Prop := ∀ pre W W', J pre W → Below B W W' → J pre W'
theorem below_put {B : Nat} (W : World) {l : Nat} (o : Obj) (h : B ≤ l) : Below B W (W.putObj l o) := ⟨rfl, rfl, rfl, by simp, fun k hk => World.putObj_heap_other (by omega)⟩
theorem kx_put {X : Nat → Prop} (W : World) {l : Nat} (o : Obj) (h : X l) : Kx X W (W.putObj l o) := ⟨rfl, rfl, rfl, by simp, fun k _ hk => World.putObj_heap_other (fun e => hk (e ▸ h))⟩
theorem Kx.mono {X X' : Nat → Prop} {W W' : World} (h : Kx X W W') (hx : ∀ k, X k → X' k) : Kx X' W W' := ⟨h.os, h.tape, h.output, h.size, fun k hk hn => h.same k hk fun e => hn (hx k e)⟩
theorem Kx.below {X : Nat → Prop} {B : Nat} {W W' : World} (h : Below B W W') (hB : ∀ k, k < W.heap.size → ¬ X k → k < B) : Kx X W W' := ⟨h.os, h.tape, h.output, h.size, fun k hk hn => h.block k (hB k hk hn)⟩
theorem rf_law {α : Type} {n : Nat} {g : Operand} {ps : Array Tmp} {assign body : Code} {Q : Exit → Act → World → Prop} {a : Act} {w : World} {X : Nat → Prop} (hX : ∀ k, X k → k < w.heap.size) (hn : 1 ≤ n)
    {gf : Nat} {lb : Array Value} (hg : a.eval g = .func (.func gf) #[] lb) (eg : ∀ args w, (callFunc gf args).run Try.prog w = .ok (.enter gf args) w) {encs : α → Array Value} (hps : ∀ x, (encs x).size = ps.size)
    (S Sp : List α → Prop)
    (hit : ∀ (X' : Nat → Prop) (J Jx : List α → World → Prop) (W : World), (∀ k, X' k → X k ∨ k = w.heap.size + 1) → Below w.heap.size w W → w.heap.size + 2 ≤ W.heap.size → Stab W.heap.size J → Stab W.heap.size Jx → Yk (n - 1 - 1) (w.heap.size + 1) X' encs J Jx → J [] W →
      CallsIn Fence.wide (n - 1) Try.prog gf (#[.func (.yield (w.heap.size + 1)) #[] #[]] ++ lb) W fun e W' => (∃ v, e = .returned v) ∧ ((∃ xs, S xs ∧ J xs W') ∨ (∃ xs, Sp xs ∧ Jx xs W')))
    (I Ix : List α → World → Prop) (hI : Stab w.heap.size I) (hIx : Stab w.heap.size Ix) (h0 : I [] w)
    (hround : ∀ l pre x W, I pre W → w.heap.size + 2 ≤ W.heap.size → assign.wpIn (Fence.wide.inRound l) (n - 1 - 1) Try.prog
      (Exit.then (fun a₁ w₁ => Below W.heap.size W w₁ ∧ ∀ W2, (∀ b o v, b ≠ w.heap.size + 1 → w₁.cell? ⟨b, o, none⟩ = some v → W2.cell? ⟨b, o, none⟩ = some v) → I pre W2 → W.heap.size ≤ W2.heap.size → body.wpIn (Fence.wide.inRound l) (n - 1 - 1) Try.prog (rPost X I Ix (pre ++ [x]) W2) a₁ W2) (fun _ _ _ => False))
      { tmps := (ps.zip (encs x)).foldl (fun t (p, v) => t.setIfInBounds p v) a.tmps, defers := [] } W)
    (hdone : ∀ xs W, S xs → I xs W → W.heap[w.heap.size]? = some (.deferred (some [])) → Q .normal { a with defers := { target := .collected w.heap.size, args := #[] } :: a.defers } W)
    (hstop : ∀ xs W, Sp xs → Ix xs W → W.heap[w.heap.size]? = some (.deferred (some [])) → Q .ret { a with defers := { target := .collected w.heap.size, args := #[] } :: a.defers } W) :
    (Code.rangeFunc g ps assign body).wpIn Fence.wide n Try.prog Q a w := by
  refine wpIn_rangeFunc ?_
  intro fn hfn
  obtain ⟨rec, hrec⟩ : ∃ rec : LoopState → Option Code → Loop, rec = fun st pe => { state := st, pending := pe, fn, tmps := a.tmps, params := ps, assign, body, defers := w.heap.size } := ⟨_, rfl⟩
  obtain ⟨W1, hW1⟩ : ∃ W1, (w.alloc (.deferred (some []))).alloc (.loop (rec .ready none)) = W1 := ⟨_, rfl⟩
  have hs1 : W1.heap.size = w.heap.size + 2 := by rw [← hW1]; simp
  have hL1 : W1.heap[w.heap.size + 1]? = some (.loop (rec .ready none)) := by
    rw [← hW1]; have := World.alloc_heap_new (w.alloc (.deferred (some []))) (.loop (rec .ready none)); rwa [World.size_alloc] at this
  have hK1 : W1.heap[w.heap.size]? = some (.deferred (some [])) := by
    rw [← hW1]; exact (Below.heap_alloc _ _ _ (by simp)).trans (World.alloc_heap_new w _)
  have hb1 : Below w.heap.size w W1 := by rw [← hW1]; exact ((Below.refl _ w).alloc (Nat.le_refl _) _).alloc (by simp) _
  refine ⟨w.heap.size + 1, [{ target := .collected w.heap.size, args := #[] }], W1, { target := .fn (.func gf) lb, args := #[.func (.yield (w.heap.size + 1)) #[] #[]] }, W1, gf,
    #[.func (.yield (w.heap.size + 1)) #[] #[]] ++ lb, W1, ?_, ?_, ?_, ?_, fun _ => hn, ?_⟩
  · rw [← hW1, hrec]; exact run_enterLoop_outer _ _ _ _ _
  · simp only [resolve, hg]
    simp [go_sem]
  · intro f' hf'; trivial
  · simp [invoke, go_sem, eg]
  · refine (hit (fun k => X k ∨ k = w.heap.size + 1)
      (fun pre W => I pre W ∧ w.heap.size + 2 ≤ W.heap.size ∧ W.heap[w.heap.size + 1]? = some (.loop (rec .ready none)) ∧ W.heap[w.heap.size]? = some (.deferred (some [])))
      (fun pre W => Ix pre W ∧ w.heap.size + 2 ≤ W.heap.size ∧ W.heap[w.heap.size + 1]? = some (.loop (rec .done (some .ret))) ∧ W.heap[w.heap.size]? = some (.deferred (some [])))
      W1 (fun _ h => h) hb1 (by omega)
      (fun pre A B hs hb => ⟨hI pre A B hs.1 (hb.mono (by omega)), Nat.le_trans hs.2.1 hb.size, (hb.block _ (by omega)).trans hs.2.2.1, (hb.block _ (by omega)).trans hs.2.2.2⟩)
      (fun pre A B hs hb => ⟨hIx pre A B hs.1 (hb.mono (by omega)), Nat.le_trans hs.2.1 hb.size, (hb.block _ (by omega)).trans hs.2.2.1, (hb.block _ (by omega)).trans hs.2.2.2⟩)
      ?_ ⟨hI [] _ _ h0 hb1, by omega, hL1, hK1⟩).mono ?_
    · rintro pre x W ⟨hi, hsz, hl, hk⟩
      have hy := run_yield (P := Try.prog) (args := encs x) hl (by rw [hrec]; exact hps x)
      rw [hrec] at hy
      refine ⟨fn, _, assign, body, hy, roundIn_of_wpIn hfn (Code.wpIn_mono ?_ (hround _ pre x W hi hsz))⟩
      rintro e a₁ w₁ hq
      cases e with
      | normal =>
        obtain ⟨hba, hbody⟩ := hq
        have hl1 : w₁.heap[w.heap.size + 1]? = some (.loop (rec .ready none)) := (hba.block _ (by omega)).trans hl
        have hk1 : w₁.heap[w.heap.size]? = some (.deferred (some [])) := (hba.block _ (by omega)).trans hk
        have hlt1 : w.heap.size + 1 < w₁.heap.size := by have := hba.size; omega
        refine ⟨_, run_beginRound hl1 (by rw [hrec]), ?_⟩
        have hl2 : (w₁.putObj (w.heap.size + 1) (.loop { rec .ready none with state := .busy })).heap[w.heap.size + 1]? = some (.loop { rec .ready none with state := .busy }) := World.putObj_heap_same hlt1
        have hk2 : (w₁.putObj (w.heap.size + 1) (.loop { rec .ready none with state := .busy })).heap[w.heap.size]? = some (.deferred (some [])) := (World.putObj_heap_other (by omega)).trans hk1
        refine Code.wpIn_mono ?_ (hbody _ (fun b o v hb hc => (cell_eq (World.putObj_heap_other hb)).trans hc) (hI _ _ _ hi ((hba.mono (by omega)).trans (below_put _ _ (by omega)))) (by simp; exact hba.size))
        have hX1 : ¬ X (w.heap.size + 1) := fun e => by have := hX _ e; omega
        have hX0 : ¬ X w.heap.size := fun e => by have := hX _ e; omega
        have fin : ∀ (jump : Option Code) (W3 : World), Kx X (w₁.putObj (w.heap.size + 1) (.loop { rec .ready none with state := .busy })) W3 →
            (Instr.endRound (w.heap.size + 1) jump).run Try.prog W3 = .ok (.bool jump.isNone) (W3.putObj (w.heap.size + 1) (.loop (rec (if jump.isNone then .ready else .done) jump))) ∧
            w.heap.size + 2 ≤ (W3.putObj (w.heap.size + 1) (.loop (rec (if jump.isNone then .ready else .done) jump))).heap.size ∧
            (W3.putObj (w.heap.size + 1) (.loop (rec (if jump.isNone then .ready else .done) jump))).heap[w.heap.size + 1]? = some (.loop (rec (if jump.isNone then .ready else .done) jump)) ∧
            (W3.putObj (w.heap.size + 1) (.loop (rec (if jump.isNone then .ready else .done) jump))).heap[w.heap.size]? = some (.deferred (some [])) ∧
            Kx (fun k => X k ∨ k = w.heap.size + 1) W (W3.putObj (w.heap.size + 1) (.loop (rec (if jump.isNone then .ready else .done) jump))) := fun jump W3 hk3 => by
          have hl3 := (hk3.same _ (by simp; omega) hX1).trans hl2
          have hk3' := (hk3.same _ (by simp; omega) hX0).trans hk2
          have hlt3 : w.heap.size + 1 < W3.heap.size := (Array.getElem?_eq_some_iff.1 hl3).1
          have := run_endRound (P := Try.prog) jump hl3
          rw [hrec] at this ⊢
          refine ⟨this, by simp; omega, World.putObj_heap_same hlt3, (World.putObj_heap_other (by omega)).trans hk3', ?_⟩
          refine Kx.trans (Kx.below hba fun k hk _ => hk) (Kx.trans (kx_put _ _ (.inr rfl)) (Kx.trans (hk3.mono fun k h => .inl h) (kx_put _ _ (.inr rfl))))
        rintro e2 a3 W3 hp
        cases e2 with
        | normal =>
          obtain ⟨hkx, hi3⟩ := hp
          obtain ⟨hr, hz, hl4, hk4, hkk⟩ := fin none W3 hkx
          exact ⟨_, _, hr, .inl ⟨rfl, ⟨hI _ _ _ hi3 (below_put _ _ (by omega)), hz, hl4, hk4⟩, hkk⟩⟩
        | ret =>
          obtain ⟨hkx, hi3⟩ := hp
          obtain ⟨hr, hz, hl4, hk4, hkk⟩ := fin (some .ret) W3 hkx
          exact ⟨_, _, hr, .inr ⟨rfl, ⟨hIx _ _ _ hi3 (below_put _ _ (by omega)), hz, hl4, hk4⟩, hkk⟩⟩
        | exit id => exact hp.elim
        | goto t => exact hp.elim
        | panic ch => exact hp.elim
        | outgrown => exact hp.elim
      | exit id => exact hq.elim
      | goto t => exact hq.elim
      | ret => exact hq.elim
      | panic ch => exact hq.elim
      | outgrown => exact hq.elim
    · rintro e W2 ⟨⟨v, rfl⟩, (⟨xs, hS, hi, hz, hl, hk⟩ | ⟨xs, hSp, hi, hz, hl, hk⟩)⟩
      · exact ⟨none, _, by have := run_endLoop (P := Try.prog) hl (by rw [hrec]; simp); rw [hrec] at this; exact this, hdone xs _ hS (hI _ _ _ hi (below_put _ _ (by omega))) ((World.putObj_heap_other (by omega)).trans hk)⟩
      · exact ⟨some .ret, _, by have := run_endLoop (P := Try.prog) hl (by rw [hrec]; simp); rw [hrec] at this; exact this, wpIn_ret (hstop xs _ hSp (hIx _ _ _ hi (below_put _ _ (by omega))) ((World.putObj_heap_other (by omega)).trans hk))⟩
end Go.Proofs.Ytabfnclbehkcnaa
