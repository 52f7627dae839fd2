/- Read and Only of layer 27. -/
import Derived.Test.YtabfnclbehkcnaaBufIter2
import Derived.IntWalk
set_option linter.unusedVariables false
set_option linter.unusedSimpArgs false
namespace Go.Proofs.Ytabfnclbehkcnaa
open Go.RowKit Go.Shelf Go.Buf
attribute [local go_sem] Oper.semAt_some
def Own0 (w : World) (ad : Option Addr) (xs : List Wr) : Prop := xs = [] ∨ ∃ b off, ad = some ⟨b, off, none⟩ ∧ b < w.heap.size ∧ SlW w b off xs
theorem Yk.any {α : Type} {m l : Nat} {X : Nat → Prop} {encs : α → Array Value} {J Jx : List α → World → Prop} (h : Yk m l X encs J Jx) (m' : Nat) : Yk m' l X encs J Jx := fun pre x W hj => by
  obtain ⟨fn, tmps, assign, body, hy, hF, hR⟩ := h pre x W hj
  exact ⟨fn, tmps, assign, body, hy, hF, fun c cs _ => hR c cs (fun d h => by cases h)⟩
/-- what an iteration over to(b, x, y) gives -/
theorem to_it (n : Nat) (hn : 3 ≤ n) (w w1 : World) (ad : Option Addr) (cap : Nat) (xs : List Wr) (x y : Int) (hlen : xs.length ≤ 1000000) (hs : Own0 w ad xs) (B : Nat) (hB : w.heap.size ≤ B) (hb : Below w.heap.size w w1)
    (c1 : w1.cell? ⟨B, 0, none⟩ = some (.slice ad xs.length cap)) (c2 : w1.cell? ⟨B + 1, 0, none⟩ = some (.int .i64 x)) (c3 : w1.cell? ⟨B + 2, 0, none⟩ = some (.int .i64 y)) (X : Nat → Prop) (hX : ∀ k, X k → w.heap.size ≤ k ∧ k < B) (l : Nat) (hl : B + 2 < l)
    (X' : Nat → Prop) (J Jx : List Wr → World → Prop) (W : World) (hX' : ∀ k, X' k → X k ∨ k = l) (hW : Below w1.heap.size w1 W) (hsz : l < W.heap.size) (hJ : Stab W.heap.size J) (hJx : Stab W.heap.size Jx) (hY : Yk (n - 1 - 1 - 1) l X' encT J Jx) (h0 : J [] W) :
    CallsIn Fence.wide n Try.prog 22 #[.func (.yield l) #[] #[], .pointer (some ⟨B, 0, none⟩), .pointer (some ⟨B + 1, 0, none⟩), .pointer (some ⟨B + 2, 0, none⟩)] W fun e W' => (∃ v, e = .returned v) ∧
      ((∃ ys, ys = filt x y (upto (bk xs) xs.length) ∧ J ys W') ∨ (∃ ys, (∃ k, k ≤ xs.length ∧ ys = filt x y (upto (bk xs) k)) ∧ Jx ys W')) := by
  have b1 := cell_lt c1
  have b2 := cell_lt c2
  have b3 := cell_lt c3
  have no : ∀ k, k < w.heap.size ∨ B ≤ k ∧ k < l → ¬ X' k := fun k hk e => by
    rcases hX' k e with h | h
    · have := hX k h; omega
    · omega
  refine (to22 n hn l B (B + 1) (B + 2) cap ad xs x y hlen X' (no _ (.inr ⟨by omega, by omega⟩)) (no _ (.inr ⟨by omega, by omega⟩)) (no _ (.inr ⟨by omega, by omega⟩)) J Jx W (fun k hk => ?_) hJ hJx hY
    ((cell_eq (hW.block _ b1)).trans c1) ((cell_eq (hW.block _ b2)).trans c2) ((cell_eq (hW.block _ b3)).trans c3) ?_ h0).mono ?_
  · rcases hX' k hk with h | h
    · have := hX k h; have := hW.size; omega
    · omega
  · rcases hs with rfl | ⟨b, off, rfl, hbl, hc⟩
    · exact .inl rfl
    · have := hW.size
      have h1 := hb.size
      exact .inr ⟨b, off, rfl, no _ (.inl hbl), by omega, fun i z hi j u hu => (cell_eq ((hW.block b (by omega)).trans (hb.block b hbl))).trans (hc i z hi j u hu)⟩
  · rintro e W2 ⟨hv, h | ⟨k, hk, h⟩⟩
    · exact ⟨hv, .inl ⟨_, rfl, h⟩⟩
    · exact ⟨hv, .inr ⟨_, ⟨k, hk, rfl⟩, h⟩⟩
theorem frozen_eq {W W' : World} {b o : Nat} (h : W'.heap[b]? = W.heap[b]?) : W'.frozen? ⟨b, o, none⟩ = W.frozen? ⟨b, o, none⟩ := by unfold World.frozen?; rw [h]
theorem wr_succ (a : Int) : wrap64 (wrap64 a + 1) = wrap64 (a + 1) := by
  unfold wrap64
  omega
/-- a box of one's own that holds v -/
def Bx (W : World) (b : Nat) (v : Value) : Prop := W.cell? ⟨b, 0, none⟩ = some v ∧ W.frozen? ⟨b, 0, none⟩ = false
theorem Bx.below {W W' : World} {B b : Nat} {v : Value} (h : Bx W b v) (k : Below B W W') (hb : b < B) : Bx W' b v := ⟨(cell_eq (k.block b hb)).trans h.1, (frozen_eq (k.block b hb)).trans h.2⟩
theorem Bx.new (W : World) (v : Value) (t : TypeId) : Bx (W.alloc (.cells #[v] t)) W.heap.size v := ⟨cnew W v t, by unfold World.frozen?; rw [World.alloc_heap_new]; rfl⟩
theorem Bx.kx {X : Nat → Prop} {W W' : World} {b : Nat} {v : Value} (h : Bx W b v) (k : Kx X W W') (hb : ¬ X b) : Bx W' b v := ⟨k.cell hb h.1, (frozen_eq (k.same b (cell_lt h.1) hb)).trans h.2⟩
def Bx3 (W : World) (b : Nat) (u v z : Value) : Prop := (W.cell? ⟨b, 0, none⟩ = some u ∧ W.frozen? ⟨b, 0, none⟩ = false) ∧ (W.cell? ⟨b, 1, none⟩ = some v ∧ W.frozen? ⟨b, 1, none⟩ = false) ∧ (W.cell? ⟨b, 2, none⟩ = some z ∧ W.frozen? ⟨b, 2, none⟩ = false)
theorem Bx3.below {W W' : World} {B b : Nat} {u v z : Value} (h : Bx3 W b u v z) (k : Below B W W') (hb : b < B) : Bx3 W' b u v z :=
  ⟨⟨(cell_eq (k.block b hb)).trans h.1.1, (frozen_eq (k.block b hb)).trans h.1.2⟩, ⟨(cell_eq (k.block b hb)).trans h.2.1.1, (frozen_eq (k.block b hb)).trans h.2.1.2⟩, ⟨(cell_eq (k.block b hb)).trans h.2.2.1, (frozen_eq (k.block b hb)).trans h.2.2.2⟩⟩
theorem Bx3.new (W : World) (u v z : Value) (t : TypeId) : Bx3 (W.alloc (.cells #[u, v, z] t)) W.heap.size u v z := by
  refine ⟨⟨?_, ?_⟩, ⟨?_, ?_⟩, ?_, ?_⟩ <;> first | (unfold World.cell?; rw [World.alloc_heap_new]; rfl) | (unfold World.frozen?; rw [World.alloc_heap_new]; rfl)
theorem kx_set {X : Nat → Prop} (W : World) {b o : Nat} (v : Value) (h : X b) : Kx X W (W.setCell ⟨b, o, none⟩ v) :=
  ⟨rfl, rfl, rfl, (KeepsOthers.setCell W _ v).size, fun k _ hk => Below.heap_setCell W _ v k (fun e => hk (e ▸ h))⟩
theorem below_set {B : Nat} (W : World) {b o : Nat} (v : Value) (h : B ≤ b) : Below B W (W.setCell ⟨b, o, none⟩ v) :=
  ⟨rfl, rfl, rfl, (KeepsOthers.setCell W _ v).size, fun k hk => Below.heap_setCell W _ v k (fun e => by simp at e; omega)⟩
theorem ne_set {W : World} {b o b' o' : Nat} (v : Value) (h : b ≠ b' ∨ o ≠ o') : (W.setCell ⟨b', o', none⟩ v).cell? ⟨b, o, none⟩ = W.cell? ⟨b, o, none⟩ := World.cell?_setCell_other _ _ _ _ (fun e => by simp at e; omega)
theorem eq_set {W : World} {b o : Nat} {u : Value} (v : Value) (h : W.cell? ⟨b, o, none⟩ = some u) : (W.setCell ⟨b, o, none⟩ v).cell? ⟨b, o, none⟩ = some v := World.cell?_setCell_same' _ _ _ (by rw [h]; rfl)
theorem set4 {W : World} {b b' : Nat} {u v z t : Value} (u' v' z' t' : Value) (h : Bx3 W b u v z) (k : Bx W b' t) (hne : b ≠ b') :
    Bx3 ((((W.setCell ⟨b, 0, none⟩ u').setCell ⟨b, 1, none⟩ v').setCell ⟨b, 2, none⟩ z').setCell ⟨b', 0, none⟩ t') b u' v' z' ∧ Bx ((((W.setCell ⟨b, 0, none⟩ u').setCell ⟨b, 1, none⟩ v').setCell ⟨b, 2, none⟩ z').setCell ⟨b', 0, none⟩ t') b' t' := by
  obtain ⟨⟨e1, e2⟩, ⟨e3, e4⟩, e5, e6⟩ := h
  obtain ⟨e7, e8⟩ := k
  refine ⟨⟨⟨?_, by simpa using e2⟩, ⟨?_, by simpa using e4⟩, ?_, by simpa using e6⟩, ?_, by simpa using e8⟩
  · rw [ne_set _ (.inl hne), ne_set _ (.inr (by decide)), ne_set _ (.inr (by decide))]; exact eq_set _ e1
  · rw [ne_set _ (.inl hne), ne_set _ (.inr (by decide))]; exact eq_set _ ((ne_set _ (.inr (by decide))).trans e3)
  · rw [ne_set _ (.inl hne)]; exact eq_set _ ((ne_set _ (.inr (by decide))).trans ((ne_set _ (.inr (by decide))).trans e5))
  · exact eq_set _ ((ne_set _ (.inl hne.symm)).trans ((ne_set _ (.inl hne.symm)).trans ((ne_set _ (.inl hne.symm)).trans e7)))
theorem kx_set4 {X : Nat → Prop} (W : World) {b b' : Nat} (u' v' z' t' : Value) (h : X b) (h' : X b') : Kx X W ((((W.setCell ⟨b, 0, none⟩ u').setCell ⟨b, 1, none⟩ v').setCell ⟨b, 2, none⟩ z').setCell ⟨b', 0, none⟩ t') :=
  (((kx_set _ _ h).trans (kx_set _ _ h)).trans (kx_set _ _ h)).trans (kx_set _ _ h')
theorem below_set4 {B : Nat} (W : World) {b b' : Nat} (u' v' z' t' : Value) (h : B ≤ b) (h' : B ≤ b') : Below B W ((((W.setCell ⟨b, 0, none⟩ u').setCell ⟨b, 1, none⟩ v').setCell ⟨b, 2, none⟩ z').setCell ⟨b', 0, none⟩ t') :=
  (((below_set _ _ h).trans (below_set _ _ h)).trans (below_set _ _ h)).trans (below_set _ _ h')
set_option maxRecDepth 100000 in
set_option maxHeartbeats 4000000 in
theorem only16 (n : Nat) (hn : 5 ≤ n) (w : World) (ad : Option Addr) (cap : Nat) (xs : List Wr) (x y : Int) (hlen : xs.length ≤ 1000000) (hs : Own0 w ad xs) :
    CallsIn Fence.wide n Try.prog 16 #[.slice ad xs.length cap, .int .i64 x, .int .i64 y] w fun e W' => e = .returned (.int .i64 (filt x y (upto (bk xs) xs.length)).length) ∧ Below w.heap.size w W' := by
  refine callsIn_of_wp_marks Try.func16 rfl trivial ?_ rfl
  simp only [Try.ntmps16, List.size_toArray, List.length_cons, List.length_nil, Nat.reduceAdd, Nat.reduceSub, Array.replicate_succ, Array.replicate_zero, List.push_toArray, List.append_toArray, List.nil_append, List.cons_append]
  gi_wp2
  refine ⟨trivial, fun _ => by omega, ?_⟩
  refine (to20 _ _ _ _ _ _ _).mono ?_
  rintro e w' ⟨rfl, rfl⟩
  have x1 := Bx.new w (.int .i64 0) 3
  have y1 := cnew (w.alloc (.cells #[.int .i64 0] 3)) (.slice ad xs.length cap) 22
  have y2 := cnew ((w.alloc (.cells #[.int .i64 0] 3)).alloc (.cells #[.slice ad xs.length cap] 22)) (.int .i64 x) 3
  have y3 := cnew (((w.alloc (.cells #[.int .i64 0] 3)).alloc (.cells #[.slice ad xs.length cap] 22)).alloc (.cells #[.int .i64 x] 3)) (.int .i64 y) 3
  have z1 := calloc (.cells #[.int .i64 y] 3) (calloc (.cells #[.int .i64 x] 3) y1)
  have z2 := calloc (.cells #[.int .i64 y] 3) y2
  have hbel : Below w.heap.size w ((((w.alloc (.cells #[.int .i64 0] 3)).alloc (.cells #[.slice ad xs.length cap] 22)).alloc (.cells #[.int .i64 x] 3)).alloc (.cells #[.int .i64 y] 3)) :=
    ((((Below.refl _ w).alloc (Nat.le_refl _) _).alloc (by simp only [World.size_alloc]; omega) _).alloc (by simp only [World.size_alloc]; omega) _).alloc (by simp only [World.size_alloc]; omega) _
  have x4 : Bx ((((w.alloc (.cells #[.int .i64 0] 3)).alloc (.cells #[.slice ad xs.length cap] 22)).alloc (.cells #[.int .i64 x] 3)).alloc (.cells #[.int .i64 y] 3)) w.heap.size (.int .i64 0) :=
    x1.below (B := w.heap.size + 1) ((((Below.refl _ _).alloc (by simp only [World.size_alloc]; omega) _).alloc (by simp only [World.size_alloc]; omega) _).alloc (by simp only [World.size_alloc]; omega) _) (by omega)
  have hsz : ((((w.alloc (.cells #[.int .i64 0] 3)).alloc (.cells #[.slice ad xs.length cap] 22)).alloc (.cells #[.int .i64 x] 3)).alloc (.cells #[.int .i64 y] 3)).heap.size = w.heap.size + 4 := by simp
  simp only [World.size_alloc] at z1 z2 y3 ⊢
  gi_wp2
  generalize (((w.alloc (.cells #[.int .i64 0] 3)).alloc (.cells #[.slice ad xs.length cap] 22)).alloc (.cells #[.int .i64 x] 3)).alloc (.cells #[.int .i64 y] 3) = w1 at *
  clear y1 y2 x1
  refine rf_law (w := w1) (ps := #[12]) (n := n) (X := fun k => k = w.heap.size) (fun k hk => by omega) (by omega) (gf := 22) (lb := #[.pointer (some ⟨w.heap.size + 1, 0, none⟩), .pointer (some ⟨w.heap.size + 1 + 1, 0, none⟩), .pointer (some ⟨w.heap.size + 1 + 2, 0, none⟩)]) rfl (enters_of Try.func22 (by kernel_rfl) rfl) (encs := encT) (fun _ => rfl)
    (fun pre => pre = filt x y (upto (bk xs) xs.length)) (fun pre => ∃ k, k ≤ xs.length ∧ pre = filt x y (upto (bk xs) k))
    (fun X' J Jx W hX' hW hz hJ hJx hY h0 => to_it (n - 1) (by omega) w w1 ad cap xs x y hlen hs (w.heap.size + 1) (by omega) hbel z1 z2 y3 (fun k => k = w.heap.size) (fun k hk => by omega) (w1.heap.size + 1) (by omega) X' J Jx W hX' hW (by omega) hJ hJx (hY.any _) h0)
    (fun pre W => Bx W w.heap.size (.int .i64 (wrap64 pre.length)) ∧ Below w.heap.size w W) (fun _ _ => False)
    (fun pre A B hs hb => ⟨hs.1.below hb (by omega), hs.2.trans (hb.mono (by omega))⟩) (fun _ _ _ h _ => h) ⟨by rw [show wrap64 (([] : List Wr).length : Int) = 0 by unfold wrap64; simp]; exact x4, hbel⟩ ?round ?done ?stop
  case round =>
    rintro l pre z W ⟨hc, hb⟩ hsz2
    rw [show encT z = #[.agg #[.int .i64 z.obj, .int .i64 z.off, .int .i64 z.v.kind, .int .i64 z.v.n, .int .i64 z.v.off]] from rfl]
    gi_wp2
    refine ⟨Below.refl _ _, fun W2 htr ⟨hc2, hb2⟩ hsz3 => ?_⟩
    obtain ⟨e1, e2⟩ := hc2
    clear htr
    gi_wp2
    refine ⟨kx_set _ _ rfl, ⟨?_, ?_⟩, hb2.trans (below_set _ _ (Nat.le_refl _))⟩
    · rw [World.cell?_setCell_same' _ _ _ (by rw [e1]; rfl), List.length_append, List.length_singleton]
      exact congrArg (fun v => some (Value.int .i64 v)) (wr_succ _)
    · rw [World.frozen?_setCell]; exact e2
  case done =>
    rintro ys W2 rfl ⟨⟨e1, e2⟩, hb2⟩ hK
    gi_wp2
    refine ⟨by simp, .inl ⟨_, _, rfl, run_takeDeferred hK, ?_⟩⟩
    have hle : (filt x y (upto (bk xs) xs.length)).length ≤ xs.length := by
      refine Nat.le_trans (List.length_filter_le _ _) ?_
      simp [upto]
    refine ⟨_, results_tmp rfl _ _ _, ?_, hb2.trans (below_put _ _ (by omega))⟩
    refine congrArg (fun v => Ending.returned (Value.int .i64 v)) ?_
    unfold wrap64
    omega
  case stop =>
    rintro ys W2 _ h
    exact h.elim
theorem upto_pre {α : Type} (f : Nat → α) {k n : Nat} (h : k ≤ n) : ∃ r, upto f n = upto f k ++ r := ⟨(List.range' k (n - k)).map f, by
  unfold upto
  rw [← List.map_append, List.range_eq_range', List.range_eq_range']
  congr 1
  have := List.range'_append (s := 0) (m := k) (n := n - k) (step := 1)
  simp only [Nat.one_mul, Nat.zero_add] at this
  rw [this, Nat.add_sub_cancel' h]⟩
theorem head_filt {x y : Int} {xs : List Wr} {k : Nat} {z : Wr} (hk : k ≤ xs.length) (he : filt x y (upto (bk xs) k) = [z]) : (filt x y (upto (bk xs) xs.length)).head? = some z := by
  obtain ⟨r, hr⟩ := upto_pre (bk xs) hk
  rw [hr]
  unfold filt at he ⊢
  rw [List.map_append, List.filter_append, he]
  rfl
theorem agV : Go.AL.aggB Try.prog 24 = some true := by kernel_rfl
theorem szV : Go.AL.sizeB Try.prog 24 = some 3 := by kernel_rfl
theorem agB : Go.AL.aggB Try.prog 4 = some false := by kernel_rfl
theorem res11 {b b' : Nat} {u v z t : Value} (tmps : Array Value) (W : World) (h6 : tmps.getD 6 undef = .pointer (some ⟨b, 0, none⟩)) (h7 : tmps.getD 7 undef = .pointer (some ⟨b', 0, none⟩)) (h : Bx3 W b u v z) (k : Bx W b' t) :
    (results Try.f11 tmps).run Try.prog W = .ok (.tuple #[.agg #[u, v, z], t]) W := by
  have hc := Go.AL.run_cells (P := Try.prog) (W := W) (b := b) (off := 0) (cs := [u, v, z]) (fun j x hx => by
    match j with
    | 0 => simp at hx; subst hx; exact h.1.1
    | 1 => simp at hx; subst hx; exact h.2.1.1
    | 2 => simp at hx; subst hx; exact h.2.2.1
    | j + 3 => simp at hx)
  have e0 : (Go.AL.rvf { tmps, defers := [] } (.cell 6 24)).run Try.prog W = .ok (.agg #[u, v, z]) W := by
    simp only [Go.AL.rvf, Sem.run_bind, Sem.run_pure, Result.andThen_ok, h6, asAddr, loadVar, Go.AL.run_isAgg agV, Go.AL.run_sizeOf' szV, if_true]
    simp only [List.length_cons, List.length_nil] at hc
    rw [hc]
    rfl
  have e1 : (Go.AL.rvf { tmps, defers := [] } (.cell 7 4)).run Try.prog W = .ok t W := by
    simp only [Go.AL.rvf, Sem.run_bind, Sem.run_pure, Result.andThen_ok, h7, asAddr, loadVar, Go.AL.run_isAgg agB, run_load, k.1, Bool.false_eq_true, if_false]
  exact Go.AL.run_results' (fn := Try.f11) (rs := [.cell 6 24, .cell 7 4]) rfl { tmps, defers := [] } W (vs := [.agg #[u, v, z], t]) (by simp only [List.mapM_cons, List.mapM_nil, Sem.run_bind, Sem.run_pure, Result.andThen_ok, e0, e1])
set_option maxRecDepth 100000 in
set_option maxHeartbeats 4000000 in
theorem read11 (n : Nat) (hn : 5 ≤ n) (w : World) (ad : Option Addr) (cap : Nat) (xs : List Wr) (x y : Int) (hlen : xs.length ≤ 1000000) (hs : Own0 w ad xs) :
    CallsIn Fence.wide n Try.prog 11 #[.slice ad xs.length cap, .int .i64 x, .int .i64 y] w fun e W' => e = .returned (.tuple #[.agg (((filt x y (upto (bk xs) xs.length)).head?.map Wr.v).getD Vl.zero).enc.toArray, .bool (filt x y (upto (bk xs) xs.length)).head?.isSome]) ∧ Below w.heap.size w W' := by
  refine callsIn_of_wp_marks Try.func11 rfl trivial ?_ rfl
  simp only [Try.ntmps11, List.size_toArray, List.length_cons, List.length_nil, Nat.reduceAdd, Nat.reduceSub, Array.replicate_succ, Array.replicate_zero, List.push_toArray, List.append_toArray, List.nil_append, List.cons_append]
  gi_wp2
  refine ⟨trivial, fun _ => by omega, ?_⟩
  refine (to20 _ _ _ _ _ _ _).mono ?_
  rintro e w' ⟨rfl, rfl⟩
  have g0 := Bx3.new w (.int .i64 0) (.int .i64 0) (.int .i64 0) 24
  have g1 := Bx.new (w.alloc (.cells #[.int .i64 0, .int .i64 0, .int .i64 0] 24)) (.bool false) 4
  have hbl : Below w.heap.size w ((w.alloc (.cells #[.int .i64 0, .int .i64 0, .int .i64 0] 24)).alloc (.cells #[.bool false] 4)) := ((Below.refl _ w).alloc (Nat.le_refl _) _).alloc (by simp only [World.size_alloc]; omega) _
  have g0 := g0.below (B := w.heap.size + 1) ((Below.refl _ _).alloc (by simp only [World.size_alloc]; omega) (.cells #[.bool false] 4)) (by omega)
  have hs0 : ((w.alloc (.cells #[.int .i64 0, .int .i64 0, .int .i64 0] 24)).alloc (.cells #[.bool false] 4)).heap.size = w.heap.size + 2 := by simp
  rw [World.size_alloc] at g1
  generalize (w.alloc (.cells #[.int .i64 0, .int .i64 0, .int .i64 0] 24)).alloc (.cells #[.bool false] 4) = w0 at *
  have y1 := cnew w0 (.slice ad xs.length cap) 22
  have y2 := cnew (w0.alloc (.cells #[.slice ad xs.length cap] 22)) (.int .i64 x) 3
  have y3 := cnew ((w0.alloc (.cells #[.slice ad xs.length cap] 22)).alloc (.cells #[.int .i64 x] 3)) (.int .i64 y) 3
  have z1 := calloc (.cells #[.int .i64 y] 3) (calloc (.cells #[.int .i64 x] 3) y1)
  have z2 := calloc (.cells #[.int .i64 y] 3) y2
  have hb0 : Below w0.heap.size w0 (((w0.alloc (.cells #[.slice ad xs.length cap] 22)).alloc (.cells #[.int .i64 x] 3)).alloc (.cells #[.int .i64 y] 3)) :=
    (((Below.refl _ w0).alloc (Nat.le_refl _) _).alloc (by simp only [World.size_alloc]; omega) _).alloc (by simp only [World.size_alloc]; omega) _
  have hsz : (((w0.alloc (.cells #[.slice ad xs.length cap] 22)).alloc (.cells #[.int .i64 x] 3)).alloc (.cells #[.int .i64 y] 3)).heap.size = w0.heap.size + 3 := by simp
  simp only [World.size_alloc] at z1 z2 y3 ⊢
  gi_wp2
  generalize ((w0.alloc (.cells #[.slice ad xs.length cap] 22)).alloc (.cells #[.int .i64 x] 3)).alloc (.cells #[.int .i64 y] 3) = w1 at *
  clear y1 y2
  have h0' := g0.below hb0 (by omega)
  have h1' := g1.below hb0 (by omega)
  have hbel := hbl.trans (hb0.mono (by omega))
  refine rf_law (w := w1) (ps := #[13]) (n := n) (X := fun k => k = w.heap.size ∨ k = w.heap.size + 1) (fun k hk => by omega) (by omega) (gf := 22) (lb := #[.pointer (some ⟨w0.heap.size, 0, none⟩), .pointer (some ⟨w0.heap.size + 1, 0, none⟩), .pointer (some ⟨w0.heap.size + 2, 0, none⟩)]) rfl (enters_of Try.func22 (by kernel_rfl) rfl) (encs := encT) (fun _ => rfl)
    (fun pre => pre = filt x y (upto (bk xs) xs.length)) (fun pre => ∃ k, k ≤ xs.length ∧ pre = filt x y (upto (bk xs) k))
    (fun X' J Jx W hX' hW hz hJ hJx hY h0 => to_it (n - 1) (by omega) w w1 ad cap xs x y hlen hs w0.heap.size (by omega) hbel z1 z2 y3 (fun k => k = w.heap.size ∨ k = w.heap.size + 1) (fun k hk => by omega) (w1.heap.size + 1) (by omega) X' J Jx W hX' hW (by omega) hJ hJx (hY.any _) h0)
    (fun pre W => pre = [] ∧ Bx3 W w.heap.size (.int .i64 0) (.int .i64 0) (.int .i64 0) ∧ Bx W (w.heap.size + 1) (.bool false) ∧ Below w.heap.size w W)
    (fun pre W => ∃ z, pre = [z] ∧ Bx3 W w.heap.size (.int .i64 z.v.kind) (.int .i64 z.v.n) (.int .i64 z.v.off) ∧ Bx W (w.heap.size + 1) (.bool true) ∧ Below w.heap.size w W)
    (fun pre A B hs hb => ⟨hs.1, hs.2.1.below hb (by omega), hs.2.2.1.below hb (by omega), hs.2.2.2.trans (hb.mono (by omega))⟩)
    (fun pre A B ⟨z, hs⟩ hb => ⟨z, hs.1, hs.2.1.below hb (by omega), hs.2.2.1.below hb (by omega), hs.2.2.2.trans (hb.mono (by omega))⟩) ⟨rfl, h0', h1', hbel⟩ ?round ?done ?stop
  case round =>
    rintro l pre z W ⟨rfl, hc, hd, hb⟩ hsz2
    rw [show encT z = #[.agg #[.int .i64 z.obj, .int .i64 z.off, .int .i64 z.v.kind, .int .i64 z.v.n, .int .i64 z.v.off]] from rfl]
    gi_wp2
    refine ⟨(Below.refl _ W).alloc (Nat.le_refl _) _, fun W2 htr ⟨_, hc2, hd2, hb2⟩ hsz3 => ?_⟩
    have d0 := htr W.heap.size 0 (.int .i64 z.obj) (by omega) (by unfold World.cell?; rw [World.alloc_heap_new]; rfl)
    have d1 := htr W.heap.size 1 (.int .i64 z.off) (by omega) (by unfold World.cell?; rw [World.alloc_heap_new]; rfl)
    have d2 := htr W.heap.size 2 (.int .i64 z.v.kind) (by omega) (by unfold World.cell?; rw [World.alloc_heap_new]; rfl)
    have d3 := htr W.heap.size 3 (.int .i64 z.v.n) (by omega) (by unfold World.cell?; rw [World.alloc_heap_new]; rfl)
    have d4 := htr W.heap.size 4 (.int .i64 z.v.off) (by omega) (by unfold World.cell?; rw [World.alloc_heap_new]; rfl)
    clear htr
    obtain ⟨⟨e1, e2⟩, ⟨e3, e4⟩, e5, e6⟩ := hc2
    obtain ⟨e7, e8⟩ := hd2
    gi_wp2
    obtain ⟨s1, s2⟩ := set4 (.int .i64 z.v.kind) (.int .i64 z.v.n) (.int .i64 z.v.off) (.bool true) (b := w.heap.size) (b' := w.heap.size + 1) ⟨⟨e1, e2⟩, ⟨e3, e4⟩, e5, e6⟩ ⟨e7, e8⟩ (by omega)
    exact ⟨kx_set4 _ _ _ _ _ (.inl rfl) (.inr rfl), z, rfl, s1, s2, hb2.trans (below_set4 _ _ _ _ _ (by omega) (by omega))⟩
  case done =>
    rintro ys W2 rfl ⟨he, hc2, hd2, hb2⟩ hK
    obtain ⟨s1, s2⟩ := set4 (.int .i64 0) (.int .i64 0) (.int .i64 0) (.bool false) (b := w.heap.size) (b' := w.heap.size + 1) hc2 hd2 (by omega)
    have hb3 := hb2.trans (below_set4 W2 (.int .i64 0) (.int .i64 0) (.int .i64 0) (.bool false) (b := w.heap.size) (b' := w.heap.size + 1) (by omega) (by omega))
    obtain ⟨⟨e1, e2⟩, ⟨e3, e4⟩, e5, e6⟩ := hc2
    obtain ⟨e7, e8⟩ := hd2
    gi_wp2
    have hK' : ((((W2.setCell ⟨w.heap.size, 0, none⟩ (.int .i64 0)).setCell ⟨w.heap.size, 1, none⟩ (.int .i64 0)).setCell ⟨w.heap.size, 2, none⟩ (.int .i64 0)).setCell ⟨w.heap.size + 1, 0, none⟩ (.bool false)).heap[w1.heap.size]? = some (.deferred (some [])) :=
      ((below_set4 W2 (.int .i64 0) (.int .i64 0) (.int .i64 0) (.bool false) (b := w.heap.size) (b' := w.heap.size + 1) (B := w.heap.size) (by omega) (by omega)).size |> fun _ => (kx_set4 (X := fun k => k = w.heap.size ∨ k = w.heap.size + 1) W2 (.int .i64 0) (.int .i64 0) (.int .i64 0) (.bool false) (.inl rfl) (.inr rfl)).same _ (Array.getElem?_eq_some_iff.1 hK).1 (by omega)).trans hK
    refine ⟨by simp, .inl ⟨_, _, rfl, run_takeDeferred hK', ?_⟩⟩
    refine ⟨_, res11 _ _ rfl rfl (s1.below (B := w.heap.size + 2) (below_put _ _ (by omega)) (by omega)) (s2.below (B := w.heap.size + 2) (below_put _ _ (by omega)) (by omega)), ?_, hb3.trans (below_put _ _ (by omega))⟩
    rw [he]
    rfl
  case stop =>
    rintro ys W2 ⟨k, hk, rfl⟩ ⟨z, he, hc2, hd2, hb2⟩ hK
    have hfin := head_filt hk he
    gi_wp2
    refine ⟨by simp, .inl ⟨_, _, rfl, run_takeDeferred hK, ?_⟩⟩
    refine ⟨_, res11 _ _ rfl rfl (hc2.below (B := w.heap.size + 2) (below_put _ _ (by omega)) (by omega)) (hd2.below (B := w.heap.size + 2) (below_put _ _ (by omega)) (by omega)), ?_, hb2.trans (below_put _ _ (by omega))⟩
    rw [hfin]
    rfl
end Go.Proofs.Ytabfnclbehkcnaa
