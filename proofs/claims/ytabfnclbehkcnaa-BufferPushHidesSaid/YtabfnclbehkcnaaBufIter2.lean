/- The iterators of layer 27: to. -/
import Derived.Test.YtabfnclbehkcnaaBufIter
set_option linter.unusedVariables false
set_option linter.unusedSimpArgs false
namespace Go.Proofs.Ytabfnclbehkcnaa
open Go.RowKit Go.Shelf Go.Buf
attribute [local go_sem] Oper.semAt_some
theorem cnew (W : World) (v : Value) (t : TypeId) : (W.alloc (.cells #[v] t)).cell? ⟨W.heap.size, 0, none⟩ = some v := by
  unfold World.cell?
  rw [World.alloc_heap_new]
  rfl
theorem calloc {W : World} {b o : Nat} {v : Value} (ob : Obj) (h : W.cell? ⟨b, o, none⟩ = some v) : (W.alloc ob).cell? ⟨b, o, none⟩ = some v := (cell_eq (Below.heap_alloc W ob b (cell_lt h))).trans h
set_option maxHeartbeats 1000000 in
theorem back23 (n : Nat) (ad : Option Addr) (len cap : Nat) (w : World) :
    CallsIn Fence.wide n Try.prog 23 #[.slice ad len cap] w fun e w' => e = .returned (.func (.func 24) #[] #[.pointer (some ⟨w.heap.size, 0, none⟩)]) ∧ w' = w.alloc (.cells #[.slice ad len cap] 22) := by
  refine callsIn_of_wp Try.func23 rfl trivial ?_ rfl
  simp only [Try.ntmps23, List.size_toArray, List.length_cons, List.length_nil, Nat.reduceAdd, Nat.reduceSub, Array.replicate_succ, Array.replicate_zero, List.push_toArray, List.append_toArray, List.nil_append, List.cons_append]
  gi_wp2
  go_ret
  exact ⟨rfl, rfl⟩
set_option maxHeartbeats 1000000 in
theorem to20 (n : Nat) (ad : Option Addr) (len cap : Nat) (x y : Int) (w : World) :
    CallsIn Fence.wide n Try.prog 20 #[.slice ad len cap, .int .i64 x, .int .i64 y] w fun e w' =>
      e = .returned (.func (.func 22) #[] #[.pointer (some ⟨w.heap.size, 0, none⟩), .pointer (some ⟨w.heap.size + 1, 0, none⟩), .pointer (some ⟨w.heap.size + 2, 0, none⟩)]) ∧
      w' = ((w.alloc (.cells #[.slice ad len cap] 22)).alloc (.cells #[.int .i64 x] 3)).alloc (.cells #[.int .i64 y] 3) := by
  refine callsIn_of_wp Try.func20 rfl trivial ?_ rfl
  simp only [Try.ntmps20, List.size_toArray, List.length_cons, List.length_nil, Nat.reduceAdd, Nat.reduceSub, Array.replicate_succ, Array.replicate_zero, List.push_toArray, List.append_toArray, List.nil_append, List.cons_append]
  gi_wp2
  go_ret
  exact ⟨by simp, rfl⟩
def encT (x : Wr) : Array Value := #[.agg x.enc.toArray]
def Sl (X : Nat → Prop) (W : World) (ad : Option Addr) (xs : List Wr) : Prop := xs = [] ∨ ∃ b off, ad = some ⟨b, off, none⟩ ∧ ¬ X b ∧ b < W.heap.size ∧ SlW W b off xs
def filt (x y : Int) (pre : List (Int × Wr)) : List Wr := (pre.map Prod.snd).filter (at_ x y)
set_option maxRecDepth 100000 in
set_option maxHeartbeats 4000000 in
theorem to22 (n : Nat) (hn : 3 ≤ n) (l B1 B2 B3 cap : Nat) (ad : Option Addr) (xs : List Wr) (x y : Int) (hlen : xs.length ≤ 1000000) (X : Nat → Prop) (h1 : ¬ X B1) (h2 : ¬ X B2) (h3 : ¬ X B3) (J Jx : List Wr → World → Prop) (W : World) (hX : ∀ k, X k → k < W.heap.size)
    (hJ : Stab W.heap.size J) (hJx : Stab W.heap.size Jx) (hY : Yk (n - 1 - 1 - 1) l X encT J Jx)
    (c1 : W.cell? ⟨B1, 0, none⟩ = some (.slice ad xs.length cap)) (c2 : W.cell? ⟨B2, 0, none⟩ = some (.int .i64 x)) (c3 : W.cell? ⟨B3, 0, none⟩ = some (.int .i64 y)) (hc : Sl X W ad xs) (h0 : J [] W) :
    CallsIn Fence.wide n Try.prog 22 #[.func (.yield l) #[] #[], .pointer (some ⟨B1, 0, none⟩), .pointer (some ⟨B2, 0, none⟩), .pointer (some ⟨B3, 0, none⟩)] W fun e W' => (∃ v, e = .returned v) ∧
      (J (filt x y (upto (bk xs) xs.length)) W' ∨ ∃ k, k ≤ xs.length ∧ Jx (filt x y (upto (bk xs) k)) W') := by
  refine callsIn_of_wp_marks Try.func22 rfl trivial ?_ rfl
  simp only [Try.ntmps22, List.size_toArray, List.length_cons, List.length_nil, Nat.reduceAdd, Nat.reduceSub, Array.replicate_succ, Array.replicate_zero, List.push_toArray, List.append_toArray, List.nil_append, List.cons_append]
  have hb4 := cnew W (.func (.yield l) #[] #[]) 47
  have c1' := calloc (.cells #[.func (.yield l) #[] #[]] 47) c1
  have c2' := calloc (.cells #[.func (.yield l) #[] #[]] 47) c2
  have c3' := calloc (.cells #[.func (.yield l) #[] #[]] 47) c3
  gi_wp2
  refine ⟨trivial, fun _ => by omega, ?_⟩
  refine (back23 _ _ _ _ _).mono ?_
  rintro e w' ⟨rfl, rfl⟩
  gi_wp2
  have hbs := cnew (W.alloc (.cells #[.func (.yield l) #[] #[]] 47)) (.slice ad xs.length cap) 22
  have hb4' := calloc (.cells #[.slice ad xs.length cap] 22) hb4
  have c2'' := calloc (.cells #[.slice ad xs.length cap] 22) c2'
  have c3'' := calloc (.cells #[.slice ad xs.length cap] 22) c3'
  have hbel : Below W.heap.size W ((W.alloc (.cells #[.func (.yield l) #[] #[]] 47)).alloc (.cells #[.slice ad xs.length cap] 22)) := ((Below.refl _ W).alloc (Nat.le_refl _) _).alloc (by simp) _
  have hsz : ((W.alloc (.cells #[.func (.yield l) #[] #[]] 47)).alloc (.cells #[.slice ad xs.length cap] 22)).heap.size = W.heap.size + 2 := by simp
  rw [World.size_alloc] at hbs
  generalize (W.alloc (.cells #[.func (.yield l) #[] #[]] 47)).alloc (.cells #[.slice ad xs.length cap] 22) = W1 at *
  have hl2 := cell_lt c2
  have hl3 := cell_lt c3
  refine rf_law (w := W1) (ps := #[9, 10]) (n := n) (X := X) (fun k hk => by have := hX k hk; omega) (by omega) (gf := 24) (lb := #[.pointer (some ⟨W.heap.size + 1, 0, none⟩)]) rfl (enters_of Try.func24 (by kernel_rfl) rfl) (encs := encB) (fun _ => rfl)
    (fun pre => pre = upto (bk xs) xs.length) (fun pre => ∃ k, k ≤ xs.length ∧ pre = upto (bk xs) k) ?it
    (fun pre W' => J (filt x y pre) W' ∧ W'.cell? ⟨B2, 0, none⟩ = some (.int .i64 x) ∧ W'.cell? ⟨B3, 0, none⟩ = some (.int .i64 y) ∧ W'.cell? ⟨W.heap.size, 0, none⟩ = some (.func (.yield l) #[] #[]))
    (fun pre W' => Jx (filt x y pre) W') ?hI ?hIx ?h0 ?round ?done ?stop
  case it =>
    intro X' J' Jx' W' hX' hb' hs' hJ' hJx' hY' h0'
    have hbX : ∀ k, k < W.heap.size → ¬ X k → ¬ X' k := fun k hk hn e => by
      rcases hX' k e with h | h
      · exact hn h
      · omega
    have hcell := (cell_eq (o := 0) (hb'.block (W.heap.size + 1) (by omega))).trans hbs
    rcases hc with rfl | ⟨b, off, rfl, hXb, hbl, hc⟩
    · refine (back0 (n - 1) (by omega) (W1.heap.size + 1) (W.heap.size + 1) cap ad J' W' hcell h0').mono ?_
      rintro e W2 ⟨hv, h⟩
      exact ⟨hv, .inl ⟨_, rfl, h⟩⟩
    · refine (back1 (n - 1) (by omega) (W1.heap.size + 1) (W.heap.size + 1) b off cap xs hlen X' (fun e => ?_) (hbX b hbl hXb) J' Jx' hY' W' hcell (fun i x hi j u hu => (cell_eq ((hb'.block b (by omega)).trans (hbel.block b hbl))).trans (hc i x hi j u hu)) h0').mono ?_
      · rcases hX' _ e with h | h
        · have := hX _ h; omega
        · omega
      · rintro e W2 ⟨hv, h | ⟨k, hk, h⟩⟩
        · exact ⟨hv, .inl ⟨_, rfl, h⟩⟩
        · exact ⟨hv, .inr ⟨_, ⟨k, hk, rfl⟩, h⟩⟩
  case hI =>
    rintro pre A B ⟨a1, a2, a3, a4⟩ hb
    exact ⟨hJ _ _ _ a1 (hb.mono (by omega)), (cell_eq (hb.block _ (by omega))).trans a2, (cell_eq (hb.block _ (by omega))).trans a3, (cell_eq (hb.block _ (by omega))).trans a4⟩
  case hIx =>
    intro pre A B h hb
    exact hJx _ _ _ h (hb.mono (by omega))
  case h0 => exact ⟨hJ _ _ _ h0 hbel, c2'', c3'', hb4'⟩
  case round =>
    rintro l2 pre ⟨i, z⟩ W0 ⟨hi, k2, k3, k4⟩ hsz2
    rw [show encB (i, z) = #[.int .i64 i, .agg #[.int .i64 z.obj, .int .i64 z.off, .int .i64 z.v.kind, .int .i64 z.v.n, .int .i64 z.v.off]] from rfl]
    gi_wp2
    refine ⟨(Below.refl _ W0).alloc (Nat.le_refl _) _, fun W2 htr ⟨j1, j2, j3, j4⟩ hsz3 => ?_⟩
    have d0 := htr W0.heap.size 0 (.int .i64 z.obj) (by omega) (by unfold World.cell?; rw [World.alloc_heap_new]; rfl)
    have d1 := htr W0.heap.size 1 (.int .i64 z.off) (by omega) (by unfold World.cell?; rw [World.alloc_heap_new]; rfl)
    have d2 := htr W0.heap.size 2 (.int .i64 z.v.kind) (by omega) (by unfold World.cell?; rw [World.alloc_heap_new]; rfl)
    have d3 := htr W0.heap.size 3 (.int .i64 z.v.n) (by omega) (by unfold World.cell?; rw [World.alloc_heap_new]; rfl)
    have d4 := htr W0.heap.size 4 (.int .i64 z.v.off) (by omega) (by unfold World.cell?; rw [World.alloc_heap_new]; rfl)
    clear htr
    by_cases e1 : z.obj = x
    · by_cases e2 : z.off = y
      · have hf : filt x y (pre ++ [(i, z)]) = filt x y pre ++ [z] := by simp [filt, at_, e1, e2]
        obtain ⟨fn, tmps, assign, body, hy, hR⟩ := hY _ z W2 j1
        rw [show encT z = #[.agg #[.int .i64 z.obj, .int .i64 z.off, .int .i64 z.v.kind, .int .i64 z.v.n, .int .i64 z.v.off]] from rfl] at hy
        rw [e1, e2] at hy
        rw [e1] at d0
        rw [e2] at d1
        gi_wp2
        refine ⟨fun _ => by omega, ?_⟩
        refine hR.mono ?_
        rintro e W3 (⟨rfl, hJ3, hk3⟩ | ⟨rfl, hJx3, hk3⟩)
        · gi_wp2
          exact ⟨hk3, by rw [hf]; exact hJ3, hk3.cell h2 j2, hk3.cell h3 j3, hk3.cell (fun e => by have := hX _ e; omega) j4⟩
        · gi_wp2
          exact ⟨hk3, by show Jx (filt x y (pre ++ [(i, z)])) W3; rw [hf]; exact hJx3⟩
      · have hf : filt x y (pre ++ [(i, z)]) = filt x y pre := by simp [filt, at_, e1, e2]
        have e2' : (z.off == y) = false := by simp [e2]
        rw [e1] at d0
        gi_wp2
        refine ⟨fun _ h => (by cases h), ?_⟩
        gi_wp2
        exact ⟨Kx.refl _ _, by rw [hf]; exact j1, j2, j3, j4⟩
    · have hf : filt x y (pre ++ [(i, z)]) = filt x y pre := by simp [filt, at_, e1]
      have e1' : (z.obj == x) = false := by simp [e1]
      gi_wp2
      refine ⟨fun _ h => (by cases h), ?_⟩
      gi_wp2
      exact ⟨Kx.refl _ _, by rw [hf]; exact j1, j2, j3, j4⟩
  case done =>
    rintro ys W2 rfl ⟨hj, _⟩ hK
    gi_wp2
    refine ⟨by simp, .inl ⟨_, _, rfl, run_takeDeferred hK, ?_⟩⟩
    exact ⟨_, results_none rfl _ _ _, ⟨_, rfl⟩, .inl (hJ _ _ _ hj (below_put _ _ (by omega)))⟩
  case stop =>
    rintro ys W2 ⟨k, hk, rfl⟩ hj hK
    gi_wp2
    refine ⟨by simp, .inl ⟨_, _, rfl, run_takeDeferred hK, ?_⟩⟩
    exact ⟨_, results_none rfl _ _ _, ⟨_, rfl⟩, .inr ⟨k, hk, hJx _ _ _ hj (below_put _ _ (by omega))⟩⟩
end Go.Proofs.Ytabfnclbehkcnaa
