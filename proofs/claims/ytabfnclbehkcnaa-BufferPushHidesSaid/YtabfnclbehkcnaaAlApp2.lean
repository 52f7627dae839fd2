/- append. -/
import Derived.Test.YtabfnclbehkcnaaAlApp
namespace Go.AL
open Go.RowKit

theorem updR_row (R : Toks) (rd : List (Nat × Pred)) (use : List (Nat × Id × Res)) (m m' : Nat) (x x' : Id × Res) (new : List Nat) (φ : Pred) :
    updR R ⟨rd, use, [(m, x)], [(m', x')], new, φ⟩ = fun k => if k = m' then some x' else if k = m then none else R k := by
  funext k
  by_cases h : k = m'
  · subst h; simp [updR]
  · have h1 : (m' == k) = false := by simpa using fun e => h e.symm
    by_cases h2 : k = m
    · subst h2; simp [updR, h1, h]
    · have h3 : (m == k) = false := by simpa using fun e => h2 e.symm
      simp [updR, h1, h, h2, h3]

section
variable {α : Type} {f : α → List Pred} {k : Nat} {e : TypeId} {σ : Sg} {R : Toks} {W : World} {id' : Id} {m' : Nat}

/-- cells laid in one block from lo on -/
def putC (b lo : Nat) (vals : List Value) : Nat → Nat → Option Value := fun b' i => if b' = b ∧ lo ≤ i then vals[i - lo]? else none
theorem zc_len (z : Array Value) (n : Nat) : (Builtin.zeroCells z n).toList.length = n * z.size := (Array.length_toList (xs := Builtin.zeroCells z n)).trans (size_zeroCells z n)

theorem addC_ne {c : Nat → Nat → Option Value} {b : Nat} (h : ∀ i, c b i = none) (i : Nat) : (addC σ c).c b i = σ.c b i := by simp [addC, h i]

theorem le_bindC {c : Nat → Nat → Option Value} {b : Option Nat} {z : Nat} (h : σ.ρ id' = none) : Le σ (bind (addC σ c) id' b z) := (le_addC σ c).trans (le_bind h)

/-- a row in a new block -/
theorem Models.rowNew (h : Models σ R W) (hid : σ.ρ id' = none) (hm' : R m' = none) {xs : List α} (hk : ∀ z, (f z).length = k) {vals rest : List Value} {cap : Nat}
    (hv : Vs σ (xs.flatMap f) vals) (hlen : (vals ++ rest).length = cap * k) (hcap : xs.length ≤ cap) (hmax : cap ≤ maxLen) :
    ∀ τ, τ = bind (addC σ (putC W.heap.size 0 vals)) id' (some W.heap.size) cap →
    Models τ (fun n => if n = m' then some (id', tail e k (xs.length * k)) else R n) (W.alloc (.cells (vals ++ rest).toArray e)) ∧ (rowP id' f k xs).h τ (.slice (some ⟨W.heap.size, 0, none⟩) xs.length cap) := by
  rintro τ rfl
  have hvl : vals.length = xs.length * k := by rw [hv.1, flatMap_len hk]
  have hold : ∀ b i, b ≠ W.heap.size → (bind (addC σ (putC W.heap.size 0 vals)) id' (some W.heap.size) cap).c b i = σ.c b i := fun b i hb => addC_ne (c := putC W.heap.size 0 vals) (fun i => by simp [putC, hb]) i
  have hnew : ∀ i, (bind (addC σ (putC W.heap.size 0 vals)) id' (some W.heap.size) cap).c W.heap.size i = vals[i]? := fun i => by
    show (addC σ (putC W.heap.size 0 vals)).c W.heap.size i = _
    rw [addC_new (no_imm_new h i)]
    simp [putC]
  refine ⟨h.move (le_bindC hid) m' id' _ (fun i hi => bind_ne _ _ _ _ _ hi) (by rw [bind_at]; simp) (.inl hm') ?_ ((Below.refl _ _).alloc h.n0 _) ?_ ?_ ?_ ?_, ?_⟩
  · intro n x _ hn e
    subst e
    exact h.used n x hn hid
  · intro n x b _ hn hb
    have hlt := h.ptr_lt (r := x.2) hn hb
    exact ⟨Below.heap_alloc W _ b hlt, fun i => hold b i (by omega)⟩
  · intro b i v hv'
    by_cases hb : b = W.heap.size
    · subst hb
      rw [hnew] at hv'
      rw [cell_of_row _ W.heap.size i _ e (0, 0) (heap_alloc_new W _)]
      simp only [List.getElem?_toArray]
      rw [List.getElem?_append_left (List.getElem?_eq_some_iff.1 hv').1]
      exact hv'
    · rw [hold b i hb] at hv'
      rw [World.cell?_alloc_lt W _ ⟨b, i, none⟩ (h.imm_lt hv')]
      exact h.imm b i v hv'
  · intro b hb
    rw [bind_at] at hb
    simp only [Option.some.injEq] at hb
    subst hb
    refine ⟨h.n0, _, heap_alloc_new W _, vals ++ rest, rfl, by rw [bind_z]; exact hlen, fun i hi => ?_⟩
    rw [hnew, List.getElem?_eq_none (by omega)]
  · intro n x b _ hn hb hxb
    rw [bind_at] at hb
    simp only [Option.some.injEq] at hb
    subst hb
    have := h.ptr_lt (r := x.2) hn hxb
    omega
  · refine .inr ⟨W.heap.size, by rw [bind_z], bind_at .., by rw [bind_z]; exact hcap, by rw [bind_z]; exact hmax, fun i x hx j p hp => ?_⟩
    have hp' := flatMap_at hk xs i x hx j p hp
    have hlt : i * k + j < vals.length := by rw [hv.1]; exact (List.getElem?_eq_some_iff.1 hp').1
    refine ⟨vals[i * k + j], ?_, (hv.2 _ p _ hp' (List.getElem?_eq_getElem hlt)).mono (le_bindC hid)⟩
    rw [hnew, List.getElem?_eq_getElem hlt]

/-- an owned row gets another name -/
theorem Models.rowSame {id : Id} {m n0 : Nat} {ob : Option Nat} (h : Models σ R W) (hid : σ.ρ id' = none) (hm : R m = some (id, tail e k n0)) (hm' : m' = m ∨ R m' = none) (hb : σ.ρ id = some ob) :
    Models (bind σ id' ob (σ.z id)) (fun n => if n = m' then some (id', tail e k n0) else if n = m then none else R n) W := by
  have h' : Models σ (fun n => if n = m then none else R n) W := h.sub fun n x hx => by
    split at hx
    · cases hx
    · exact hx
  refine h'.move (le_bind hid) m' id' _ (fun i hi => bind_ne _ _ _ _ _ hi) (by rw [bind_at]; simp) (.inl ?_) ?_ (Below.refl _ _) (fun n x b _ hn hb => ⟨rfl, fun _ => rfl⟩) (fun b i v hv => h.imm b i v hv) ?_ ?_
  · rcases hm' with rfl | hm'
    · simp
    · simp only [hm']; split <;> rfl
  · intro n x _ hn e
    subst e
    exact h'.used n x hn hid
  · intro b hb'
    rw [bind_at] at hb'
    simp only [Option.some.injEq] at hb'
    subst hb'
    obtain ⟨h1, o, ho, cs, rfl, hl, hn⟩ := h.res m id _ hm b hb
    exact ⟨h1, _, ho, cs, rfl, by rw [bind_z]; exact hl, hn⟩
  · intro n x b hnm hn hb' hxb
    rw [bind_at] at hb'
    simp only [Option.some.injEq] at hb'
    subst hb'
    by_cases hnm' : n = m
    · simp [hnm'] at hn
    · simp only [hnm', if_false] at hn
      exact h.sep n m x _ b hnm' hn hm hxb hb

/-- an owned row grows in its own block -/
theorem Models.rowIn {id : Id} {m b : Nat} {xs ys : List α} (h : Models σ R W) (hid : σ.ρ id' = none) (hm : R m = some (id, tail e k (xs.length * k))) (hm' : m' = m ∨ R m' = none) (hb : σ.ρ id = some (some b))
    (hk : ∀ z, (f z).length = k) {news : List Value} (hv : Vs σ (ys.flatMap f) news) {cs : List Value} (hcs : W.heap[b]? = some (.cells cs.toArray e (0, 0))) (hroom : xs.length + ys.length ≤ σ.z id) (hmax : σ.z id ≤ maxLen)
    (hx : ∀ (i : Nat) (x : α), xs[i]? = some x → Cs σ b (i * k) (f x)) :
    ∀ τ, τ = bind (addC σ (putC b (xs.length * k) news)) id' (some b) (σ.z id) →
    Models τ (fun n => if n = m' then some (id', tail e k ((xs ++ ys).length * k)) else if n = m then none else R n) (W.setRow b (cs.take (xs.length * k) ++ news ++ cs.drop (xs.length * k + news.length)).toArray) ∧
      (rowP id' f k (xs ++ ys)).h τ (.slice (some ⟨b, 0, none⟩) (xs.length + ys.length) (σ.z id)) := by
  intro τ hτ
  have h' : Models σ (fun n => if n = m then none else R n) W := h.sub fun n x hx => by
    split at hx
    · cases hx
    · exact hx
  obtain ⟨hge, o, ho, cs', rfl, hl, hnone⟩ := h.res m id _ hm b hb
  rw [hcs] at ho
  have hcc : cs = cs' := by
    simp only [Option.some.injEq, Obj.cells.injEq] at ho
    exact List.toArray_inj ho.1
  subst hcc
  have hnl : news.length = ys.length * k := by rw [hv.1, flatMap_len hk]
  have hsum : (xs.length + ys.length) * k = xs.length * k + news.length := by rw [Nat.add_mul, hnl]
  have hfit : xs.length * k + news.length ≤ cs.length := by rw [← hsum, hl]; exact Nat.mul_le_mul_right _ hroom
  have hold : ∀ b' i, b' ≠ b → τ.c b' i = σ.c b' i := fun b' i hb' => by
    rw [hτ]
    exact addC_ne (c := putC b (xs.length * k) news) (fun i => by simp [putC, hb']) i
  have hlow : ∀ i, i < xs.length * k → τ.c b i = σ.c b i := fun i hi => by
    rw [hτ]
    show (addC σ (putC b (xs.length * k) news)).c b i = _
    simp [addC, putC, show ¬ xs.length * k ≤ i by omega]
  have hnew : ∀ i, xs.length * k ≤ i → τ.c b i = news[i - xs.length * k]? := fun i hi => by
    rw [hτ]
    show (addC σ (putC b (xs.length * k) news)).c b i = _
    rw [addC_new (hnone i hi)]
    simp [putC, hi]
  have hle : Le σ τ := by rw [hτ]; exact le_bindC hid
  have hρ : ∀ i, i ≠ id' → τ.ρ i = σ.ρ i := fun i hi => by rw [hτ]; exact bind_ne _ _ _ _ _ hi
  have hat : τ.ρ id' = some (some b) := by rw [hτ]; exact bind_at ..
  have hz' : τ.z id' = σ.z id := by rw [hτ]; exact bind_z ..
  have hrow := setRow_heap W b cs.toArray (cs.take (xs.length * k) ++ news ++ cs.drop (xs.length * k + news.length)).toArray e (0, 0) hcs
  have hcell : ∀ i, (W.setRow b (cs.take (xs.length * k) ++ news ++ cs.drop (xs.length * k + news.length)).toArray).cell? ⟨b, i, none⟩ = (cs.take (xs.length * k) ++ news ++ cs.drop (xs.length * k + news.length))[i]? := fun i => by
    rw [cell_of_row _ b i _ e (0, 0) hrow]
    simp
  have htl : (cs.take (xs.length * k)).length = xs.length * k := by rw [List.length_take]; omega
  refine ⟨h'.move hle m' id' _ hρ (by rw [hat]; simp) (.inl ?_) ?_ ⟨rfl, rfl, rfl, by simp, fun q hq => setRow_other W b q _ (by omega)⟩ ?_ ?_ ?_ ?_, ?_⟩
  · rcases hm' with rfl | hm'
    · simp
    · simp only [hm']; split <;> rfl
  · intro n x _ hn e
    subst e
    exact h'.used n x hn hid
  · intro n x b' hnm hn hb'
    by_cases hnm' : n = m
    · simp [hnm'] at hn
    · simp only [hnm', if_false] at hn
      have hne : b' ≠ b := fun e' => by subst e'; exact h.sep n m x _ b' hnm' hn hm hb' hb
      exact ⟨setRow_other W b b' _ hne, fun i => hold b' i hne⟩
  · intro b' i v hv'
    by_cases hbb : b' = b
    · subst hbb
      rw [hcell]
      by_cases hi : i < xs.length * k
      · rw [hlow i hi] at hv'
        have := h.imm b' i v hv'
        rw [cell_of_row _ b' i _ e (0, 0) hcs] at this
        rw [List.append_assoc, List.getElem?_append_left (by omega), List.getElem?_take_of_lt hi]
        simpa using this
      · rw [hnew i (by omega)] at hv'
        have hi2 := (List.getElem?_eq_some_iff.1 hv').1
        rw [List.getElem?_append_left (by rw [List.length_append, htl]; omega), List.getElem?_append_right (by omega), htl]
        exact hv'
    · rw [hold b' i hbb] at hv'
      rw [World.cell?_of_block (w := W) (a := ⟨b', i, none⟩) (setRow_other W b b' _ hbb)]
      exact h.imm b' i v hv'
  · intro b' hb'
    rw [hat] at hb'
    simp only [Option.some.injEq] at hb'
    subst hb'
    refine ⟨hge, _, hrow, _, rfl, ?_, fun i hi => ?_⟩
    · rw [hz', ← hl]
      simp [htl]
      omega
    · rw [List.length_append] at hi
      rw [Nat.add_mul] at hi
      rw [hnew i (by omega), List.getElem?_eq_none (by omega)]
  · intro n x b' hnm hn hb' hxb
    rw [hat] at hb'
    simp only [Option.some.injEq] at hb'
    subst hb'
    by_cases hnm' : n = m
    · simp [hnm'] at hn
    · simp only [hnm', if_false] at hn
      exact h.sep n m x _ b hnm' hn hm hxb hb
  · refine .inr ⟨b, by rw [hz', List.length_append], hat, by rw [hz', List.length_append]; exact hroom, by rw [hz']; exact hmax, fun i x hxi => ?_⟩
    by_cases hi : i < xs.length
    · rw [List.getElem?_append_left hi] at hxi
      exact (hx i x hxi).mono hle
    · rw [List.getElem?_append_right (by omega)] at hxi
      intro j p hp
      have hp' := flatMap_at hk ys (i - xs.length) x hxi j p hp
      have hlt : (i - xs.length) * k + j < news.length := by rw [hv.1]; exact (List.getElem?_eq_some_iff.1 hp').1
      have hij : i * k + j = xs.length * k + ((i - xs.length) * k + j) := by
        have : i * k = xs.length * k + (i - xs.length) * k := by rw [← Nat.add_mul]; congr 1; omega
        omega
      refine ⟨news[(i - xs.length) * k + j], ?_, (hv.2 _ p _ hp' (List.getElem?_eq_getElem hlt)).mono hle⟩
      rw [hnew _ (by omega), hij, Nat.add_sub_cancel_left, List.getElem?_eq_getElem hlt]

/-- the cells of a slice, as they lie -/
theorem slP_cells (h : Models σ R W) (hk : ∀ z, (f z).length = k) {xs : List α} {b off : Nat} (hc : ∀ (i : Nat) (x : α), xs[i]? = some x → Cs σ b (off + i * k) (f x)) :
    ∃ vals : List Value, Vs σ (xs.flatMap f) vals ∧ ∀ (j : Nat) (v : Value), vals[j]? = some v → W.cell? ⟨b, off + j, none⟩ = some v := by
  have : Cs σ b off (xs.flatMap f) := by
    intro j p hp
    have hj : j < xs.length * k := by have := (List.getElem?_eq_some_iff.1 hp).1; rwa [flatMap_len hk] at this
    have hk0 : 0 < k := by
      rcases Nat.eq_zero_or_pos k with h0 | h0
      · subst h0; simp at hj
      · exact h0
    have hd : j / k < xs.length := by rw [Nat.div_lt_iff_lt_mul hk0]; exact hj
    have hx : xs[j / k]? = some xs[j / k] := List.getElem?_eq_getElem hd
    have hj2 : j % k < (f xs[j / k]).length := by rw [hk]; exact Nat.mod_lt _ hk0
    have hp2 := flatMap_at hk xs (j / k) _ hx (j % k) _ (List.getElem?_eq_getElem hj2)
    have hjj : j / k * k + j % k = j := by rw [Nat.mul_comm]; exact Nat.div_add_mod j k
    rw [hjj, hp] at hp2
    obtain ⟨u, hu, hcu⟩ := hc (j / k) _ hx (j % k) _ (List.getElem?_eq_getElem hj2)
    refine ⟨u, ?_, ?_⟩
    · rw [← hu]; congr 1; omega
    · simp only [Option.some.injEq] at hp2
      rw [hp2]
      exact hcu
  obtain ⟨vals, hv, hcell⟩ := this.read h
  exact ⟨vals, hv, hcell⟩
end

section
variable {P : Program} {n N : Nat} {F : Fr} {R : Toks} {d : Option Nat} {T : TypeId} {pos : String} {after : Array Edge} {α : Type} {f : α → List Pred} {k bytes : Nat} {xs ys : List α} {t e : TypeId}

theorem run_append_zero {i : TypeInfo} (ht : P.underlying t = some (.slice e)) (hi : P.info? e = some i) (a b : Option Addr) (n c c' : Nat) (hnc : n ≤ c) (ty : TypeId) (W : World) :
    (Builtin.append_ #[t, t] ty #[.slice a n c, .slice b 0 c']).run P W = .ok (.slice a n c) W := by
  have hfc : (Builtin.firstCells i.size 0 (.slice b 0 c')).run P W = .ok #[] W := by
    cases b with
    | none => rfl
    | some b => simp [Builtin.firstCells, loadCells, loadCellsFrom]
  cases a <;> simp [Builtin.append_, run_underlying ht, sizeOf, typeInfo, hi, Builtin.lenOf, hnc, hfc, storeCells]

/-- **append to a row of the call's own** -/
theorem op_append {x y : Operand} {id : Id} {m m' kk : Nat} {z : Value} (hx : opd F x = some (rowP id f k xs)) (hy : opd F y = some (slP f k ys)) (hR : R m = some (id, tail e k (xs.length * k))) (hm' : m' = m ∨ R m' = none)
    (ht : elemB P t = some e) (hz : zeroB P e = some (some z)) (hs : sizeB P e = some k) (hby : bytesB P e = some bytes) (hzs : z.cells.size = k) (hk : ∀ z, (f z).length = k)
    (h63 : xs.length + ys.length ≤ 1152921504606846976) (hbytes : (xs.length + ys.length) * bytes ≤ 140737488355328) :
    OpJ P n N F R ⟨d, .call { callee := .builtin .append, args := #[x, y], argTypes := #[t, t] }, T, pos, after, none⟩
      ⟨rdo x (rowP id f k xs) ++ rdo y (slP f k ys), [], [(m, (id, tail e k (xs.length * k)))], [(m', ((N, kk), tail e k ((xs ++ ys).length * k)))], [kk], rowP (N, kk) f k (xs ++ ys)⟩ where
  loc := by
    intro σ W R a K hm h2 h3 h4 h5 h6 h7 h8 h9 Q
    have hid := h8 kk (by simp)
    have hRm := h6 _ (List.mem_cons_self ..)
    have hRm' : m' = m ∨ R m' = none := by
      rcases h7 (m', ((N, kk), tail e k ((xs ++ ys).length * k))) (by simp) with h | h
      · exact .inr h
      · left; simp at h; exact h.symm
    have hxv := holds_of hx fun w hw => h4 w (List.mem_append_left _ hw)
    obtain ⟨ad, cap, hyv, hy1, hy2, hy3⟩ := holds_of hy fun w hw => h4 w (List.mem_append_right _ hw)
    have ht' := elem_of ht
    obtain ⟨i, hi, hiz, his, hib⟩ : ∃ i, P.info? e = some i ∧ i.zero = some z ∧ i.size = k ∧ i.bytes = bytes := by
      unfold zeroB at hz; unfold sizeB at hs; unfold bytesB at hby
      cases hi : P.info? e with
      | none => rw [hi] at hz; cases hz
      | some i => rw [hi] at hz hs hby; simp at hz hs hby; exact ⟨i, rfl, hz, hs, hby⟩
    have hexec : ∀ {v v' : Value} {W' : World}, a.eval x = v → (Builtin.append_ #[t, t] T #[v, .slice ad ys.length cap]).run P W = .ok v' W' →
        (execOp a.eval ⟨d, .call { callee := .builtin .append, args := #[x, y], argTypes := #[t, t] }, T, pos, after, none⟩).run P W = .ok (.value v') W' := by
      intro v v' W' hv hr
      simp only [execOp, resolve, invoke, builtin, Sem.run_bind, Sem.run_pure, Result.andThen_ok, List.map_toArray, List.map_cons, List.map_nil, hv, hyv, hr]
    obtain ⟨ob, hob⟩ : ∃ ob, σ.ρ id = some ob := Option.ne_none_iff_exists'.1 (hm.used m _ hRm)
    by_cases hy0 : ys.length = 0
    · -- nothing comes
      have hys : ys = [] := List.eq_nil_of_length_eq_zero hy0
      subst hys
      have hmod := hm.rowSame hid hRm hRm' hob
      obtain ⟨a0, n0, c0, hv, hc⟩ : ∃ (a0 : Option Addr) (n0 c0 : Nat), a.eval x = .slice a0 n0 c0 ∧ n0 ≤ c0 := by
        rcases hxv with ⟨h, _⟩ | ⟨b, h, _, h', _⟩
        · exact ⟨_, _, _, h, Nat.le_refl _⟩
        · exact ⟨_, _, _, h, h'⟩
      refine wp_value (hexec hv (by rw [hy0]; exact run_append_zero ht' hi a0 ad n0 c0 cap hc T W)) (h9 _ W _ (le_bind hid) keep_bind (hmod.congr ?_) ?_)
      · rw [updR_row, List.append_nil]
      · rw [List.append_nil]
        rcases hxv with ⟨h, hxe⟩ | ⟨b, h, hb, hc1, hc2, hcs⟩
        · exact .inl ⟨hv.symm.trans h, hxe⟩
        · rw [hb] at hob
          cases hob
          refine .inr ⟨b, by rw [bind_z]; exact hv.symm.trans h, bind_at .., by rw [bind_z]; exact hc1, by rw [bind_z]; exact hc2, fun i x hxi => (hcs i x hxi).mono (le_bind hid)⟩
    · obtain ⟨yb, yo, rfl, hyc⟩ := hy3 (by omega)
      obtain ⟨news, hnv, hncell⟩ := slP_cells hm hk hyc
      have hnl : news.length = ys.length * k := by rw [hnv.1, flatMap_len hk]
      have hnews : ∀ (j : Nat) (v : Value), news[j]? = some v → W.cell? ((⟨yb, yo, none⟩ : Addr).add j) = some v := fun j v hv => by rw [addr_add]; exact hncell j v hv
      have hmdrop : Models σ (fun q => if q = m then none else R q) W := hm.sub fun q y hq => by
        split at hq
        · cases hq
        · exact hq
      have hfree : (fun q => if q = m then none else R q) m' = none := by
        rcases hRm' with rfl | h
        · simp
        · simp only [h]; split <;> rfl
      have hgrown : ∀ (need old : Nat), need = xs.length + ys.length → need ≤ grownCap W need old e ∧ grownCap W need old e ≤ maxLen := fun need old hn =>
        ⟨grownCap_ge W need old e, grownCap_le_maxLen W need old e (by unfold maxLen; omega)⟩
      rcases hxv with ⟨hv, hxe⟩ | ⟨b, hv, hb, hc1, hc2, hcs⟩
      · -- nil
        subst hxe
        have hr := run_append_nil (P := P) W t T e i z ht' hi hiz ⟨yb, yo, none⟩ ys.length cap news (by rw [his]; exact hnl) hnews (by omega) (by simp at h63; omega) (by rw [hib]; simp at hbytes; omega)
        obtain ⟨g1, g2⟩ := hgrown ys.length 0 (by simp)
        obtain ⟨hmod, hrow⟩ := hmdrop.drew.rowNew (e := e) (xs := ys) (rest := (Builtin.zeroCells z.cells (grownCap W ys.length 0 e - ys.length)).toList) hid hfree hk hnv (cap := grownCap W ys.length 0 e)
          (by rw [List.length_append, hnl, zc_len, hzs, ← Nat.add_mul]; congr 1; omega) g1 g2 _ rfl
        refine wp_value (hexec hv hr) ?_
        have hW : W.drew.alloc (.cells (news.toArray ++ Builtin.zeroCells z.cells (grownCap W ys.length 0 e - ys.length)) e) = W.drew.alloc (.cells (news ++ (Builtin.zeroCells z.cells (grownCap W ys.length 0 e - ys.length)).toList).toArray e) := by
          congr 2
          apply Array.ext'
          simp
        rw [hW]
        refine h9 _ _ _ (le_bindC hid) (fun q _ hq => bind_ne _ _ _ _ _ (hq kk (by simp))) (hmod.congr ?_) hrow
        rw [updR_row]
        simp
      · by_cases hroom : xs.length + ys.length ≤ σ.z id
        · -- in its own block
          obtain ⟨_, o, ho, cs, rfl, hl, _⟩ := hm.res m id _ hRm b hb
          have hr := run_append_room (P := P) W t T e i ht' hi b xs.length (σ.z id) cs.toArray ho ⟨yb, yo, none⟩ ys.length cap news (by rw [his]; exact hnl) hnews hnv.ones hroom
            (by rw [his, hnl, List.size_toArray, hl, ← Nat.add_mul]; exact Nat.mul_le_mul_right _ hroom)
          rw [his] at hr
          obtain ⟨hmod, hrow⟩ := hm.rowIn hid hRm hRm' hb hk hnv ho hroom hc2 hcs _ rfl
          refine wp_value (hexec hv hr) (h9 _ _ _ (le_bindC hid) (fun q _ hq => bind_ne _ _ _ _ _ (hq kk (by simp))) (hmod.congr ?_) hrow)
          rw [updR_row]
        · -- a new one
          obtain ⟨olds, hov, hocell⟩ := slP_cells (off := 0) hm hk (by simpa using hcs)
          have hol : olds.length = xs.length * k := by rw [hov.1, flatMap_len hk]
          have hr := run_append_grow (P := P) W t T e i z ht' hi hiz ⟨b, 0, none⟩ xs.length (σ.z id) olds (by rw [his]; exact hol) (fun j v hjv => by rw [addr_add]; exact hocell j v hjv) ⟨yb, yo, none⟩ ys.length cap news (by rw [his]; exact hnl) hnews
            (by omega) (by omega) (by rw [hib]; exact growslice_fits (by omega) hbytes)
          obtain ⟨g1, g2⟩ := hgrown (xs.length + ys.length) (σ.z id) rfl
          have hall : Vs σ ((xs ++ ys).flatMap f) (olds ++ news) := by rw [List.flatMap_append]; exact hov.append hnv
          obtain ⟨hmod, hrow⟩ := hmdrop.drew.rowNew (e := e) (xs := xs ++ ys) (rest := (Builtin.zeroCells z.cells (grownCap W (xs.length + ys.length) (σ.z id) e - (xs.length + ys.length))).toList) hid hfree hk hall (cap := grownCap W (xs.length + ys.length) (σ.z id) e)
            (by rw [List.length_append, List.length_append, hol, hnl, zc_len, hzs, ← Nat.add_mul, ← Nat.add_mul]; congr 1; omega) (by rw [List.length_append]; exact g1) g2 _ rfl
          refine wp_value (hexec hv hr) ?_
          have hW : W.drew.alloc (.cells (olds.toArray ++ news.toArray ++ Builtin.zeroCells z.cells (grownCap W (xs.length + ys.length) (σ.z id) e - (xs.length + ys.length))) e) =
              W.drew.alloc (.cells (olds ++ news ++ (Builtin.zeroCells z.cells (grownCap W (xs.length + ys.length) (σ.z id) e - (xs.length + ys.length))).toList).toArray e) := by
            congr 2
            apply Array.ext'
            simp
          rw [hW]
          rw [List.length_append] at hrow
          refine h9 _ _ _ (le_bindC hid) (fun q _ hq => bind_ne _ _ _ _ _ (hq kk (by simp))) (hmod.congr ?_) hrow
          rw [updR_row]
  rd := rd_app (rd_of hx) (rd_of hy)
  use := by simp
  del := by simpa using hR
  add := by
    intro y hy
    simp at hy
    subst hy
    rcases hm' with rfl | h
    · right; simp
    · left; exact h
end
end Go.AL
