/- Read and Only of layer 27 as contracts. -/
import Derived.Test.YtabfnclbehkcnaaBufIter3
import Derived.Test.YtabfnclbehkcnaaAlGrow
set_option linter.unusedVariables false
namespace Go.AL
open Go.RowKit
theorem Models.below {σ : Sg} {R : Toks} {W W' : World} (h : Models σ R W) (hb : Below W.heap.size W W') : Models σ R W' where
  base := h.base.trans (hb.mono h.n0)
  n0 := Nat.le_trans h.n0 hb.size
  imm := fun b i v hv => by
    have hc := h.imm b i v hv
    obtain ⟨o, ho, _⟩ := cells_of_cell hc
    have hlt : b < W.heap.size := (Array.getElem?_eq_some_iff.1 ho).1
    unfold World.cell? at hc ⊢
    rw [hb.block b hlt]
    exact hc
  res := fun n id r hr b hbb => by
    obtain ⟨h1, o, ho, h2⟩ := h.res n id r hr b hbb
    exact ⟨h1, o, (hb.block b (Array.getElem?_eq_some_iff.1 ho).1).trans ho, h2⟩
  sep := h.sep
  used := h.used
  fin := h.fin
theorem fnP_below {P : Program} {f : FuncId} {pre : List Pred} {post : Pred} (h : ∀ (σ : Sg) (R : Toks) (W : World) (args : Array Value), Models σ R W → args.size = pre.length → (∀ (i : Nat) (p : Pred), pre[i]? = some p → p.h σ (args.getD i undef)) →
    Calls P f args W fun e W' => ∃ v, e = .returned v ∧ Below W.heap.size W W' ∧ post.h σ v) : FnP P f pre post := by
  intro σ W R args ι M hm hR _ _ _ hs ha
  refine (h σ R W args hm hs ha).mono ?_
  rintro e W' ⟨v, rfl, hb, hp⟩
  refine ⟨v, σ, rfl, Le.refl σ, fun _ _ _ => rfl, ?_, hp⟩
  have := hm.below hb
  refine this.congr ?_
  funext n
  by_cases hn : n < 1000000
  · simp only [hn, if_true]
    rw [hR n hn]
  · simp [hn]
end Go.AL
namespace Go.Proofs.Ytabfnclbehkcnaa
open Go.RowKit Go.Buf Go.AL
theorem upto_rev (xs : List Wr) : (upto (bk xs) xs.length).map Prod.snd = xs.reverse := by
  refine List.ext_getElem (by simp [upto]) fun i h1 h2 => ?_
  have : i < xs.length := by simpa using h2
  simp [upto, bk, this]
theorem filt_all (x y : Int) (xs : List Wr) : filt x y (upto (bk xs) xs.length) = xs.reverse.filter (at_ x y) := by unfold filt; rw [upto_rev]
theorem filt_head (x y : Int) (xs : List Wr) : ((filt x y (upto (bk xs) xs.length)).head?.map Wr.v) = readF xs x y := by rw [filt_all, List.head?_filter]; rfl
theorem filt_len (x y : Int) (xs : List Wr) : (filt x y (upto (bk xs) xs.length)).length = onlyF xs x y := by
  rw [filt_all, ← List.countP_eq_length_filter, List.countP_reverse]
  rfl
theorem own_of {σ : Sg} {R : Toks} {W : World} {v : Value} {xs : List Wr} (hm : Models σ R W) (h : (slP wps 5 xs).h σ v) : ∃ ad cap, v = .slice ad xs.length cap ∧ Own0 W ad xs := by
  obtain ⟨ad, cap, hv, h1, h2, h3⟩ := h
  refine ⟨ad, cap, hv, ?_⟩
  cases xs with
  | nil => exact .inl rfl
  | cons z l =>
    obtain ⟨b, off, rfl, hc⟩ := h3 (by simp)
    have key : SlW W b off (z :: l) := fun i x hx j u hu => by
      obtain ⟨w, hw1, hw2⟩ := hc i x hx j (eqP u) (by unfold wps vsP; rw [List.getElem?_map, hu]; rfl)
      have : w = u := hw2.1
      subst this
      exact hm.imm _ _ _ hw1
    exact .inr ⟨b, off, rfl, cell_lt (key 0 z rfl 0 _ rfl), key⟩
theorem arg3 {α : Type} {args : Array Value} {p q r : Pred} {σ : Sg} (hs : args.size = [p, q, r].length) (ha : ∀ (i : Nat) (x : Pred), [p, q, r][i]? = some x → x.h σ (args.getD i undef)) : ∃ a b c, args = #[a, b, c] ∧ p.h σ a ∧ q.h σ b ∧ r.h σ c := by
  obtain ⟨l⟩ := args
  match l, hs with
  | [a, b, c], _ => exact ⟨a, b, c, rfl, ha 0 p rfl, ha 1 q rfl, ha 2 r rfl⟩
theorem Read_ok (xs : List Wr) (x y : Int) (hx : xs.length ≤ 1000000) : FnP Try.prog 11 [slP wps 5 xs, eqP (.int .i64 x), eqP (.int .i64 y)] (readP xs x y) := by
  refine fnP_below fun σ R W args hm hs ha => ?_
  obtain ⟨a, b, c, rfl, h1, h2, h3⟩ := arg3 (α := Unit) hs ha
  obtain ⟨ad, cap, rfl, ho⟩ := own_of hm h1
  obtain rfl : b = _ := h2
  obtain rfl : c = _ := h3
  refine callsIn_wide.1 ((read11 9 (by decide) W ad cap xs x y hx ho).mono ?_)
  rintro e W' ⟨rfl, hb⟩
  refine ⟨_, rfl, hb, ?_⟩
  have hh : (filt x y (upto (bk xs) xs.length)).head?.isSome = (readF xs x y).isSome := by rw [← filt_head]; cases (filt x y (upto (bk xs) xs.length)).head? <;> rfl
  rw [filt_head, hh]
  refine ⟨[_, _], rfl, rfl, fun j p u hp hu => ?_⟩
  match j with
  | 0 => simp at hp hu; subst hp; subst hu; exact ⟨_, rfl, Vs.eqs rfl⟩
  | 1 => simp at hp hu; subst hp; subst hu; exact rfl
  | j + 2 => simp at hp
theorem Only_ok (xs : List Wr) (x y : Int) (hx : xs.length ≤ 1000000) : FnP Try.prog 16 [slP wps 5 xs, eqP (.int .i64 x), eqP (.int .i64 y)] (eqP (.int .i64 (onlyF xs x y))) := by
  refine fnP_below fun σ R W args hm hs ha => ?_
  obtain ⟨a, b, c, rfl, h1, h2, h3⟩ := arg3 (α := Unit) hs ha
  obtain ⟨ad, cap, rfl, ho⟩ := own_of hm h1
  obtain rfl : b = _ := h2
  obtain rfl : c = _ := h3
  refine callsIn_wide.1 ((only16 9 (by decide) W ad cap xs x y hx ho).mono ?_)
  rintro e W' ⟨rfl, hb⟩
  refine ⟨_, rfl, hb, ?_⟩
  rw [filt_len]
  rfl
end Go.Proofs.Ytabfnclbehkcnaa
