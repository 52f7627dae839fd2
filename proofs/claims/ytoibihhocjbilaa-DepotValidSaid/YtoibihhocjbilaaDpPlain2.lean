/- What pushing, putting and merging keep. -/
import Derived.Test.YtoibihhocjbilaaDpPlain
namespace Go.Dp
open Go.AL
theorem okFrom_append : ∀ (l seen : List E) (e : E), okFrom seen (l ++ [e]) = (okFrom seen l && goodE (seen ++ l) e)
  | [], seen, e => by simp [okFrom]
  | x :: l, seen, e => by
    rw [List.cons_append]
    simp only [okFrom]
    rw [okFrom_append l (seen ++ [x]) e, Bool.and_assoc]
    simp
theorem valid_add {l : List E} {e : E} (h : validE l = true) (hg : goodE l e = true) : validE (l ++ [e]) = true := by
  unfold validE
  rw [okFrom_append]
  simp only [List.nil_append, Bool.and_eq_true]
  exact ⟨h, hg⟩
theorem idx_append {l t : List E} {e : E} {i : Nat} (h : idxE l e = some i) : idxE (l ++ t) e = some i := by
  unfold idxE at h ⊢
  rw [List.findIdx?_append, h]
  rfl
theorem idx_spec {l : List E} {e : E} {i : Nat} (h : idxE l e = some i) : l[i]? = some e := by
  unfold idxE at h
  obtain ⟨hi, hp, _⟩ := List.findIdx?_eq_some_iff_getElem.1 h
  rw [List.getElem?_eq_getElem hi]
  simp at hp
  rw [hp]
theorem idx_new {l : List E} {e : E} (h : idxE l e = none) : idxE (l ++ [e]) e = some l.length := by
  unfold idxE at h ⊢
  rw [List.findIdx?_append, h]
  simp
/-- what a push does -/
structure Pushed (l l' : List E) (e : E) (i : Nat) : Prop where
  ext : ∃ t, l' = l ++ t
  idx : idxE l' e = some i
  valid : validE l = true → (-1 ≤ e.1 ∧ e.1 < (l.length : Int)) → proper e.2 = true → validE l' = true
theorem pushed (l : List E) (e : E) : Pushed l (pushE l e).1 e (pushE l e).2 := by
  cases h : idxE l e with
  | some i =>
    rw [pushE_some h]
    exact ⟨⟨[], by simp⟩, h, fun hv _ _ => hv⟩
  | none =>
    rw [pushE_none h]
    refine ⟨⟨[e], rfl⟩, idx_new h, fun hv hp hs => valid_add hv ?_⟩
    simp [goodE, h, hs]
    omega
theorem Pushed.at_ {l l' : List E} {e : E} {i : Nat} (h : Pushed l l' e i) : l'[i]? = some e := idx_spec h.idx
theorem Pushed.lt {l l' : List E} {e : E} {i : Nat} (h : Pushed l l' e i) : i < l'.length := (List.getElem?_eq_some_iff.1 h.at_).1
theorem Pushed.len {l l' : List E} {e : E} {i : Nat} (h : Pushed l l' e i) : l.length ≤ l'.length := by
  obtain ⟨t, ht⟩ := h.ext
  rw [ht]
  simp
theorem push_again {l : List E} {e : E} {i : Nat} (h : idxE l e = some i) (t : List E) : pushE (l ++ t) e = (l ++ t, i) := pushE_some (idx_append h)
/-- a stack in a depot that grows -/
theorem climb_ext {l t : List E} (hv : validE l = true) : ∀ (f : Nat) (n : Int), n < (l.length : Int) → climb (l ++ t) f n = climb l f n
  | 0, _, _ => rfl
  | f + 1, n, hn => by
    by_cases h0 : n < 0
    · rw [climb_neg h0, climb_neg h0]
    · have hk : n.toNat < l.length := by omega
      have hva := valid_at hv hk
      simp only [climb, if_neg h0, List.getElem?_append_left hk, List.getElem?_eq_getElem hk]
      rw [climb_ext hv f _ (by omega)]
theorem climb_at {l : List E} (hv : validE l = true) {i : Nat} {e : E} (h : l[i]? = some e) : climb l ((i : Int) + 1).toNat (i : Int) = e.2 :: climb l (e.1 + 1).toNat e.1 := by
  obtain ⟨hi, he⟩ := List.getElem?_eq_some_iff.1 h
  have := climb_step hv (m := (i : Int)) (by omega) (by simpa using hi)
  simp only [Int.toNat_natCast] at this
  rw [this, he]

/-! ### put -/
structure PutOK (l : List E) (n : Int) (ss : List Site) (l' : List E) (n' : Int) : Prop where
  ext : ∃ t, l' = l ++ t
  valid : validE l' = true
  lo : -1 ≤ n'
  hi : n' < (l'.length : Int)
  pos : ss ≠ [] → 0 ≤ n'
  stack : climb l' (n' + 1).toNat n' = ss.reverse ++ climb l (n + 1).toNat n
theorem putE_ok : ∀ (ss : List Site) (l : List E) (n : Int), validE l = true → -1 ≤ n → n < (l.length : Int) → (∀ s ∈ ss, proper s = true) → PutOK l n ss (putE l n ss).1 (putE l n ss).2
  | [], l, n, hv, h1, h2, _ => ⟨⟨[], by simp [putE]⟩, hv, h1, h2, fun h => absurd rfl h, by simp [putE]⟩
  | s :: ss, l, n, hv, h1, h2, hp => by
    have hpu := pushed l (n, s)
    have hv1 := hpu.valid hv ⟨h1, h2⟩ (hp s (List.mem_cons_self ..))
    have ih := putE_ok ss (pushE l (n, s)).1 ((pushE l (n, s)).2 : Int) hv1 (by omega) (by have := hpu.lt; omega) fun x hx => hp x (List.mem_cons_of_mem _ hx)
    obtain ⟨t1, ht1⟩ := hpu.ext
    obtain ⟨t2, ht2⟩ := ih.ext
    simp only [putE]
    refine ⟨⟨t1 ++ t2, by rw [ht2, ht1, List.append_assoc]⟩, ih.valid, ih.lo, ih.hi, fun _ => ?_, ?_⟩
    · cases ss with
      | nil => simp [putE]
      | cons x ss => exact ih.pos (by simp)
    · rw [ih.stack, climb_at hv1 hpu.at_]
      simp only [List.reverse_cons, List.append_assoc, List.singleton_append]
      rw [ht1, climb_ext hv _ _ h2]
theorem putE_again : ∀ (ss : List Site) (l : List E) (n : Int) (t : List E), putE ((putE l n ss).1 ++ t) n ss = ((putE l n ss).1 ++ t, (putE l n ss).2)
  | [], l, n, t => rfl
  | s :: ss, l, n, t => by
    have hpu := pushed l (n, s)
    have hext : ∃ t', (putE (pushE l (n, s)).1 ((pushE l (n, s)).2 : Int) ss).1 = (pushE l (n, s)).1 ++ t' := by
      have : ∀ (ss : List Site) (l : List E) (n : Int), ∃ t', (putE l n ss).1 = l ++ t' := by
        intro ss
        induction ss with
        | nil => intro l n; exact ⟨[], by simp [putE]⟩
        | cons s ss ih =>
          intro l n
          obtain ⟨t1, h1⟩ := ih (pushE l (n, s)).1 ((pushE l (n, s)).2 : Int)
          obtain ⟨t0, h0⟩ := (pushed l (n, s)).ext
          exact ⟨t0 ++ t1, by simp only [putE]; rw [h1, h0, List.append_assoc]⟩
      exact this _ _ _
    obtain ⟨t', ht'⟩ := hext
    simp only [putE]
    have ih := putE_again ss (pushE l (n, s)).1 ((pushE l (n, s)).2 : Int) t
    have e1 : pushE ((putE (pushE l (n, s)).1 ((pushE l (n, s)).2 : Int) ss).1 ++ t) (n, s) = ((putE (pushE l (n, s)).1 ((pushE l (n, s)).2 : Int) ss).1 ++ t, (pushE l (n, s)).2) := by
      rw [ht', List.append_assoc]
      exact push_again hpu.idx _
    rw [e1]
    exact ih
end Go.Dp
namespace Go.Dp
theorem putF_len (d : Dep) (ss : List Site) : (putF d ss).1.sites.length ≤ d.es.length + ss.length ∧ (putF d ss).1.parents.length ≤ d.es.length + ss.length := by
  unfold putF
  split
  · have := putE_len ss d.es (-1)
    simp [ofE]
    omega
  · simp [Dep.zero]
theorem es_len_le (d : Dep) : d.es.length ≤ d.sites.length := by simp [Dep.es]; omega
theorem putF_len' {d : Dep} {ss : List Site} {n : Nat} (h : d.sites.length + ss.length ≤ n) : (putF d ss).1.sites.length ≤ n ∧ (putF d ss).1.parents.length ≤ n := by
  have h1 := putF_len d ss
  have h2 := es_len_le d
  omega
theorem pushF_len' {d : Dep} {p : Int} {s : Site} {n : Nat} (h : d.sites.length + 1 ≤ n) : (pushF d p s).1.sites.length ≤ n ∧ (pushF d p s).1.parents.length ≤ n := by
  unfold pushF
  split
  · have h1 := pushE_len d.es (p, s)
    have h2 := es_len_le d
    simp [ofE]
    omega
  · simp [Dep.zero]
theorem mergeE_len : ∀ (es l : List E) (to : List Int), (mergeE l to es).1.length ≤ l.length + es.length ∧ (mergeE l to es).2.length = to.length + es.length
  | [], l, to => by simp [mergeE]
  | e :: es, l, to => by
    have h1 := mergeE_len es (pushE l ((if e.1 ≥ 0 then to[e.1.toNat]?.getD 0 else e.1), e.2)).1 (to ++ [((pushE l ((if e.1 ≥ 0 then to[e.1.toNat]?.getD 0 else e.1), e.2)).2 : Int)])
    have h2 := pushE_len l ((if e.1 ≥ 0 then to[e.1.toNat]?.getD 0 else e.1), e.2)
    simp only [mergeE]
    simp only [List.length_append, List.length_cons, List.length_nil] at h1 ⊢
    omega
theorem mergeF_len' {a b : Dep} {n : Nat} (h : a.sites.length + b.sites.length ≤ n) : (mergeF a b).1.sites.length ≤ n ∧ (mergeF a b).1.parents.length ≤ n ∧ (mergeF a b).2.length ≤ n := by
  unfold mergeF
  split
  · have h1 := mergeE_len b.es a.es []
    have h2 := es_len_le a
    have h3 := es_len_le b
    simp [ofE] at h1 ⊢
    omega
  · simp [Dep.zero]
theorem climb_len (l : List E) : ∀ (f : Nat) (n : Int), (climb l f n).length ≤ f
  | 0, _ => by simp [climb]
  | f + 1, n => by
    simp only [climb]
    split
    · simp
    · split
      · have := climb_len l f; simp; exact this _
      · simp
theorem stackF_len (d : Dep) (n : Int) : (stackF d n).1.length ≤ d.sites.length := by
  unfold stackF
  split
  · rename_i h
    have := climb_len d.es (n + 1).toNat n
    simp
    omega
  · simp
theorem valid_ofE (l : List E) : validF (ofE l) = validE l := by
  unfold validF
  rw [es_ofE]
  simp [ofE]
end Go.Dp
