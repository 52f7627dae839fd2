/- The laws of layer 21 in plain words. -/
import Derived.Test.YtoibihhocjbilaaDpPlain2
namespace Go.Dp
open Go.AL
theorem stackF_ofE {l : List E} (hv : validE l = true) (n : Int) : stackF (ofE l) n = if 0 ≤ n ∧ n < (l.length : Int) then ((climb l (n + 1).toNat n).reverse, true) else ([], false) := by
  unfold stackF
  rw [valid_ofE, es_ofE, lenS]
  simp [hv]
theorem stack_ext {l t : List E} (hv : validE l = true) (hv' : validE (l ++ t) = true) (n : Int) (h : (stackF (ofE l) n).2 = true) : stackF (ofE (l ++ t)) n = stackF (ofE l) n := by
  rw [stackF_ofE hv] at h ⊢
  rw [stackF_ofE hv']
  by_cases hn : 0 ≤ n ∧ n < (l.length : Int)
  · rw [if_pos hn, if_pos ⟨hn.1, by rw [List.length_append]; omega⟩, climb_ext hv _ _ hn.2]
  · rw [if_neg hn] at h
    cases h
theorem finds_neg {d : Dep} {ss : List Site} (h : (putF d ss).2 < 0) : (putF d ss).2 = -1 ∧ (ss.length = 0 ∨ (putF d ss).1.sites.length = 0) := by
  unfold putF at h ⊢
  split
  · rename_i hc
    rw [if_pos hc] at h
    simp only at h ⊢
    cases ss with
    | nil => simp [putE]
    | cons s ss =>
      obtain ⟨hl, hv⟩ := (show d.sites.length = d.parents.length ∧ validE d.es = true by simpa [validF] using hc.1)
      have := (putE_ok (s :: ss) d.es (-1) hv (by omega) (by omega) fun x hx => by
        have h1 := hc.2
        rw [List.any_eq_false] at h1
        simpa using h1 x hx).pos (by simp)
      omega
  · simp [Dep.zero]
theorem finds_pos {d : Dep} {ss : List Site} (h : ¬ (putF d ss).2 < 0) : validF (putF d ss).1 = true ∧ stackF (putF d ss).1 (putF d ss).2 = (ss, true) ∧ putF (putF d ss).1 ss = putF d ss ∧ ∀ n, (stackF d n).2 = true → stackF (putF d ss).1 n = stackF d n := by
  by_cases hc : validF d = true ∧ (ss.any fun s => !proper s) = false
  · obtain ⟨hl, hv⟩ := (show d.sites.length = d.parents.length ∧ validE d.es = true by simpa [validF] using hc.1)
    obtain ⟨l, rfl⟩ : ∃ l, d = ofE l := ⟨d.es, (ofE_es hl).symm⟩
    rw [es_ofE] at hv
    have hpr : ∀ s ∈ ss, proper s = true := fun x hx => by
      have h1 := hc.2
      rw [List.any_eq_false] at h1
      simpa using h1 x hx
    have hok := putE_ok ss l (-1) hv (by omega) (by omega) hpr
    have hag := putE_again ss l (-1) []
    rw [List.append_nil] at hag
    rw [putF_yes hc] at h ⊢
    simp only at h ⊢
    obtain ⟨t, ht⟩ := hok.ext
    refine ⟨by rw [valid_ofE]; exact hok.valid, ?_, ?_, ?_⟩
    · rw [stackF_ofE hok.valid, if_pos ⟨by omega, hok.hi⟩, hok.stack, climb_neg (by omega : (-1 : Int) < 0)]
      simp
    · rw [putF_yes ⟨by rw [valid_ofE]; exact hok.valid, hc.2⟩, hag]
    · intro n hn
      have hv2 := hok.valid
      rw [ht] at hv2 ⊢
      exact stack_ext hv hv2 n hn
  · unfold putF at h
    rw [if_neg hc] at h
    exact absurd (show ((Dep.zero, -1) : Dep × Int).2 < 0 by decide) h
/-! ### merge -/
structure MergeOK (l : List E) (bl : List E) (k : Nat) (l' : List E) (to : List Int) : Prop where
  ext : ∃ t, l' = l ++ t
  valid : validE l' = true
  len : to.length = k
  stacks : ∀ (j : Nat) (x : Int), to[j]? = some x → 0 ≤ x ∧ x < (l'.length : Int) ∧ climb l' (x + 1).toNat x = climb bl ((j : Int) + 1).toNat (j : Int)
theorem mergeE_ok {l bl : List E} (hv : validE bl = true) : ∀ (n k : Nat) (l' : List E) (to : List Int), n = bl.length - k → k ≤ bl.length → MergeOK l bl k l' to → MergeOK l bl bl.length (mergeE l' to (bl.drop k)).1 (mergeE l' to (bl.drop k)).2
  | 0, k, l', to, hn, hk, h => by
    have : k = bl.length := by omega
    subst this
    rw [List.drop_length]
    exact h
  | n + 1, k, l', to, hn, hk, h => by
    have hkl : k < bl.length := by omega
    have hva := valid_at hv hkl
    rw [drop_at hkl]
    simp only [mergeE]
    have hp : ∃ p, (if bl[k].1 ≥ 0 then to[bl[k].1.toNat]?.getD 0 else bl[k].1) = p ∧ -1 ≤ p ∧ p < (l'.length : Int) ∧ climb l' (p + 1).toNat p = climb bl (bl[k].1 + 1).toNat bl[k].1 := by
      by_cases h0 : bl[k].1 ≥ 0
      · have hlt : bl[k].1.toNat < to.length := by rw [h.len]; omega
        have hs := h.stacks bl[k].1.toNat _ (List.getElem?_eq_getElem hlt)
        rw [show ((bl[k].1.toNat : Nat) : Int) = bl[k].1 by omega] at hs
        refine ⟨to[bl[k].1.toNat], by rw [if_pos h0, List.getElem?_eq_getElem hlt]; rfl, by omega, hs.2.1, hs.2.2⟩
      · refine ⟨bl[k].1, if_neg h0, by omega, by omega, ?_⟩
        rw [climb_neg (by omega), climb_neg (by omega)]
    obtain ⟨p, hpe, hp1, hp2, hp3⟩ := hp
    rw [hpe]
    have hpu := pushed l' (p, bl[k].2)
    have hv1 := hpu.valid h.valid ⟨hp1, hp2⟩ hva.2.2.1
    obtain ⟨t1, ht1⟩ := hpu.ext
    obtain ⟨t0, ht0⟩ := h.ext
    refine mergeE_ok hv n (k + 1) _ _ (by omega) (by omega) ⟨⟨t0 ++ t1, by rw [ht1, ht0, List.append_assoc]⟩, hv1, by simp [h.len], ?_⟩
    intro j x hx
    rcases Nat.lt_trichotomy j to.length with hj | hj | hj
    · rw [List.getElem?_append_left hj] at hx
      have hs := h.stacks j x hx
      have := hpu.len
      refine ⟨hs.1, by omega, ?_⟩
      rw [ht1, climb_ext h.valid _ _ hs.2.1]
      exact hs.2.2
    · subst hj
      rw [List.getElem?_append_right (Nat.le_refl _), Nat.sub_self] at hx
      simp only [List.getElem?_cons_zero, Option.some.injEq] at hx
      subst hx
      refine ⟨by omega, by have := hpu.lt; omega, ?_⟩
      rw [climb_at hv1 hpu.at_, h.len, climb_at hv (List.getElem?_eq_getElem hkl), ht1, climb_ext h.valid _ _ hp2, hp3]
    · rw [List.getElem?_eq_none (by simp; omega)] at hx
      cases hx
theorem mergeE_ext : ∀ (es l : List E) (to : List Int), ∃ t, (mergeE l to es).1 = l ++ t
  | [], l, to => ⟨[], by simp [mergeE]⟩
  | e :: es, l, to => by
    simp only [mergeE]
    obtain ⟨t1, h1⟩ := mergeE_ext es (pushE l ((if e.1 ≥ 0 then to[e.1.toNat]?.getD 0 else e.1), e.2)).1 (to ++ [((pushE l ((if e.1 ≥ 0 then to[e.1.toNat]?.getD 0 else e.1), e.2)).2 : Int)])
    obtain ⟨t0, h0⟩ := (pushed l ((if e.1 ≥ 0 then to[e.1.toNat]?.getD 0 else e.1), e.2)).ext
    exact ⟨t0 ++ t1, by rw [h1, h0, List.append_assoc]⟩
theorem mergeE_again : ∀ (es l : List E) (to : List Int) (t : List E), mergeE ((mergeE l to es).1 ++ t) to es = ((mergeE l to es).1 ++ t, (mergeE l to es).2)
  | [], l, to, t => rfl
  | e :: es, l, to, t => by
    simp only [mergeE]
    have ih := mergeE_again es (pushE l ((if e.1 ≥ 0 then to[e.1.toNat]?.getD 0 else e.1), e.2)).1 (to ++ [((pushE l ((if e.1 ≥ 0 then to[e.1.toNat]?.getD 0 else e.1), e.2)).2 : Int)]) t
    obtain ⟨t', ht'⟩ := mergeE_ext es (pushE l ((if e.1 ≥ 0 then to[e.1.toNat]?.getD 0 else e.1), e.2)).1 (to ++ [((pushE l ((if e.1 ≥ 0 then to[e.1.toNat]?.getD 0 else e.1), e.2)).2 : Int)])
    have e1 : pushE ((mergeE (pushE l ((if e.1 ≥ 0 then to[e.1.toNat]?.getD 0 else e.1), e.2)).1 (to ++ [((pushE l ((if e.1 ≥ 0 then to[e.1.toNat]?.getD 0 else e.1), e.2)).2 : Int)]) es).1 ++ t) ((if e.1 ≥ 0 then to[e.1.toNat]?.getD 0 else e.1), e.2)
        = ((mergeE (pushE l ((if e.1 ≥ 0 then to[e.1.toNat]?.getD 0 else e.1), e.2)).1 (to ++ [((pushE l ((if e.1 ≥ 0 then to[e.1.toNat]?.getD 0 else e.1), e.2)).2 : Int)]) es).1 ++ t, (pushE l ((if e.1 ≥ 0 then to[e.1.toNat]?.getD 0 else e.1), e.2)).2) := by
      rw [ht', List.append_assoc]
      exact push_again (pushed l _).idx _
    rw [e1]
    exact ih
theorem merge_keeps {a b : Dep} (ha : validF a = true) (hb : validF b = true) :
    (mergeF a b).2.length = b.sites.length ∧ mergeF (mergeF a b).1 b = mergeF a b ∧ validF (mergeF a b).1 = true ∧ (∀ n, (stackF a n).2 = true → stackF (mergeF a b).1 n = stackF a n) ∧
      ∀ (n : Int) (x : Int), 0 ≤ n → (mergeF a b).2[n.toNat]? = some x → (stackF b n).2 = true ∧ stackF (mergeF a b).1 x = stackF b n := by
  obtain ⟨hla, hva⟩ := (show a.sites.length = a.parents.length ∧ validE a.es = true by simpa [validF] using ha)
  obtain ⟨l, rfl⟩ : ∃ l, a = ofE l := ⟨a.es, (ofE_es hla).symm⟩
  obtain ⟨hlb, hvb⟩ := (show b.sites.length = b.parents.length ∧ validE b.es = true by simpa [validF] using hb)
  obtain ⟨bl, rfl⟩ : ∃ l, b = ofE l := ⟨b.es, (ofE_es hlb).symm⟩
  rw [es_ofE] at hva hvb
  have hok := mergeE_ok (l := l) hvb bl.length 0 l [] (by simp) (Nat.zero_le _) ⟨⟨[], by simp⟩, hva, rfl, fun j x hx => by simp at hx⟩
  rw [List.drop_zero] at hok
  have hag := mergeE_again bl l [] []
  rw [List.append_nil] at hag
  rw [mergeF_yes ha hb]
  simp only
  obtain ⟨t, ht⟩ := hok.ext
  refine ⟨by rw [hok.len, lenS], ?_, by rw [valid_ofE]; exact hok.valid, ?_, ?_⟩
  · rw [mergeF_yes (by rw [valid_ofE]; exact hok.valid) hb, hag]
  · intro n hn
    have hv2 := hok.valid
    rw [ht] at hv2 ⊢
    exact stack_ext hva hv2 n hn
  · intro n x h0 hx
    have hs := hok.stacks n.toNat x hx
    have hlt := (List.getElem?_eq_some_iff.1 hx).1
    rw [hok.len] at hlt
    rw [show ((n.toNat : Nat) : Int) = n by omega] at hs
    rw [stackF_ofE hvb, stackF_ofE hok.valid, if_pos ⟨h0, by omega⟩, if_pos ⟨hs.1, hs.2.1⟩, hs.2.2]
    exact ⟨rfl, rfl⟩
end Go.Dp
