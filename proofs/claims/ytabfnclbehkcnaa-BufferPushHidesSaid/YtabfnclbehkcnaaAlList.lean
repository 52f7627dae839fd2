/- Plain lemmas on lists that the walks of loops need. -/
import Derived.Test.YtabfnclbehkcnaaAlTyped
namespace Go.AL

theorem entB {b c : Bool} (e : b = c) : Ent (eqP (.bool b)) (eqP (.bool c)) := Ent.of_eq (by rw [e])
theorem entI {k : IntKind} {b c : Int} (e : b = c) : Ent (eqP (.int k b)) (eqP (.int k c)) := Ent.of_eq (by rw [e])
theorem entX {α : Type} {P : α → Pred} {x y : α} (e : x = y) : Ent (P x) (P y) := Ent.of_eq (by rw [e])

def idxF {α : Type} (φ : α → Bool) (l : List α) : Int := match l.findIdx? φ with | some i => (i : Int) | none => -1
section
variable {α : Type} {φ : α → Bool} {l : List α} {k : Nat}
theorem idxF_any (φ : α → Bool) (l : List α) : decide (idxF φ l ≥ 0) = l.any φ := by
  unfold idxF
  cases h : l.findIdx? φ with
  | some i =>
    obtain ⟨hi, hp, _⟩ := List.findIdx?_eq_some_iff_getElem.1 h
    have : l.any φ = true := List.any_eq_true.2 ⟨l[i], List.getElem_mem hi, hp⟩
    rw [this]
    simp
  | none =>
    have := List.findIdx?_eq_none_iff.1 h
    have h2 : l.any φ = false := by rw [List.any_eq_false]; intro x hx; simpa using this x hx
    rw [h2]
    simp
theorem findIdx_at (hk : k < l.length) (h : ∀ x ∈ l.take k, φ x = false) (hp : φ l[k] = true) : l.findIdx? φ = some k := by
  rw [List.findIdx?_eq_some_iff_getElem]
  refine ⟨hk, hp, fun j hj => ?_⟩
  have : l[j] ∈ l.take k := by
    rw [List.mem_iff_getElem]
    exact ⟨j, by simp; omega, by simp⟩
  simpa using h _ this
theorem idxF_at (hk : k < l.length) (h : ∀ x ∈ l.take k, φ x = false) (hp : φ l[k] = true) : idxF φ l = k := by
  simp [idxF, findIdx_at hk h hp]
theorem idxF_none (h : ∀ x ∈ l, φ x = false) : idxF φ l = -1 := by
  have : l.findIdx? φ = none := by rw [List.findIdx?_eq_none_iff]; intro x hx; simpa using h x hx
  simp [idxF, this]
theorem take_all (h : ∀ x ∈ l.take k, φ x = false) (hk : k < l.length) (hp : φ l[k] = false) : ∀ x ∈ l.take (k + 1), φ x = false := by
  intro x hx
  rw [List.take_succ_eq_append_getElem hk] at hx
  rcases List.mem_append.1 hx with h1 | h1
  · exact h x h1
  · simp at h1; rw [h1]; exact hp
theorem all_step (h : (l.take k).all φ = true) (hk : k < l.length) (hp : φ l[k] = true) : (l.take (k + 1)).all φ = true := by
  rw [List.take_succ_eq_append_getElem hk, List.all_append, h]
  simp [hp]
theorem all_end (h : (l.take k).all φ = true) (hk : l.length ≤ k) : l.all φ = true := by rwa [List.take_of_length_le hk] at h
theorem all_bad (hk : k < l.length) (hp : φ l[k] = false) : l.all φ = false := by
  rw [List.all_eq_false]
  exact ⟨_, List.getElem_mem hk, by simp [hp]⟩
theorem take_step {xs ys : List α} (h : xs.take k = ys.take k) (hx : k < xs.length) (hy : k < ys.length) (he : xs[k] = ys[k]) : xs.take (k + 1) = ys.take (k + 1) := by
  rw [List.take_succ_eq_append_getElem hx, List.take_succ_eq_append_getElem hy, h, he]
theorem take_end {xs ys : List α} (h : xs.take k = ys.take k) (hx : xs.length ≤ k) (hy : ys.length ≤ k) : xs = ys := by
  rwa [List.take_of_length_le hx, List.take_of_length_le hy] at h
theorem ne_at [DecidableEq α] {xs ys : List α} (hx : k < xs.length) (hy : k < ys.length) (he : xs[k] ≠ ys[k]) : decide (xs = ys) = false := by
  refine decide_eq_false fun e => ?_
  subst e
  exact he rfl
theorem ne_len [DecidableEq α] {xs ys : List α} (h : xs.length ≠ ys.length) : decide (xs = ys) = false := decide_eq_false fun e => h (by rw [e])
theorem map_at {β : Type} (f : α → β) (hk : k < l.length) : (l.map f)[k]? = some (f l[k]) := by rw [List.getElem?_map, List.getElem?_eq_getElem hk]; rfl
theorem drop_at (hk : k < l.length) : l.drop k = l[k] :: l.drop (k + 1) := List.drop_eq_getElem_cons hk
theorem take_at (hk : k < l.length) : l.take (k + 1) = l.take k ++ [l[k]] := List.take_succ_eq_append_getElem hk
end
theorem len_le_of_eq {α : Type} {xs ys : List α} {n : Nat} (h : xs = ys) (hy : ys.length ≤ n) : xs.length ≤ n := by rw [h]; exact hy
theorem rev_step {α : Type} {xs ys : List α} {i : Nat} (hl : ys.length = xs.length) (h : ∀ m, m < xs.length → ys[m]? = if m < i ∨ xs.length - i ≤ m then xs[xs.length - 1 - m]? else xs[m]?) (hi : i < xs.length - 1 - i) :
    ∀ m, m < xs.length → ((ys.set i (ys[xs.length - 1 - i]'(by omega))).set (xs.length - 1 - i) (ys[i]'(by omega)))[m]? = if m < i + 1 ∨ xs.length - (i + 1) ≤ m then xs[xs.length - 1 - m]? else xs[m]? := by
  intro m hm
  have h1 := h i (by omega)
  have h2 := h (xs.length - 1 - i) (by omega)
  rw [if_neg (by omega), List.getElem?_eq_getElem (by omega : i < ys.length)] at h1
  rw [if_neg (by omega), List.getElem?_eq_getElem (by omega : xs.length - 1 - i < ys.length)] at h2
  rw [List.getElem?_set]
  by_cases e1 : xs.length - 1 - i = m
  · rw [if_pos e1, List.length_set, if_pos (by omega), if_pos (by omega), h1]
    congr 1
    omega
  · rw [if_neg e1, List.getElem?_set]
    by_cases e2 : i = m
    · rw [if_pos e2, if_pos (by omega), if_pos (by omega), h2]
      congr 1
      omega
    · rw [if_neg e2, h m hm]
      by_cases e3 : m < i ∨ xs.length - i ≤ m
      · rw [if_pos e3, if_pos (by omega)]
      · rw [if_neg e3, if_neg (by omega)]
theorem rev_end {α : Type} {xs ys : List α} {i : Nat} (hl : ys.length = xs.length) (h : ∀ m, m < xs.length → ys[m]? = if m < i ∨ xs.length - i ≤ m then xs[xs.length - 1 - m]? else xs[m]?) (hi : xs.length ≤ i + i + 1) : ys = xs.reverse := by
  apply List.ext_getElem?
  intro m
  by_cases hm : m < xs.length
  · rw [h m hm, List.getElem?_reverse hm]
    by_cases e : m < i ∨ xs.length - i ≤ m
    · rw [if_pos e]
    · rw [if_neg e]
      congr 1
      omega
  · rw [List.getElem?_eq_none (by omega), List.getElem?_eq_none (by simp; omega)]
theorem flat_take_at {α : Type} {ls : List (List α)} {k : Nat} (hk : k < ls.length) : (ls.take (k + 1)).flatten = (ls.take k).flatten ++ ls[k] := by rw [take_at hk, List.flatten_append]; simp
theorem flat_take_le {α : Type} (ls : List (List α)) (k : Nat) : (ls.take k).flatten.length ≤ ls.flatten.length := by
  have : ls.flatten = (ls.take k).flatten ++ (ls.drop k).flatten := by rw [← List.flatten_append, List.take_append_drop]
  rw [this, List.length_append]
  omega
end Go.AL
