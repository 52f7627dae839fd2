/- Plain lemmas for the walks of layer 21. -/
import Derived.Test.YtoibihhocjbilaaDpTypes
namespace Go.Dp
open Go.AL
theorem dep_ext {a b : Dep} (h1 : a.sites = b.sites) (h2 : a.parents = b.parents) : a = b := by
  cases a; cases b; simp_all
theorem dep_ne_len {a b : Dep} (h : (decide ((a.sites.length : Int) ≠ (b.sites.length : Int)) || decide ((a.parents.length : Int) ≠ (b.parents.length : Int))) = true) : decide (a = b) = false := by
  refine decide_eq_false fun e => ?_
  subst e
  simp at h
section
variable {d : Dep} {k : Nat}
theorem not_good_valid (_hl : d.sites.length = d.parents.length) {g r : Bool} (hof : (g && r) = validE d.es) (hg : g = false) : validF d = false := by
  subst hg
  simp [validF, ← hof]
theorem bad_head (hl : d.sites.length = d.parents.length) {hkl : k < d.es.length} {h1 : k < d.parents.length} {h2 : k < d.sites.length} {r : Bool} (hof : (goodE (d.es.take k) d.es[k] && r) = validE d.es) (hat : d.es[k] = (d.parents[k], d.sites[k])) (hlk : (d.es.take k).length = k)
    (h : (((decide (d.parents[k] < -1) || decide (d.parents[k] ≥ (k : Int))) || decide (d.sites[k].fn < 0)) || decide (d.sites[k].pc < 0)) = true) : validF d = false := by
  refine not_good_valid hl hof ?_
  rw [hat]
  simp only [goodE, proper, hlk, Bool.or_eq_true, decide_eq_true_eq] at h ⊢
  simp only [Bool.not_eq_false', Bool.or_eq_true, decide_eq_true_eq, Bool.not_eq_true', Bool.and_eq_false_iff, decide_eq_false_iff_not]
  omega
theorem good_head {h1 : k < d.parents.length} {h2 : k < d.sites.length} (h : (((decide (d.parents[k] < -1) || decide (d.parents[k] ≥ (k : Int))) || decide (d.sites[k].fn < 0)) || decide (d.sites[k].pc < 0)) = false) : -1 ≤ d.parents[k] ∧ d.parents[k] < (k : Int) ∧ proper d.sites[k] = true := by
  simp only [Bool.or_eq_false_iff, decide_eq_false_iff_not] at h
  simp only [proper, Bool.and_eq_true, decide_eq_true_eq]
  omega
theorem good_next {hkl : k < d.es.length} {h1 : k < d.parents.length} {h2 : k < d.sites.length} {r : Bool} (hof : (goodE (d.es.take k) d.es[k] && r) = validE d.es) (hat : d.es[k] = (d.parents[k], d.sites[k])) (hlk : (d.es.take k).length = k)
    (h : -1 ≤ d.parents[k] ∧ d.parents[k] < (k : Int) ∧ proper d.sites[k] = true) (hj : ∀ x ∈ d.es.take k, decide (x = (d.parents[k], d.sites[k])) = false) : r = validE d.es := by
  have hi : idxE (d.es.take k) (d.parents[k], d.sites[k]) = none := by
    unfold idxE
    rw [List.findIdx?_eq_none_iff]
    intro x hx
    simpa using hj x hx
  have hg : goodE (d.es.take k) d.es[k] = true := by
    rw [hat]
    simp only [goodE, hi, hlk]
    simp [h.2.2]
    omega
  rw [← hof, hg, Bool.true_and]
theorem bad_twin (hl : d.sites.length = d.parents.length) {hkl : k < d.es.length} {h1 : k < d.parents.length} {h2 : k < d.sites.length} {r : Bool} (hof : (goodE (d.es.take k) d.es[k] && r) = validE d.es) (hat : d.es[k] = (d.parents[k], d.sites[k])) (hlk : (d.es.take k).length = k)
    {j : Nat} (hjk : j < k) (hj2 : j < d.sites.length) (h : d.sites[j] = d.sites[k] ∧ d.parents[j]'(by omega) = d.parents[k]) : validF d = false := by
  refine not_good_valid hl hof ?_
  have hat2 := es_at (d := d) hl hj2
  have hm : (d.parents[k], d.sites[k]) ∈ d.es.take k := by
    rw [← h.1, ← h.2, ← hat2, List.mem_iff_getElem]
    exact ⟨j, by omega, by simp⟩
  have hi : (idxE (d.es.take k) (d.parents[k], d.sites[k])).isSome = true := by
    unfold idxE
    cases hf : (d.es.take k).findIdx? fun x => decide (x = (d.parents[k], d.sites[k])) with
    | some i => rfl
    | none =>
      have := List.findIdx?_eq_none_iff.1 hf _ hm
      simp at this
  rw [hat]
  simp [goodE, hi]
theorem no_twin (hl : d.sites.length = d.parents.length) {h1 : k < d.parents.length} {h2 : k < d.sites.length} {j : Nat} (hj2 : j < d.sites.length) (h : ¬ d.sites[j] = d.sites[k] ∨ ¬ d.parents[j]'(by omega) = d.parents[k]) : decide (d.es[j]'(by rw [len_es d hl]; exact hj2) = (d.parents[k], d.sites[k])) = false := by
  rw [es_at (d := d) hl hj2]
  refine decide_eq_false fun e => ?_
  simp only [Prod.mk.injEq] at e
  rcases h with h | h
  · exact h e.2
  · exact h e.1
end
theorem pair_eq {e : E} {p : Int} {s : Site} (h : e.2 = s ∧ e.1 = p) : e = (p, s) := by
  obtain ⟨a, b⟩ := e
  simp only at h
  rw [h.1, h.2]
theorem pair_ne {e : E} {p : Int} {s : Site} (h : ¬ e.2 = s ∨ ¬ e.1 = p) : ¬ e = (p, s) := by
  intro he
  subst he
  simp at h
theorem lenS (l : List E) : (ofE l).sites.length = l.length := by simp [ofE]
theorem lenP (l : List E) : (ofE l).parents.length = l.length := by simp [ofE]
theorem sites_at {l : List E} {k : Nat} (hk : k < l.length) : (ofE l).sites[k]? = some l[k].2 := map_at (fun e : E => e.2) hk
theorem parents_at {l : List E} {k : Nat} (hk : k < l.length) : (ofE l).parents[k]? = some l[k].1 := map_at (fun e : E => e.1) hk
theorem valid_of {l : List E} (h : validE l = true) : validF (ofE l) = true := by rw [validF, es_ofE, h, lenS, lenP]; simp
theorem pushF_no {d : Dep} {p : Int} {s : Site} (h : ¬ (validF d = true ∧ (-1 ≤ p ∧ p < (d.sites.length : Int)) ∧ proper s = true)) : pushF d p s = (Dep.zero, -1) := by unfold pushF; rw [if_neg h]
theorem pushF_yes {l : List E} {p : Int} {s : Site} (h : validF (ofE l) = true ∧ (-1 ≤ p ∧ p < ((ofE l).sites.length : Int)) ∧ proper s = true) : pushF (ofE l) p s = (ofE (pushE l (p, s)).1, ((pushE l (p, s)).2 : Int)) := by unfold pushF; rw [if_pos h, es_ofE]
theorem push_bad {l : List E} {p : Int} {s : Site} (h : (((!true || decide (p < -1)) || decide (p ≥ ((ofE l).sites.length : Int))) || !(proper s)) = true) : ¬ (validF (ofE l) = true ∧ (-1 ≤ p ∧ p < ((ofE l).sites.length : Int)) ∧ proper s = true) := by
  rintro ⟨_, h1, h2⟩
  rw [h2] at h
  simp only [Bool.not_true, Bool.false_or, Bool.or_false, Bool.or_eq_true, decide_eq_true_eq] at h
  omega
theorem push_good {l : List E} {p : Int} {s : Site} (hv : validE l = true) (h : (((!true || decide (p < -1)) || decide (p ≥ ((ofE l).sites.length : Int))) || !(proper s)) = false) : validF (ofE l) = true ∧ (-1 ≤ p ∧ p < ((ofE l).sites.length : Int)) ∧ proper s = true := by
  simp only [Bool.not_true, Bool.false_or, Bool.or_eq_false_iff, decide_eq_false_iff_not, Bool.not_eq_false'] at h
  exact ⟨valid_of hv, by omega, h.2⟩
theorem push_bad2 {l : List E} {p : Int} {s : Site} (h : ((((!true || decide (p < -1)) || decide (p ≥ ((ofE l).sites.length : Int))) || decide (s.fn < 0)) || decide (s.pc < 0)) = true) : ¬ (validF (ofE l) = true ∧ (-1 ≤ p ∧ p < ((ofE l).sites.length : Int)) ∧ proper s = true) := by
  rintro ⟨_, h1, h2⟩
  simp only [proper, Bool.and_eq_true, decide_eq_true_eq] at h2
  simp only [Bool.not_true, Bool.false_or, Bool.or_eq_true, decide_eq_true_eq] at h
  omega
theorem push_good2 {l : List E} {p : Int} {s : Site} (hv : validE l = true) (h : ((((!true || decide (p < -1)) || decide (p ≥ ((ofE l).sites.length : Int))) || decide (s.fn < 0)) || decide (s.pc < 0)) = false) : validF (ofE l) = true ∧ (-1 ≤ p ∧ p < ((ofE l).sites.length : Int)) ∧ proper s = true := by
  simp only [Bool.not_true, Bool.false_or, Bool.or_eq_false_iff, decide_eq_false_iff_not] at h
  exact ⟨valid_of hv, by omega, by simp only [proper, Bool.and_eq_true, decide_eq_true_eq]; omega⟩
theorem putF_no {d : Dep} {ss : List Site} (h : ¬ (validF d = true ∧ (ss.any fun s => !proper s) = false)) : putF d ss = (Dep.zero, -1) := by unfold putF; rw [if_neg h]
theorem putF_yes {l : List E} {ss : List Site} (h : validF (ofE l) = true ∧ (ss.any fun s => !proper s) = false) : putF (ofE l) ss = (ofE (putE l (-1) ss).1, (putE l (-1) ss).2) := by unfold putF; rw [if_pos h, es_ofE]
theorem put_bad {l : List E} {ss : List Site} (h : (!true || ss.any fun s => !proper s) = true) : ¬ (validF (ofE l) = true ∧ (ss.any fun s => !proper s) = false) := by
  rintro ⟨_, h1⟩
  rw [h1] at h
  exact absurd h (by simp)
theorem put_good {l : List E} {ss : List Site} (hv : validE l = true) (h : (!true || ss.any fun s => !proper s) = false) : validF (ofE l) = true ∧ (ss.any fun s => !proper s) = false := ⟨valid_of hv, by simpa using h⟩
theorem put_good2 {l : List E} {ss : List Site} (hv : validE l = true) (h : ∀ x ∈ ss, (!proper x) = false) : validF (ofE l) = true ∧ (ss.any fun s => !proper s) = false := ⟨valid_of hv, by rw [List.any_eq_false]; intro x hx; rw [h x hx]; simp⟩
theorem put_bad2 {l : List E} {ss : List Site} {k : Nat} (hk : k < ss.length) (h : (!proper ss[k]) = true) : ¬ (validF (ofE l) = true ∧ (ss.any fun s => !proper s) = false) := by
  rintro ⟨_, h1⟩
  rw [List.any_eq_false] at h1
  exact h1 _ (List.getElem_mem hk) h
theorem put_step {l' l0 : List E} {n : Int} {ss : List Site} {k : Nat} (hk : k < ss.length) (h : putE l' n (ss.drop k) = putE l0 (-1) ss) : putE (pushE l' (n, ss[k])).1 ((pushE l' (n, ss[k])).2 : Int) (ss.drop (k + 1)) = putE l0 (-1) ss := by
  rw [drop_at hk] at h
  exact h
/-! ### what validity says of the entries -/
theorem okFrom_all : ∀ (l seen : List E), okFrom seen l = true → ∀ (k : Nat) (hk : k < l.length), goodE (seen ++ l.take k) l[k] = true
  | [], _, _, k, hk => by simp at hk
  | e :: l, seen, h, k, hk => by
    simp only [okFrom, Bool.and_eq_true] at h
    cases k with
    | zero => simpa using h.1
    | succ k =>
      have := okFrom_all l (seen ++ [e]) h.2 k (by simpa using hk)
      simpa using this
theorem valid_at {l : List E} (h : validE l = true) {k : Nat} (hk : k < l.length) : -1 ≤ l[k].1 ∧ l[k].1 < (k : Int) ∧ proper l[k].2 = true ∧ idxE (l.take k) l[k] = none := by
  have := okFrom_all l [] h k hk
  simp only [List.nil_append, goodE, Bool.not_eq_true', Bool.or_eq_false_iff, decide_eq_false_iff_not, Bool.not_eq_false', List.length_take] at this
  refine ⟨by omega, by omega, this.2, ?_⟩
  have h1 := this.1.1.1
  cases hi : idxE (l.take k) l[k] with
  | none => rfl
  | some i => rw [hi] at h1; simp at h1
theorem climb_neg {l : List E} {n : Int} {f : Nat} (h : n < 0) : climb l f n = [] := by cases f <;> simp [climb, h]
theorem climb_fuel {l : List E} (hv : validE l = true) : ∀ (f : Nat) (n : Int), n < (l.length : Int) → (n + 1).toNat ≤ f → climb l f n = climb l (n + 1).toNat n := by
  intro f
  induction f using Nat.strongRecOn with
  | _ f ih =>
    intro n hn hf
    by_cases h0 : n < 0
    · rw [climb_neg h0, climb_neg h0]
    · have hk : n.toNat < l.length := by omega
      have hva := valid_at hv hk
      obtain ⟨f', rfl⟩ : ∃ f', f = f' + 1 := ⟨f - 1, by omega⟩
      have e1 : (n + 1).toNat = n.toNat + 1 := by omega
      rw [e1]
      simp only [climb, if_neg h0, List.getElem?_eq_getElem hk]
      congr 1
      by_cases hlt : n.toNat < f' + 1
      · rw [ih f' (by omega) _ (by omega) (by omega)]
        rw [ih n.toNat (by omega) _ (by omega) (by omega)]
      · omega
theorem climb_step {l : List E} (hv : validE l = true) {m : Int} (h : 0 ≤ m) (hk : m.toNat < l.length) : climb l (m + 1).toNat m = l[m.toNat].2 :: climb l (l[m.toNat].1 + 1).toNat l[m.toNat].1 := by
  have hva := valid_at hv hk
  have e1 : (m + 1).toNat = m.toNat + 1 := by omega
  rw [e1]
  simp only [climb, if_neg (by omega : ¬ m < 0), List.getElem?_eq_getElem hk]
  rw [climb_fuel hv m.toNat _ (by omega) (by omega)]
theorem stackF_yes {d : Dep} {n : Int} (h : validF d = true ∧ 0 ≤ n ∧ n < (d.sites.length : Int)) : stackF d n = ((climb d.es (n + 1).toNat n).reverse, true) := by unfold stackF; rw [if_pos h]
theorem stackF_none {d : Dep} {n : Int} (h : ¬ (validF d = true ∧ 0 ≤ n ∧ n < (d.sites.length : Int))) : stackF d n = ([], false) := by unfold stackF; rw [if_neg h]
theorem stackF_no {d : Dep} {n : Int} (h : ((decide (n < 0) || decide (n ≥ (d.sites.length : Int))) || !(validF d)) = true) : stackF d n = ([], false) := by
  refine stackF_none ?_
  rintro ⟨h1, h2, h3⟩
  rw [h1] at h
  simp only [Bool.not_true, Bool.or_false, Bool.or_eq_true, decide_eq_true_eq] at h
  omega
theorem stack_good {d : Dep} {n : Int} (h : ((decide (n < 0) || decide (n ≥ (d.sites.length : Int))) || !(validF d)) = false) : validF d = true ∧ 0 ≤ n ∧ n < (d.sites.length : Int) := by
  simp only [Bool.or_eq_false_iff, decide_eq_false_iff_not, Bool.not_eq_false'] at h
  exact ⟨h.2, by omega, by omega⟩
theorem stackF_no2 {d : Dep} {n : Int} (h : ((!(validF d) || decide (n < 0)) || decide (n ≥ (d.sites.length : Int))) = true) : stackF d n = ([], false) := by
  refine stackF_none ?_
  rintro ⟨h1, h2, h3⟩
  rw [h1] at h
  simp only [Bool.not_true, Bool.false_or, Bool.or_eq_true, decide_eq_true_eq] at h
  omega
theorem stack_good2 {d : Dep} {n : Int} (h : ((!(validF d) || decide (n < 0)) || decide (n ≥ (d.sites.length : Int))) = false) : validF d = true ∧ 0 ≤ n ∧ n < (d.sites.length : Int) := by
  simp only [Bool.or_eq_false_iff, decide_eq_false_iff_not, Bool.not_eq_false'] at h
  exact ⟨h.1.1, by omega, by omega⟩
/-! ### merging -/
theorem mergeF_no {a b : Dep} (h : ¬ (validF a = true ∧ validF b = true)) : mergeF a b = (Dep.zero, []) := by unfold mergeF; rw [if_neg h]
theorem mergeF_yes {l bl : List E} (h1 : validF (ofE l) = true) (h2 : validF (ofE bl) = true) : mergeF (ofE l) (ofE bl) = (ofE (mergeE l [] bl).1, (mergeE l [] bl).2) := by unfold mergeF; rw [if_pos ⟨h1, h2⟩, es_ofE, es_ofE]
section
variable {l' bl : List E} {k : Nat} {nums to : List Int} {r : List E × List Int}
theorem merge_end (hk : bl.length ≤ k) (hn : nums.length ≤ k) (h : mergeE l' (nums.take k) (bl.drop k) = r) : (l', nums) = r := by
  rw [List.drop_eq_nil_of_le hk, List.take_of_length_le hn] at h
  exact h
theorem merge_end2 (hk : bl.length ≤ k) (h : mergeE l' to (bl.drop k) = r) : (l', to) = r := by
  rw [List.drop_eq_nil_of_le hk] at h
  exact h
theorem set_take {x : Int} (hk : k < nums.length) : (nums.set k x).take (k + 1) = nums.take k ++ [x] := by
  rw [take_at (by rw [List.length_set]; exact hk), List.take_set_of_le (Nat.le_refl _), List.getElem_set_self]
theorem merge_pos (hk : k < bl.length) (hn : nums.length = bl.length) (h : mergeE l' (nums.take k) (bl.drop k) = r) (h0 : 0 ≤ bl[k].1) (hlt : bl[k].1.toNat < k) :
    mergeE (pushE l' (nums[bl[k].1.toNat]'(by omega), bl[k].2)).1 ((nums.set k ((pushE l' (nums[bl[k].1.toNat]'(by omega), bl[k].2)).2 : Int)).take (k + 1)) (bl.drop (k + 1)) = r := by
  rw [drop_at hk] at h
  simp only [mergeE] at h
  rw [if_pos h0, List.getElem?_take_of_lt hlt, List.getElem?_eq_getElem (by omega : bl[k].1.toNat < nums.length)] at h
  rw [set_take (by omega)]
  exact h
theorem merge_neg (hk : k < bl.length) (hn : nums.length = bl.length) (h : mergeE l' (nums.take k) (bl.drop k) = r) (h0 : bl[k].1 < 0) :
    mergeE (pushE l' (bl[k].1, bl[k].2)).1 ((nums.set k ((pushE l' (bl[k].1, bl[k].2)).2 : Int)).take (k + 1)) (bl.drop (k + 1)) = r := by
  rw [drop_at hk] at h
  simp only [mergeE] at h
  rw [if_neg (by omega)] at h
  rw [set_take (by omega)]
  exact h
theorem merge_pos2 (hk : k < bl.length) (hn : to.length = k) (h : mergeE l' to (bl.drop k) = r) (h0 : 0 ≤ bl[k].1) (hlt : bl[k].1.toNat < k) :
    mergeE (pushE l' (to[bl[k].1.toNat]'(by omega), bl[k].2)).1 (to ++ [((pushE l' (to[bl[k].1.toNat]'(by omega), bl[k].2)).2 : Int)]) (bl.drop (k + 1)) = r := by
  rw [drop_at hk] at h
  simp only [mergeE] at h
  rw [if_pos h0, List.getElem?_eq_getElem (by omega : bl[k].1.toNat < to.length)] at h
  exact h
theorem merge_neg2 (hk : k < bl.length) (h : mergeE l' to (bl.drop k) = r) (h0 : bl[k].1 < 0) :
    mergeE (pushE l' (bl[k].1, bl[k].2)).1 (to ++ [((pushE l' (bl[k].1, bl[k].2)).2 : Int)]) (bl.drop (k + 1)) = r := by
  rw [drop_at hk] at h
  simp only [mergeE] at h
  rw [if_neg (by omega)] at h
  exact h
end
end Go.Dp
