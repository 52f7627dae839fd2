/- Plain lemmas for the walks of layer 17. -/
import Derived.Test.YtagjjeofdcgcmaaChTypes
namespace Go.Ch
open Go.AL
section
variable {o : Ob}
theorem validF_no1 (h : ¬ head1 o) : validF o = false := by simp [validF, h]
theorem validF_no2 (h : ¬ head2 o) : validF o = false := by simp [validF, h]
theorem validF_no3 (h : (o.receivers.all fun w => decide (w.v = v0)) = false) : validF o = false := by simp [validF, h]
theorem head2_a (hh : head2 o) (h : (o.closed && decide ((o.senders.length : Int) + (o.receivers.length : Int) > 0)) = true) : False := by
  simp only [Bool.and_eq_true, decide_eq_true_eq] at h
  obtain ⟨h1, h2⟩ := hh.1 h.1
  rw [h1, h2] at h
  simp at h
theorem head2_a2 (h : (o.closed && decide ((o.senders.length : Int) + (o.receivers.length : Int) > 0)) = false) : o.closed = true → o.senders = [] ∧ o.receivers = [] := by
  intro hc
  rw [hc, Bool.true_and, decide_eq_false_iff_not] at h
  exact ⟨List.eq_nil_of_length_eq_zero (by omega), List.eq_nil_of_length_eq_zero (by omega)⟩
theorem head2_b (hh : head2 o) (h : 0 < (o.senders.length : Int) ∧ ¬ (o.queue.length : Int) = o.cap) : False := by
  refine h.2 (hh.2.1 fun e => ?_)
  rw [e] at h
  simp at h
theorem head2_c (hh : head2 o) (h : 0 < (o.receivers.length : Int) ∧ 0 < (o.queue.length : Int)) : False := by
  have := hh.2.2 fun e => by rw [e] at h; simp at h
  rw [this] at h
  simp at h
theorem head2_yes (h1 : o.closed = true → o.senders = [] ∧ o.receivers = []) (h2 : (o.senders.length : Int) ≤ 0 ∨ (o.queue.length : Int) = o.cap) (h3 : (o.receivers.length : Int) ≤ 0 ∨ (o.queue.length : Int) ≤ 0) : head2 o := by
  refine ⟨h1, fun h => ?_, fun h => ?_⟩
  · rcases h2 with h2 | h2
    · exact absurd (List.eq_nil_of_length_eq_zero (by omega)) h
    · exact h2
  · rcases h3 with h3 | h3
    · exact absurd (List.eq_nil_of_length_eq_zero (by omega)) h
    · exact List.eq_nil_of_length_eq_zero (by omega)
end
theorem headW_at {l : List Wt} {i : Nat} (h : i < l.length) : l[0]? = some (l.headD w0) := by
  cases l with
  | nil => simp at h
  | cons x l => rfl

/-! ### the two checks of the waiters agree -/
theorem okPR {both : Bool} {f : Wt} {seen : List Wt} {w : Wt} (h : both = true → ∀ x ∈ seen, x.g = f.g) (hf : seen = [] → f = w) : okP both f seen w = okR both seen w := by
  unfold okP okR
  rw [Bool.and_assoc]
  congr 1
  cases both with
  | false => simp
  | true =>
    cases seen with
    | nil => rw [hf rfl]; simp
    | cons x l =>
      have hx := h rfl
      rw [Bool.eq_iff_iff]
      simp only [Bool.true_and, Bool.and_eq_true, Bool.not_eq_true', decide_eq_false_iff_not, List.all_eq_true, ne_eq, Decidable.not_not]
      constructor
      · rintro ⟨h1, h2⟩ y hy
        exact ⟨h2 y hy, (hx y hy).trans h1.symm⟩
      · intro h2
        exact ⟨(h2 x (List.mem_cons_self ..)).2.symm.trans (hx x (List.mem_cons_self ..)), fun y hy => (h2 y hy).1⟩
theorem okR_g {both : Bool} {seen : List Wt} {w f : Wt} (hb : both = true) (h : okR both seen w = true) (hs : ∀ x ∈ seen, x.g = f.g) (hf : seen = [] → f = w) : w.g = f.g := by
  cases seen with
  | nil => rw [hf rfl]
  | cons x l =>
    unfold okR at h
    subst hb
    simp only [Bool.and_eq_true, List.all_eq_true, Bool.not_eq_true', Bool.true_and, decide_eq_false_iff_not, ne_eq, Decidable.not_not] at h
    exact (h.2 x (List.mem_cons_self ..)).2.symm.trans (hs x (List.mem_cons_self ..))
theorem allPR {both : Bool} : ∀ (l seen : List Wt) (f : Wt), (both = true → ∀ x ∈ seen, x.g = f.g) → (seen = [] → f = l.headD w0) → allP both f seen l = allR both seen l
  | [], _, _, _, _ => rfl
  | w :: l, seen, f, h, hf => by
    have hf : seen = [] → f = w := hf
    simp only [allP, allR]
    rw [okPR h hf]
    cases hk : okR both seen w with
    | false => rfl
    | true =>
      rw [Bool.true_and, Bool.true_and]
      refine allPR l (seen ++ [w]) f (fun hb x hx => ?_) (by simp)
      rcases List.mem_append.1 hx with h1 | h1
      · exact h hb x h1
      · simp at h1
        subst h1
        exact okR_g hb hk (h hb) hf
theorem both_eq (a b : List Wt) : (decide ((a.length : Int) > 0) && decide ((b.length : Int) > 0)) = (decide (a ≠ []) && decide (b ≠ [])) := by
  cases a <;> cases b <;> simp
section
variable {o : Ob}
abbrev bth (o : Ob) : Bool := decide ((o.senders.length : Int) > 0) && decide ((o.receivers.length : Int) > 0)
abbrev ws (o : Ob) : List Wt := o.senders ++ o.receivers
theorem valid_all (h1 : head1 o) (h2 : head2 o) (h3 : (o.receivers.all fun w => decide (w.v = v0)) = true) : validF o = allP (bth o) ((ws o).headD w0) [] (ws o) := by
  rw [allPR _ _ _ (fun _ x hx => by cases hx) (fun _ => rfl)]
  unfold validF waitersF
  rw [bth, both_eq, h3]
  simp [h1, h2]
variable {i : Nat}
theorem valid_end (h1 : head1 o) (h2 : head2 o) (h3 : (o.receivers.all fun w => decide (w.v = v0)) = true) (hi : (ws o).length ≤ i) (h : allP (bth o) ((ws o).headD w0) ((ws o).take i) ((ws o).drop i) = allP (bth o) ((ws o).headD w0) [] (ws o)) : validF o = true := by
  rw [valid_all h1 h2 h3, ← h, List.drop_eq_nil_of_le hi]
  rfl
theorem allP_at (hi : i < (ws o).length) (h : allP (bth o) ((ws o).headD w0) ((ws o).take i) ((ws o).drop i) = allP (bth o) ((ws o).headD w0) [] (ws o)) :
    (okP (bth o) ((ws o).headD w0) ((ws o).take i) (ws o)[i] && allP (bth o) ((ws o).headD w0) ((ws o).take (i + 1)) ((ws o).drop (i + 1))) = allP (bth o) ((ws o).headD w0) [] (ws o) := by
  rw [drop_at hi] at h
  rw [take_at hi]
  exact h
theorem head_eq {w : Wt} : (!(goro w.g) || decide (w.c < -1)) = !(inR w) := by
  unfold goro inR
  rw [Bool.eq_iff_iff]
  simp only [Bool.or_eq_true, Bool.not_eq_true', Bool.and_eq_false_iff, decide_eq_false_iff_not, decide_eq_true_eq, Bool.not_not]
  omega
theorem valid_bad (h1 : head1 o) (h2 : head2 o) (h3 : (o.receivers.all fun w => decide (w.v = v0)) = true) (hi : i < (ws o).length) (h : allP (bth o) ((ws o).headD w0) ((ws o).take i) ((ws o).drop i) = allP (bth o) ((ws o).headD w0) [] (ws o))
    (hc : ((!(goro (ws o)[i].g) || decide ((ws o)[i].c < -1)) || (bth o && decide ((ws o)[i].g ≠ ((ws o).headD w0).g))) = true) : validF o = false := by
  rw [valid_all h1 h2 h3, ← allP_at hi h]
  rw [head_eq] at hc
  unfold okP
  cases hr : inR (ws o)[i] with
  | false => simp
  | true => rw [hr] at hc; rw [show (bth o && decide ((ws o)[i].g ≠ ((ws o).headD w0).g)) = true by simpa using hc]; simp
theorem okP_head {w f : Wt} {b : Bool} (hc : ((!(goro w.g) || decide (w.c < -1)) || (b && decide (w.g ≠ f.g))) = false) : (inR w && !(b && decide (w.g ≠ f.g))) = true := by
  rw [head_eq] at hc
  simp only [Bool.or_eq_false_iff, Bool.not_eq_false'] at hc
  rw [hc.1, hc.2]
  rfl
theorem valid_next (hi : i < (ws o).length) (h : allP (bth o) ((ws o).headD w0) ((ws o).take i) ((ws o).drop i) = allP (bth o) ((ws o).headD w0) [] (ws o))
    (hc : (inR (ws o)[i] && !(bth o && decide ((ws o)[i].g ≠ ((ws o).headD w0).g))) = true) (ha : ((ws o).take i).all (fun x => !(clash x (ws o)[i])) = true) :
    allP (bth o) ((ws o).headD w0) ((ws o).take (i + 1)) ((ws o).drop (i + 1)) = allP (bth o) ((ws o).headD w0) [] (ws o) := by
  have := allP_at hi h
  rwa [okP, hc, ha, Bool.true_and, Bool.true_and] at this
theorem valid_clash (h1 : head1 o) (h2 : head2 o) (h3 : (o.receivers.all fun w => decide (w.v = v0)) = true) (hi : i < (ws o).length) (h : allP (bth o) ((ws o).headD w0) ((ws o).take i) ((ws o).drop i) = allP (bth o) ((ws o).headD w0) [] (ws o))
    {j : Nat} (hj : j < ((ws o).take i).length) (hc : clash ((ws o).take i)[j] (ws o)[i] = true) : validF o = false := by
  rw [valid_all h1 h2 h3, ← allP_at hi h]
  have : ((ws o).take i).all (fun x => !(clash x (ws o)[i])) = false := all_bad hj (by rw [hc]; rfl)
  rw [okP, this]
  simp
theorem no_clash {x w : Wt} (h : clash x w = false) : (!(clash x w)) = true := by rw [h]; rfl
end
/-! ### the reference's walk of the waiters -/
section
variable {W a b : List Wt} {both : Bool} {i j : Nat}
theorem allR_at (hi : i < W.length) (h : allR both (W.take i) (W.drop i) = allR both [] W) : (okR both (W.take i) W[i] && allR both (W.take (i + 1)) (W.drop (i + 1))) = allR both [] W := by
  rw [drop_at hi] at h
  rw [take_at hi]
  exact h
theorem waitersF_eq (a b : List Wt) : waitersF a b = allR (decide ((a.length : Int) > 0) && decide ((b.length : Int) > 0)) [] (a ++ b) := by rw [waitersF, both_eq]
theorem waiters_end (hi : (a ++ b).length ≤ i) (h : allR (decide ((a.length : Int) > 0) && decide ((b.length : Int) > 0)) ((a ++ b).take i) ((a ++ b).drop i) = allR (decide ((a.length : Int) > 0) && decide ((b.length : Int) > 0)) [] (a ++ b)) : waitersF a b = true := by
  rw [waitersF_eq, ← h, List.drop_eq_nil_of_le hi]
  rfl
theorem waiters_bad (hi : i < (a ++ b).length) (h : allR (decide ((a.length : Int) > 0) && decide ((b.length : Int) > 0)) ((a ++ b).take i) ((a ++ b).drop i) = allR (decide ((a.length : Int) > 0) && decide ((b.length : Int) > 0)) [] (a ++ b))
    (hc : ((decide ((a ++ b)[i].g < 0) || decide ((a ++ b)[i].g ≥ 8)) || decide ((a ++ b)[i].c < -1)) = true) : waitersF a b = false := by
  rw [waitersF_eq, ← allR_at hi h, okR, inR, hc]
  rfl
theorem inR_yes {w : Wt} (hc : ((decide (w.g < 0) || decide (w.g ≥ 8)) || decide (w.c < -1)) = false) : inR w = true := by rw [inR, hc]; rfl
theorem waiters_next (hi : i < W.length) (h : allR both (W.take i) (W.drop i) = allR both [] W) (hin : inR W[i] = true) (ha : (W.take i).all (fun x => !(clash x W[i]) && !(both && decide (x.g ≠ W[i].g))) = true) : allR both (W.take (i + 1)) (W.drop (i + 1)) = allR both [] W := by
  have := allR_at hi h
  rwa [okR, hin, ha, Bool.true_and, Bool.true_and] at this
theorem waiters_clash (hi : i < (a ++ b).length) (h : allR (decide ((a.length : Int) > 0) && decide ((b.length : Int) > 0)) ((a ++ b).take i) ((a ++ b).drop i) = allR (decide ((a.length : Int) > 0) && decide ((b.length : Int) > 0)) [] (a ++ b))
    (hj : j < i) (hc : clash ((a ++ b)[j]'(by omega)) (a ++ b)[i] = true ∨ ((decide ((a.length : Int) > 0) && decide ((b.length : Int) > 0)) && decide (((a ++ b)[j]'(by omega)).g ≠ (a ++ b)[i].g)) = true) : waitersF a b = false := by
  have hm : (a ++ b)[j]'(by omega) ∈ (a ++ b).take i := by rw [List.mem_iff_getElem]; exact ⟨j, by rw [List.length_take]; omega, by simp⟩
  have : ((a ++ b).take i).all (fun x => !(clash x (a ++ b)[i]) && !((decide ((a.length : Int) > 0) && decide ((b.length : Int) > 0)) && decide (x.g ≠ (a ++ b)[i].g))) = false := by
    rw [List.all_eq_false]
    refine ⟨_, hm, ?_⟩
    rcases hc with hc | hc <;> rw [hc] <;> simp
  rw [waitersF_eq, ← allR_at hi h, okR, this]
  simp
theorem waiters_step (hi : i < W.length) (hj : j < W.length) (h : (W.take j).all (fun x => !(clash x W[i]) && !(both && decide (x.g ≠ W[i].g))) = true) (h1 : clash W[j] W[i] = false) (h2 : (both && decide (W[j].g ≠ W[i].g)) = false) :
    (W.take (j + 1)).all (fun x => !(clash x W[i]) && !(both && decide (x.g ≠ W[i].g))) = true := by
  refine all_step h hj ?_
  rw [h1, h2]
  rfl
end
section
variable {o : Ob}
theorem head1_no (hh : head1 o) (h : (((((((!(o.chan) || decide ((o.cells.length : Int) ≠ 0)) || decide (o.cap < 0)) || decide (o.cap > 64)) || decide ((o.queue.length : Int) > o.cap)) || decide (o.received < 0)) || decide (o.received > 1099511627776)) || decide (o.sent ≠ IntKind.i64.wrap (o.received + (o.queue.length : Int)))) = true) : False := by
  obtain ⟨a1, a2, a3, a4, a5, a6, a7, a8⟩ := hh
  rw [a1, wrap_in (by omega)] at h
  simp only [Bool.not_true, Bool.false_or, Bool.or_eq_true, decide_eq_true_eq] at h
  omega
theorem head1_yes (_hq : o.queue.length ≤ 1000) (h : (((((((!(o.chan) || decide ((o.cells.length : Int) ≠ 0)) || decide (o.cap < 0)) || decide (o.cap > 64)) || decide ((o.queue.length : Int) > o.cap)) || decide (o.received < 0)) || decide (o.received > 1099511627776)) || decide (o.sent ≠ IntKind.i64.wrap (o.received + (o.queue.length : Int)))) = false) : head1 o := by
  simp only [Bool.or_eq_false_iff, Bool.not_eq_false', decide_eq_false_iff_not, ne_eq, Decidable.not_not] at h
  have hw := wrap_in (z := o.received + (o.queue.length : Int)) (by omega)
  rw [hw] at h
  exact ⟨h.1.1.1.1.1.1.1, by omega, by omega, by omega, by omega, by omega, by omega, h.2⟩
theorem head2_d (hh : head2 o) (h : (o.closed && (decide ((o.senders.length : Int) > 0) || decide ((o.receivers.length : Int) > 0))) = true) : False := by
  simp only [Bool.and_eq_true] at h
  obtain ⟨h1, h2⟩ := hh.1 h.1
  rw [h1, h2] at h
  simp at h
theorem head2_d2 (h : (o.closed && (decide ((o.senders.length : Int) > 0) || decide ((o.receivers.length : Int) > 0))) = false) : o.closed = true → o.senders = [] ∧ o.receivers = [] := by
  intro hc
  rw [hc, Bool.true_and] at h
  simp only [Bool.or_eq_false_iff, decide_eq_false_iff_not] at h
  exact ⟨List.eq_nil_of_length_eq_zero (by omega), List.eq_nil_of_length_eq_zero (by omega)⟩
theorem head2_e (hh : head2 o) (h : ((decide ((o.senders.length : Int) > 0) && decide ((o.queue.length : Int) < o.cap)) || (decide ((o.receivers.length : Int) > 0) && decide ((o.queue.length : Int) > 0))) = true) : False := by
  simp only [Bool.or_eq_true, Bool.and_eq_true, decide_eq_true_eq] at h
  rcases h with h | h
  · have := hh.2.1 fun e => by rw [e] at h; simp at h
    omega
  · exact head2_c hh h
theorem head2_e2 (h1 : head1 o) (h2 : o.closed = true → o.senders = [] ∧ o.receivers = []) (h : ((decide ((o.senders.length : Int) > 0) && decide ((o.queue.length : Int) < o.cap)) || (decide ((o.receivers.length : Int) > 0) && decide ((o.queue.length : Int) > 0))) = false) : head2 o := by
  simp only [Bool.or_eq_false_iff, Bool.and_eq_false_iff, decide_eq_false_iff_not] at h
  have := h1.2.2.2.2.1
  exact head2_yes h2 (by omega) (by omega)
theorem valid_w (h1 : head1 o) (h2 : head2 o) (h3 : (o.receivers.all fun w => decide (w.v = v0)) = true) : validF o = waitersF o.senders o.receivers := by simp [validF, h1, h2, h3]
end
/-! ### the first other waiter, the first waiters -/
section
variable {l but out : List Wt} {x : Int} {k : Nat}
theorem otherF_none (h : ∀ w ∈ l, decide (w.g ≠ x) = false) : otherF l x = (w0, false) := by
  have : l.find? (fun w => decide (w.g ≠ x)) = none := by rw [List.find?_eq_none]; intro w hw; rw [h w hw]; simp
  unfold otherF
  rw [this]
theorem otherF_at (hk : k < l.length) (h : ∀ w ∈ l.take k, decide (w.g ≠ x) = false) (hp : decide (l[k].g ≠ x) = true) : otherF l x = (l[k], true) := by
  have : l.find? (fun w => decide (w.g ≠ x)) = some l[k] := by
    rw [List.find?_eq_some_iff_getElem]
    refine ⟨hp, k, hk, rfl, fun j hj => ?_⟩
    have hm : l[j] ∈ l.take k := by rw [List.mem_iff_getElem]; exact ⟨j, by rw [List.length_take]; omega, by simp⟩
    rw [h _ hm]
    rfl
  unfold otherF
  rw [this]
variable {φ : Wt → Bool} {b c : Bool}
theorem any_hit (hk : k < l.length) (hp : φ l[k] = true) : true = (l.take (k + 1)).any φ := by rw [take_at hk, List.any_append]; simp [hp]
theorem any_miss (h : b = (l.take k).any φ) (hk : k < l.length) (hp : φ l[k] = false) : b = (l.take (k + 1)).any φ := by rw [take_at hk, List.any_append, h]; simp [hp]
theorem any_hit2 (hk : k < l.length) (hp : φ l[k] = true) : true = (b || (l.take (k + 1)).any φ) := by rw [← any_hit hk hp]; simp
theorem any_miss2 (h : c = (b || (l.take k).any φ)) (hk : k < l.length) (hp : φ l[k] = false) : c = (b || (l.take (k + 1)).any φ) := by rw [← any_miss rfl hk hp]; exact h
theorem firsts_new {r : List Wt} (hk : k < l.length) (h : firstsF but out (l.drop k) = r) (hc : ((out.any fun x => decide (x.g = l[k].g)) || (but.any fun x => decide (x.g = l[k].g))) = false) : firstsF but (out ++ [l[k]]) (l.drop (k + 1)) = r := by
  rw [drop_at hk] at h
  simp only [firstsF] at h
  rwa [if_neg (by rw [hc]; simp)] at h
theorem firsts_old {r : List Wt} (hk : k < l.length) (h : firstsF but out (l.drop k) = r) (hc : ((out.any fun x => decide (x.g = l[k].g)) || (but.any fun x => decide (x.g = l[k].g))) = true) : firstsF but out (l.drop (k + 1)) = r := by
  rw [drop_at hk] at h
  simp only [firstsF] at h
  rwa [if_pos hc] at h
end
end Go.Ch
