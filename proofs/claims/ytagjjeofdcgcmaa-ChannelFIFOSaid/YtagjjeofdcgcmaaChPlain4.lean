/- The laws of layer 17 in plain words: Close, New, Ready, sizes. -/
import Derived.Test.YtagjjeofdcgcmaaChPlain3
namespace Go.Ch
open Go.AL
/-! ### the flags of Close are the first waiters -/
def FlagsOf (s : List Bool) (but out : List Wt) : Prop := ∀ n : Nat, n < 8 → s[n]? = some ((out.any fun x => decide (x.g = (n : Int))) || (but.any fun x => decide (x.g = (n : Int))))
theorem flags_filter (but : List Wt) : ∀ (l : List Wt) (s : List Bool) (out : List Wt), (∀ w ∈ l, goro w.g = true) → FlagsOf s but out →
    (filterS seenF s out l).1 = firstsF but out l ∧ FlagsOf (filterS seenF s out l).2 but (firstsF but out l)
  | [], s, out, _, h => ⟨rfl, h⟩
  | w :: l, s, out, hg, h => by
    have hw := hg w (List.mem_cons_self ..)
    have hb := goro_in hw
    have hs := h w.g.toNat (by omega)
    have he : ((w.g.toNat : Nat) : Int) = w.g := by omega
    simp only [he] at hs
    have hl : ∀ x ∈ l, goro x.g = true := fun x hx => hg x (List.mem_cons_of_mem _ hx)
    simp only [filterS, firstsF]
    cases hc : (out.any fun x => decide (x.g = w.g)) || (but.any fun x => decide (x.g = w.g)) with
    | true =>
      rw [hc] at hs
      have hf : seenF s w = (false, s) := by unfold seenF; rw [if_pos (.inr (by rw [hs]; rfl))]
      rw [hf]
      simpa using flags_filter but l s out hl h
    | false =>
      rw [hc] at hs
      have hf : seenF s w = (true, s.set w.g.toNat true) := by unfold seenF; rw [if_neg (by rw [hs, hw]; simp)]
      rw [hf]
      simp only [if_true, Bool.false_eq_true, if_false]
      refine flags_filter but l _ _ hl fun n hn => ?_
      rw [List.getElem?_set, List.any_append]
      by_cases hne : w.g.toNat = n
      · have hlt : w.g.toNat < s.length := (List.getElem?_eq_some_iff.1 hs).1
        rw [if_pos hne, if_pos hlt]
        have : w.g = (n : Int) := by omega
        simp [this]
      · rw [if_neg hne, h n hn]
        have : ¬ w.g = (n : Int) := by omega
        simp [this]
theorem flags_but {s : List Bool} {out : List Wt} (h : FlagsOf s [] out) : FlagsOf s out [] := fun n hn => by
  have := h n hn
  simpa using this
theorem flags0 : FlagsOf (List.replicate 8 false) [] [] := fun n hn => by
  rw [List.getElem?_replicate_of_lt hn]
  rfl
theorem inR_goro {w : Wt} (h : inR w = true) : goro w.g = true := by
  unfold inR at h
  unfold goro
  simp only [Bool.not_eq_true', Bool.or_eq_false_iff, decide_eq_false_iff_not] at h
  simp only [Bool.and_eq_true, decide_eq_true_eq]
  omega
theorem close_same {o : Ob} (h : Vd o) : closeP o = closeF o := by
  have hin := ((waitersF_iff _ _).1 h.h4).1
  have h1 := flags_filter [] o.receivers _ _ (fun w hw => inR_goro (hin w (List.mem_append_right _ hw))) flags0
  have h2 := flags_filter (firstsF [] [] o.receivers) o.senders _ _ (fun w hw => inR_goro (hin w (List.mem_append_left _ hw))) (flags_but h1.2)
  unfold closeP closeF
  rw [h1.1, h2.1]
theorem new_valid {x : Int} (h : (newF x).2 = 0) : validF (newF x).1 = true := by
  unfold newF at h ⊢
  by_cases hx : x < 0 ∨ 64 < x
  · rw [if_pos hx] at h; simp at h
  · rw [if_neg hx]
    rw [valid_iff]
    refine ⟨⟨rfl, rfl, by simp only; omega, by simp only; omega, by simp [ob0]; omega, by simp [ob0], by simp [ob0], rfl⟩, ⟨fun _ => ⟨rfl, rfl⟩, fun h => absurd rfl h, fun h => absurd rfl h⟩, fun w hw => (by cases hw), rfl⟩
/-! ### ready -/
theorem send_ready (o : Ob) (w : Wt) : decide ((sendF o w).2.status ≠ 1) = sendReady (leaveF o w.g) := by
  unfold sendReady
  rw [(leave_lists o w.g).2, ← other_filter]
  show _ = ((o.closed || _) || decide ((o.queue.length : Int) < o.cap))
  unfold sendF
  cases h1 : o.closed with
  | true => simp
  | false =>
    cases h2 : (otherF o.receivers w.g).2 with
    | true => simp [tr0]
    | false =>
      by_cases h3 : (o.queue.length : Int) < o.cap
      · simp [h3, tr0]
      · simp [h3]
theorem recv_ready {o : Ob} (w : Wt) (hv : Vd o) : decide ((recvF o w).2.status ≠ 1) = recvReady (leaveF o w.g) := by
  unfold recvReady
  rw [(leave_lists o w.g).1, ← other_filter]
  show _ = ((o.closed || _) || decide ((o.queue.length : Int) > 0))
  unfold recvF
  by_cases h3 : o.queue.length = 0
  · have hq : o.queue = [] := List.eq_nil_of_length_eq_zero h3
    cases h2 : (otherF o.senders w.g).2 with
    | true =>
      have hne : o.senders ≠ [] := List.ne_nil_of_mem (other_find h2).1
      have hc : o.cap = 0 := by have := hv.h2.2.1 hne; omega
      simp [hc, tr0]
    | false =>
      cases h1 : o.closed <;> simp [hq, tr0]
  · have h4 : 0 < o.queue.length := by omega
    have hq : o.queue ≠ [] := fun e => h3 (by rw [e]; rfl)
    cases h2 : (otherF o.senders w.g).2 with
    | true => by_cases hc : o.cap = 0 <;> simp [hc, h4, tr0]
    | false => simp [h4, tr0]
theorem ready_one {o : Ob} (hv : Vd o) : (sendReady o || recvReady o || (decide ((o.senders.length : Int) + (o.receivers.length : Int) = 0) && decide (o.cap = 0))) = true := by
  have h1 := hv.h1
  obtain ⟨a1, a2, a3, a4, a5, a6, a7, a8⟩ := h1
  unfold sendReady recvReady
  cases h : o.closed with
  | true => simp
  | false =>
    simp only [Bool.false_or, Bool.or_eq_true, Bool.and_eq_true, decide_eq_true_eq]
    omega
/-! ### sizes -/
structure Few (o : Ob) : Prop where
  q : o.queue.length ≤ 20
  s : o.senders.length ≤ 20
  r : o.receivers.length ≤ 20
  c : o.cells.length ≤ 20
theorem few_iff {o : Ob} (h : fewF o = true) : Few o := by
  unfold fewF at h
  simp only [Bool.and_eq_true, decide_eq_true_eq] at h
  exact ⟨by omega, by omega, by omega, by omega⟩
theorem Few.lens {o : Ob} (h : Few o) : Lens o := ⟨by have := h.c; omega, by have := h.q; omega, by have := h.s; omega, by have := h.r; omega⟩
theorem Few.small {o : Ob} (h : Few o) (hv : Vd o) : Small o := by
  obtain ⟨a1, a2, a3, a4, a5, a6, a7, a8⟩ := hv.h1
  have hq := h.q
  refine ⟨h.lens, ?_, ?_⟩ <;> omega
theorem leave_lens {o : Ob} (g : Int) (h : Lens o) : Lens (leaveF o g) := by
  have h1 := List.length_filter_le (fun w => decide (w.g ≠ g)) o.senders
  have h2 := List.length_filter_le (fun w => decide (w.g ≠ g)) o.receivers
  exact ⟨h.cells, h.queue, Nat.le_trans h1 h.senders, Nat.le_trans h2 h.receivers⟩
/-- lists that are at most one longer than few -/
structure Few1 (o : Ob) : Prop where
  q : o.queue.length ≤ 21
  s : o.senders.length ≤ 21
  r : o.receivers.length ≤ 21
  c : o.cells.length ≤ 20
theorem Few1.lens {o : Ob} (h : Few1 o) : Lens o := ⟨by have := h.c; omega, by have := h.q; omega, by have := h.s; omega, by have := h.r; omega⟩
theorem few_leave {o : Ob} (g : Int) (h : Few o) : Few (leaveF o g) := by
  have h1 := List.length_filter_le (fun w => decide (w.g ≠ g)) o.senders
  have h2 := List.length_filter_le (fun w => decide (w.g ≠ g)) o.receivers
  exact ⟨h.q, Nat.le_trans h1 h.s, Nat.le_trans h2 h.r, h.c⟩
theorem send_few {o : Ob} (w : Wt) (h : Few o) : Few1 (sendF o w).1 ∧ (sendF o w).2.woken.length ≤ 1000000 ∧ (sendF o w).2.failed.length ≤ 1000000 := by
  obtain ⟨q, s, r, c⟩ := h
  have hl := few_leave (otherF o.receivers w.g).1.g ⟨q, s, r, c⟩
  obtain ⟨lq, ls, lr, lc⟩ := hl
  unfold sendF
  split
  · exact ⟨⟨by simp only; omega, by simp only; omega, by simp only; omega, c⟩, by simp [tr0], by simp [tr0]⟩
  · split
    · exact ⟨⟨by simp only; omega, by simp only; omega, by simp only; omega, lc⟩, by simp [tr0], by simp [tr0]⟩
    · split
      · exact ⟨⟨by simp; omega, by simp only; omega, by simp only; omega, c⟩, by simp [tr0], by simp [tr0]⟩
      · exact ⟨⟨by simp only; omega, by simp; omega, by simp only; omega, c⟩, by simp [tr0], by simp [tr0]⟩
theorem recv_few {o : Ob} (w : Wt) (h : Few o) : Few1 (recvF o w).1 ∧ (recvF o w).2.woken.length ≤ 1000000 ∧ (recvF o w).2.failed.length ≤ 1000000 := by
  obtain ⟨q, s, r, c⟩ := h
  have hl := few_leave (otherF o.senders w.g).1.g ⟨q, s, r, c⟩
  obtain ⟨lq, ls, lr, lc⟩ := hl
  unfold recvF
  split
  · exact ⟨⟨by simp only; omega, by simp only; omega, by simp only; omega, lc⟩, by simp [tr0], by simp [tr0]⟩
  · split
    · exact ⟨⟨by simp; omega, by simp only; omega, by simp only; omega, lc⟩, by simp [tr0], by simp [tr0]⟩
    · split
      · exact ⟨⟨by simp; omega, by simp only; omega, by simp only; omega, c⟩, by simp [tr0], by simp [tr0]⟩
      · split
        · exact ⟨⟨by simp only; omega, by simp only; omega, by simp only; omega, c⟩, by simp [tr0], by simp [tr0]⟩
        · exact ⟨⟨by simp only; omega, by simp only; omega, by simp; omega, c⟩, by simp [tr0], by simp [tr0]⟩
theorem close_few {o : Ob} (h : Few o) : Few1 (closeF o).1 ∧ (closeF o).2.woken.length ≤ 1000000 ∧ (closeF o).2.failed.length ≤ 1000000 := by
  obtain ⟨q, s, r, c⟩ := h
  have h1 := firsts_len [] o.receivers []
  have h2 := firsts_len (firstsF [] [] o.receivers) o.senders []
  simp only [List.length_nil, Nat.zero_add] at h1 h2
  unfold closeF
  split
  · exact ⟨⟨by simp only; omega, by simp only; omega, by simp only; omega, c⟩, by simp [tr0], by simp [tr0]⟩
  · exact ⟨⟨by simp only; omega, by simp, by simp, c⟩, by simp only; omega, by simp only; omega⟩
theorem new_few (x : Int) : Few (newF x).1 := by
  unfold newF
  split
  · exact ⟨by simp [ob0], by simp [ob0], by simp [ob0], by simp [ob0]⟩
  · exact ⟨by simp [ob0], by simp [ob0], by simp [ob0], by simp [ob0]⟩
end Go.Ch
