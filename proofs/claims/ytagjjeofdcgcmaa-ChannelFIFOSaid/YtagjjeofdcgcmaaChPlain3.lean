/- The laws of layer 17 in plain words: what the operations keep. -/
import Derived.Test.YtagjjeofdcgcmaaChPlain2
namespace Go.Ch
open Go.AL
def okPair (both : Bool) (x w : Wt) : Prop := clash x w = false ∧ (both = true → x.g = w.g)
theorem okR_iff {both : Bool} {seen : List Wt} {w : Wt} : okR both seen w = true ↔ inR w = true ∧ ∀ x ∈ seen, okPair both x w := by
  unfold okR okPair
  simp only [Bool.and_eq_true, List.all_eq_true, Bool.not_eq_true', Bool.and_eq_false_iff, decide_eq_false_iff_not, ne_eq, Decidable.not_not]
  constructor
  · rintro ⟨h1, h2⟩
    refine ⟨h1, fun x hx => ⟨(h2 x hx).1, fun hb => ?_⟩⟩
    rcases (h2 x hx).2 with h3 | h3
    · rw [hb] at h3; cases h3
    · exact h3
  · rintro ⟨h1, h2⟩
    refine ⟨h1, fun x hx => ⟨(h2 x hx).1, ?_⟩⟩
    cases both with
    | false => exact .inl rfl
    | true => exact .inr ((h2 x hx).2 rfl)
theorem allR_iff {both : Bool} : ∀ (l seen : List Wt), allR both seen l = true ↔ (∀ w ∈ l, inR w = true) ∧ l.Pairwise (okPair both) ∧ ∀ x ∈ seen, ∀ w ∈ l, okPair both x w
  | [], seen => by simp [allR]
  | w :: l, seen => by
    simp only [allR, Bool.and_eq_true]
    rw [okR_iff, allR_iff l (seen ++ [w])]
    simp only [List.mem_cons, List.pairwise_cons, List.mem_append, List.not_mem_nil, or_false]
    constructor
    · rintro ⟨⟨h1, h2⟩, h3, h4, h5⟩
      refine ⟨?_, ⟨fun y hy => h5 w (.inr rfl) y hy, h4⟩, ?_⟩
      · rintro y (rfl | hy)
        · exact h1
        · exact h3 y hy
      · rintro x hx y (rfl | hy)
        · exact h2 x hx
        · exact h5 x (.inl hx) y hy
    · rintro ⟨h1, ⟨h2, h3⟩, h4⟩
      refine ⟨⟨h1 w (.inl rfl), fun x hx => h4 x hx w (.inl rfl)⟩, fun y hy => h1 y (.inr hy), h3, ?_⟩
      rintro x (hx | rfl) y hy
      · exact h4 x hx y (.inr hy)
      · exact h2 y hy
def bothB (a b : List Wt) : Bool := decide (a ≠ []) && decide (b ≠ [])
theorem waitersF_iff (a b : List Wt) : waitersF a b = true ↔ (∀ w ∈ a ++ b, inR w = true) ∧ (a ++ b).Pairwise (okPair (bothB a b)) := by
  unfold waitersF
  rw [allR_iff]
  simp [bothB]
theorem bothB_iff {a b : List Wt} : bothB a b = true ↔ a ≠ [] ∧ b ≠ [] := by simp [bothB]
theorem clash_symm (x w : Wt) : clash x w = clash w x := by
  unfold clash
  rw [Bool.eq_iff_iff]
  simp only [Bool.and_eq_true, Bool.or_eq_true, decide_eq_true_eq]
  constructor
  · rintro ⟨h1, (h2 | h2) | h2⟩
    · exact ⟨h1.symm, .inl (.inl h2.symm)⟩
    · exact ⟨h1.symm, .inr h2⟩
    · exact ⟨h1.symm, .inl (.inr h2)⟩
  · rintro ⟨h1, (h2 | h2) | h2⟩
    · exact ⟨h1.symm, .inl (.inl h2.symm)⟩
    · exact ⟨h1.symm, .inr h2⟩
    · exact ⟨h1.symm, .inl (.inr h2)⟩
theorem okPair_weak {b b' : Bool} {x w : Wt} (h : okPair b x w) (hb : b' = true → b = true) : okPair b' x w := ⟨h.1, fun h' => h.2 (hb h')⟩
theorem waiters_filter {a b : List Wt} (p : Wt → Bool) (h : waitersF a b = true) : waitersF (a.filter p) (b.filter p) = true := by
  rw [waitersF_iff] at h ⊢
  rw [← List.filter_append]
  refine ⟨fun w hw => h.1 w (List.mem_filter.1 hw).1, (h.2.sublist List.filter_sublist).imp fun hx => okPair_weak hx fun hb => ?_⟩
  rw [bothB_iff] at hb ⊢
  exact ⟨fun e => hb.1 (by rw [e]; rfl), fun e => hb.2 (by rw [e]; rfl)⟩
theorem waiters_nil : waitersF [] [] = true := rfl
theorem waiters_addS {a b : List Wt} {w : Wt} (h : waitersF a b = true) (hin : inR w = true) (hc : ∀ x ∈ a ++ b, clash x w = false) (hg : ∀ x ∈ b, x.g = w.g) : waitersF (a ++ [w]) b = true := by
  rw [waitersF_iff] at h ⊢
  obtain ⟨h1, h2⟩ := h
  rw [List.pairwise_append] at h2
  obtain ⟨ha, hb, hab⟩ := h2
  have hag : ∀ x ∈ a, b ≠ [] → x.g = w.g := fun x hx hne => by
    obtain ⟨y, hy⟩ := List.exists_mem_of_ne_nil b hne
    exact ((hab x hx y hy).2 (bothB_iff.2 ⟨List.ne_nil_of_mem hx, hne⟩)).trans (hg y hy)
  refine ⟨fun x hx => ?_, ?_⟩
  · rcases List.mem_append.1 hx with hx | hx
    · rcases List.mem_append.1 hx with hx | hx
      · exact h1 x (List.mem_append_left _ hx)
      · simp at hx; subst hx; exact hin
    · exact h1 x (List.mem_append_right _ hx)
  · rw [List.pairwise_append]
    refine ⟨?_, hb.imp_of_mem fun hx hy hxy => ⟨hxy.1, fun _ => (hg _ hx).trans (hg _ hy).symm⟩, ?_⟩
    · rw [List.pairwise_append]
      refine ⟨ha.imp_of_mem fun hx hy hxy => ⟨hxy.1, fun hb' => (hag _ hx (bothB_iff.1 hb').2).trans (hag _ hy (bothB_iff.1 hb').2).symm⟩, by simp, fun x hx y hy => ?_⟩
      simp at hy
      subst hy
      exact ⟨hc x (List.mem_append_left _ hx), fun hb' => hag x hx (bothB_iff.1 hb').2⟩
    · intro x hx y hy
      rcases List.mem_append.1 hx with hx | hx
      · exact ⟨(hab x hx y hy).1, fun _ => (hag x hx (List.ne_nil_of_mem hy)).trans (hg y hy).symm⟩
      · simp at hx
        subst hx
        exact ⟨by rw [clash_symm]; exact hc y (List.mem_append_right _ hy), fun _ => (hg y hy).symm⟩
theorem waiters_addR {a b : List Wt} {w : Wt} (h : waitersF a b = true) (hin : inR w = true) (hc : ∀ x ∈ a ++ b, clash x w = false) (hg : ∀ x ∈ a, x.g = w.g) : waitersF a (b ++ [w]) = true := by
  rw [waitersF_iff] at h ⊢
  obtain ⟨h1, h2⟩ := h
  rw [List.pairwise_append] at h2
  obtain ⟨ha, hb, hab⟩ := h2
  have hbg : ∀ x ∈ b, a ≠ [] → x.g = w.g := fun x hx hne => by
    obtain ⟨y, hy⟩ := List.exists_mem_of_ne_nil a hne
    exact ((hab y hy x hx).2 (bothB_iff.2 ⟨hne, List.ne_nil_of_mem hx⟩)).symm.trans (hg y hy)
  refine ⟨fun x hx => ?_, ?_⟩
  · rcases List.mem_append.1 hx with hx | hx
    · exact h1 x (List.mem_append_left _ hx)
    · rcases List.mem_append.1 hx with hx | hx
      · exact h1 x (List.mem_append_right _ hx)
      · simp at hx; subst hx; exact hin
  · rw [List.pairwise_append]
    refine ⟨ha.imp_of_mem fun hx hy hxy => ⟨hxy.1, fun _ => (hg _ hx).trans (hg _ hy).symm⟩, ?_, ?_⟩
    · rw [List.pairwise_append]
      refine ⟨hb.imp_of_mem fun hx hy hxy => ⟨hxy.1, fun hb' => (hbg _ hx (bothB_iff.1 hb').1).trans (hbg _ hy (bothB_iff.1 hb').1).symm⟩, by simp, fun x hx y hy => ?_⟩
      simp at hy
      subst hy
      exact ⟨hc x (List.mem_append_right _ hx), fun hb' => hbg x hx (bothB_iff.1 hb').1⟩
    · intro x hx y hy
      rcases List.mem_append.1 hy with hy | hy
      · exact ⟨(hab x hx y hy).1, fun _ => (hg x hx).trans (hbg y hy (List.ne_nil_of_mem hx)).symm⟩
      · simp at hy
        subst hy
        exact ⟨hc x (List.mem_append_left _ hx), fun _ => hg x hx⟩

/-! ### a valid channel -/
structure Vd (o : Ob) : Prop where
  h1 : head1 o
  h2 : head2 o
  h3 : ∀ w ∈ o.receivers, w.v = v0
  h4 : waitersF o.senders o.receivers = true
theorem valid_iff (o : Ob) : validF o = true ↔ Vd o := by
  unfold validF
  simp only [Bool.and_eq_true, decide_eq_true_eq, List.all_eq_true]
  exact ⟨fun ⟨⟨a, b⟩, c, d⟩ => ⟨a, b, c, d⟩, fun ⟨a, b, c, d⟩ => ⟨⟨a, b⟩, c, d⟩⟩
theorem other_find {l : List Wt} {g : Int} (h : (otherF l g).2 = true) : (otherF l g).1 ∈ l ∧ (otherF l g).1.g ≠ g := by
  unfold otherF at h ⊢
  cases hf : l.find? (fun w => decide (w.g ≠ g)) with
  | none => rw [hf] at h; cases h
  | some w =>
    refine ⟨List.mem_of_find?_eq_some hf, ?_⟩
    have := List.find?_some hf
    simpa using this
theorem other_no {l : List Wt} {g : Int} (h : (otherF l g).2 = false) : ∀ x ∈ l, x.g = g := by
  unfold otherF at h
  cases hf : l.find? (fun w => decide (w.g ≠ g)) with
  | some w => rw [hf] at h; cases h
  | none =>
    intro x hx
    have := List.find?_eq_none.1 hf x hx
    simpa using this
theorem other_filter {l : List Wt} {g : Int} : (otherF l g).2 = decide (((l.filter fun w => decide (w.g ≠ g)).length : Int) > 0) := by
  cases h : (otherF l g).2 with
  | true =>
    obtain ⟨h1, h2⟩ := other_find h
    have : (otherF l g).1 ∈ l.filter fun w => decide (w.g ≠ g) := List.mem_filter.2 ⟨h1, by simpa using h2⟩
    have := List.length_pos_of_mem this
    exact (decide_eq_true (by omega)).symm
  | false =>
    have h1 := other_no h
    have : (l.filter fun w => decide (w.g ≠ g)) = [] := by
      rw [List.filter_eq_nil_iff]
      intro x hx
      simpa using h1 x hx
    rw [this]
    rfl
structure Fits (o : Ob) (w : Wt) (other : List Wt) : Prop where
  inr : inR w = true
  rcv : o.received < 1099511627776
  cl : ∀ x ∈ o.senders ++ o.receivers, clash x w = false
  oth : ∀ x ∈ other, (∃ y ∈ o.senders ++ o.receivers, y.g = w.g) → x.g = w.g ∧ o.cap ≤ 0
theorem fits_iff {o : Ob} {w : Wt} {other : List Wt} (h : fitsF o w other = true) : Fits o w other := by
  unfold fitsF at h
  simp only [Bool.and_eq_true, Bool.not_eq_true', Bool.or_eq_false_iff, List.all_eq_true, decide_eq_false_iff_not, Bool.and_eq_false_iff] at h
  obtain ⟨⟨⟨⟨⟨h1, h2⟩, h3⟩, h4⟩, h5⟩, h6⟩ := h
  refine ⟨?_, by omega, h5, fun x hx ⟨y, hy, hyg⟩ => ?_⟩
  · unfold inR
    simp only [Bool.not_eq_true', Bool.or_eq_false_iff, decide_eq_false_iff_not]
    exact ⟨⟨h1, h2⟩, h3⟩
  · rcases h6 x hx with h7 | h7
    · rw [List.any_eq_false] at h7
      have := h7 y hy
      simp [hyg] at this
    · exact ⟨by have := h7.1; simpa using this, by omega⟩
theorem leave_lists (o : Ob) (g : Int) : (leaveF o g).senders = (o.senders.filter fun w => decide (w.g ≠ g)) ∧ (leaveF o g).receivers = (o.receivers.filter fun w => decide (w.g ≠ g)) := ⟨rfl, rfl⟩
theorem filter_ne {l : List Wt} {p : Wt → Bool} (h : l.filter p ≠ []) : l ≠ [] := fun e => h (by rw [e]; rfl)
section
variable {o : Ob} {w : Wt}
theorem send_valid (hv : Vd o) (hf : Fits o w o.receivers) : Vd (sendF o w).1 := by
  obtain ⟨h1, h2, h3, h4⟩ := hv
  obtain ⟨a1, a2, a3, a4, a5, a6, a7, a8⟩ := h1
  unfold sendF
  split
  · exact ⟨⟨a1, a2, a3, a4, a5, a6, a7, a8⟩, h2, h3, h4⟩
  · rename_i hc
    split
    · rename_i hr
      refine ⟨⟨a1, a2, a3, a4, a5, by simp only; omega, by have := hf.rcv; simp only; omega, by simp only [leaveF]; omega⟩, ⟨fun e => absurd e hc, fun hn => h2.2.1 (filter_ne hn), fun hn => h2.2.2 (filter_ne hn)⟩, fun x hx => h3 x (List.mem_filter.1 hx).1, waiters_filter _ h4⟩
    · rename_i hr
      have hr : (otherF o.receivers w.g).2 = false := by simpa using hr
      have hrg := other_no hr
      split
      · rename_i hq
        have hs : o.senders = [] := Decidable.byContradiction fun e => by have := h2.2.1 e; omega
        have hrc : o.receivers = [] := Decidable.byContradiction fun e => by
          obtain ⟨y, hy⟩ := List.exists_mem_of_ne_nil _ e
          have := (hf.oth y hy ⟨y, List.mem_append_right _ hy, hrg y hy⟩).2
          omega
        refine ⟨⟨a1, a2, a3, a4, by simp; omega, a6, a7, by simp; omega⟩, ⟨fun e => absurd e hc, fun hn => absurd hs hn, fun hn => absurd hrc hn⟩, h3, h4⟩
      · rename_i hq
        refine ⟨⟨a1, a2, a3, a4, a5, a6, a7, a8⟩, ⟨fun e => absurd e hc, fun _ => by simp only; omega, fun hn => h2.2.2 hn⟩, h3, waiters_addS h4 hf.inr hf.cl hrg⟩
theorem recv_valid (hv : Vd o) (hf : Fits o w o.senders) : Vd (recvF o w).1 := by
  obtain ⟨h1, h2, h3, h4⟩ := hv
  obtain ⟨a1, a2, a3, a4, a5, a6, a7, a8⟩ := h1
  have hrec := hf.rcv
  have hopen : (otherF o.senders w.g).2 = true → ¬ o.closed = true := fun ho hc => by
    have := (h2.1 hc).1
    rw [this] at ho
    cases ho
  unfold recvF
  split
  · rename_i hs
    have hc := hopen hs.1
    refine ⟨⟨a1, a2, a3, a4, a5, by simp only; omega, by simp only; omega, by simp only [leaveF]; omega⟩, ⟨fun e => absurd e hc, fun hn => h2.2.1 (filter_ne hn), fun hn => h2.2.2 (filter_ne hn)⟩, fun x hx => h3 x (List.mem_filter.1 hx).1, waiters_filter _ h4⟩
  · rename_i hs
    split
    · rename_i hq
      have hc := hopen hq.1
      have hrc : o.receivers = [] := Decidable.byContradiction fun e => by have := h2.2.2 e; rw [this] at hq; simp at hq
      have hlen : (o.queue.drop 1 ++ [(otherF o.senders w.g).1.v]).length = o.queue.length := by simp; omega
      refine ⟨⟨a1, a2, a3, a4, by simp only [hlen]; exact a5, by simp only; omega, by simp only; omega, by simp only [hlen]; omega⟩, ⟨fun e => absurd e hc, fun hn => ?_, fun hn => ?_⟩, fun x hx => h3 x (List.mem_filter.1 hx).1, waiters_filter _ h4⟩
      · simp only [hlen]; exact h2.2.1 (filter_ne hn)
      · exact absurd hrc (filter_ne hn)
    · rename_i hq
      split
      · rename_i hq2
        have ho : (otherF o.senders w.g).2 = false := by
          cases h : (otherF o.senders w.g).2 with
          | false => rfl
          | true => exact absurd ⟨h, hq2⟩ hq
        have hsg := other_no ho
        have hs0 : o.senders = [] := Decidable.byContradiction fun e => by
          obtain ⟨y, hy⟩ := List.exists_mem_of_ne_nil _ e
          have := (hf.oth y hy ⟨y, List.mem_append_left _ hy, hsg y hy⟩).2
          omega
        have hrc : o.receivers = [] := Decidable.byContradiction fun e => by have := h2.2.2 e; rw [this] at hq2; simp at hq2
        refine ⟨⟨a1, a2, a3, a4, by simp; omega, by simp only; omega, by simp only; omega, by simp; omega⟩, ⟨fun e => h2.1 e, fun hn => absurd hs0 hn, fun hn => absurd hrc hn⟩, h3, h4⟩
      · rename_i hq2
        have hq0 : o.queue = [] := List.eq_nil_of_length_eq_zero (by omega)
        split
        · exact ⟨⟨a1, a2, a3, a4, a5, a6, a7, a8⟩, h2, h3, h4⟩
        · rename_i hc
          have ho : (otherF o.senders w.g).2 = false := by
            cases h : (otherF o.senders w.g).2 with
            | false => rfl
            | true =>
              have hne : o.senders ≠ [] := List.ne_nil_of_mem (other_find h).1
              have := h2.2.1 hne
              rw [hq0] at this
              exact absurd ⟨h, by simp at this; omega⟩ hs
          have hsg := other_no ho
          refine ⟨⟨a1, a2, a3, a4, a5, a6, a7, a8⟩, ⟨fun e => absurd e hc, h2.2.1, fun _ => hq0⟩, fun x hx => ?_, waiters_addR h4 hf.inr hf.cl hsg⟩
          rcases List.mem_append.1 hx with hx | hx
          · exact h3 x hx
          · simp at hx; rw [hx]
theorem close_valid (hv : Vd o) : Vd (closeF o).1 := by
  obtain ⟨h1, h2, h3, h4⟩ := hv
  unfold closeF
  split
  · exact ⟨h1, h2, h3, h4⟩
  · obtain ⟨a1, a2, a3, a4, a5, a6, a7, a8⟩ := h1
    exact ⟨⟨a1, a2, a3, a4, a5, a6, a7, a8⟩, ⟨fun _ => ⟨rfl, rfl⟩, fun hn => absurd rfl hn, fun hn => absurd rfl hn⟩, fun x hx => (by cases hx), waiters_nil⟩
theorem send_same (o : Ob) (w : Wt) : sendP o w = sendF o w := by
  unfold sendP
  simp only [firstS, resS, closedS, handS, enqS, parkS]
  unfold sendF
  by_cases h1 : o.closed = true
  · rw [if_pos h1, if_pos h1]
  · rw [if_neg h1, if_neg h1]
    cases h2 : (otherF o.receivers w.g).2 with
    | true => simp
    | false =>
      simp only [if_true, Bool.false_eq_true, if_false]
      by_cases h3 : (o.queue.length : Int) < o.cap
      · have h4 : ¬ (o.queue.length : Int) ≥ o.cap := by omega
        simp only [if_pos h3, if_neg h4, if_true]
      · have h4 : (o.queue.length : Int) ≥ o.cap := by omega
        simp only [if_neg h3, if_pos h4, Bool.false_eq_true, if_false]
theorem recv_same (hc : 0 ≤ o.cap) (hq : (o.queue.length : Int) ≤ o.cap) : recvP o w = recvF o w := by
  unfold recvP
  simp only [firstS, resS, relS, deqS, exhS, parkR]
  unfold recvF
  cases h2 : (otherF o.senders w.g).2 with
  | true =>
    by_cases h3 : o.cap = 0
    · have h4 : ¬ (o.cap > 0) := by omega
      simp [h3, leaveF]
    · by_cases h5 : o.queue.length = 0
      · have h6 : o.cap > 0 := by omega
        have h7 : o.queue = [] := List.eq_nil_of_length_eq_zero h5
        simp [h3, h6, h7]
      · have h6 : o.cap > 0 := by omega
        have h7 : 0 < o.queue.length := by omega
        have h8 : ¬ o.queue = [] := fun e => h5 (by rw [e]; rfl)
        simp [h3, h6, h7, h8]
  | false =>
    by_cases h5 : o.queue.length = 0
    · have h7 : o.queue = [] := List.eq_nil_of_length_eq_zero h5
      simp [h7]
    · have h7 : 0 < o.queue.length := by omega
      have h8 : ¬ o.queue = [] := fun e => h5 (by rw [e]; rfl)
      simp [h7, h8]
end
end Go.Ch
