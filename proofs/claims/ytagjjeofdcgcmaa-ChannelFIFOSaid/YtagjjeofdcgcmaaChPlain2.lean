/- Plain lemmas for the walks of layer 17: the reference's ways. -/
import Derived.Test.YtagjjeofdcgcmaaChPlain
namespace Go.Ch
open Go.AL
section
variable {o : Ob} {w : Wt}
theorem send_hand (h1 : o.closed = false) (h2 : (otherF o.receivers w.g).2 = true) : sendF o w = ({ leaveF o (otherF o.receivers w.g).1.g with sent := o.sent + 1, received := o.received + 1 },
    { tr0 with value := w.v, ok := true, number := o.sent, paired := true, partner := (otherF o.receivers w.g).1, pnumber := o.sent }) := by
  unfold sendF; rw [if_neg (by rw [h1]; simp), if_pos h2]
theorem send_enq (h1 : o.closed = false) (h2 : (otherF o.receivers w.g).2 = false) (h3 : (o.queue.length : Int) < o.cap) : sendF o w = ({ o with queue := o.queue ++ [w.v], sent := o.sent + 1 }, { tr0 with value := w.v, ok := true, number := o.sent }) := by
  unfold sendF; rw [if_neg (by rw [h1]; simp), if_neg (by rw [h2]; simp), if_pos h3]
theorem send_park (h1 : o.closed = false) (h2 : (otherF o.receivers w.g).2 = false) (h3 : o.cap ≤ (o.queue.length : Int)) : sendF o w = ({ o with senders := o.senders ++ [w] }, { tr0 with status := 1 }) := by
  unfold sendF; rw [if_neg (by rw [h1]; simp), if_neg (by rw [h2]; simp), if_neg (by omega)]
theorem recv_pair (h : (otherF o.senders w.g).2 = true ∧ o.cap = 0) : recvF o w = ({ leaveF o (otherF o.senders w.g).1.g with sent := o.sent + 1, received := o.received + 1 },
    { tr0 with value := (otherF o.senders w.g).1.v, ok := true, number := o.received, paired := true, partner := (otherF o.senders w.g).1, pnumber := o.sent }) := by
  unfold recvF; rw [if_pos h]
theorem no_pair (h : (otherF o.senders w.g).2 = false ∨ ¬ o.cap = 0) : ¬ ((otherF o.senders w.g).2 = true ∧ o.cap = 0) := by
  rintro ⟨h1, h2⟩
  rcases h with h | h
  · rw [h] at h1; cases h1
  · exact h h2
theorem recv_rel (h : (otherF o.senders w.g).2 = false ∨ ¬ o.cap = 0) (h2 : (otherF o.senders w.g).2 = true ∧ 0 < o.queue.length) : recvF o w = ({ leaveF o (otherF o.senders w.g).1.g with sent := o.sent + 1, received := o.received + 1, queue := o.queue.drop 1 ++ [(otherF o.senders w.g).1.v] },
    { tr0 with value := o.queue.headD v0, ok := true, number := o.received, paired := true, partner := (otherF o.senders w.g).1, pnumber := o.sent }) := by
  unfold recvF; rw [if_neg (no_pair h), if_pos h2]
theorem recv_deq (h : (otherF o.senders w.g).2 = false ∨ ¬ o.cap = 0) (h2 : (otherF o.senders w.g).2 = false ∨ (o.queue.length : Int) ≤ 0) (h3 : 0 < o.queue.length) : recvF o w = ({ o with queue := o.queue.drop 1, received := o.received + 1 }, { tr0 with value := o.queue.headD v0, ok := true, number := o.received }) := by
  unfold recvF
  rw [if_neg (no_pair h), if_neg, if_pos h3]
  rintro ⟨g1, g2⟩
  rcases h2 with h2 | h2
  · rw [h2] at g1; cases g1
  · omega
theorem recv_exh (h : (otherF o.senders w.g).2 = false ∨ ¬ o.cap = 0) (h2 : o.queue.length = 0) (h3 : o.closed = true) : recvF o w = (o, { tr0 with number := o.received }) := by
  unfold recvF; rw [if_neg (no_pair h), if_neg (by rintro ⟨_, g⟩; omega), if_neg (by omega), if_pos h3]
theorem recv_park (h : (otherF o.senders w.g).2 = false ∨ ¬ o.cap = 0) (h2 : o.queue.length = 0) (h3 : o.closed = false) : recvF o w = ({ o with receivers := o.receivers ++ [⟨w.g, w.c, v0⟩] }, { tr0 with status := 1 }) := by
  unfold recvF; rw [if_neg (no_pair h), if_neg (by rintro ⟨_, g⟩; omega), if_neg (by omega), if_neg (by rw [h3]; simp)]
theorem close_no (h : o.closed = false) : closeF o = ({ o with closed := true, senders := [], receivers := [] }, { tr0 with number := o.received, woken := firstsF [] [] o.receivers, failed := firstsF (firstsF [] [] o.receivers) [] o.senders }) := by
  unfold closeF; rw [if_neg (by rw [h]; simp)]
end
theorem firsts_len (but : List Wt) : ∀ (l out : List Wt), (firstsF but out l).length ≤ out.length + l.length
  | [], out => by simp [firstsF]
  | w :: l, out => by
    simp only [firstsF]
    split
    · have := firsts_len but l out; simp; omega
    · have := firsts_len but l (out ++ [w]); simp at this ⊢; omega
theorem same_eq (a b : Ob) : (((((((((decide (a.id = b.id) && (a.chan == b.chan)) && decide (a.cap = b.cap)) && (a.closed == b.closed)) && decide (a.sent = b.sent)) && decide (a.received = b.received)) && decide (a.cells = b.cells)) && decide (a.queue = b.queue)) && decide (a.senders = b.senders)) && decide (a.receivers = b.receivers)) = decide (a = b) := by
  cases a; cases b
  rw [Bool.eq_iff_iff]
  simp only [Bool.and_eq_true, decide_eq_true_eq, beq_iff_eq, Ob.mk.injEq]
  constructor
  · rintro ⟨⟨⟨⟨⟨⟨⟨⟨⟨h1, h2⟩, h3⟩, h4⟩, h5⟩, h6⟩, h7⟩, h8⟩, h9⟩, h10⟩; exact ⟨h1, h7, h2, h3, h8, h4, h5, h6, h9, h10⟩
  · rintro ⟨h1, h7, h2, h3, h8, h4, h5, h6, h9, h10⟩; exact ⟨⟨⟨⟨⟨⟨⟨⟨⟨h1, h2⟩, h3⟩, h4⟩, h5⟩, h6⟩, h7⟩, h8⟩, h9⟩, h10⟩
theorem sameT_eq (a b : Trf) : ((((((((decide (a.status = b.status) && decide (a.value = b.value)) && (a.ok == b.ok)) && decide (a.number = b.number)) && (a.paired == b.paired)) && decide (a.partner = b.partner)) && decide (a.pnumber = b.pnumber)) && decide (a.woken = b.woken)) && decide (a.failed = b.failed)) = decide (a = b) := by
  cases a; cases b
  rw [Bool.eq_iff_iff]
  simp only [Bool.and_eq_true, decide_eq_true_eq, beq_iff_eq, Trf.mk.injEq]
  constructor
  · rintro ⟨⟨⟨⟨⟨⟨⟨⟨h1, h2⟩, h3⟩, h4⟩, h5⟩, h6⟩, h7⟩, h8⟩, h9⟩; exact ⟨h1, h2, h3, h4, h5, h6, h7, h8, h9⟩
  · rintro ⟨h1, h2, h3, h4, h5, h6, h7, h8, h9⟩; exact ⟨⟨⟨⟨⟨⟨⟨⟨h1, h2⟩, h3⟩, h4⟩, h5⟩, h6⟩, h7⟩, h8⟩, h9⟩
/-! ### the flags of Close -/
theorem goro_in {g : Int} (h : goro g = true) : 0 ≤ g ∧ g < 8 := by
  unfold goro at h
  simp only [Bool.and_eq_true, decide_eq_true_eq] at h
  omega
section
variable {s : List Bool} {w : Wt}
theorem seen_out (h : goro w.g = false) : seenF s w = (false, s) := by unfold seenF; rw [if_pos (.inl h)]
theorem seen_old (_h : goro w.g = true) (hk : w.g.toNat < s.length) (hs : s[w.g.toNat] = true) : seenF s w = (false, s) := by
  unfold seenF
  rw [if_pos (.inr (by rw [List.getElem?_eq_getElem hk]; exact hs))]
theorem seen_new (h : goro w.g = true) (hk : w.g.toNat < s.length) (hs : s[w.g.toNat] = false) : seenF s w = (true, s.set w.g.toNat true) := by
  unfold seenF
  rw [if_neg]
  rintro (h1 | h1)
  · rw [h] at h1; cases h1
  · rw [List.getElem?_eq_getElem hk] at h1
    simp [hs] at h1
end
theorem closeP_no {o : Ob} (h : o.closed = false) : closeP o = ({ o with closed := true, senders := [], receivers := [] },
    { tr0 with number := o.received, woken := (filterS seenF (List.replicate 8 false) [] o.receivers).1, failed := (filterS seenF (filterS seenF (List.replicate 8 false) [] o.receivers).2 [] o.senders).1 }) := by
  unfold closeP; rw [if_neg (by rw [h]; simp)]
section
variable {S : Type} {φ : S → Wt → Bool × S} {s : S} {out l : List Wt} {k : Nat} {r : List Wt × S}
theorem filterS_hit (hk : k < l.length) (h : filterS φ s out (l.drop k) = r) (hc : (φ s l[k]).1 = true) : filterS φ (φ s l[k]).2 (out ++ [l[k]]) (l.drop (k + 1)) = r := by
  rw [drop_at hk] at h
  simp only [filterS] at h
  rwa [if_pos hc] at h
theorem filterS_miss (hk : k < l.length) (h : filterS φ s out (l.drop k) = r) (hc : (φ s l[k]).1 = false) : filterS φ (φ s l[k]).2 out (l.drop (k + 1)) = r := by
  rw [drop_at hk] at h
  simp only [filterS] at h
  rwa [if_neg (by rw [hc]; simp)] at h
end
theorem seen_len (s : List Bool) (w : Wt) (h : s.length = 8) : (seenF s w).2.length = 8 := by
  unfold seenF
  split
  · exact h
  · simpa using h
theorem filterS_len : ∀ (l : List Wt) (s : List Bool) (out : List Wt), s.length = 8 → (filterS seenF s out l).2.length = 8
  | [], _, _, h => h
  | w :: l, s, out, h => by
    simp only [filterS]
    split
    · exact filterS_len l _ _ (seen_len s w h)
    · exact filterS_len l _ _ (seen_len s w h)
/-! ### fits -/
section
variable {o : Ob} {w : Wt} {other : List Wt} {k m : Nat}
theorem fits_head (h : (((decide (w.g < 0) || decide (w.g ≥ 8)) || decide (w.c < -1)) || decide (o.received ≥ 1099511627776)) = true) : fitsF o w other = false := by unfold fitsF; rw [h]; rfl
theorem fits_clash (hk : k < (o.senders ++ o.receivers).length) (h1 : (o.senders ++ o.receivers)[k].g = w.g) (h2 : ((decide ((o.senders ++ o.receivers)[k].c = w.c) || decide ((o.senders ++ o.receivers)[k].c = -1)) || decide (w.c = -1)) = true) : fitsF o w other = false := by
  have : ((o.senders ++ o.receivers).all fun x => !(clash x w)) = false := all_bad hk (by unfold clash; rw [h2, decide_eq_true h1]; rfl)
  unfold fitsF
  rw [this]
  simp
theorem no_clash2 {x : Wt} (h : ((decide (x.c = w.c) || decide (x.c = -1)) || decide (w.c = -1)) = false) : (!(clash x w)) = true := by unfold clash; rw [h]; simp
theorem fits_other (hm : m < other.length) (h : (((o.senders ++ o.receivers).any fun y => decide (y.g = w.g)) && (decide (other[m].g ≠ w.g) || decide (o.cap > 0))) = true) : fitsF o w other = false := by
  have : (other.all fun x => !(((o.senders ++ o.receivers).any fun y => decide (y.g = w.g)) && (decide (x.g ≠ w.g) || decide (o.cap > 0)))) = false := all_bad hm (by rw [h]; rfl)
  unfold fitsF
  rw [this]
  simp
theorem fits_yes (h : ((0 ≤ w.g ∧ w.g < 8) ∧ -1 ≤ w.c) ∧ o.received < 1099511627776) (h1 : (o.senders ++ o.receivers).all (fun x => !(clash x w)) = true) (h2 : other.all (fun x => !(((o.senders ++ o.receivers).any fun y => decide (y.g = w.g)) && (decide (x.g ≠ w.g) || decide (o.cap > 0)))) = true) : fitsF o w other = true := by
  unfold fitsF
  rw [h1, h2]
  simp
  omega
end
end Go.Ch
