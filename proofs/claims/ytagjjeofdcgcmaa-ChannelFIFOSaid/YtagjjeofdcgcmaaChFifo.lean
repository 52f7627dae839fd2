/- The sequences of operations of layer 17 in plain words. -/
import Derived.Test.YtagjjeofdcgcmaaChPlain4
namespace Go.Ch
open Go.AL
structure Actn where
  kind : Int
  g : Int
  v : Int
  deriving DecidableEq, Inhabited
def actp (a : Actn) : List Pred := [eqP (.int .u8 a.kind), eqP (.int .u8 a.g), eqP (.int .i64 a.v)]
theorem actp_len (a : Actn) : (actp a).length = 3 := rfl
abbrev gI (a : Actn) : Int := IntKind.i64.wrap (a.g.tmod 8)
structure Byt (a : Actn) : Prop where
  k : 0 ≤ a.kind ∧ a.kind ≤ 255
  g : 0 ≤ a.g ∧ a.g ≤ 255
theorem gI_in {a : Actn} (h : Byt a) : 0 ≤ gI a ∧ gI a < 8 := by
  have h1 := h.g
  have h2 := Int.tmod_nonneg 8 h1.1
  have h3 := Int.tmod_lt_of_pos a.g (by decide : (0 : Int) < 8)
  rw [gI, wrap_in (by omega)]
  exact ⟨h2, h3⟩
/-- the state of a play -/
structure St where
  o : Ob
  sent : List Int
  rcd : List Int
  cl : Bool
  ws : List Bool
abbrev sW (a : Actn) : Wt := ⟨gI a, -1, ⟨0, a.v, 0⟩⟩
abbrev rW (a : Actn) : Wt := ⟨gI a, -1, v0⟩
def sndF (s : St) (a : Actn) : St :=
  ⟨(sendF s.o (sW a)).1, if (sendF s.o (sW a)).2.status = 0 then s.sent ++ [a.v] else s.sent, if (sendF s.o (sW a)).2.status = 0 ∧ (sendF s.o (sW a)).2.paired = true then s.rcd ++ [a.v] else s.rcd, s.cl,
    (if (sendF s.o (sW a)).2.status = 0 ∧ (sendF s.o (sW a)).2.paired = true then s.ws.set (sendF s.o (sW a)).2.partner.g.toNat false else s.ws).set (gI a).toNat (decide ((sendF s.o (sW a)).2.status = 1))⟩
def rcvF (s : St) (a : Actn) : St :=
  ⟨(recvF s.o (rW a)).1, if ((recvF s.o (rW a)).2.status = 0 ∧ (recvF s.o (rW a)).2.ok = true) ∧ (recvF s.o (rW a)).2.paired = true then s.sent ++ [(recvF s.o (rW a)).2.partner.v.n] else s.sent,
    if (recvF s.o (rW a)).2.status = 0 ∧ (recvF s.o (rW a)).2.ok = true then s.rcd ++ [(recvF s.o (rW a)).2.value.n] else s.rcd, s.cl,
    (if ((recvF s.o (rW a)).2.status = 0 ∧ (recvF s.o (rW a)).2.ok = true) ∧ (recvF s.o (rW a)).2.paired = true then s.ws.set (recvF s.o (rW a)).2.partner.g.toNat false else s.ws).set (gI a).toNat (decide ((recvF s.o (rW a)).2.status = 1))⟩
def clsF (s : St) (a : Actn) : St := ⟨(closeF s.o).1, s.sent, s.rcd, true, (List.replicate 8 false).set (gI a).toNat (decide ((closeF s.o).2.status = 1))⟩
def stepF (s : St) (a : Actn) : St :=
  if s.ws[(gI a).toNat]?.getD false = true then s else if a.kind.tmod 3 = 0 then sndF s a else if a.kind.tmod 3 = 1 then rcvF s a else clsF s a
def st0 (c : Int) : St := ⟨(newF c).1, [], [], false, List.replicate 8 false⟩
def playF (c : Int) (l : List Actn) : St := l.foldl stepF (st0 c)
/-! ### who waits -/
def Wts (ws : List Bool) (l : List Wt) : Prop := ∀ n : Nat, n < 8 → (ws[n]? = some true ↔ ∃ x ∈ l, x.g = (n : Int))
section
variable {ws : List Bool} {l l' : List Wt} {g : Nat}
theorem Wts.same (h : Wts ws l) (hg : ws[g]? = some false) : Wts (ws.set g false) l := fun n hn => by
  rw [← h n hn, List.getElem?_set]
  by_cases e : g = n
  · subst e
    have := (List.getElem?_eq_some_iff.1 hg).1
    simp [hg]
  · simp [e]
theorem Wts.leave (h : Wts ws l) {r : Int} (h0 : 0 ≤ r) : Wts (ws.set r.toNat false) (l.filter fun w => decide (w.g ≠ r)) := fun n hn => by
  rw [List.getElem?_set]
  have e : (∃ x ∈ l.filter fun w => decide (w.g ≠ r), x.g = (n : Int)) ↔ (n : Int) ≠ r ∧ ∃ x ∈ l, x.g = (n : Int) := by
    simp only [List.mem_filter, decide_eq_true_eq]
    constructor
    · rintro ⟨x, ⟨h1, h2⟩, h3⟩; exact ⟨h3 ▸ h2, x, h1, h3⟩
    · rintro ⟨h1, x, h2, h3⟩; exact ⟨x, ⟨h2, h3 ▸ h1⟩, h3⟩
  rw [e, ← h n hn]
  by_cases e : r.toNat = n
  · have : (n : Int) = r := by omega
    simp only [if_pos e, this, ne_eq, not_true, false_and, iff_false]
    split <;> simp
  · have : ¬ (n : Int) = r := by omega
    simp [e, this]
theorem Wts.add (h : Wts ws l) {w : Wt} (hw : w.g = (g : Int)) (hl : g < ws.length) (hm : ∀ x, x ∈ l' ↔ x ∈ l ∨ x = w) : Wts (ws.set g true) l' := fun n hn => by
  rw [List.getElem?_set]
  have e : (∃ x ∈ l', x.g = (n : Int)) ↔ (n = g ∨ ∃ x ∈ l, x.g = (n : Int)) := by
    constructor
    · rintro ⟨x, h1, h2⟩
      rcases (hm x).1 h1 with h3 | h3
      · exact .inr ⟨x, h3, h2⟩
      · subst h3; exact .inl (by omega)
    · rintro (h1 | ⟨x, h1, h2⟩)
      · exact ⟨w, (hm w).2 (.inr rfl), by omega⟩
      · exact ⟨x, (hm x).2 (.inl h1), h2⟩
  rw [e, ← h n hn]
  by_cases e : g = n
  · simp [e, e ▸ hl]
  · have : ¬ n = g := fun h => e h.symm
    simp [e, this]
theorem Wts.zero : Wts (List.replicate 8 false) [] := fun n hn => by
  rw [List.getElem?_replicate_of_lt hn]
  simp
theorem Wts.none (hg : g < 8) : Wts ((List.replicate 8 false).set g false) [] := Wts.zero.same (List.getElem?_replicate_of_lt hg)
theorem set_false (h : ws[g]? = some false) (r : Nat) : (ws.set r false)[g]? = some false := by
  rw [List.getElem?_set]
  by_cases e : r = g
  · have := (List.getElem?_eq_some_iff.1 h).1
    simp [e, this]
  · simp [e, h]
end
structure Pl (c : Int) (k : Nat) (s : St) : Prop where
  vd : Vd s.o
  cp : s.o.cap = c
  cl : s.o.closed = s.cl
  sl : s.o.sent = (s.sent.length : Int)
  rl : s.o.received = (s.rcd.length : Int)
  fifo : s.sent = s.rcd ++ s.o.queue.map V.n
  wl : s.ws.length = 8
  wt : Wts s.ws (s.o.senders ++ s.o.receivers)
  few : s.sent.length ≤ k ∧ s.rcd.length ≤ k ∧ s.o.senders.length ≤ k ∧ s.o.receivers.length ≤ k
theorem pl0 {c : Int} (h : 0 ≤ c ∧ c ≤ 64) : Pl c 0 (st0 c) := by
  have he : newF c = ({ ob0 with chan := true, cap := c }, 0) := by unfold newF; rw [if_neg (by omega)]
  have hv := (valid_iff _).1 (new_valid (x := c) (by rw [he]))
  unfold st0
  rw [he] at hv ⊢
  exact ⟨hv, rfl, rfl, rfl, rfl, rfl, rfl, Wts.zero, by simp [ob0]⟩
section
variable {c : Int} {k : Nat} {s : St} {a : Actn}
theorem Pl.small (h : Pl c k s) (hk : k ≤ 60) : Small s.o := by
  obtain ⟨a1, a2, a3, a4, a5, a6, a7, a8⟩ := h.vd.h1
  have h1 := h.few
  have h2 := h.sl
  have h3 := h.rl
  exact ⟨⟨by omega, by omega, by omega, by omega⟩, by omega, by omega⟩
theorem Pl.next (h : Pl c k s) : Pl c (k + 1) s := ⟨h.vd, h.cp, h.cl, h.sl, h.rl, h.fifo, h.wl, h.wt, by have := h.few; omega⟩
theorem Pl.idle (h : Pl c k s) (ha : Byt a) (hw : ¬ s.ws[(gI a).toNat]?.getD false = true) : s.ws[(gI a).toNat]? = some false ∧ ∀ x ∈ s.o.senders ++ s.o.receivers, x.g ≠ gI a := by
  have hg := gI_in ha
  have hl := h.wl
  have e := List.getElem?_eq_getElem (by omega : (gI a).toNat < s.ws.length)
  rw [e] at hw ⊢
  have e2 : s.ws[(gI a).toNat] = false := by simpa using hw
  refine ⟨by rw [e2], fun x hx he => ?_⟩
  have := (h.wt (gI a).toNat (by omega)).2 ⟨x, hx, by omega⟩
  rw [e, e2] at this
  cases this
theorem Pl.fits (h : Pl c k s) (hk : k ≤ 60) (ha : Byt a) (hi : ∀ x ∈ s.o.senders ++ s.o.receivers, x.g ≠ gI a) (v : V) (l : List Wt) : Fits s.o ⟨gI a, -1, v⟩ l := by
  have hg := gI_in ha
  have h1 := h.rl
  have h2 := h.few
  refine ⟨?_, by omega, fun x hx => ?_, fun x hx ⟨y, hy, he⟩ => absurd he (hi y hy)⟩
  · unfold inR
    simp only [Bool.not_eq_true', Bool.or_eq_false_iff, decide_eq_false_iff_not]
    omega
  · unfold clash
    rw [decide_eq_false (hi x hx)]
    rfl
theorem other_in {l : List Wt} {o : Ob} {x : Int} (hv : Vd o) (h : (otherF l x).2 = true) (hl : ∀ w ∈ l, w ∈ o.senders ++ o.receivers) : 0 ≤ (otherF l x).1.g ∧ (otherF l x).1.g < 8 := goro_in (inR_goro (((waitersF_iff _ _).1 hv.h4).1 _ (hl _ (other_find h).1)))
theorem Pl.waits (h : Pl c k s) {l : List Wt} {x : Int} (ho : (otherF l x).2 = true) (hl : ∀ w ∈ l, w ∈ s.o.senders ++ s.o.receivers) : s.ws[(otherF l x).1.g.toNat]? = some true := by
  have hg := other_in h.vd ho hl
  exact (h.wt _ (by omega)).2 ⟨_, hl _ (other_find ho).1, by omega⟩
theorem filter_app {p : Wt → Bool} (a b : List Wt) : a.filter p ++ b.filter p = (a ++ b).filter p := (List.filter_append ..).symm

theorem snd_facts (h : Pl c k s) :
    ((sendF s.o (sW a)).2.status = 0 → (sendF s.o (sW a)).2.number = (s.sent.length : Int) ∧ (sendF s.o (sW a)).2.value = (sW a).v) ∧
    ((sendF s.o (sW a)).2.status = 0 → (sendF s.o (sW a)).2.paired = true → (sendF s.o (sW a)).2.pnumber = (s.rcd.length : Int) ∧ (0 ≤ (sendF s.o (sW a)).2.partner.g ∧ (sendF s.o (sW a)).2.partner.g < 8) ∧ s.ws[(sendF s.o (sW a)).2.partner.g.toNat]? = some true) ∧
    (decide ((sendF s.o (sW a)).2.status = 2) = s.cl) := by
  have hsl := h.sl
  have hrl := h.rl
  have h18 := h.vd.h1.2.2.2.2.2.2.2
  unfold sendF
  cases h1 : s.o.closed with
  | true => rw [if_pos rfl]; exact ⟨fun e => by simp at e, fun e => by simp at e, by rw [← h.cl, h1]; rfl⟩
  | false =>
    rw [if_neg (by simp)]
    have hcl : s.cl = false := by rw [← h.cl, h1]
    cases h2 : (otherF s.o.receivers (sW a).g).2 with
    | true =>
      rw [if_pos rfl]
      have hne : s.o.receivers ≠ [] := List.ne_nil_of_mem (other_find h2).1
      have hq := h.vd.h2.2.2 hne
      have hin : ∀ w ∈ s.o.receivers, w ∈ s.o.senders ++ s.o.receivers := fun w hw => List.mem_append_right _ hw
      rw [hq] at h18
      refine ⟨fun _ => ⟨hsl, rfl⟩, fun _ _ => ⟨?_, other_in h.vd h2 hin, h.waits h2 hin⟩, by rw [hcl]; rfl⟩
      simp only [List.length_nil] at h18
      show s.o.sent = _
      omega
    | false =>
      rw [if_neg (by simp)]
      by_cases h3 : (s.o.queue.length : Int) < s.o.cap
      · rw [if_pos h3]; exact ⟨fun _ => ⟨hsl, rfl⟩, fun _ e => by simp [tr0] at e, by rw [hcl]; rfl⟩
      · rw [if_neg h3]; exact ⟨fun e => by simp at e, fun e => by simp at e, by rw [hcl]; rfl⟩
theorem rcv_facts (h : Pl c k s) :
    ((recvF s.o (rW a)).2.status = 0 → (recvF s.o (rW a)).2.ok = true → (recvF s.o (rW a)).2.number = (s.rcd.length : Int)) ∧
    ((recvF s.o (rW a)).2.status = 0 → (recvF s.o (rW a)).2.ok = true → (recvF s.o (rW a)).2.paired = true → (recvF s.o (rW a)).2.pnumber = (s.sent.length : Int) ∧ (0 ≤ (recvF s.o (rW a)).2.partner.g ∧ (recvF s.o (rW a)).2.partner.g < 8) ∧ s.ws[(recvF s.o (rW a)).2.partner.g.toNat]? = some true) := by
  have hsl := h.sl
  have hrl := h.rl
  have hin : ∀ w ∈ s.o.senders, w ∈ s.o.senders ++ s.o.receivers := fun w hw => List.mem_append_left _ hw
  unfold recvF
  split
  · rename_i h2
    exact ⟨fun _ _ => hrl, fun _ _ _ => ⟨hsl, other_in h.vd h2.1 hin, h.waits h2.1 hin⟩⟩
  · split
    · rename_i h2
      exact ⟨fun _ _ => hrl, fun _ _ _ => ⟨hsl, other_in h.vd h2.1 hin, h.waits h2.1 hin⟩⟩
    · split
      · exact ⟨fun _ _ => hrl, fun _ _ e => by simp [tr0] at e⟩
      · split
        · exact ⟨fun _ e => by simp [tr0] at e, fun _ e => by simp [tr0] at e⟩
        · exact ⟨fun e => by simp at e, fun e => by simp at e⟩
theorem cls_facts (h : Pl c k s) : decide ((closeF s.o).2.status = 2) = s.cl ∧ (closeF s.o).2.status ≠ 1 := by
  rw [← h.cl]
  unfold closeF
  cases h1 : s.o.closed with
  | true => rw [if_pos rfl]; exact ⟨rfl, by simp⟩
  | false => rw [if_neg (by simp)]; exact ⟨rfl, by simp [tr0]⟩
theorem pl_snd (h : Pl c k s) (hk : k ≤ 60) (ha : Byt a) (hw : ¬ s.ws[(gI a).toNat]?.getD false = true) : Pl c (k + 1) (sndF s a) := by
  obtain ⟨hi, hn⟩ := h.idle ha hw
  have hg := gI_in ha
  have hv := send_valid h.vd (h.fits hk ha hn ⟨0, a.v, 0⟩ s.o.receivers)
  obtain ⟨hvd, hcp, hcl, hsl, hrl, hff, hwl, hwt, hfw⟩ := h
  have h18 := hvd.h1.2.2.2.2.2.2.2
  unfold sndF
  revert hv
  unfold sendF
  cases h1 : s.o.closed with
  | true =>
    rw [if_pos rfl]
    intro hv
    refine ⟨hv, hcp, h1.trans (h1.symm.trans hcl), by simpa using hsl, by simpa using hrl, by simpa using hff, by simp [hwl, tr0], by simpa using hwt.same hi, by simp; omega⟩
  | false =>
    rw [if_neg (by simp)]
    cases h2 : (otherF s.o.receivers (sW a).g).2 with
    | true =>
      rw [if_pos rfl]
      intro hv
      have hne : s.o.receivers ≠ [] := List.ne_nil_of_mem (other_find h2).1
      have hq := hvd.h2.2.2 hne
      have hin : ∀ w ∈ s.o.receivers, w ∈ s.o.senders ++ s.o.receivers := fun w hw => List.mem_append_right _ hw
      have ho := other_in hvd h2 hin
      rw [hq] at h18 hff
      have l1 := List.length_filter_le (fun w => decide (w.g ≠ (otherF s.o.receivers (sW a).g).1.g)) s.o.senders
      have l2 := List.length_filter_le (fun w => decide (w.g ≠ (otherF s.o.receivers (sW a).g).1.g)) s.o.receivers
      simp only [List.map_nil, List.append_nil] at hff
      refine ⟨hv, hcp, h1.symm ▸ hcl, by simp [tr0]; omega, by simp [tr0]; omega, ?_, by simp [hwl, tr0], ?_, ?_⟩
      · simp [leaveF, hq, hff, tr0]
      · have := (hwt.leave ho.1).same (set_false hi _)
        rw [List.filter_append] at this
        simpa [tr0, leaveF] using this
      · simp [leaveF, tr0] at l1 l2 ⊢; omega
    | false =>
      rw [if_neg (by simp)]
      by_cases h3 : (s.o.queue.length : Int) < s.o.cap
      · rw [if_pos h3]
        intro hv
        refine ⟨hv, hcp, h1.symm ▸ hcl, by simp [tr0]; omega, by simpa [tr0] using hrl, by simp [tr0, hff], by simp [hwl, tr0], by simpa [tr0] using hwt.same hi, by simp [tr0]; omega⟩
      · rw [if_neg h3]
        intro hv
        refine ⟨hv, hcp, h1.symm ▸ hcl, by simpa using hsl, by simpa using hrl, by simpa using hff, by simp [hwl, tr0], ?_, by simp; omega⟩
        have := hwt.add (w := sW a) (g := (gI a).toNat) (l' := (s.o.senders ++ [sW a]) ++ s.o.receivers) (by show gI a = _; omega) (by omega) (fun x => by
          simp only [List.mem_append, List.mem_singleton]
          constructor <;> rintro ((h | h) | h)
          · exact .inl (.inl h)
          · exact .inr h
          · exact .inl (.inr h)
          · exact .inl (.inl h)
          · exact .inr h
          · exact .inl (.inr h))
        simpa using this
theorem pl_rcv (h : Pl c k s) (hk : k ≤ 60) (ha : Byt a) (hw : ¬ s.ws[(gI a).toNat]?.getD false = true) : Pl c (k + 1) (rcvF s a) := by
  obtain ⟨hi, hn⟩ := h.idle ha hw
  have hg := gI_in ha
  have hv := recv_valid h.vd (h.fits hk ha hn v0 s.o.senders)
  obtain ⟨hvd, hcp, hcl, hsl, hrl, hff, hwl, hwt, hfw⟩ := h
  have h18 := hvd.h1.2.2.2.2.2.2.2
  have h15 := hvd.h1.2.2.2.2.1
  have l1 := List.length_filter_le (fun w => decide (w.g ≠ (otherF s.o.senders (rW a).g).1.g)) s.o.senders
  have l2 := List.length_filter_le (fun w => decide (w.g ≠ (otherF s.o.senders (rW a).g).1.g)) s.o.receivers
  have hin : ∀ w ∈ s.o.senders, w ∈ s.o.senders ++ s.o.receivers := fun w hw => List.mem_append_left _ hw
  unfold rcvF
  revert hv
  unfold recvF
  split
  · rename_i h2
    intro hv
    have ho := other_in hvd h2.1 hin
    have hq : s.o.queue = [] := List.eq_nil_of_length_eq_zero (by omega)
    refine ⟨hv, hcp, hcl, by simp [tr0]; omega, by simp [tr0]; omega, ?_, by simp [hwl, tr0], ?_, ?_⟩
    · simp [leaveF, hq, tr0] at hff ⊢; exact hff
    · have := (hwt.leave ho.1).same (set_false hi _)
      rw [List.filter_append] at this
      simpa [tr0, leaveF] using this
    · simp [leaveF, tr0] at l1 l2 ⊢; omega
  · split
    · rename_i h2
      intro hv
      have ho := other_in hvd h2.1 hin
      refine ⟨hv, hcp, hcl, by simp [tr0]; omega, by simp [tr0]; omega, ?_, by simp [hwl, tr0], ?_, ?_⟩
      · cases hq : s.o.queue with
        | nil => rw [hq] at h2; simp at h2
        | cons q l => simp [hff, hq, tr0]
      · have := (hwt.leave ho.1).same (set_false hi _)
        rw [List.filter_append] at this
        simpa [tr0, leaveF] using this
      · simp [leaveF, tr0] at l1 l2 ⊢; omega
    · split
      · rename_i h2
        intro hv
        refine ⟨hv, hcp, hcl, by simpa [tr0] using hsl, by simp [tr0]; omega, ?_, by simp [hwl, tr0], by simpa [tr0] using hwt.same hi, by simp [tr0]; omega⟩
        cases hq : s.o.queue with
        | nil => rw [hq] at h2; simp at h2
        | cons q l => simp [hff, hq, tr0]
      · split
        · intro hv
          exact ⟨hv, hcp, hcl, by simpa [tr0] using hsl, by simpa [tr0] using hrl, by simpa [tr0] using hff, by simp [hwl, tr0], by simpa [tr0] using hwt.same hi, by simp [tr0]; omega⟩
        · intro hv
          refine ⟨hv, hcp, hcl, by simpa using hsl, by simpa using hrl, by simpa using hff, by simp [hwl, tr0], ?_, by simp; omega⟩
          have := hwt.add (w := rW a) (g := (gI a).toNat) (l' := s.o.senders ++ (s.o.receivers ++ [rW a])) (by show gI a = _; omega) (by omega) (fun x => by simp [or_assoc])
          simpa using this
theorem pl_cls (h : Pl c k s) (ha : Byt a) : Pl c (k + 1) (clsF s a) := by
  have hg := gI_in ha
  have hv := close_valid h.vd
  have h2 := (cls_facts h).2
  obtain ⟨hvd, hcp, hcl, hsl, hrl, hff, hwl, hwt, hfw⟩ := h
  unfold clsF
  rw [decide_eq_false h2]
  revert hv
  unfold closeF
  cases h1 : s.o.closed with
  | true =>
    rw [if_pos rfl]
    intro hv
    obtain ⟨e1, e2⟩ := hvd.h2.1 h1
    refine ⟨hv, hcp, h1, hsl, hrl, hff, by simp, ?_, by simp only; omega⟩
    simp only [e1, e2, List.append_nil]
    exact Wts.none (by omega)
  | false =>
    rw [if_neg (by simp)]
    intro hv
    refine ⟨hv, hcp, rfl, hsl, hrl, hff, by simp, Wts.none (by omega), by simp; omega⟩
theorem pl_step (h : Pl c k s) (hk : k ≤ 60) (ha : Byt a) : Pl c (k + 1) (stepF s a) := by
  unfold stepF
  split
  · exact h.next
  · rename_i hw
    split
    · exact pl_snd h hk ha hw
    · split
      · exact pl_rcv h hk ha hw
      · exact pl_cls h ha
theorem Pl.checks (h : Pl c k s) (_hc : 0 ≤ c) : (s.o.queue.length : Int) ≤ c ∧ s.o.sent = (s.sent.length : Int) ∧ s.o.received = (s.rcd.length : Int) ∧ (s.o.queue.length : Int) = (s.sent.length : Int) - (s.rcd.length : Int) := by
  obtain ⟨a1, a2, a3, a4, a5, a6, a7, a8⟩ := h.vd.h1
  have := h.cp
  have := h.sl
  have := h.rl
  omega
theorem pl_fold {c : Int} (h0 : 0 ≤ c ∧ c ≤ 64) {l : List Actn} (hl : l.length ≤ 60) (hb : ∀ a ∈ l, Byt a) : ∀ k, k ≤ l.length → Pl c k ((l.take k).foldl stepF (st0 c))
  | 0, _ => pl0 h0
  | k + 1, hk => by
    rw [take_at (by omega : k < l.length), List.foldl_append]
    exact pl_step (pl_fold h0 hl hb k (by omega)) (by omega) (hb _ (List.getElem_mem ..))
theorem fold_step {c : Int} {l : List Actn} {k : Nat} {s : St} (hk : k < l.length) (h : s = (l.take k).foldl stepF (st0 c)) : stepF s l[k] = (l.take (k + 1)).foldl stepF (st0 c) := by
  rw [take_at hk, List.foldl_append, ← h]
  rfl
theorem fold_end {c : Int} {l : List Actn} {k : Nat} {s : St} (hk : l.length ≤ k) (h : s = (l.take k).foldl stepF (st0 c)) : s = playF c l := by rw [h, List.take_of_length_le hk]; rfl
theorem fifo_get {c : Int} {k : Nat} {s : St} (h : Pl c k s) {i : Nat} (hi : i < s.rcd.length) : s.rcd.length ≤ s.sent.length ∧ s.sent[i]? = some s.rcd[i] := by
  rw [h.fifo]
  refine ⟨by simp, ?_⟩
  rw [List.getElem?_append_left hi, List.getElem?_eq_getElem hi]
end
end Go.Ch
