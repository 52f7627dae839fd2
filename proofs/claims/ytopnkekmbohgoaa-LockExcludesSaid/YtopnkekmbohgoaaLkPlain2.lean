/- Sequences of operations of layer 18. -/
import Derived.Test.YtopnkekmbohgoaaLkPlain
namespace Go.Lk
open Go.AL

def ap (a : Int × Int) : List Pred := [eqP (.int .u8 a.1), eqP (.int .u8 a.2)]
theorem ap_len (a : Int × Int) : (ap a).length = 2 := rfl
def actF (s : Sy) (m g : Int) : Sy × Int := if m = 0 then lockF s g else if m = 1 then unlockF s else if m = 2 then rlockF s g else runlockF s g
def own (s : Sy) : Int := if s.owner ≥ 0 then 1 else 0
def nxt (s : Sy) (r : Sy × Int) : Sy := if r.2 = 0 then r.1 else s
def kindOf (rw : Bool) : Int := if rw then 2 else 1
structure Inv (rw : Bool) (s : Sy) : Prop where
  obj : s.obj = 4
  off : s.off = 2
  kind : s.kind = kindOf rw
  count : s.count = 0
  valid : validF s = true
theorem lock_cases {s : Sy} {g : Int} (hv : validF s = true) (hg : goro g = true) : ((s.owner < 0 ∧ s.readers.length = 0) ∧ lockF s g = ({ s with owner := g, readers := [] }, 0)) ∨ (¬ (s.owner < 0 ∧ s.readers.length = 0) ∧ lockF s g = (Sy.zero, 11)) := by
  unfold lockF
  rw [check_zero hv hg]
  by_cases h : s.owner < 0 ∧ s.readers.length = 0
  · left; have : canL s = true := by simp only [canL, h, decide_true, Bool.and_self]
    rw [this]; exact ⟨h, rfl⟩
  · right
    have : canL s = false := by
      cases hc : canL s with
      | false => rfl
      | true => simp only [canL, Bool.and_eq_true, decide_eq_true_eq] at hc; exact absurd hc h
    rw [this]; exact ⟨h, rfl⟩
theorem rlock_cases {s : Sy} {g : Int} (hv : validF s = true) (hg : goro g = true) : ((s.kind = 2 ∧ s.owner < 0) ∧ rlockF s g = ({ s with readers := s.readers ++ [g] }, 0)) ∨ (¬ (s.kind = 2 ∧ s.owner < 0) ∧ rlockF s g = (Sy.zero, 11)) := by
  unfold rlockF
  rw [check_zero hv hg]
  by_cases h : s.kind = 2 ∧ s.owner < 0
  · left; have : canR s = true := by simp only [canR, h, decide_true, Bool.and_self]
    rw [this]; exact ⟨h, rfl⟩
  · right
    have : canR s = false := by
      cases hc : canR s with
      | false => rfl
      | true => simp only [canR, Bool.and_eq_true, decide_eq_true_eq] at hc; exact absurd hc h
    rw [this]; exact ⟨h, rfl⟩
theorem unlock_cases {s : Sy} (hv : validF s = true) : (s.owner ≥ 0 ∧ unlockF s = ({ s with owner := -1, readers := [] }, 0)) ∨ (¬ s.owner ≥ 0 ∧ unlockF s = (Sy.zero, 11)) := by
  unfold unlockF
  rw [check_zero hv rfl]
  by_cases h : s.owner ≥ 0
  · left; rw [decide_eq_true h]; exact ⟨h, rfl⟩
  · right; rw [decide_eq_false h]; exact ⟨h, rfl⟩
theorem runlock_cases {s : Sy} {g : Int} (hv : validF s = true) (hg : goro g = true) : ((s.readers.length : Int) > 0 ∧ runlockF s g = ({ s with readers := rm s.readers g }, 0)) ∨ (¬ (s.readers.length : Int) > 0 ∧ runlockF s g = (Sy.zero, 11)) := by
  unfold runlockF
  rw [check_zero hv hg]
  by_cases h : (s.readers.length : Int) > 0
  · left; rw [decide_eq_true h]; exact ⟨h, rfl⟩
  · right; rw [decide_eq_false h]; exact ⟨h, rfl⟩
theorem rm_len {l : List Int} {g : Int} (h : 0 < l.length) : (rm l g).length + 1 = l.length := by
  have := idxN_lt g h
  simp [rm]
  omega

section
variable {rw : Bool} {s : Sy} {g : Int}
theorem Inv.owner (h : Inv rw s) : s.owner = -1 ∨ (0 ≤ s.owner ∧ s.owner < 8) := (valid_parts h.valid).1.2.2.2.2
theorem own_le (s : Sy) : 0 ≤ own s ∧ own s ≤ 1 := by unfold own; split <;> omega
theorem own_zero {s : Sy} : own s = 0 ↔ s.owner < 0 := by unfold own; split <;> omega
theorem own_one {s : Sy} : own s = 1 ↔ s.owner ≥ 0 := by unfold own; split <;> omega
theorem lock_test (h : Inv rw s) (hg : goro g = true) : decide ((lockF s g).2 = 0) = (decide (own s = 0) && decide ((s.readers.length : Int) = 0)) := by
  rcases lock_cases h.valid hg with ⟨h1, h2⟩ | ⟨h1, h2⟩ <;> rw [h2]
  · rw [decide_eq_true (own_zero.2 h1.1), decide_eq_true (show (s.readers.length : Int) = 0 by omega)]; rfl
  · have : (decide (own s = 0) && decide ((s.readers.length : Int) = 0)) = false := by
      rw [Bool.and_eq_false_iff]
      simp only [decide_eq_false_iff_not, own_zero]
      omega
    rw [this]; rfl
theorem unlock_test (h : Inv rw s) : decide ((unlockF s).2 = 0) = decide (own s = 1) := by
  rcases unlock_cases h.valid with ⟨h1, h2⟩ | ⟨h1, h2⟩ <;> rw [h2]
  · rw [decide_eq_true (own_one.2 h1)]; rfl
  · rw [decide_eq_false (fun e => h1 (own_one.1 e))]; rfl
theorem rlock_test (h : Inv rw s) (hg : goro g = true) : decide ((rlockF s g).2 = 0) = (decide (own s = 0) && rw) := by
  have hk : s.kind = 2 ↔ rw = true := by rw [h.kind]; cases rw <;> simp [kindOf]
  rcases rlock_cases h.valid hg with ⟨h1, h2⟩ | ⟨h1, h2⟩ <;> rw [h2]
  · rw [decide_eq_true (own_zero.2 h1.2), hk.1 h1.1]; rfl
  · have : (decide (own s = 0) && rw) = false := by
      rw [Bool.and_eq_false_iff]
      simp only [decide_eq_false_iff_not, own_zero]
      by_cases h3 : s.owner < 0
      · right
        cases hr : rw with
        | false => rfl
        | true => exact absurd ⟨hk.2 hr, h3⟩ h1
      · exact .inl h3
    rw [this]; rfl
theorem runlock_test (h : Inv rw s) (hg : goro g = true) : decide ((runlockF s g).2 = 0) = decide ((s.readers.length : Int) > 0) := by
  rcases runlock_cases h.valid hg with ⟨h1, h2⟩ | ⟨h1, h2⟩ <;> rw [h2]
  · rw [decide_eq_true h1]; rfl
  · rw [decide_eq_false h1]; rfl

theorem nxt_ok {r : Sy × Int} (h : r.2 = 0) : nxt s r = r.1 := by simp [nxt, h]
theorem nxt_no {r : Sy × Int} (h : ¬ r.2 = 0) : nxt s r = s := by simp [nxt, h]
theorem lock_next (h : Inv rw s) (hg : goro g = true) : Inv rw (nxt s (lockF s g)) ∧ ((lockF s g).2 = 0 → own s = 0 ∧ own (nxt s (lockF s g)) = 1 ∧ (nxt s (lockF s g)).readers.length = s.readers.length) ∧ (nxt s (lockF s g)).readers.length ≤ s.readers.length + 1 := by
  have hp := valid_parts h.valid
  have hgb := goro_b hg
  rcases lock_cases h.valid hg with ⟨h1, h2⟩ | ⟨h1, h2⟩ <;> rw [h2]
  · rw [nxt_ok rfl]
    refine ⟨⟨h.obj, h.off, h.kind, h.count, valid_mk ?_ (.inl rfl) (by simp)⟩, fun _ => ⟨?_, ?_, by simp only [List.length_nil]; omega⟩, by simp⟩
    · have := hp.1; unfold headOK at this ⊢; simp only; omega
    · unfold own; rw [if_neg (by omega)]
    · unfold own; simp only; rw [if_pos (by omega)]
  · rw [nxt_no (by decide)]
    exact ⟨h, fun e => absurd e (by decide), by omega⟩
theorem unlock_next (h : Inv rw s) : Inv rw (nxt s (unlockF s)) ∧ ((unlockF s).2 = 0 → own s = 1 ∧ own (nxt s (unlockF s)) = 0 ∧ (nxt s (unlockF s)).readers.length = s.readers.length) ∧ (nxt s (unlockF s)).readers.length ≤ s.readers.length + 1 := by
  have hp := valid_parts h.valid
  rcases unlock_cases h.valid with ⟨h1, h2⟩ | ⟨h1, h2⟩ <;> rw [h2]
  · rw [nxt_ok rfl]
    refine ⟨⟨h.obj, h.off, h.kind, h.count, valid_mk ?_ (.inl rfl) (by simp)⟩, fun _ => ⟨?_, ?_, ?_⟩, by simp⟩
    · have := hp.1; exact ⟨this.1, this.2.1, this.2.2.1, this.2.2.2.1, .inl rfl⟩
    · unfold own; rw [if_pos h1]
    · rfl
    · have := hp.2.1; unfold sharedOK at this; simp only [List.length_nil]; omega
  · rw [nxt_no (by decide)]
    exact ⟨h, fun e => absurd e (by decide), by omega⟩
theorem rlock_next (h : Inv rw s) (hg : goro g = true) : Inv rw (nxt s (rlockF s g)) ∧ ((rlockF s g).2 = 0 → own s = 0 ∧ own (nxt s (rlockF s g)) = 0 ∧ (nxt s (rlockF s g)).readers.length = s.readers.length + 1) ∧ (nxt s (rlockF s g)).readers.length ≤ s.readers.length + 1 := by
  have hp := valid_parts h.valid
  rcases rlock_cases h.valid hg with ⟨h1, h2⟩ | ⟨h1, h2⟩ <;> rw [h2]
  · rw [nxt_ok rfl]
    have ho := h.owner
    have hr : RdOK s := ⟨hp.1, h1.1, by omega⟩
    refine ⟨⟨h.obj, h.off, h.kind, h.count, hr.valid (goro_app hp.2.2 hg)⟩, fun _ => ⟨?_, ?_, by simp⟩, by simp⟩
    · unfold own; rw [if_neg (by omega)]
    · unfold own; simp only; rw [if_neg (by omega)]
  · rw [nxt_no (by decide)]
    exact ⟨h, fun e => absurd e (by decide), by omega⟩
theorem runlock_next (h : Inv rw s) (hg : goro g = true) : Inv rw (nxt s (runlockF s g)) ∧ ((runlockF s g).2 = 0 → own (nxt s (runlockF s g)) = own s ∧ (nxt s (runlockF s g)).readers.length + 1 = s.readers.length) ∧ (nxt s (runlockF s g)).readers.length ≤ s.readers.length + 1 := by
  have hp := valid_parts h.valid
  rcases runlock_cases h.valid hg with ⟨h1, h2⟩ | ⟨h1, h2⟩ <;> rw [h2]
  · rw [nxt_ok rfl]
    have hs := hp.2.1
    unfold sharedOK at hs
    have hk : s.kind = 2 := by
      have := h.kind
      have h3 := hp.1
      unfold headOK at h3
      omega
    have hr : RdOK s := ⟨hp.1, hk, by omega⟩
    refine ⟨⟨h.obj, h.off, h.kind, h.count, hr.valid fun x hx => hp.2.2 x (rm_sub x hx)⟩, fun _ => ⟨rfl, rm_len (by omega)⟩, ?_⟩
    have := rm_len (g := g) (show 0 < s.readers.length by omega)
    simp only
    omega
  · rw [nxt_no (by decide)]
    exact ⟨h, fun e => absurd e (by decide), by omega⟩
theorem act_next (h : Inv rw s) (m : Int) (hg : goro g = true) : Inv rw (nxt s (actF s m g)) ∧ (nxt s (actF s m g)).readers.length ≤ s.readers.length + 1 := by
  unfold actF
  split
  · have := lock_next h hg; exact ⟨this.1, this.2.2⟩
  · split
    · have := unlock_next h; exact ⟨this.1, this.2.2⟩
    · split
      · have := rlock_next h hg; exact ⟨this.1, this.2.2⟩
      · have := runlock_next h hg; exact ⟨this.1, this.2.2⟩
def fresh (rw : Bool) : Sy := ⟨4, 2, kindOf rw, -1, [], 0⟩
theorem fresh_new (rw : Bool) : newF (kindOf rw) 4 2 = (fresh rw, 0) := by cases rw <;> rfl
theorem fresh_inv (rw : Bool) : Inv rw (fresh rw) := ⟨rfl, rfl, rfl, rfl, by cases rw <;> rfl⟩
theorem last_test (h : Inv rw s) : ((((!validF s) || decide ((s.readers.length : Int) ≠ (s.readers.length : Int))) || !(decide (0 ≤ s.owner) == decide (own s = 1))) || ((decide (own s = 0) && decide ((s.readers.length : Int) = 0)) && !decide (s = fresh rw))) = false := by
  have ho := h.owner
  have h1 : (decide (0 ≤ s.owner) == decide (own s = 1)) = true := by
    unfold own
    split <;> rename_i h2
    · have h2 : 0 ≤ s.owner := h2
      simp [h2]
    · have h2 : ¬ 0 ≤ s.owner := h2
      simp [h2]
  rw [h.valid, h1]
  simp only [Bool.not_true, Bool.false_or, ne_eq, not_true_eq_false, decide_false, Bool.or_false]
  by_cases h3 : own s = 0 ∧ s.readers.length = 0
  · have : s = fresh rw := by
      obtain ⟨a1, a2, a3, a4, a5, a6⟩ := s
      have g1 := h.obj; have g2 := h.off; have g3 := h.kind; have g4 := h.count
      simp only at g1 g2 g3 g4 h3 ho
      have h4 : a4 = -1 := by
        have := h3.1
        unfold own at this
        simp only at this
        split at this <;> omega
      have h5 : a5 = [] := List.eq_nil_of_length_eq_zero h3.2
      subst g1 g2 g3 g4 h4 h5
      rfl
    rw [decide_eq_true this]
    simp
  · have : (decide (own s = 0) && decide ((s.readers.length : Int) = 0)) = false := by
      rw [Bool.and_eq_false_iff]
      simp only [decide_eq_false_iff_not]
      omega
    rw [this]
    rfl
end
end Go.Lk
