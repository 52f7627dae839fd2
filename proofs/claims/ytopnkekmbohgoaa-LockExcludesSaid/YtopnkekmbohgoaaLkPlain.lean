/- What the operations of layer 18 do to each other. -/
import Derived.Test.YtopnkekmbohgoaaLkTypes
namespace Go.Lk
open Go.AL

theorem valid_parts {s : Sy} (h : validF s = true) : headOK s ∧ sharedOK s ∧ ∀ x ∈ s.readers, goro x = true := by
  unfold validF at h
  split at h
  · rename_i h1
    split at h
    · rename_i h2
      exact ⟨h1, h2, List.all_eq_true.1 h⟩
    · cases h
  · cases h
theorem valid_mk {s : Sy} (h1 : headOK s) (h2 : sharedOK s) (h3 : ∀ x ∈ s.readers, goro x = true) : validF s = true := by
  rw [validF_all h1 h2]; exact List.all_eq_true.2 h3
theorem check_zero {s : Sy} {g : Int} {p : Bool} (hv : validF s = true) (hg : goro g = true) : checkF s g p = if p = false then 11 else 0 := by simp [checkF, hv, hg]
theorem goro_b {g : Int} (h : goro g = true) : 0 ≤ g ∧ g < 8 := by simpa [goro] using h

theorem undone_lock {s : Sy} {k : Int} (hv : validF s = true) (hk : goro k = true) (he : (lockF s k).2 = 0) : unlockF (lockF s k).1 = (s, 0) := by
  have hc : checkF s k (canL s) = 0 := by
    unfold lockF at he
    split at he
    · assumption
    · exact he
  have hp : canL s = true := by
    rw [check_zero hv hk] at hc
    cases h : canL s with
    | true => rfl
    | false => rw [h] at hc; simp at hc
  obtain ⟨h1, h2, h3⟩ := valid_parts hv
  have hb := goro_b hk
  simp only [canL, Bool.and_eq_true, decide_eq_true_eq] at hp
  have e1 : lockF s k = ({ s with owner := k, readers := [] }, 0) := by simp only [lockF, hc, if_true]
  rw [e1]
  have hv2 : validF { s with owner := k, readers := [] } = true := valid_mk (by unfold headOK at h1 ⊢; simp only; omega) (.inl rfl) (by simp)
  have hc2 : checkF { s with owner := k, readers := [] } 0 (decide (k ≥ 0)) = 0 := by rw [check_zero hv2 rfl]; simp; omega
  simp only [unlockF, hc2, if_true]
  obtain ⟨a1, a2, a3, a4, a5, a6⟩ := s
  simp only at hp
  have h4 : a4 = -1 := by unfold headOK at h1; simp only at h1; omega
  have h5 : a5 = [] := List.eq_nil_of_length_eq_zero hp.2
  simp [h4, h5]

def rm (l : List Int) (g : Int) : List Int := l.take (idxN l g) ++ l.drop (idxN l g + 1)
theorem rm_eq {l : List Int} {g : Int} (h : g ∈ l) : rm l g = l.erase g := by
  induction l with
  | nil => cases h
  | cons x l ih =>
    by_cases hx : x = g
    · subst hx
      simp [rm, idxN, List.findIdx?_cons]
    · have hg : g ∈ l := by
        rcases List.mem_cons.1 h with h | h
        · exact absurd h.symm hx
        · exact h
      have hf : ∃ i, l.findIdx? (fun y => decide (y = g)) = some i := by
        cases hq : l.findIdx? (fun y => decide (y = g)) with
        | some i => exact ⟨i, rfl⟩
        | none => have := List.findIdx?_eq_none_iff.1 hq g hg; simp at this
      obtain ⟨i, hi⟩ := hf
      have e : idxN (x :: l) g = idxN l g + 1 := by simp [idxN, List.findIdx?_cons, hx, hi]
      rw [List.erase_cons_tail (by simpa using hx), ← ih hg]
      unfold rm
      rw [e]
      rfl
theorem rm_sub {l : List Int} {g : Int} : ∀ x ∈ rm l g, x ∈ l := by
  intro x hx
  rcases List.mem_append.1 hx with h | h
  · exact List.mem_of_mem_take h
  · exact List.mem_of_mem_drop h

/-- a variable that may be locked for reading, with other readers -/
def rd (s : Sy) (l : List Int) : Sy := { s with readers := l }
structure RdOK (s : Sy) : Prop where
  head : headOK s
  kind : s.kind = 2
  owner : s.owner = -1
theorem RdOK.valid {s : Sy} (h : RdOK s) {l : List Int} (hl : ∀ x ∈ l, goro x = true) : validF (rd s l) = true :=
  valid_mk h.head (.inr ⟨by show s.kind ≠ 1; rw [h.kind]; decide, h.owner⟩) hl
theorem RdOK.rlock {s : Sy} (h : RdOK s) {l : List Int} (hl : ∀ x ∈ l, goro x = true) {g : Int} (hg : goro g = true) : rlockF (rd s l) g = (rd s (l ++ [g]), 0) := by
  have hc : canR (rd s l) = true := by simp [canR, rd, h.kind, h.owner]
  have : checkF (rd s l) g (canR (rd s l)) = 0 := by rw [check_zero (h.valid hl) hg, hc]; rfl
  simp only [rlockF, this, if_true]
  rfl
theorem RdOK.runlock {s : Sy} (h : RdOK s) {l : List Int} (hl : ∀ x ∈ l, goro x = true) {g : Int} (hg : goro g = true) (hn : l ≠ []) : runlockF (rd s l) g = (rd s (rm l g), 0) := by
  have hp : 0 < l.length := List.length_pos_iff.2 hn
  have : checkF (rd s l) g (decide (((rd s l).readers.length : Int) > 0)) = 0 := by
    rw [check_zero (h.valid hl) hg]
    have : ((rd s l).readers.length : Int) > 0 := by simp only [rd]; omega
    rw [decide_eq_true this]
    rfl
  simp only [runlockF, this, if_true]
  rfl
theorem rd_self (s : Sy) : rd s s.readers = s := rfl
theorem rlock_ok_of {s : Sy} {k : Int} (hv : validF s = true) (hk : goro k = true) (he : (rlockF s k).2 = 0) : RdOK s := by
  have hc : checkF s k (canR s) = 0 := by
    unfold rlockF at he
    split at he
    · assumption
    · exact he
  have hp : canR s = true := by
    rw [check_zero hv hk] at hc
    cases h : canR s with
    | true => rfl
    | false => rw [h] at hc; simp at hc
  obtain ⟨h1, h2, h3⟩ := valid_parts hv
  simp only [canR, Bool.and_eq_true, decide_eq_true_eq] at hp
  exact ⟨h1, hp.1, by unfold headOK at h1; omega⟩
theorem goro_app {l : List Int} {g : Int} (hl : ∀ x ∈ l, goro x = true) (hg : goro g = true) : ∀ x ∈ l ++ [g], goro x = true := by
  intro x hx
  rcases List.mem_append.1 hx with h | h
  · exact hl x h
  · simp at h; rw [h]; exact hg

theorem undone_rlock {s : Sy} {k : Int} (hv : validF s = true) (hk : goro k = true) (hn : ∀ x ∈ s.readers, decide (x = k) = false) (he : (rlockF s k).2 = 0) : runlockF (rlockF s k).1 k = (s, 0) := by
  have h := rlock_ok_of hv hk he
  have h3 := (valid_parts hv).2.2
  rw [← rd_self s, h.rlock h3 hk]
  simp only
  rw [h.runlock (goro_app h3 hk) hk (by simp), rm_eq (by simp), List.erase_append_right _ (by intro hm; have := hn k hm; simp at this)]
  simp
theorem commute {s : Sy} {a b : Int} (hv : validF s = true) (ha : goro a = true) (hb : goro b = true) (hne : ¬ a = b) (h1 : (rlockF s a).2 = 0) :
    (rlockF (rlockF s a).1 b).2 = 0 ∧ (runlockF (rlockF (rlockF s a).1 b).1 a).2 = 0 ∧ (runlockF (runlockF (rlockF (rlockF s a).1 b).1 a).1 b).2 = 0 ∧ (runlockF (rlockF (rlockF s a).1 b).1 b).2 = 0 ∧
      (runlockF (runlockF (rlockF (rlockF s a).1 b).1 b).1 a).2 = 0 ∧ (runlockF (runlockF (rlockF (rlockF s a).1 b).1 a).1 b).1 = (runlockF (runlockF (rlockF (rlockF s a).1 b).1 b).1 a).1 := by
  have h := rlock_ok_of hv ha h1
  have h3 := (valid_parts hv).2.2
  have e1 : rlockF s a = (rd s (s.readers ++ [a]), 0) := by rw [← h.rlock h3 ha]; rfl
  have g1 := goro_app h3 ha
  have g2 := goro_app g1 hb
  have ma : a ∈ s.readers ++ [a] ++ [b] := by simp
  have mb : b ∈ s.readers ++ [a] ++ [b] := by simp
  have gr : ∀ g, ∀ x ∈ rm (s.readers ++ [a] ++ [b]) g, goro x = true := fun g x hx => g2 x (rm_sub x hx)
  have ea : b ∈ rm (s.readers ++ [a] ++ [b]) a := by rw [rm_eq ma, List.mem_erase_of_ne (fun e => hne e.symm)]; exact mb
  have eb : a ∈ rm (s.readers ++ [a] ++ [b]) b := by rw [rm_eq mb, List.mem_erase_of_ne hne]; exact ma
  rw [e1]
  simp only
  rw [h.rlock g1 hb]
  simp only
  rw [h.runlock g2 ha (by simp), h.runlock g2 hb (by simp)]
  simp only
  rw [h.runlock (gr a) hb (List.ne_nil_of_mem ea), h.runlock (gr b) ha (List.ne_nil_of_mem eb), rm_eq ea, rm_eq eb, rm_eq ma, rm_eq mb, List.erase_comm]
  simp
end Go.Lk
