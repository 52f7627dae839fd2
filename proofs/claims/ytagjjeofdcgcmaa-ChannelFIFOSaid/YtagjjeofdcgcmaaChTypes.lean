/- The data of layer 17: channels; what the functions compute. -/
import Derived.Test.YtagjjeofdcgcmaaAlGrow
import Derived.Test.YtagjjeofdcgcmaaAlRead
namespace Go.Ch
open Go.AL

structure V where
  kind : Int
  n : Int
  off : Int
  deriving DecidableEq, Inhabited
structure Wt where
  g : Int
  c : Int
  v : V
  deriving DecidableEq, Inhabited
structure Ob where
  id : Int
  cells : List V
  chan : Bool
  cap : Int
  queue : List V
  closed : Bool
  sent : Int
  received : Int
  senders : List Wt
  receivers : List Wt
  deriving DecidableEq, Inhabited
structure Trf where
  status : Int
  value : V
  ok : Bool
  number : Int
  paired : Bool
  partner : Wt
  pnumber : Int
  woken : List Wt
  failed : List Wt
  deriving DecidableEq, Inhabited
def v0 : V := ⟨0, 0, 0⟩
def w0 : Wt := ⟨0, 0, v0⟩
def ob0 : Ob := ⟨0, [], false, 0, [], false, 0, 0, [], []⟩
def tr0 : Trf := ⟨0, v0, false, 0, false, w0, 0, [], []⟩
def vp (v : V) : List Pred := [eqP (.int .i64 v.kind), eqP (.int .i64 v.n), eqP (.int .i64 v.off)]
theorem vp_len (v : V) : (vp v).length = 3 := rfl
def wp (w : Wt) : List Pred := [eqP (.int .i64 w.g), eqP (.int .i64 w.c), eqP (.int .i64 w.v.kind), eqP (.int .i64 w.v.n), eqP (.int .i64 w.v.off)]
theorem wp_len (w : Wt) : (wp w).length = 5 := rfl
def vv (v : V) : List Value := [.int .i64 v.kind, .int .i64 v.n, .int .i64 v.off]
def wv (w : Wt) : List Value := [.int .i64 w.g, .int .i64 w.c, .int .i64 w.v.kind, .int .i64 w.v.n, .int .i64 w.v.off]
def Ob.ps (o : Ob) : List Pred := [eqP (.int .i64 o.id), slP vp 3 o.cells, eqP (.bool o.chan), eqP (.int .i64 o.cap), slP vp 3 o.queue, eqP (.bool o.closed), eqP (.int .i64 o.sent), eqP (.int .i64 o.received), slP wp 5 o.senders, slP wp 5 o.receivers]
def Trf.ps (t : Trf) : List Pred := [eqP (.int .i64 t.status), eqP (.int .i64 t.value.kind), eqP (.int .i64 t.value.n), eqP (.int .i64 t.value.off), eqP (.bool t.ok), eqP (.int .i64 t.number), eqP (.bool t.paired), eqP (.int .i64 t.partner.g), eqP (.int .i64 t.partner.c),
  eqP (.int .i64 t.partner.v.kind), eqP (.int .i64 t.partner.v.n), eqP (.int .i64 t.partner.v.off), eqP (.int .i64 t.pnumber), slP wp 5 t.woken, slP wp 5 t.failed]
/-- an operation: a channel with a waiter -/
structure Opn where
  o : Ob
  w : Wt
def Opn.ps (p : Opn) : List Pred := [eqP (.int .i64 p.o.id), slP vp 3 p.o.cells, eqP (.bool p.o.chan), eqP (.int .i64 p.o.cap), slP vp 3 p.o.queue, eqP (.bool p.o.closed), eqP (.int .i64 p.o.sent), eqP (.int .i64 p.o.received), slP wp 5 p.o.senders, slP wp 5 p.o.receivers,
  eqP (.int .i64 p.w.g), eqP (.int .i64 p.w.c), eqP (.int .i64 p.w.v.kind), eqP (.int .i64 p.w.v.n), eqP (.int .i64 p.w.v.off)]
def ip (x : Int) : List Pred := [eqP (.int .i64 x)]
theorem ip_len (x : Int) : (ip x).length = 1 := rfl
def bp (b : Bool) : List Pred := [eqP (.bool b)]
theorem bp_len (b : Bool) : (bp b).length = 1 := rfl
def lp (l : List Wt) : List Pred := [slP wp 5 l]
theorem lp_len (l : List Wt) : (lp l).length = 1 := rfl

/-- small enough for every function here -/
structure Lens (o : Ob) : Prop where
  cells : o.cells.length ≤ 1000
  queue : o.queue.length ≤ 1000
  senders : o.senders.length ≤ 1000
  receivers : o.receivers.length ≤ 1000
structure Small (o : Ob) : Prop extends Lens o where
  sent : -4611686018427387904 ≤ o.sent ∧ o.sent ≤ 4611686018427387904
  received : -4611686018427387904 ≤ o.received ∧ o.received ≤ 4611686018427387904

def goro (g : Int) : Bool := decide (g ≥ 0) && decide (g < 8)
def newF (cap : Int) : Ob × Int := if cap < 0 ∨ 64 < cap then (ob0, 1) else ({ ob0 with chan := true, cap := cap }, 0)
def sendReady (o : Ob) : Bool := (o.closed || decide ((o.receivers.length : Int) > 0)) || decide ((o.queue.length : Int) < o.cap)
def recvReady (o : Ob) : Bool := (o.closed || decide ((o.senders.length : Int) > 0)) || decide ((o.queue.length : Int) > 0)
def leaveF (o : Ob) (g : Int) : Ob := { o with senders := o.senders.filter fun w => decide (w.g ≠ g), receivers := o.receivers.filter fun w => decide (w.g ≠ g) }
def otherF (l : List Wt) (g : Int) : Wt × Bool := match l.find? fun w => decide (w.g ≠ g) with | some w => (w, true) | none => (w0, false)

/-! ### the steps of the program -/
def closedS (p : Opn) : Ob × Trf × Bool := (p.o, { tr0 with status := 2 }, p.o.closed)
def handS (p : Opn) : Ob × Trf × Bool :=
  if (otherF p.o.receivers p.w.g).2 = false then (p.o, tr0, false)
  else ({ leaveF p.o (otherF p.o.receivers p.w.g).1.g with sent := p.o.sent + 1, received := p.o.received + 1 },
    { tr0 with value := p.w.v, ok := true, number := p.o.sent, paired := true, partner := (otherF p.o.receivers p.w.g).1, pnumber := p.o.sent }, true)
def enqS (p : Opn) : Ob × Trf × Bool :=
  if (p.o.queue.length : Int) ≥ p.o.cap then (p.o, tr0, false) else ({ p.o with queue := p.o.queue ++ [p.w.v], sent := p.o.sent + 1 }, { tr0 with value := p.w.v, ok := true, number := p.o.sent }, true)
def parkS (p : Opn) : Ob × Trf × Bool := ({ p.o with senders := p.o.senders ++ [p.w] }, { tr0 with status := 1 }, true)
def relS (p : Opn) : Ob × Trf × Bool :=
  if (otherF p.o.senders p.w.g).2 = false ∨ (p.o.cap > 0 ∧ p.o.queue.length = 0) then (p.o, tr0, false)
  else ({ leaveF p.o (otherF p.o.senders p.w.g).1.g with sent := p.o.sent + 1, received := p.o.received + 1, queue := if p.o.cap > 0 then p.o.queue.drop 1 ++ [(otherF p.o.senders p.w.g).1.v] else p.o.queue },
    { tr0 with value := if p.o.cap > 0 then p.o.queue.headD v0 else (otherF p.o.senders p.w.g).1.v, ok := true, number := p.o.received, paired := true, partner := (otherF p.o.senders p.w.g).1, pnumber := p.o.sent }, true)
def deqS (p : Opn) : Ob × Trf × Bool :=
  if p.o.queue.length = 0 then (p.o, tr0, false) else ({ p.o with queue := p.o.queue.drop 1, received := p.o.received + 1 }, { tr0 with value := p.o.queue.headD v0, ok := true, number := p.o.received }, true)
def exhS (p : Opn) : Ob × Trf × Bool := (p.o, { tr0 with number := p.o.received }, p.o.closed)
def parkR (p : Opn) : Ob × Trf × Bool := ({ p.o with receivers := p.o.receivers ++ [⟨p.w.g, p.w.c, v0⟩] }, { tr0 with status := 1 }, true)
def resS (p : Opn) (q : Nat) : Ob × Trf × Bool :=
  match q with
  | 34 => closedS p | 35 => handS p | 36 => enqS p | 37 => parkS p | 38 => relS p | 39 => deqS p | 40 => exhS p | _ => parkR p
def firstS (p : Opn) : List Nat → Ob × Trf
  | [] => (ob0, tr0)
  | q :: l => if (resS p q).2.2 = true then ((resS p q).1, (resS p q).2.1) else firstS p l
def sendP (o : Ob) (w : Wt) : Ob × Trf := firstS ⟨o, w⟩ [34, 35, 36, 37]
def recvP (o : Ob) (w : Wt) : Ob × Trf := firstS ⟨o, w⟩ [38, 39, 40, 41]

/-! ### the reference -/
def sendF (o : Ob) (w : Wt) : Ob × Trf :=
  if o.closed = true then (o, { tr0 with status := 2 })
  else if (otherF o.receivers w.g).2 = true then ({ leaveF o (otherF o.receivers w.g).1.g with sent := o.sent + 1, received := o.received + 1 },
    { tr0 with value := w.v, ok := true, number := o.sent, paired := true, partner := (otherF o.receivers w.g).1, pnumber := o.sent })
  else if (o.queue.length : Int) < o.cap then ({ o with queue := o.queue ++ [w.v], sent := o.sent + 1 }, { tr0 with value := w.v, ok := true, number := o.sent })
  else ({ o with senders := o.senders ++ [w] }, { tr0 with status := 1 })
def recvF (o : Ob) (w : Wt) : Ob × Trf :=
  if (otherF o.senders w.g).2 = true ∧ o.cap = 0 then ({ leaveF o (otherF o.senders w.g).1.g with sent := o.sent + 1, received := o.received + 1 },
    { tr0 with value := (otherF o.senders w.g).1.v, ok := true, number := o.received, paired := true, partner := (otherF o.senders w.g).1, pnumber := o.sent })
  else if (otherF o.senders w.g).2 = true ∧ 0 < o.queue.length then ({ leaveF o (otherF o.senders w.g).1.g with sent := o.sent + 1, received := o.received + 1, queue := o.queue.drop 1 ++ [(otherF o.senders w.g).1.v] },
    { tr0 with value := o.queue.headD v0, ok := true, number := o.received, paired := true, partner := (otherF o.senders w.g).1, pnumber := o.sent })
  else if 0 < o.queue.length then ({ o with queue := o.queue.drop 1, received := o.received + 1 }, { tr0 with value := o.queue.headD v0, ok := true, number := o.received })
  else if o.closed = true then (o, { tr0 with number := o.received })
  else ({ o with receivers := o.receivers ++ [⟨w.g, w.c, v0⟩] }, { tr0 with status := 1 })
/-- the first waiter of every goroutine that is not in another list -/
def firstsF (but : List Wt) (out : List Wt) : List Wt → List Wt
  | [] => out
  | w :: l => if (out.any fun x => decide (x.g = w.g)) || (but.any fun x => decide (x.g = w.g)) then firstsF but out l else firstsF but (out ++ [w]) l
def closeF (o : Ob) : Ob × Trf :=
  if o.closed = true then (o, { tr0 with status := 2 })
  else ({ o with closed := true, senders := [], receivers := [] }, { tr0 with number := o.received, woken := firstsF [] [] o.receivers, failed := firstsF (firstsF [] [] o.receivers) [] o.senders })
/-- the filter of the program's Close: with the flags of the goroutines seen -/
def seenF : List Bool → Wt → Bool × List Bool := fun s w => if goro w.g = false ∨ s[w.g.toNat]?.getD false = true then (false, s) else (true, s.set w.g.toNat true)
def filterS {S : Type} (φ : S → Wt → Bool × S) : S → List Wt → List Wt → List Wt × S
  | s, out, [] => (out, s)
  | s, out, w :: l => if (φ s w).1 = true then filterS φ (φ s w).2 (out ++ [w]) l else filterS φ (φ s w).2 out l
def closeP (o : Ob) : Ob × Trf :=
  if o.closed = true then (o, { tr0 with status := 2 })
  else ({ o with closed := true, senders := [], receivers := [] },
    { tr0 with number := o.received, woken := (filterS seenF (List.replicate 8 false) [] o.receivers).1, failed := (filterS seenF (filterS seenF (List.replicate 8 false) [] o.receivers).2 [] o.senders).1 })

/-! ### validity -/
def clash (x w : Wt) : Bool := decide (x.g = w.g) && ((decide (x.c = w.c) || decide (x.c = -1)) || decide (w.c = -1))
def inR (w : Wt) : Bool := !((decide (w.g < 0) || decide (w.g ≥ 8)) || decide (w.c < -1))
/-- the reference's check of a waiter against those before it -/
def okR (both : Bool) (seen : List Wt) (w : Wt) : Bool := inR w && seen.all fun x => !(clash x w) && !(both && decide (x.g ≠ w.g))
/-- the program's -/
def okP (both : Bool) (first : Wt) (seen : List Wt) (w : Wt) : Bool := (inR w && !(both && decide (w.g ≠ first.g))) && seen.all fun x => !(clash x w)
def allR (both : Bool) (seen : List Wt) : List Wt → Bool
  | [] => true
  | w :: l => okR both seen w && allR both (seen ++ [w]) l
def allP (both : Bool) (first : Wt) (seen : List Wt) : List Wt → Bool
  | [] => true
  | w :: l => okP both first seen w && allP both first (seen ++ [w]) l
def waitersF (a b : List Wt) : Bool := allR (decide (a ≠ []) && decide (b ≠ [])) [] (a ++ b)
def head1 (o : Ob) : Prop := o.chan = true ∧ o.cells.length = 0 ∧ 0 ≤ o.cap ∧ o.cap ≤ 64 ∧ (o.queue.length : Int) ≤ o.cap ∧ 0 ≤ o.received ∧ o.received ≤ 1099511627776 ∧ o.sent = o.received + o.queue.length
def head2 (o : Ob) : Prop := (o.closed = true → o.senders = [] ∧ o.receivers = []) ∧ (o.senders ≠ [] → (o.queue.length : Int) = o.cap) ∧ (o.receivers ≠ [] → o.queue = [])
instance (o : Ob) : Decidable (head1 o) := by unfold head1; infer_instance
instance (o : Ob) : Decidable (head2 o) := by unfold head2; infer_instance
def validF (o : Ob) : Bool := (decide (head1 o) && decide (head2 o)) && ((o.receivers.all fun w => decide (w.v = v0)) && waitersF o.senders o.receivers)
/-- whether a waiter may be added -/
def fitsF (o : Ob) (w : Wt) (other : List Wt) : Bool :=
  !(((decide (w.g < 0) || decide (w.g ≥ 8)) || decide (w.c < -1)) || decide (o.received ≥ 1099511627776)) &&
  ((o.senders ++ o.receivers).all fun x => !(clash x w)) && (other.all fun x => !(((o.senders ++ o.receivers).any fun y => decide (y.g = w.g)) && (decide (x.g ≠ w.g) || decide (o.cap > 0))))
def fewF (o : Ob) : Bool := ((decide ((o.queue.length : Int) ≤ 20) && decide ((o.senders.length : Int) ≤ 20)) && decide ((o.receivers.length : Int) ≤ 20)) && decide ((o.cells.length : Int) ≤ 20)
/-- a channel whose lists are rows of the call's own -/
def Ob.rs (o : Ob) (i0 i1 i2 i3 : AL.Id) : List Pred := [eqP (.int .i64 o.id), rowP i0 vp 3 o.cells, eqP (.bool o.chan), eqP (.int .i64 o.cap), rowP i1 vp 3 o.queue, eqP (.bool o.closed), eqP (.int .i64 o.sent), eqP (.int .i64 o.received), rowP i2 wp 5 o.senders, rowP i3 wp 5 o.receivers]
def stp (p : Opn) (q : Nat) : List Pred := [clP q [aggP p.ps] []]
theorem stp_len (p : Opn) (q : Nat) : (stp p q).length = 1 := rfl
theorem otherF_neg {l : List Wt} {g : Int} (h : idxF (fun w => decide (w.g ≠ g)) l < 0) : otherF l g = (w0, false) := by
  unfold idxF at h
  unfold otherF
  cases hf : l.findIdx? (fun w => decide (w.g ≠ g)) with
  | some i => rw [hf] at h; simp at h; omega
  | none =>
    have : l.find? (fun w => decide (w.g ≠ g)) = none := by
      rw [List.find?_eq_none]
      intro x hx
      have := List.findIdx?_eq_none_iff.1 hf x hx
      simpa using this
    rw [this]
theorem otherF_pos {l : List Wt} {g : Int} (h : ¬ idxF (fun w => decide (w.g ≠ g)) l < 0) : ∃ (k : Nat) (hk : k < l.length), idxF (fun w => decide (w.g ≠ g)) l = (k : Int) ∧ otherF l g = (l[k], true) := by
  unfold idxF at h ⊢
  cases hf : l.findIdx? (fun w => decide (w.g ≠ g)) with
  | none => rw [hf] at h; simp at h
  | some i =>
    obtain ⟨hi, hp, hlt⟩ := List.findIdx?_eq_some_iff_getElem.1 hf
    refine ⟨i, hi, rfl, ?_⟩
    have : l.find? (fun w => decide (w.g ≠ g)) = some l[i] := by
      rw [List.find?_eq_some_iff_getElem]
      exact ⟨hp, i, hi, rfl, fun j hj => by simpa using hlt j hj⟩
    unfold otherF
    rw [this]
theorem head_at {l : List V} (h : 0 < l.length) : l[0]? = some (l.headD v0) := by
  cases l with
  | nil => simp at h
  | cons x l => rfl
section
variable {p : Opn}
theorem handS_yes (h : (otherF p.o.receivers p.w.g).2 = true) : handS p = ({ leaveF p.o (otherF p.o.receivers p.w.g).1.g with sent := p.o.sent + 1, received := p.o.received + 1 },
    { tr0 with value := p.w.v, ok := true, number := p.o.sent, paired := true, partner := (otherF p.o.receivers p.w.g).1, pnumber := p.o.sent }, true) := by unfold handS; rw [if_neg (by rw [h]; simp)]
theorem enqS_yes (h : (p.o.queue.length : Int) < p.o.cap) : enqS p = ({ p.o with queue := p.o.queue ++ [p.w.v], sent := p.o.sent + 1 }, { tr0 with value := p.w.v, ok := true, number := p.o.sent }, true) := by unfold enqS; rw [if_neg (by omega)]
theorem deqS_yes (h : 0 < p.o.queue.length) : deqS p = ({ p.o with queue := p.o.queue.drop 1, received := p.o.received + 1 }, { tr0 with value := p.o.queue.headD v0, ok := true, number := p.o.received }, true) := by unfold deqS; rw [if_neg (by omega)]
theorem relS_no (h : (!(otherF p.o.senders p.w.g).2 || (decide (p.o.cap > 0) && decide ((p.o.queue.length : Int) = 0))) = true) : relS p = (p.o, tr0, false) := by
  unfold relS
  rw [if_pos]
  simp only [Bool.or_eq_true, Bool.not_eq_true', Bool.and_eq_true, decide_eq_true_eq] at h
  rcases h with h | h
  · exact .inl h
  · exact .inr ⟨h.1, by omega⟩
theorem relS_cond (h : (!(otherF p.o.senders p.w.g).2 || (decide (p.o.cap > 0) && decide ((p.o.queue.length : Int) = 0))) = false) : ¬ ((otherF p.o.senders p.w.g).2 = false ∨ (p.o.cap > 0 ∧ p.o.queue.length = 0)) ∧ (p.o.cap > 0 → 0 < p.o.queue.length) := by
  simp only [Bool.or_eq_false_iff, Bool.not_eq_false', Bool.and_eq_false_iff, decide_eq_false_iff_not] at h
  have hno : ¬ (p.o.cap > 0 ∧ p.o.queue.length = 0) := by omega
  refine ⟨?_, by omega⟩
  rintro (h1 | h1)
  · rw [h.1] at h1; cases h1
  · exact hno h1
theorem relS_pos (h : ¬ ((otherF p.o.senders p.w.g).2 = false ∨ (p.o.cap > 0 ∧ p.o.queue.length = 0))) (hc : 0 < p.o.cap) (_hq : 0 < p.o.queue.length) : relS p =
    ({ leaveF p.o (otherF p.o.senders p.w.g).1.g with sent := p.o.sent + 1, received := p.o.received + 1, queue := p.o.queue.drop 1 ++ [(otherF p.o.senders p.w.g).1.v] },
    { tr0 with value := p.o.queue.headD v0, ok := true, number := p.o.received, paired := true, partner := (otherF p.o.senders p.w.g).1, pnumber := p.o.sent }, true) := by
  unfold relS
  rw [if_neg h, if_pos hc, if_pos hc]
theorem relS_neg (h : ¬ ((otherF p.o.senders p.w.g).2 = false ∨ (p.o.cap > 0 ∧ p.o.queue.length = 0))) (hc : p.o.cap ≤ 0) : relS p =
    ({ leaveF p.o (otherF p.o.senders p.w.g).1.g with sent := p.o.sent + 1, received := p.o.received + 1 },
    { tr0 with value := (otherF p.o.senders p.w.g).1.v, ok := true, number := p.o.received, paired := true, partner := (otherF p.o.senders p.w.g).1, pnumber := p.o.sent }, true) := by
  unfold relS
  rw [if_neg h, if_neg (by omega), if_neg (by omega)]
  rfl
end
theorem first_step {p : Opn} {fs : List Nat} {k : Nat} {r : Ob × Trf} (hk : k < fs.length) (h : firstS p (fs.drop k) = r) : (if (resS p fs[k]).2.2 = true then ((resS p fs[k]).1, (resS p fs[k]).2.1) else firstS p (fs.drop (k + 1))) = r := by
  rw [drop_at hk] at h
  exact h
end Go.Ch
