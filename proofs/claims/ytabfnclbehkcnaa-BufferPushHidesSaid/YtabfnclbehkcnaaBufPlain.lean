/- Plain lemmas of layer 27. -/
import Derived.Test.YtabfnclbehkcnaaBufTypes
import Derived.Test.YtabfnclbehkcnaaAlGrow
namespace Go.Buf
open Go.AL
def vp (v : Vl) : List Pred := [eqP (.int .i64 v.kind), eqP (.int .i64 v.n), eqP (.int .i64 v.off)]
theorem vp_len (v : Vl) : (vp v).length = 3 := rfl
def wp (w : Wr) : List Pred := [eqP (.int .i64 w.obj), eqP (.int .i64 w.off), eqP (.int .i64 w.v.kind), eqP (.int .i64 w.v.n), eqP (.int .i64 w.v.off)]
theorem wp_len (w : Wr) : (wp w).length = 5 := rfl
def bp (b : Bool) : List Pred := [eqP (.bool b)]
theorem bp_len (b : Bool) : (bp b).length = 1 := rfl
structure Locn where
  obj : Int
  off : Int
def Locn.ps (a : Locn) : List Pred := [eqP (.int .i64 a.obj), eqP (.int .i64 a.off)]
section
variable {xs l : List Wr} {x y : Int} {k : Nat} {w : Wr}
theorem readF_at (hk : k < xs.length) (h : ∀ w ∈ xs.reverse.take k, at_ x y w = false) (hp : at_ x y (xs[xs.length - 1 - k]'(by omega)) = true) : readF xs x y = some (xs[xs.length - 1 - k]'(by omega)).v := by
  unfold readF
  have : xs.reverse.find? (at_ x y) = some (xs[xs.length - 1 - k]'(by omega)) := by
    rw [List.find?_eq_some_iff_getElem]
    refine ⟨hp, k, by simpa using hk, by simp, fun j hj => ?_⟩
    have hm : xs.reverse[j]'(by simp; omega) ∈ xs.reverse.take k := by rw [List.mem_iff_getElem]; exact ⟨j, by simp; omega, by simp⟩
    rw [h _ hm]
    rfl
  rw [this]
  rfl
theorem readF_none (h : ∀ w ∈ xs.reverse.take k, at_ x y w = false) (hk : xs.length ≤ k) : readF xs x y = none := by
  rw [List.take_of_length_le (by simpa using hk)] at h
  unfold readF
  have : xs.reverse.find? (at_ x y) = none := by rw [List.find?_eq_none]; intro w hw; rw [h w hw]; simp
  rw [this]
  rfl
theorem read_step (hk : k < xs.length) (h : ∀ w ∈ xs.reverse.take k, at_ x y w = false) (hp : at_ x y (xs[xs.length - 1 - k]'(by omega)) = false) : ∀ w ∈ xs.reverse.take (k + 1), at_ x y w = false := by
  refine take_all h (by simpa using hk) ?_
  simpa using hp
theorem readF_snoc : readF (l ++ [w]) x y = if at_ x y w = true then some w.v else readF l x y := by
  unfold readF
  rw [List.reverse_append, List.reverse_singleton, List.singleton_append, List.find?_cons]
  cases h : at_ x y w <;> simp
theorem onlyF_snoc : onlyF (l ++ [w]) x y = onlyF l x y + (if at_ x y w = true then 1 else 0) := by
  unfold onlyF
  rw [List.countP_append]
  simp
theorem only_le : onlyF l x y ≤ l.length := List.countP_le_length
theorem push_ne : decide (l = l ++ [w]) = false := decide_eq_false (fun e => by have := congrArg List.length e; simp at this)
theorem eq_comm' (a b : List Wr) : decide (b = a) = decide (a = b) := decide_eq_decide.mpr ⟨Eq.symm, Eq.symm⟩
/-- a queue of which n have been drained -/
theorem queue_push {n : Nat} (hn : n ≤ k) (hk : k < l.length) : (l.take k).drop n ++ [l[k]] = (l.take (k + 1)).drop n := by
  rw [take_at hk, List.drop_append_of_le_length (by rw [List.length_take]; omega)]
theorem queue_head {n : Nat} (hn : n < k) (hk : k ≤ l.length) : ((l.take k).drop n).headD Wr.zero = l[n]'(by omega) := by
  rw [List.headD_eq_head?_getD, List.head?_drop, List.getElem?_take_of_lt hn, List.getElem?_eq_getElem (by omega)]
  rfl
theorem queue_ne {n : Nat} (hn : n < k) (hk : k ≤ l.length) : (l.take k).drop n ≠ [] := fun e => by
  have := congrArg List.length e
  simp at this
  omega
theorem queue_len {n : Nat} (hk : k ≤ l.length) : ((l.take k).drop n).length = k - n := by simp; omega
end
end Go.Buf
