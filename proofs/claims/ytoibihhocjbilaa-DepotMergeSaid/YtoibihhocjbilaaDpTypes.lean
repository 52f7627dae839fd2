/- The data of layer 21: depots; what the functions compute. -/
import Derived.Test.YtoibihhocjbilaaAlList
import Derived.Test.YtoibihhocjbilaaAlRead
namespace Go.Dp
open Go.AL

structure Site where
  fn : Int
  pc : Int
  deriving DecidableEq, Inhabited
abbrev E := Int × Site
structure Dep where
  sites : List Site
  parents : List Int
  deriving DecidableEq, Inhabited
def ip (x : Int) : List Pred := [eqP (.int .i64 x)]
theorem ip_len (x : Int) : (ip x).length = 1 := rfl
def sp (s : Site) : List Pred := [eqP (.int .i64 s.fn), eqP (.int .i64 s.pc)]
theorem sp_len (s : Site) : (sp s).length = 2 := rfl
def sv (s : Site) : List Value := [.int .i64 s.fn, .int .i64 s.pc]
def ev (e : E) : List Value := [.int .i64 e.1, .int .i64 e.2.fn, .int .i64 e.2.pc]
def iv (x : Int) : Value := .int .i64 x
def Dep.ps (d : Dep) : List Pred := [slP sp 2 d.sites, slP ip 1 d.parents]
def Dep.zero : Dep := ⟨[], []⟩
def ofE (l : List E) : Dep := ⟨l.map (·.2), l.map (·.1)⟩
def Dep.es (d : Dep) : List E := d.parents.zip d.sites
theorem es_ofE (l : List E) : (ofE l).es = l := by
  unfold Dep.es ofE
  induction l with
  | nil => rfl
  | cons e l ih => simpa using ih
theorem ofE_es {d : Dep} (h : d.sites.length = d.parents.length) : ofE d.es = d := by
  obtain ⟨s, p⟩ := d
  simp only [Dep.es, ofE, Dep.mk.injEq] at *
  exact ⟨List.map_snd_zip (by omega), List.map_fst_zip (by omega)⟩

def proper (s : Site) : Bool := decide (s.fn ≥ 0) && decide (s.pc ≥ 0)
def idxE (l : List E) (e : E) : Option Nat := l.findIdx? fun x => decide (x = e)
def goodE (seen : List E) (e : E) : Bool := !(((idxE seen e).isSome || decide (e.1 < -1)) || decide (e.1 ≥ (seen.length : Int)) || !(proper e.2))
def okFrom (seen : List E) : List E → Bool
  | [] => true
  | e :: l => goodE seen e && okFrom (seen ++ [e]) l
def validE (l : List E) : Bool := okFrom [] l
def validF (d : Dep) : Bool := decide (d.sites.length = d.parents.length) && validE d.es

/-! ### the table -/
def tab (l : List E) : List (E × Int) := l.zipIdx.map fun x => (x.1, (x.2 : Int))
theorem tab_add (l : List E) (e : E) : tab (l ++ [e]) = tab l ++ [(e, (l.length : Int))] := by simp [tab, List.zipIdx_append]
theorem found_zip (a : E) : ∀ (l : List E) (n : Nat), ((l.zipIdx n).map fun x => (x.1, (x.2 : Int))).find? (fun x => decide (x.1 = a)) = (idxE l a).map fun i : Nat => (a, ((n + i : Nat) : Int))
  | [], n => rfl
  | e :: l, n => by
    simp only [List.zipIdx_cons, List.map_cons, List.find?_cons, idxE, List.findIdx?_cons]
    by_cases h : e = a
    · subst h; simp
    · simp only [h, decide_false]
      have := found_zip a l (n + 1)
      simp only [Bool.false_eq_true, if_false]
      rw [this]
      simp only [idxE, Option.map_map]
      congr 1
      funext i
      simp
      omega
theorem found_tab (l : List E) (a : E) : found (tab l) a = (idxE l a).map fun i : Nat => (a, (i : Int)) := by
  have := found_zip a l 0
  unfold found tab
  rw [this]
  simp only [Nat.zero_add]
theorem found_some (l : List E) (a : E) : (found (tab l) a).isSome = (idxE l a).isSome := by rw [found_tab]; cases idxE l a <;> rfl

theorem okFrom_at {es : List E} {k : Nat} {b : Bool} (hk : k < es.length) (h : okFrom (es.take k) (es.drop k) = b) : (goodE (es.take k) es[k] && okFrom (es.take (k + 1)) (es.drop (k + 1))) = b := by
  rw [drop_at hk] at h
  rw [take_at hk]
  exact h
theorem okFrom_end {es : List E} {k : Nat} {b : Bool} (hk : es.length ≤ k) (h : okFrom (es.take k) (es.drop k) = b) : b = true := by
  rw [List.drop_eq_nil_of_le hk] at h
  exact h.symm
theorem len_es (d : Dep) (h : d.sites.length = d.parents.length) : d.es.length = d.sites.length := by simp [Dep.es, h]
theorem es_at {d : Dep} {k : Nat} (h : d.sites.length = d.parents.length) (hk : k < d.sites.length) : d.es[k]'(by rw [len_es d h]; exact hk) = (d.parents[k]'(by omega), d.sites[k]) := by simp [Dep.es]

/-! ### push -/
def pushE (l : List E) (e : E) : List E × Nat := match idxE l e with | some i => (l, i) | none => (l ++ [e], l.length)
theorem pushE_some {l : List E} {e : E} {i : Nat} (h : idxE l e = some i) : pushE l e = (l, i) := by simp [pushE, h]
theorem pushE_none {l : List E} {e : E} (h : idxE l e = none) : pushE l e = (l ++ [e], l.length) := by simp [pushE, h]
theorem pushE_len (l : List E) (e : E) : (pushE l e).1.length ≤ l.length + 1 := by unfold pushE; split <;> simp
def pushF (d : Dep) (parent : Int) (s : Site) : Dep × Int :=
  if validF d = true ∧ (-1 ≤ parent ∧ parent < (d.sites.length : Int)) ∧ proper s = true then (ofE (pushE d.es (parent, s)).1, ((pushE d.es (parent, s)).2 : Int)) else (Dep.zero, -1)
def putE : List E → Int → List Site → List E × Int
  | l, n, [] => (l, n)
  | l, n, s :: ss => putE (pushE l (n, s)).1 ((pushE l (n, s)).2 : Int) ss
theorem putE_len : ∀ (ss : List Site) (l : List E) (n : Int), (putE l n ss).1.length ≤ l.length + ss.length
  | [], l, n => by simp [putE]
  | s :: ss, l, n => by
    have h1 := pushE_len l (n, s)
    have h2 := putE_len ss (pushE l (n, s)).1 (pushE l (n, s)).2
    simp only [putE, List.length_cons]
    omega
def putF (d : Dep) (ss : List Site) : Dep × Int :=
  if validF d = true ∧ (ss.any fun s => !proper s) = false then (ofE (putE d.es (-1) ss).1, (putE d.es (-1) ss).2) else (Dep.zero, -1)
/-- the stack of the entry m-1, its outermost site last -/
def climb (l : List E) : Nat → Int → List Site
  | 0, _ => []
  | f + 1, n => if n < 0 then [] else match l[n.toNat]? with | some e => e.2 :: climb l f e.1 | none => []
def stackF (d : Dep) (n : Int) : List Site × Bool :=
  if validF d = true ∧ 0 ≤ n ∧ n < (d.sites.length : Int) then ((climb d.es (n + 1).toNat n).reverse, true) else ([], false)
def mergeE : List E → List Int → List E → List E × List Int
  | l, to, [] => (l, to)
  | l, to, e :: es =>
    let p := if e.1 ≥ 0 then to[e.1.toNat]?.getD 0 else e.1
    mergeE (pushE l (p, e.2)).1 (to ++ [((pushE l (p, e.2)).2 : Int)]) es
def mergeF (a b : Dep) : Dep × List Int :=
  if validF a = true ∧ validF b = true then (ofE (mergeE a.es [] b.es).1, (mergeE a.es [] b.es).2) else (Dep.zero, [])
end Go.Dp
